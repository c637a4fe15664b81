/-
  PointOrder: the walk.
-/
import Derived.Test.YtdfjpdgamahicaaPoint7
import Derived.Test.YtdfjpdgamahicaaOpenP
namespace Go.Proofs.Ytdfjpdgamahicaa
open Go.RowKit

theorem cmpP_le (x y u v : Int) : cmpP x y u v ≤ 0 ↔ normP x y < normP u v ∨ normP x y = normP u v ∧ (x < u ∨ x = u ∧ y ≤ v) := by
  unfold cmpP
  generalize normP x y = N
  generalize normP u v = M
  simp only [orF, sgn]
  repeat' split
  all_goals omega
theorem cmpP_neg (x y u v : Int) : cmpP u v x y = -cmpP x y u v := by
  unfold cmpP
  generalize normP x y = N
  generalize normP u v = M
  simp only [orF, sgn]
  repeat' split
  all_goals omega
theorem cmpP_zero (x y u v : Int) : cmpP x y u v = 0 ↔ x = u ∧ y = v := by
  constructor
  · intro h
    have h1 := (cmpP_le x y u v).1 (by omega)
    have h2 := (cmpP_le u v x y).1 (by rw [cmpP_neg]; omega)
    omega
  · rintro ⟨rfl, rfl⟩
    simp [cmpP, orF, sgn]
theorem cmpP_range (x y u v : Int) : cmpP x y u v = -1 ∨ cmpP x y u v = 0 ∨ cmpP x y u v = 1 := by
  unfold cmpP
  generalize normP x y = N
  generalize normP u v = M
  simp only [orF, sgn]
  repeat' split
  all_goals omega
theorem cmpP_trans {x y u v s t : Int} (h1 : cmpP x y u v ≤ 0) (h2 : cmpP u v s t ≤ 0) : cmpP x y s t ≤ 0 := by
  rw [cmpP_le] at *
  omega
theorem norm_pos (x y : Int) : 0 ≤ x * x ∧ 0 ≤ y * y := by
  constructor
  · rcases Int.le_total 0 x with h0 | h0
    · exact Int.mul_nonneg h0 h0
    · exact Int.mul_nonneg_of_nonpos_of_nonpos h0 h0
  · rcases Int.le_total 0 y with h0 | h0
    · exact Int.mul_nonneg h0 h0
    · exact Int.mul_nonneg_of_nonpos_of_nonpos h0 h0
theorem cmpP_least (x y : Int) : cmpP 0 0 x y ≤ 0 := by
  rw [cmpP_le]
  have h := norm_pos x y
  by_cases e : normP x y = 0
  · unfold normP at e
    have hx : x = 0 := by
      rcases Int.mul_eq_zero.1 (show x * x = 0 by omega) with h | h <;> exact h
    have hy : y = 0 := by
      rcases Int.mul_eq_zero.1 (show y * y = 0 by omega) with h | h <;> exact h
    subst hx hy
    exact .inr ⟨rfl, .inr ⟨rfl, Int.le_refl _⟩⟩
  · exact .inl (by unfold normP at *; omega)

/-- What the last test reads. -/
structure Tp (p : Nat) (x y u v s t : Int) (w : World) : Prop where
  a : w.rangeAt p 0 [.int .i64 x, .int .i64 y]
  b : w.rangeAt (p + 1) 0 [.int .i64 u, .int .i64 v]
  c : w.rangeAt (p + 1 + 1) 0 [.int .i64 s, .int .i64 t]
theorem Tp.tr {p : Nat} {x y u v s t : Int} {w w' : World} (h : Tp p x y u v s t w) (g : Chg [] w w') : Tp p x y u v s t w' :=
  ⟨g.range h.a (by simp), g.range h.b (by simp), g.range h.c (by simp)⟩
theorem Tp.facts {p : Nat} {x y u v s t : Int} {w : World} (h : Tp p x y u v s t w) : w.cell? ⟨p, 0, none⟩ = some (.int .i64 x) ∧ w.cell? ⟨p, 1, none⟩ = some (.int .i64 y) ∧ w.cell? ⟨p + 1, 0, none⟩ = some (.int .i64 u) ∧ w.cell? ⟨p + 1, 1, none⟩ = some (.int .i64 v) ∧
    w.cell? ⟨p + 1 + 1, 0, none⟩ = some (.int .i64 s) ∧ w.cell? ⟨p + 1 + 1, 1, none⟩ = some (.int .i64 t) :=
  ⟨h.a 0 _ rfl, h.a 1 _ rfl, h.b 0 _ rfl, h.b 1 _ rfl, h.c 0 _ rfl, h.c 1 _ rfl⟩

def OrderOut (w : World) (e : Ending) (w' : World) : Prop := e = .returned (.bool true) ∧ Chg [] w w'
set_option maxHeartbeats 4000000 in
theorem order_run (w : World) (x y u v s t : Int) (a b c : Bool) (h1 : nearB x y = a) (h2 : nearB u v = b) (h3 : nearB s t = c) :
    Calls Try.prog 5 #[pt x y, pt u v, pt s t] w (OrderOut w) := by
  have kn1 : ∀ w, Calls Try.prog 7 #[.agg #[.int .i64 x, .int .i64 y]] w fun e w' => e = .returned (.bool a) ∧ Chg [] w w' := fun w => h1 ▸ near_ok w x y
  have kn2 : ∀ w, Calls Try.prog 7 #[.agg #[.int .i64 u, .int .i64 v]] w fun e w' => e = .returned (.bool b) ∧ Chg [] w w' := fun w => h2 ▸ near_ok w u v
  have kn3 : ∀ w, Calls Try.prog 7 #[.agg #[.int .i64 s, .int .i64 t]] w fun e w' => e = .returned (.bool c) ∧ Chg [] w w' := fun w => h3 ▸ near_ok w s t
  have P0 : (((w.alloc (.cells #[.int .i64 x, .int .i64 y] 23)).alloc (.cells #[.int .i64 u, .int .i64 v] 23)).alloc (.cells #[.int .i64 s, .int .i64 t] 23)).heap[w.heap.size]? = some (.cells #[.int .i64 x, .int .i64 y] 23) := heap_lit_old (heap_lit_old (heap_alloc_new w _))
  have Q0 : (((w.alloc (.cells #[.int .i64 x, .int .i64 y] 23)).alloc (.cells #[.int .i64 u, .int .i64 v] 23)).alloc (.cells #[.int .i64 s, .int .i64 t] 23)).heap[w.heap.size + 1]? = some (.cells #[.int .i64 u, .int .i64 v] 23) := heap_lit_old (heap_lit_new _ _ _ (by simp))
  have R0 : (((w.alloc (.cells #[.int .i64 x, .int .i64 y] 23)).alloc (.cells #[.int .i64 u, .int .i64 v] 23)).alloc (.cells #[.int .i64 s, .int .i64 t] 23)).heap[w.heap.size + 1 + 1]? = some (.cells #[.int .i64 s, .int .i64 t] 23) := heap_lit_new _ _ _ (by simp)
  have G0 : Chg [] w (((w.alloc (.cells #[.int .i64 x, .int .i64 y] 23)).alloc (.cells #[.int .i64 u, .int .i64 v] 23)).alloc (.cells #[.int .i64 s, .int .i64 t] 23)) := ((Chg.alloc _ _ _).t0 (Chg.alloc _ _ _)).t0 (Chg.alloc _ _ _)
  replace P0 := Lib.hid P0
  replace Q0 := Lib.hid Q0
  replace R0 := Lib.hid R0
  have H1 := Lib.hid h1
  have H2 := Lib.hid h2
  have H3 := Lib.hid h3
  clear h1 h2 h3
  unfold pt at *
  go_enter Try.func5, Try.ntmps5
  go_wp2_with fail
  refine (small_ok _).mono ?_
  rintro e w1 ⟨rfl, g1⟩
  have P1 := g1.heap P0.out (by simp)
  have Q1 := g1.heap Q0.out (by simp)
  have R1 := g1.heap R0.out (by simp)
  obtain ⟨_, _, _, _⟩ := cells2 P1
  replace P1 := Lib.hid P1
  replace Q1 := Lib.hid Q1
  replace R1 := Lib.hid R1
  go_wp2_with fail
  refine (kn1 _).mono ?_
  rintro e w2 ⟨rfl, g2⟩
  have P2 := g2.heap P1.out (by simp)
  have Q2 := g2.heap Q1.out (by simp)
  have R2 := g2.heap R1.out (by simp)
  obtain ⟨_, _, _, _⟩ := cells2 Q2
  replace P2 := Lib.hid P2
  replace Q2 := Lib.hid Q2
  replace R2 := Lib.hid R2
  go_wp2_with fail
  refine (kn2 _).mono ?_
  rintro e w3 ⟨rfl, g3⟩
  have P3 := g3.heap P2.out (by simp)
  have Q3 := g3.heap Q2.out (by simp)
  have R3 := g3.heap R2.out (by simp)
  obtain ⟨_, _, _, _⟩ := cells2 R3
  replace P3 := Lib.hid P3
  replace Q3 := Lib.hid Q3
  replace R3 := Lib.hid R3
  go_wp2_with fail
  refine (kn3 _).mono ?_
  rintro e w4 ⟨rfl, g4⟩
  have P4 := g4.heap P3.out (by simp)
  have Q4 := g4.heap Q3.out (by simp)
  have R4 := g4.heap R3.out (by simp)
  have GG : Chg [] w w4 := (((G0.t0 g1).t0 g2).t0 g3).t0 g4
  clear P0 Q0 R0 P1 Q1 R1 P2 Q2 R2 P3 Q3 R3 G0 g1 g2 g3 g4 kn1 kn2 kn3
  cases a
  · clear P4 Q4 R4
    go_wp2
    go_ret
    exact ⟨rfl, GG⟩
  cases b
  · clear P4 Q4 R4
    go_wp2
    go_ret
    exact ⟨rfl, GG⟩
  cases c
  · clear P4 Q4 R4
    go_wp2
    go_ret
    exact ⟨rfl, GG⟩
  obtain ⟨nx, ny⟩ := nearB_near H1.out
  obtain ⟨nu, nv⟩ := nearB_near H2.out
  obtain ⟨ns, nt⟩ := nearB_near H3.out
  have nz : NearP 0 := by unfold NearP; decide
  have k1 := fun w => compare_ok w x y u v nx ny nu nv
  have k2 := fun w => compare_ok w u v s t nu nv ns nt
  have k3 := fun w => compare_ok w u v x y nu nv nx ny
  have k4 := fun w => compare_ok w x y s t nx ny ns nt
  have k5 := fun w => compare_ok w 0 0 x y nz nz nx ny
  rw [cmpP_neg] at k3
  have hr := cmpP_range x y u v
  have hz := cmpP_zero x y u v
  have htr : cmpP x y u v ≤ 0 → cmpP u v s t ≤ 0 → cmpP x y s t ≤ 0 := cmpP_trans
  have hle := cmpP_least x y
  clear H1 H2 H3 nx ny nu nv ns nt nz
  generalize cmpP x y u v = A at *
  generalize cmpP u v s t = B at *
  generalize cmpP x y s t = C at *
  generalize cmpP 0 0 x y = D at *
  have hDb : decide (D ≤ 0) = true := decide_eq_true hle
  unfold pt at *
  obtain ⟨_, _, _, _⟩ := cells2 P4
  obtain ⟨_, _, _, _⟩ := cells2 Q4
  replace P4 := Lib.hid P4
  replace Q4 := Lib.hid Q4
  replace R4 := Lib.hid R4
  replace hz := Lib.hid hz
  replace hr := Lib.hid hr
  replace htr := Lib.hid htr
  go_wp2_with fail
  refine (k1 _).mono ?_
  rintro e w5 ⟨rfl, g5⟩
  have P5 := g5.heap P4.out (by simp)
  have Q5 := g5.heap Q4.out (by simp)
  have R5 := g5.heap R4.out (by simp)
  obtain ⟨_, _, _, _⟩ := cells2 Q5
  obtain ⟨_, _, _, _⟩ := cells2 R5
  replace P5 := Lib.hid P5
  replace Q5 := Lib.hid Q5
  replace R5 := Lib.hid R5
  go_wp2_with fail
  refine (k2 _).mono ?_
  rintro e w6 ⟨rfl, g6⟩
  have P6 := g6.heap P5.out (by simp)
  have Q6 := g6.heap Q5.out (by simp)
  have R6 := g6.heap R5.out (by simp)
  replace P6 := Lib.hid P6
  replace Q6 := Lib.hid Q6
  replace R6 := Lib.hid R6
  have GG6 := (GG.t0 g5).t0 g6
  have HK : Tp w.heap.size x y u v s t w6 := ⟨ra_block P6.out, ra_block Q6.out, ra_block R6.out⟩
  clear P4 Q4 R4 P5 Q5 R5 GG g5 g6 P6 Q6 R6 k1 k2
  obtain ⟨_, _, _, _, _, _⟩ := HK.facts
  rcases hr.out with rfl | rfl | rfl
  · clear hr
    by_cases hx : x = u
    · subst hx
      have hy : ¬ y = v := fun h => absurd (hz.out.2 ⟨rfl, h⟩) (by decide)
      by_cases hB : 0 < B
      · skip
        go_wp2_with (first
          | (go_at_call 20; (with_reducible refine (k3 _).mono ?_); rintro e wn ⟨rfl, gn⟩; replace HK := HK.tr gn; replace GG6 := GG6.t0 gn; obtain ⟨_, _, _, _, _, _⟩ := HK.facts)
          | (go_at_call 20; (with_reducible refine (k4 _).mono ?_); rintro e wn ⟨rfl, gn⟩; replace HK := HK.tr gn; replace GG6 := GG6.t0 gn; obtain ⟨_, _, _, _, _, _⟩ := HK.facts)
          | (go_at_call 20; (with_reducible refine (k5 _).mono ?_); rintro e wn ⟨rfl, gn⟩; replace HK := HK.tr gn; replace GG6 := GG6.t0 gn; obtain ⟨_, _, _, _, _, _⟩ := HK.facts))
        go_ret
        exact ⟨rfl, GG6⟩
      · have hC : C ≤ 0 := htr.out (by decide) (by omega)
        go_wp2_with (first
          | (go_at_call 20; (with_reducible refine (k3 _).mono ?_); rintro e wn ⟨rfl, gn⟩; replace HK := HK.tr gn; replace GG6 := GG6.t0 gn; obtain ⟨_, _, _, _, _, _⟩ := HK.facts)
          | (go_at_call 20; (with_reducible refine (k4 _).mono ?_); rintro e wn ⟨rfl, gn⟩; replace HK := HK.tr gn; replace GG6 := GG6.t0 gn; obtain ⟨_, _, _, _, _, _⟩ := HK.facts)
          | (go_at_call 20; (with_reducible refine (k5 _).mono ?_); rintro e wn ⟨rfl, gn⟩; replace HK := HK.tr gn; replace GG6 := GG6.t0 gn; obtain ⟨_, _, _, _, _, _⟩ := HK.facts))
        go_ret
        exact ⟨rfl, GG6⟩
    · skip
      by_cases hB : 0 < B
      · skip
        go_wp2_with (first
          | (go_at_call 20; (with_reducible refine (k3 _).mono ?_); rintro e wn ⟨rfl, gn⟩; replace HK := HK.tr gn; replace GG6 := GG6.t0 gn; obtain ⟨_, _, _, _, _, _⟩ := HK.facts)
          | (go_at_call 20; (with_reducible refine (k4 _).mono ?_); rintro e wn ⟨rfl, gn⟩; replace HK := HK.tr gn; replace GG6 := GG6.t0 gn; obtain ⟨_, _, _, _, _, _⟩ := HK.facts)
          | (go_at_call 20; (with_reducible refine (k5 _).mono ?_); rintro e wn ⟨rfl, gn⟩; replace HK := HK.tr gn; replace GG6 := GG6.t0 gn; obtain ⟨_, _, _, _, _, _⟩ := HK.facts))
        go_ret
        exact ⟨rfl, GG6⟩
      · have hC : C ≤ 0 := htr.out (by decide) (by omega)
        go_wp2_with (first
          | (go_at_call 20; (with_reducible refine (k3 _).mono ?_); rintro e wn ⟨rfl, gn⟩; replace HK := HK.tr gn; replace GG6 := GG6.t0 gn; obtain ⟨_, _, _, _, _, _⟩ := HK.facts)
          | (go_at_call 20; (with_reducible refine (k4 _).mono ?_); rintro e wn ⟨rfl, gn⟩; replace HK := HK.tr gn; replace GG6 := GG6.t0 gn; obtain ⟨_, _, _, _, _, _⟩ := HK.facts)
          | (go_at_call 20; (with_reducible refine (k5 _).mono ?_); rintro e wn ⟨rfl, gn⟩; replace HK := HK.tr gn; replace GG6 := GG6.t0 gn; obtain ⟨_, _, _, _, _, _⟩ := HK.facts))
        go_ret
        exact ⟨rfl, GG6⟩
  · obtain ⟨rfl, rfl⟩ := hz.out.1 rfl
    clear hr
    by_cases hB : 0 < B
    · skip
      go_wp2_with (first
        | (go_at_call 20; (with_reducible refine (k3 _).mono ?_); rintro e wn ⟨rfl, gn⟩; replace HK := HK.tr gn; replace GG6 := GG6.t0 gn; obtain ⟨_, _, _, _, _, _⟩ := HK.facts)
        | (go_at_call 20; (with_reducible refine (k4 _).mono ?_); rintro e wn ⟨rfl, gn⟩; replace HK := HK.tr gn; replace GG6 := GG6.t0 gn; obtain ⟨_, _, _, _, _, _⟩ := HK.facts)
        | (go_at_call 20; (with_reducible refine (k5 _).mono ?_); rintro e wn ⟨rfl, gn⟩; replace HK := HK.tr gn; replace GG6 := GG6.t0 gn; obtain ⟨_, _, _, _, _, _⟩ := HK.facts))
      go_ret
      exact ⟨rfl, GG6⟩
    · have hC : C ≤ 0 := htr.out (by decide) (by omega)
      go_wp2_with (first
        | (go_at_call 20; (with_reducible refine (k3 _).mono ?_); rintro e wn ⟨rfl, gn⟩; replace HK := HK.tr gn; replace GG6 := GG6.t0 gn; obtain ⟨_, _, _, _, _, _⟩ := HK.facts)
        | (go_at_call 20; (with_reducible refine (k4 _).mono ?_); rintro e wn ⟨rfl, gn⟩; replace HK := HK.tr gn; replace GG6 := GG6.t0 gn; obtain ⟨_, _, _, _, _, _⟩ := HK.facts)
        | (go_at_call 20; (with_reducible refine (k5 _).mono ?_); rintro e wn ⟨rfl, gn⟩; replace HK := HK.tr gn; replace GG6 := GG6.t0 gn; obtain ⟨_, _, _, _, _, _⟩ := HK.facts))
      go_ret
      exact ⟨rfl, GG6⟩
  · clear hr
    by_cases hx : x = u
    · subst hx
      have hy : ¬ y = v := fun h => absurd (hz.out.2 ⟨rfl, h⟩) (by decide)
      go_wp2_with (first
        | (go_at_call 20; (with_reducible refine (k3 _).mono ?_); rintro e wn ⟨rfl, gn⟩; replace HK := HK.tr gn; replace GG6 := GG6.t0 gn; obtain ⟨_, _, _, _, _, _⟩ := HK.facts)
        | (go_at_call 20; (with_reducible refine (k4 _).mono ?_); rintro e wn ⟨rfl, gn⟩; replace HK := HK.tr gn; replace GG6 := GG6.t0 gn; obtain ⟨_, _, _, _, _, _⟩ := HK.facts)
        | (go_at_call 20; (with_reducible refine (k5 _).mono ?_); rintro e wn ⟨rfl, gn⟩; replace HK := HK.tr gn; replace GG6 := GG6.t0 gn; obtain ⟨_, _, _, _, _, _⟩ := HK.facts))
      go_ret
      exact ⟨rfl, GG6⟩
    · skip
      go_wp2_with (first
        | (go_at_call 20; (with_reducible refine (k3 _).mono ?_); rintro e wn ⟨rfl, gn⟩; replace HK := HK.tr gn; replace GG6 := GG6.t0 gn; obtain ⟨_, _, _, _, _, _⟩ := HK.facts)
        | (go_at_call 20; (with_reducible refine (k4 _).mono ?_); rintro e wn ⟨rfl, gn⟩; replace HK := HK.tr gn; replace GG6 := GG6.t0 gn; obtain ⟨_, _, _, _, _, _⟩ := HK.facts)
        | (go_at_call 20; (with_reducible refine (k5 _).mono ?_); rintro e wn ⟨rfl, gn⟩; replace HK := HK.tr gn; replace GG6 := GG6.t0 gn; obtain ⟨_, _, _, _, _, _⟩ := HK.facts))
      go_ret
      exact ⟨rfl, GG6⟩

theorem pointOrder_run (w : World) (p q r : Int × Int) (_ : I64 p.1 ∧ I64 p.2) (_ : I64 q.1 ∧ I64 q.2) (_ : I64 r.1 ∧ I64 r.2) :
    Calls Try.prog 5 #[pt p.1 p.2, pt q.1 q.2, pt r.1 r.2] w fun e w' => e = .returned (.bool true) ∧ Chg [] w w' :=
  order_run w p.1 p.2 q.1 q.2 r.1 r.2 _ _ _ rfl rfl rfl
end Go.Proofs.Ytdfjpdgamahicaa
