/-
  PointNorms: the walk.
-/
import Derived.Test.YtdfjpdgamahicaaPoint7
import Derived.Test.YtdfjpdgamahicaaOpenP
namespace Go.Proofs.Ytdfjpdgamahicaa
open Go.RowKit

theorem rot_add (a b : Nat) (p : Int × Int) : rot a (rot b p) = rot (a + b) p := by
  induction a with
  | zero => simp [rot]
  | succ a ih => rw [show a + 1 + b = (a + b) + 1 by omega]; simp only [rot, ih]
theorem rot_four (p : Int × Int) : rot 4 p = p := by
  obtain ⟨x, y⟩ := p
  simp [rot]
theorem rot_norm (k : Nat) (p : Int × Int) : normP (rot k p).1 (rot k p).2 = normP p.1 p.2 := by
  induction k with
  | zero => rfl
  | succ k ih => rw [← ih]; simp only [rot, normP, Int.neg_mul_neg]; omega
theorem quarters_mod (n : Int) : ((quarters n : Nat) : Int) = n % 4 := by
  unfold quarters
  have h := Int.tmod_def n 4
  omega
theorem quarters_back (n : Int) (p : Int × Int) : rot (quarters (-n)) (rot (quarters n) p) = p := by
  rw [rot_add]
  have h1 := quarters_mod n
  have h2 := quarters_mod (-n)
  have h : quarters (-n) + quarters n = 0 ∨ quarters (-n) + quarters n = 4 := by omega
  rcases h with h | h
  · rw [h]; rfl
  · rw [h]; exact rot_four p
theorem quarters_four (n : Int) : quarters (n + 4) = quarters n := by
  have h1 := quarters_mod n
  have h2 := quarters_mod (n + 4)
  omega
theorem norm_mul (x y u v : Int) : (x * u - y * v) * (x * u - y * v) + (x * v + y * u) * (x * v + y * u) = normP x y * normP u v := by
  unfold normP
  grind

theorem wrap_of {n : Int} (h : -9223372036854775808 ≤ n ∧ n ≤ 9223372036854775807) : IntKind.i64.wrap n = n := IntWalk.i64_in _ ⟨h.1, by omega⟩
theorem sq_bound {x B : Int} (h : -B ≤ x ∧ x ≤ B) : 0 ≤ x * x ∧ x * x ≤ B * B := by
  have := near_mul h h
  refine ⟨?_, this.2⟩
  rcases Int.le_total 0 x with h0 | h0
  · exact Int.mul_nonneg h0 h0
  · exact Int.mul_nonneg_of_nonpos_of_nonpos h0 h0

theorem norms_out (w : World) (x y u v n : Int) (hu : -128 ≤ u ∧ u ≤ 127) (hv : -128 ≤ v ∧ v ≤ 127) (b : Bool) (h1 : nearB x y = b) (hb : b = false ∨ 1099511627776 < n ∨ n < -1099511627776) :
    Calls Try.prog 4 #[pt x y, .int .i8 u, .int .i8 v, .int .i64 n] w fun e w' => e = .returned (.bool true) ∧ Chg [] w w' := by
  have kn1 : ∀ w, Calls Try.prog 7 #[.agg #[.int .i64 x, .int .i64 y]] w fun e w' => e = .returned (.bool b) ∧ Chg [] w w' := fun w => h1 ▸ near_ok w x y
  have P0 : (w.alloc (.cells #[.int .i64 x, .int .i64 y] 23)).heap[w.heap.size]? = some (.cells #[.int .i64 x, .int .i64 y] 23) := heap_alloc_new w _
  replace P0 := Lib.hid P0
  obtain ⟨u1, u2⟩ := hu
  obtain ⟨v1, v2⟩ := hv
  clear h1
  unfold pt at *
  rcases hb with rfl | hb | hb
  all_goals
    try cases b
    all_goals
      go_enter Try.func4, Try.ntmps4
      go_wp2_with (first
        | (go_at_call 6; refine (small_ok _).mono ?_; rintro e w1 ⟨rfl, g1⟩; have P1 := g1.heap P0.out (by simp); obtain ⟨_, _, _, _⟩ := cells2 P1; replace P1 := Lib.hid P1)
        | (go_at_call 7; (with_reducible refine (kn1 _).mono ?_); rintro e w2 ⟨rfl, g2⟩))
      go_ret
      exact ⟨rfl, (((Chg.alloc [] w _).t0 g1).t0 g2).t0 (Chg.alloc [] _ _)⟩

set_option maxHeartbeats 4000000 in
theorem norms_in (w : World) (x y u v n : Int) (hu : -128 ≤ u ∧ u ≤ 127) (hv : -128 ≤ v ∧ v ≤ 127) (h1 : nearB x y = true) (hn1 : -1099511627776 ≤ n) (hn2 : n ≤ 1099511627776) :
    Calls Try.prog 4 #[pt x y, .int .i8 u, .int .i8 v, .int .i64 n] w fun e w' => e = .returned (.bool true) ∧ Chg [] w w' := by
  have kn1 : ∀ w, Calls Try.prog 7 #[.agg #[.int .i64 x, .int .i64 y]] w fun e w' => e = .returned (.bool true) ∧ Chg [] w w' := fun w => h1 ▸ near_ok w x y
  obtain ⟨nx, ny⟩ := nearB_near h1
  have nu : NearP u := by unfold NearP; omega
  have nv : NearP v := by unfold NearP; omega
  have P0 : (w.alloc (.cells #[.int .i64 x, .int .i64 y] 23)).heap[w.heap.size]? = some (.cells #[.int .i64 x, .int .i64 y] 23) := heap_alloc_new w _
  replace P0 := Lib.hid P0
  -- what is reckoned
  obtain ⟨r1, r2⟩ := rot_near (quarters n) (x, y) nx ny
  have km1 := fun w => mul_ok w x y u v nx ny nu nv
  have km2 := fun w => mul_ok w u v x y nu nv nx ny
  have kt1 := fun w => turn_ok w x y n nx ny (by omega) (by omega)
  have kt2 := fun w => turn_ok w (rot (quarters n) (x, y)).1 (rot (quarters n) (x, y)).2 (-n) r1 r2 (by omega) (by omega)
  have kt3 := fun w => turn_ok w x y (n + 4) nx ny (by omega) (by omega)
  have ko1 := fun w => norm_ok w x y nx ny
  have ko2 := fun w => norm_ok w u v nu nv
  have ko3 := fun w => norm_ok w (rot (quarters n) (x, y)).1 (rot (quarters n) (x, y)).2 r1 r2
  rw [rot_norm] at ko3
  have eback := quarters_back n (x, y)
  simp only [eback] at kt2
  rw [quarters_four] at kt3
  rw [show u * x - v * y = x * u - y * v by rw [Int.mul_comm u, Int.mul_comm v], show u * y + v * x = x * v + y * u by rw [Int.mul_comm u, Int.mul_comm v]; omega] at km2
  have hz := norm_mul x y u v
  have b1 := near_mul nx (show -128 ≤ u ∧ u ≤ 128 by omega)
  have b2 := near_mul ny (show -128 ≤ v ∧ v ≤ 128 by omega)
  have b3 := near_mul nx (show -128 ≤ v ∧ v ≤ 128 by omega)
  have b4 := near_mul ny (show -128 ≤ u ∧ u ≤ 128 by omega)
  have s1 := sq_bound (x := x * u - y * v) (B := 536870912) (by omega)
  have s2 := sq_bound (x := x * v + y * u) (B := 536870912) (by omega)
  dsimp only at ko3
  generalize x * u - y * v = Z1 at *
  generalize x * v + y * u = Z2 at *
  generalize (rot (quarters n) (x, y)).1 = T1 at *
  generalize (rot (quarters n) (x, y)).2 = T2 at *
  generalize normP x y = Np at *
  generalize normP u v = Nq at *
  have ww1 : IntKind.i64.wrap (Z1 * Z1) = Z1 * Z1 := wrap_of (by omega)
  have ww2 : IntKind.i64.wrap (Z2 * Z2) = Z2 * Z2 := wrap_of (by omega)
  have ww3 : IntKind.i64.wrap (Z1 * Z1 + Z2 * Z2) = Np * Nq := by rw [wrap_of (by omega), hz]
  have ww4 : IntKind.i64.wrap (Np * Nq) = Np * Nq := wrap_of (by omega)
  have ww5 : IntKind.i64.wrap (-n) = -n := wrap_of (by omega)
  have ww6 : IntKind.i64.wrap (n + 4) = n + 4 := wrap_of (by omega)
  obtain ⟨u1, u2⟩ := hu
  obtain ⟨v1, v2⟩ := hv
  clear h1 hz b1 b2 b3 b4 s1 s2 eback r1 r2
  replace ww1 := Lib.hid ww1
  replace ww2 := Lib.hid ww2
  replace ww3 := Lib.hid ww3
  replace ww4 := Lib.hid ww4
  replace ww5 := Lib.hid ww5
  replace ww6 := Lib.hid ww6
  unfold pt at *
  go_enter Try.func4, Try.ntmps4
  go_wp2_with (first
    | (go_at_call 6; refine (small_ok _).mono ?_; rintro e w1 ⟨rfl, g1⟩; have P1 := g1.heap P0.out (by simp); obtain ⟨_, _, _, _⟩ := cells2 P1; replace P1 := Lib.hid P1)
    | (go_at_call 7; (with_reducible refine (kn1 _).mono ?_); rintro e w2 ⟨rfl, g2⟩; have P2 := (Chg.alloc [] w2 (.cells #[.int .i64 u, .int .i64 v] 23)).heap (g2.heap P1.out (by simp)) (by simp); obtain ⟨_, _, _, _⟩ := cells2 P2; replace P2 := Lib.hid P2)
    | (go_at_call 14; (with_reducible refine (km1 _).mono ?_); rintro e w3 ⟨rfl, g3⟩; have P3 := (Chg.alloc [] w3 (.cells #[.int .i64 Z1, .int .i64 Z2] 23)).heap (g3.heap P2.out (by simp)) (by simp); obtain ⟨_, _, _, _⟩ := cells2 P3; replace P3 := Lib.hid P3)
    | (go_at_call 16; (with_reducible refine (kt1 _).mono ?_); rintro e w4 ⟨rfl, g4⟩))
  have G2 : Chg [] w w2 := ((Chg.alloc [] w _).t0 g1).t0 g2
  have G3 : Chg [] w2 w3 := (Chg.alloc [] w2 _).t0 g3
  have G4 : Chg [] w3 w4 := (Chg.alloc [] w3 _).t0 g4
  have c0 := ra_block ((Chg.alloc [] w4 (.cells #[.int .i64 T1, .int .i64 T2] 23)).heap (g4.heap P3.out (by simp)) (by simp))
  have c1 := ra_block ((Chg.alloc [] w4 (.cells #[.int .i64 T1, .int .i64 T2] 23)).heap (G4.heap (g3.heap (heap_alloc_new w2 (.cells #[.int .i64 u, .int .i64 v] 23)) (by simp)) (by simp)) (by simp))
  have c2 := ra_block ((Chg.alloc [] w4 (.cells #[.int .i64 T1, .int .i64 T2] 23)).heap (g4.heap (heap_alloc_new w3 (.cells #[.int .i64 Z1, .int .i64 Z2] 23)) (by simp)) (by simp))
  have c3 := ra_block (heap_alloc_new w4 (.cells #[.int .i64 T1, .int .i64 T2] 23))
  have GG : Chg [] w (w4.alloc (.cells #[.int .i64 T1, .int .i64 T2] 23)) := ((G2.t0 G3).t0 G4).t0 (Chg.alloc [] _ _)
  have d0 := c2 0 _ rfl
  have d1 := c2 1 _ rfl
  clear G2 G3 G4 P0 P1 P2 P3 g1 g2 g3 g4
  have ww1 := ww1.out
  have ww2 := ww2.out
  have ww3 := ww3.out
  have ww4 := ww4.out
  have ww5 := ww5.out
  have ww6 := ww6.out
  refine region_quietC (by kernel_rfl) (by kernel_rfl) ?_
  repeat (first
    | (refine quiet_loadC rfl _ _ rfl _ _ rfl _ _ c0 Try.underlying23 rfl (by kernel_rfl) ?_)
    | (refine quiet_loadC rfl _ _ rfl _ _ rfl _ _ c1 Try.underlying23 rfl (by kernel_rfl) ?_)
    | (refine quiet_loadC rfl _ _ rfl _ _ rfl _ _ c2 Try.underlying23 rfl (by kernel_rfl) ?_)
    | (refine quiet_loadC rfl _ _ rfl _ _ rfl _ _ c3 Try.underlying23 rfl (by kernel_rfl) ?_)
    | (refine quiet_cellC rfl _ _ rfl _ rfl _ _ d0 Try.underlying3 rfl ?_)
    | (refine quiet_cellC rfl _ _ rfl _ rfl _ _ d1 Try.underlying3 rfl ?_)
    | quiet_step ((intro hx; first | rfl | with_reducible exact Calls.quietC hx (km1 _) | with_reducible exact Calls.quietC hx (km2 _) | with_reducible exact Calls.quietC hx (kt1 _) | with_reducible exact Calls.quietC hx (kt2 _) | with_reducible exact Calls.quietC hx (kt3 _) | with_reducible exact Calls.quietC hx (ko1 _) | with_reducible exact Calls.quietC hx (ko2 _) | with_reducible exact Calls.quietC hx (ko3 _))))
  refine wpQuiet_nil ?_
  intro w7 g7
  go_wp2
  go_ret
  exact ⟨rfl, GG.t0 g7⟩

theorem i8_wf {n : Int} (h : (Lit.int .i8 n).wf = true) : -128 ≤ n ∧ n ≤ 127 := by
  simp [Lit.wf] at h
  have e1 : IntKind.i8.min = -128 := rfl
  have e2 : IntKind.i8.max = 127 := rfl
  omega
theorem pointNorms_run (w : World) (p : Int × Int) (u v n : Int) (_ : I64 p.1 ∧ I64 p.2) (hu : (Lit.int .i8 u).wf = true) (hv : (Lit.int .i8 v).wf = true) (_ : (Lit.int .i64 n).wf = true) :
    Calls Try.prog 4 #[pt p.1 p.2, .int .i8 u, .int .i8 v, .int .i64 n] w fun e w' => e = .returned (.bool true) ∧ Chg [] w w' := by
  by_cases h : nearB p.1 p.2 = true ∧ -1099511627776 ≤ n ∧ n ≤ 1099511627776
  · exact norms_in w p.1 p.2 u v n (i8_wf hu) (i8_wf hv) h.1 h.2.1 h.2.2
  · refine norms_out w p.1 p.2 u v n (i8_wf hu) (i8_wf hv) _ rfl ?_
    cases hb : nearB p.1 p.2
    · exact .inl rfl
    · rw [hb] at h; simp at h; omega
end Go.Proofs.Ytdfjpdgamahicaa
