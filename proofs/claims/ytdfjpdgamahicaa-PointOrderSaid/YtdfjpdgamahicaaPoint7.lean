/-
  The points' statements: near points, the small case.
-/
import Derived.Test.YtdfjpdgamahicaaPoint6
namespace Go.Proofs.Ytdfjpdgamahicaa
open Go.RowKit

theorem near_ok (w : World) (x y : Int) : Calls Try.prog 7 #[pt x y] w fun e w' => e = .returned (.bool (nearB x y)) ∧ Chg [] w w' := by
  unfold nearB inB pt
  by_cases h1 : -2097152 ≤ x
  · by_cases h2 : x ≤ 2097152
    · by_cases h3 : -2097152 ≤ y
      · have e : (decide (-2097152 ≤ x ∧ x ≤ 2097152) && decide (-2097152 ≤ y ∧ y ≤ 2097152)) = decide (y ≤ 2097152) := by simp [h1, h2, h3]
        rw [e]
        clear e
        go_enter Try.func7, Try.ntmps7
        go_wp2
        go_ret
        exact ⟨rfl, Chg.alloc _ _ _⟩
      · have e : (decide (-2097152 ≤ x ∧ x ≤ 2097152) && decide (-2097152 ≤ y ∧ y ≤ 2097152)) = false := by simp [h3]
        rw [e]
        clear e
        have h4 : y < -2097152 := by omega
        go_enter Try.func7, Try.ntmps7
        go_wp2
        go_ret
        exact ⟨rfl, Chg.alloc _ _ _⟩
    · have e : (decide (-2097152 ≤ x ∧ x ≤ 2097152) && decide (-2097152 ≤ y ∧ y ≤ 2097152)) = false := by simp [h2]
      rw [e]
      clear e
      have h4 : 2097152 < x := by omega
      go_enter Try.func7, Try.ntmps7
      go_wp2
      go_ret
      exact ⟨rfl, Chg.alloc _ _ _⟩
  · have e : (decide (-2097152 ≤ x ∧ x ≤ 2097152) && decide (-2097152 ≤ y ∧ y ≤ 2097152)) = false := by simp [h1]
    rw [e]
    clear e
    have h4 : x < -2097152 := by omega
    go_enter Try.func7, Try.ntmps7
    go_wp2
    go_ret
    exact ⟨rfl, Chg.alloc _ _ _⟩

theorem kwalk1 (w : World) (k : Nat) (W : World) (hk : k = W.heap.size) (h : w = W.alloc (.cells #[.int .i64 1, .int .i64 2, .int .i64 3, .int .i64 (-1)] 23)) : Calls Try.prog 22 #[.slice (some ⟨k, 0, none⟩) 2 2] w fun e w' =>
    ∃ v', e = .returned (.tuple #[v', .bool true]) ∧ w'.ownsRow w.heap.size 23 2 v' 2 [.int .i64 1, .int .i64 2, .int .i64 4, .int .i64 1] ∧ Chg [] w w' := by
  subst h hk
  exact walk_ok _ _ [(1, 2), (3, -1)] (Sl.lit W #[.int .i64 1, .int .i64 2, .int .i64 3, .int .i64 (-1)] 23 2 (by decide)) (by decide)
theorem kwalk2 (w : World) (k : Nat) (W : World) (hk : k = W.heap.size) (h : w = W.alloc (.cells #[.int .i64 1048576, .int .i64 0, .int .i64 1, .int .i64 0] 23)) : Calls Try.prog 22 #[.slice (some ⟨k, 0, none⟩) 2 2] w fun e w' =>
    ∃ v', e = .returned (.tuple #[v', .bool false]) ∧ Chg [] w w' := by
  subst h hk
  refine (walk_ok _ _ [(1048576, 0), (1, 0)] (Sl.lit W #[.int .i64 1048576, .int .i64 0, .int .i64 1, .int .i64 0] 23 2 (by decide)) (by decide)).mono ?_
  rintro e w' ⟨v', he, _, hg⟩
  exact ⟨v', he, hg⟩
theorem ksteps (w : World) (k : Nat) (W : World) (hk : k = W.heap.size) (h : w = W.alloc (.cells #[.int .i64 1, .int .i64 2, .int .i64 3, .int .i64 (-1)] 23)) : Calls Try.prog 23 #[.slice (some ⟨k, 0, none⟩) 2 2] w fun e w' =>
    ∃ v', e = .returned v' ∧ w'.ownsRow w.heap.size 23 2 v' 2 [.int .i64 1, .int .i64 2, .int .i64 2, .int .i64 (-3)] ∧ Chg [] w w' := by
  subst h hk
  exact steps_ok _ _ [(1, 2), (3, -1)] (Sl.lit W #[.int .i64 1, .int .i64 2, .int .i64 3, .int .i64 (-1)] 23 2 (by decide)) (by decide)

/-- What the last test of the small case reads. -/
structure Kp (p b1 f1 b3 f3 : Nat) (w : World) : Prop where
  a : w.rangeAt p 0 [.int .i64 1, .int .i64 2]
  b : w.rangeAt (p + 1) 0 [.int .i64 3, .int .i64 (-1)]
  c : w.rangeAt b1 (f1 + 2) [.int .i64 4, .int .i64 1]
  d : w.rangeAt b3 (f3 + 2) [.int .i64 2, .int .i64 (-3)]
theorem Kp.tr {p b1 f1 b3 f3 : Nat} {w w' : World} (h : Kp p b1 f1 b3 f3 w) (g : Chg [] w w') : Kp p b1 f1 b3 f3 w' :=
  ⟨g.range h.a (by simp), g.range h.b (by simp), g.range h.c (by simp), g.range h.d (by simp)⟩
theorem Kp.facts {p b1 f1 b3 f3 : Nat} {w : World} (h : Kp p b1 f1 b3 f3 w) : w.cell? ⟨p, 0, none⟩ = some (.int .i64 1) ∧ w.cell? ⟨p, 1, none⟩ = some (.int .i64 2) ∧ w.cell? ⟨p + 1, 0, none⟩ = some (.int .i64 3) ∧ w.cell? ⟨p + 1, 1, none⟩ = some (.int .i64 (-1)) ∧
    w.cell? ⟨b1, f1 + 2, none⟩ = some (.int .i64 4) ∧ w.cell? ⟨b1, f1 + 2 + 1, none⟩ = some (.int .i64 1) ∧ w.cell? ⟨b3, f3 + 2, none⟩ = some (.int .i64 2) ∧ w.cell? ⟨b3, f3 + 2 + 1, none⟩ = some (.int .i64 (-3)) :=
  ⟨h.a 0 _ rfl, h.a 1 _ rfl, h.b 0 _ rfl, h.b 1 _ rfl, h.c 0 _ rfl, h.c 1 _ rfl, h.d 0 _ rfl, h.d 1 _ rfl⟩

set_option maxHeartbeats 2000000 in
theorem small_ok (w : World) : Calls Try.prog 6 #[] w fun e w' => e = .returned (.bool true) ∧ Chg [] w w' := by
  have P0 : ((w.alloc (.cells #[.int .i64 1, .int .i64 2] 23)).alloc (.cells #[.int .i64 3, .int .i64 (-1)] 23)).heap[w.heap.size]? = some (.cells #[.int .i64 1, .int .i64 2] 23) := heap_lit_old (heap_alloc_new w _)
  have Q0 : ((w.alloc (.cells #[.int .i64 1, .int .i64 2] 23)).alloc (.cells #[.int .i64 3, .int .i64 (-1)] 23)).heap[w.heap.size + 1]? = some (.cells #[.int .i64 3, .int .i64 (-1)] 23) := heap_lit_new _ _ _ (by simp)
  have G0 : Chg [] w ((w.alloc (.cells #[.int .i64 1, .int .i64 2] 23)).alloc (.cells #[.int .i64 3, .int .i64 (-1)] 23)) := (Chg.alloc _ _ _).t0 (Chg.alloc _ _ _)
  replace P0 := Lib.hid P0
  replace Q0 := Lib.hid Q0
  go_enter Try.func6, Try.ntmps6
  go_wp2_with fail
  refine (kwalk1 _ _ _ (by simp) rfl).mono ?_
  rintro e w1 ⟨v1, rfl, o1, g1⟩
  obtain ⟨b1, f1, c1, rfl, _, _, _, hc1⟩ := (Sl.ofOwns o1).at (by decide)
  have G1 := (Chg.alloc [] _ _).t0 g1
  have P1 := G1.heap P0.out (by simp)
  have Q1 := G1.heap Q0.out (by simp)
  obtain ⟨a0, a1, _, _⟩ := cells2 P1
  obtain ⟨bb0, bb1, _, _⟩ := cells2 Q1
  replace P1 := Lib.hid P1
  replace Q1 := Lib.hid Q1
  go_wp2_with fail
  refine (kwalk2 _ _ _ rfl rfl).mono ?_
  rintro e w2 ⟨v2, rfl, g2⟩
  have G2 := (Chg.alloc [] _ _).t0 g2
  have P2 := G2.heap P1.out (by simp)
  have Q2 := G2.heap Q1.out (by simp)
  obtain ⟨a0, a1, _, _⟩ := cells2 P2
  obtain ⟨bb0, bb1, _, _⟩ := cells2 Q2
  replace P2 := Lib.hid P2
  replace Q2 := Lib.hid Q2
  go_wp2_with fail
  refine (ksteps _ _ _ rfl rfl).mono ?_
  rintro e w3 ⟨v3, rfl, o3, g3⟩
  have G3 := (Chg.alloc [] _ _).t0 g3
  have P3 := G3.heap P2.out (by simp)
  have Q3 := G3.heap Q2.out (by simp)
  obtain ⟨a0, a1, _, _⟩ := cells2 P3
  obtain ⟨bb0, bb1, _, _⟩ := cells2 Q3
  obtain ⟨b3, f3, c3, rfl, _, _, _, hc3⟩ := (Sl.ofOwns o3).at (by decide)
  have HK : Kp w.heap.size b1 f1 b3 f3 w3 := ⟨ra_block P3, ra_block Q3, G3.range (G2.range (ra2 (hc1 2 _ rfl) (hc1 3 _ rfl)) (by simp)) (by simp), ra2 (hc3 2 _ rfl) (hc3 3 _ rfl)⟩
  have GG : Chg [] w w3 := ((G0.t0 G1).t0 G2).t0 G3
  have kmul : ∀ w, Calls Try.prog 14 #[.agg #[.int .i64 1, .int .i64 2], .agg #[.int .i64 3, .int .i64 (-1)]] w fun e w' => e = .returned (.agg #[.int .i64 5, .int .i64 5]) ∧ Chg [] w w' := fun w => mul_ok w 1 2 3 (-1) (by unfold NearP; decide) (by unfold NearP; decide) (by unfold NearP; decide) (by unfold NearP; decide)
  have kadd : ∀ w, Calls Try.prog 10 #[.agg #[.int .i64 1, .int .i64 2], .agg #[.int .i64 3, .int .i64 (-1)]] w fun e w' => e = .returned (.agg #[.int .i64 4, .int .i64 1]) ∧ Chg [] w w' := fun w => add_ok w 1 2 3 (-1) (by unfold NearP; decide) (by unfold NearP; decide) (by unfold NearP; decide) (by unfold NearP; decide)
  have ksub : ∀ w, Calls Try.prog 12 #[.agg #[.int .i64 1, .int .i64 2], .agg #[.int .i64 3, .int .i64 (-1)]] w fun e w' => e = .returned (.agg #[.int .i64 (-2), .int .i64 3]) ∧ Chg [] w w' := fun w => sub_ok w 1 2 3 (-1) (by unfold NearP; decide) (by unfold NearP; decide) (by unfold NearP; decide) (by unfold NearP; decide)
  have kt1 : ∀ w, Calls Try.prog 16 #[.agg #[.int .i64 1, .int .i64 2], .int .i64 1] w fun e w' => e = .returned (.agg #[.int .i64 (-2), .int .i64 1]) ∧ Chg [] w w' := fun w => turn_ok w 1 2 1 (by unfold NearP; decide) (by unfold NearP; decide) (by decide) (by decide)
  have kt2 : ∀ w, Calls Try.prog 16 #[.agg #[.int .i64 1, .int .i64 2], .int .i64 (-1)] w fun e w' => e = .returned (.agg #[.int .i64 2, .int .i64 (-1)]) ∧ Chg [] w w' := fun w => turn_ok w 1 2 (-1) (by unfold NearP; decide) (by unfold NearP; decide) (by decide) (by decide)
  have kn : ∀ w, Calls Try.prog 18 #[.agg #[.int .i64 1, .int .i64 2]] w fun e w' => e = .returned (.int .i64 5) ∧ Chg [] w w' := fun w => norm_ok w 1 2 (by unfold NearP; decide) (by unfold NearP; decide)
  have kc1 : ∀ w, Calls Try.prog 20 #[.agg #[.int .i64 1, .int .i64 2], .agg #[.int .i64 3, .int .i64 (-1)]] w fun e w' => e = .returned (.int .i64 (-1)) ∧ Chg [] w w' := fun w => compare_ok w 1 2 3 (-1) (by unfold NearP; decide) (by unfold NearP; decide) (by unfold NearP; decide) (by unfold NearP; decide)
  have kc2 : ∀ w, Calls Try.prog 20 #[.agg #[.int .i64 1, .int .i64 2], .agg #[.int .i64 2, .int .i64 1]] w fun e w' => e = .returned (.int .i64 (-1)) ∧ Chg [] w w' := fun w => compare_ok w 1 2 2 1 (by unfold NearP; decide) (by unfold NearP; decide) (by unfold NearP; decide) (by unfold NearP; decide)
  have kr1 : ∀ w, Calls Try.prog 8 #[.agg #[.int .i64 1048576, .int .i64 0]] w fun e w' => e = .returned (.bool true) ∧ Chg [] w w' := fun w => right_ok w 1048576 0
  have kr2 : ∀ w, Calls Try.prog 8 #[.agg #[.int .i64 0, .int .i64 1048577]] w fun e w' => e = .returned (.bool false) ∧ Chg [] w w' := fun w => right_ok w 0 1048577
  clear P0 P1 P2 P3 Q0 Q1 Q2 Q3 G0 G1 G2 G3 o1 o3 hc1 hc3
  go_wp2_with (first
    | (go_at_call 14; (with_reducible refine (kmul _).mono ?_); rintro e wn ⟨rfl, gn⟩; replace HK := HK.tr gn; replace GG := GG.t0 gn; obtain ⟨_, _, _, _, _, _, _, _⟩ := HK.facts)
    | (go_at_call 10; (with_reducible refine (kadd _).mono ?_); rintro e wn ⟨rfl, gn⟩; replace HK := HK.tr gn; replace GG := GG.t0 gn; obtain ⟨_, _, _, _, _, _, _, _⟩ := HK.facts)
    | (go_at_call 12; (with_reducible refine (ksub _).mono ?_); rintro e wn ⟨rfl, gn⟩; replace HK := HK.tr gn; replace GG := GG.t0 gn; obtain ⟨_, _, _, _, _, _, _, _⟩ := HK.facts)
    | (go_at_call 16; (with_reducible refine (kt1 _).mono ?_); rintro e wn ⟨rfl, gn⟩; replace HK := HK.tr gn; replace GG := GG.t0 gn; obtain ⟨_, _, _, _, _, _, _, _⟩ := HK.facts)
    | (go_at_call 16; (with_reducible refine (kt2 _).mono ?_); rintro e wn ⟨rfl, gn⟩; replace HK := HK.tr gn; replace GG := GG.t0 gn; obtain ⟨_, _, _, _, _, _, _, _⟩ := HK.facts)
    | (go_at_call 18; (with_reducible refine (kn _).mono ?_); rintro e wn ⟨rfl, gn⟩; replace HK := HK.tr gn; replace GG := GG.t0 gn; obtain ⟨_, _, _, _, _, _, _, _⟩ := HK.facts)
    | (go_at_call 20; (with_reducible refine (kc1 _).mono ?_); rintro e wn ⟨rfl, gn⟩; replace HK := HK.tr gn; replace GG := GG.t0 gn; obtain ⟨_, _, _, _, _, _, _, _⟩ := HK.facts)
    | (go_at_call 20; (with_reducible refine (kc2 _).mono ?_); rintro e wn ⟨rfl, gn⟩; replace HK := HK.tr gn; replace GG := GG.t0 gn; obtain ⟨_, _, _, _, _, _, _, _⟩ := HK.facts)
    | (go_at_call 8; (with_reducible refine (kr1 _).mono ?_); rintro e wn ⟨rfl, gn⟩; replace HK := HK.tr gn; replace GG := GG.t0 gn; obtain ⟨_, _, _, _, _, _, _, _⟩ := HK.facts)
    | (go_at_call 8; (with_reducible refine (kr2 _).mono ?_); rintro e wn ⟨rfl, gn⟩; replace HK := HK.tr gn; replace GG := GG.t0 gn; obtain ⟨_, _, _, _, _, _, _, _⟩ := HK.facts))
  go_ret
  exact ⟨rfl, GG⟩
end Go.Proofs.Ytdfjpdgamahicaa
