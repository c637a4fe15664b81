/-
  The document's order and turns of points; ways of points.
-/
import Derived.Test.YtdfjpdgamahicaaPoint3
namespace Go.Proofs.Ytdfjpdgamahicaa
open Go.RowKit

theorem rcompare_1 (w : World) (x y u v N1 N2 : Int) (h : (N1 != N2) = true)
    (kn1 : ∀ w, Calls Try.prog 19 #[pt x y] w fun e w' => e = .returned (.int .i64 N1) ∧ Chg [] w w')
    (kn2 : ∀ w, Calls Try.prog 19 #[pt u v] w fun e w' => e = .returned (.int .i64 N2) ∧ Chg [] w w') :
    Calls Try.prog 21 #[pt x y, pt u v] w fun e w' => e = .returned (.int .i64 (sgn N1 N2)) ∧ Chg [] w w' := by
  have ks := fun w => rsign_ok w N1 N2
  generalize sgn N1 N2 = R at *
  unfold pt at *
  go_enter Try.func21, Try.ntmps21
  go_wp2
  have c0 : World.rangeAt ((w.alloc (.cells #[.int .i64 x, .int .i64 y] 23)).alloc (.cells #[.int .i64 u, .int .i64 v] 23)) w.heap.size 0 [.int .i64 x, .int .i64 y] := ra2 (by go_simp) (by go_simp)
  have c1 : World.rangeAt ((w.alloc (.cells #[.int .i64 x, .int .i64 y] 23)).alloc (.cells #[.int .i64 u, .int .i64 v] 23)) (w.heap.size + 1) 0 [.int .i64 u, .int .i64 v] := ra2 (by go_simp) (by go_simp)
  have g0 : Chg [] w ((w.alloc (.cells #[.int .i64 x, .int .i64 y] 23)).alloc (.cells #[.int .i64 u, .int .i64 v] 23)) := (Chg.alloc [] w _).t0 (Chg.alloc [] _ _)
  generalize ((w.alloc (.cells #[.int .i64 x, .int .i64 y] 23)).alloc (.cells #[.int .i64 u, .int .i64 v] 23)) = W1 at *
  refine region_quietC (by kernel_rfl) (by kernel_rfl) ?_
  repeat (first
    | (refine quiet_loadC rfl _ _ rfl _ _ rfl _ _ c0 Try.underlying23 rfl (by kernel_rfl) ?_)
    | (refine quiet_loadC rfl _ _ rfl _ _ rfl _ _ c1 Try.underlying23 rfl (by kernel_rfl) ?_)
    | quiet_step ((intro hx; first | rfl | with_reducible exact Calls.quietC hx (kn1 _) | with_reducible exact Calls.quietC hx (kn2 _) | with_reducible exact Calls.quietC hx (ks _))))
  refine wpQuiet_nil ?_
  intro W2 g2
  have c0 := g2.range c0 (by simp)
  have c1 := g2.range c1 (by simp)
  go_wp2
  refine region_quietC (by kernel_rfl) (by kernel_rfl) ?_
  repeat (first
    | (refine quiet_loadC rfl _ _ rfl _ _ rfl _ _ c0 Try.underlying23 rfl (by kernel_rfl) ?_)
    | (refine quiet_loadC rfl _ _ rfl _ _ rfl _ _ c1 Try.underlying23 rfl (by kernel_rfl) ?_)
    | quiet_step ((intro hx; first | rfl | with_reducible exact Calls.quietC hx (kn1 _) | with_reducible exact Calls.quietC hx (kn2 _) | with_reducible exact Calls.quietC hx (ks _))))
  refine wpQuiet_nil ?_
  intro W3 g3
  go_wp2
  go_ret
  exact ⟨rfl, (g0.t0 g2).t0 g3⟩

theorem rcompare_2 (w : World) (x y u v N1 N2 : Int) (h : (N1 != N2) = false) (hx : (x != u) = true)
    (kn1 : ∀ w, Calls Try.prog 19 #[pt x y] w fun e w' => e = .returned (.int .i64 N1) ∧ Chg [] w w')
    (kn2 : ∀ w, Calls Try.prog 19 #[pt u v] w fun e w' => e = .returned (.int .i64 N2) ∧ Chg [] w w') :
    Calls Try.prog 21 #[pt x y, pt u v] w fun e w' => e = .returned (.int .i64 (sgn x u)) ∧ Chg [] w w' := by
  have ks := fun w => rsign_ok w x u
  generalize sgn x u = R at *
  unfold pt at *
  go_enter Try.func21, Try.ntmps21
  go_wp2
  have c0 : World.rangeAt ((w.alloc (.cells #[.int .i64 x, .int .i64 y] 23)).alloc (.cells #[.int .i64 u, .int .i64 v] 23)) w.heap.size 0 [.int .i64 x, .int .i64 y] := ra2 (by go_simp) (by go_simp)
  have c1 : World.rangeAt ((w.alloc (.cells #[.int .i64 x, .int .i64 y] 23)).alloc (.cells #[.int .i64 u, .int .i64 v] 23)) (w.heap.size + 1) 0 [.int .i64 u, .int .i64 v] := ra2 (by go_simp) (by go_simp)
  have g0 : Chg [] w ((w.alloc (.cells #[.int .i64 x, .int .i64 y] 23)).alloc (.cells #[.int .i64 u, .int .i64 v] 23)) := (Chg.alloc [] w _).t0 (Chg.alloc [] _ _)
  generalize ((w.alloc (.cells #[.int .i64 x, .int .i64 y] 23)).alloc (.cells #[.int .i64 u, .int .i64 v] 23)) = W1 at *
  refine region_quietC (by kernel_rfl) (by kernel_rfl) ?_
  repeat (first
    | (refine quiet_loadC rfl _ _ rfl _ _ rfl _ _ c0 Try.underlying23 rfl (by kernel_rfl) ?_)
    | (refine quiet_loadC rfl _ _ rfl _ _ rfl _ _ c1 Try.underlying23 rfl (by kernel_rfl) ?_)
    | quiet_step ((intro hx; first | rfl | with_reducible exact Calls.quietC hx (kn1 _) | with_reducible exact Calls.quietC hx (kn2 _) | with_reducible exact Calls.quietC hx (ks _))))
  refine wpQuiet_nil ?_
  intro W2 g2
  have d0 := g2.cellv (c0 0 _ rfl) (by simp)
  have d1 := g2.cellv (c0 1 _ rfl) (by simp)
  have d2 := g2.cellv (c1 0 _ rfl) (by simp)
  have d3 := g2.cellv (c1 1 _ rfl) (by simp)
  clear c0 c1
  go_wp2_with (go_at_call 29; refine (ks _).mono ?_; rintro e W3 ⟨rfl, g3⟩)
  go_ret
  exact ⟨rfl, (g0.t0 g2).t0 g3⟩

theorem rcompare_3 (w : World) (x y u v N1 N2 : Int) (h : (N1 != N2) = false) (hx : (x != u) = false)
    (kn1 : ∀ w, Calls Try.prog 19 #[pt x y] w fun e w' => e = .returned (.int .i64 N1) ∧ Chg [] w w')
    (kn2 : ∀ w, Calls Try.prog 19 #[pt u v] w fun e w' => e = .returned (.int .i64 N2) ∧ Chg [] w w') :
    Calls Try.prog 21 #[pt x y, pt u v] w fun e w' => e = .returned (.int .i64 (sgn y v)) ∧ Chg [] w w' := by
  have ks := fun w => rsign_ok w y v
  generalize sgn y v = R at *
  unfold pt at *
  go_enter Try.func21, Try.ntmps21
  go_wp2
  have c0 : World.rangeAt ((w.alloc (.cells #[.int .i64 x, .int .i64 y] 23)).alloc (.cells #[.int .i64 u, .int .i64 v] 23)) w.heap.size 0 [.int .i64 x, .int .i64 y] := ra2 (by go_simp) (by go_simp)
  have c1 : World.rangeAt ((w.alloc (.cells #[.int .i64 x, .int .i64 y] 23)).alloc (.cells #[.int .i64 u, .int .i64 v] 23)) (w.heap.size + 1) 0 [.int .i64 u, .int .i64 v] := ra2 (by go_simp) (by go_simp)
  have g0 : Chg [] w ((w.alloc (.cells #[.int .i64 x, .int .i64 y] 23)).alloc (.cells #[.int .i64 u, .int .i64 v] 23)) := (Chg.alloc [] w _).t0 (Chg.alloc [] _ _)
  generalize ((w.alloc (.cells #[.int .i64 x, .int .i64 y] 23)).alloc (.cells #[.int .i64 u, .int .i64 v] 23)) = W1 at *
  refine region_quietC (by kernel_rfl) (by kernel_rfl) ?_
  repeat (first
    | (refine quiet_loadC rfl _ _ rfl _ _ rfl _ _ c0 Try.underlying23 rfl (by kernel_rfl) ?_)
    | (refine quiet_loadC rfl _ _ rfl _ _ rfl _ _ c1 Try.underlying23 rfl (by kernel_rfl) ?_)
    | quiet_step ((intro hx; first | rfl | with_reducible exact Calls.quietC hx (kn1 _) | with_reducible exact Calls.quietC hx (kn2 _) | with_reducible exact Calls.quietC hx (ks _))))
  refine wpQuiet_nil ?_
  intro W2 g2
  have d0 := g2.cellv (c0 0 _ rfl) (by simp)
  have d1 := g2.cellv (c0 1 _ rfl) (by simp)
  have d2 := g2.cellv (c1 0 _ rfl) (by simp)
  have d3 := g2.cellv (c1 1 _ rfl) (by simp)
  clear c0 c1
  go_wp2_with (go_at_call 29; refine (ks _).mono ?_; rintro e W3 ⟨rfl, g3⟩)
  go_ret
  exact ⟨rfl, (g0.t0 g2).t0 g3⟩

theorem rcompare_ok (w : World) (x y u v : Int) (hx : NearP x) (hy : NearP y) (hu : NearP u) (hv : NearP v) :
    Calls Try.prog 21 #[pt x y, pt u v] w fun e w' => e = .returned (.int .i64 (cmpP x y u v)) ∧ Chg [] w w' := by
  have kn1 := fun w => rnorm_ok w x y hx hy
  have kn2 := fun w => rnorm_ok w u v hu hv
  by_cases h : normP x y = normP u v
  · by_cases h2 : x = u
    · rw [cmpP_y h h2]
      exact rcompare_3 w x y u v _ _ (by simp [h]) (by simp [h2]) kn1 kn2
    · rw [cmpP_x h h2]
      exact rcompare_2 w x y u v _ _ (by simp [h]) (by simp [h2]) kn1 kn2
  · rw [cmpP_norm h]
    exact rcompare_1 w x y u v _ _ (by simp [h]) kn1 kn2

theorem rturn_q (w : World) (x y n : Int) (q : Nat) (hq3 : q ≤ 3) (hm : (n.tmod 4 < 0 ∧ n.tmod 4 + 4 = q) ∨ (¬ n.tmod 4 < 0 ∧ n.tmod 4 = q)) (hx : NearP x) (hy : NearP y) (hn : -9223372036854775808 ≤ n) (hn2 : n ≤ 9223372036854775807) :
    Calls Try.prog 17 #[pt x y, .int .i64 n] w fun e w' => e = .returned (pt (rot q (x, y)).1 (rot q (x, y)).2) ∧ Chg [] w w' := by
  obtain ⟨X, Y, hXY⟩ : ∃ X Y, X = (rot q (x, y)).1 ∧ Y = (rot q (x, y)).2 := ⟨_, _, rfl, rfl⟩
  rw [← hXY.1, ← hXY.2]
  have HXY := Lib.hid hXY
  clear hXY
  have krt : ∀ (w : World) (a b : Int), NearP a → NearP b → Calls Try.prog 15 #[.agg #[.int .i64 a, .int .i64 b], .agg #[.int .i64 0, .int .i64 1]] w fun e w' => e = .returned (.agg #[.int .i64 (-b), .int .i64 a]) ∧ Chg [] w w' := by
    intro w a b ha hb
    have h := rmul_ok w a b 0 1 ha hb (by unfold NearP; decide) (by unfold NearP; decide)
    simpa [pt] using h
  unfold pt
  rcases hm with ⟨h1, h2⟩ | ⟨h1, h2⟩
  · have H := Lib.hid h2
    clear h2
    have hm1 : -4 < n.tmod 4 := Int.lt_tmod_of_pos n (show (0 : Int) < 4 by decide)
    go_enter Try.func17, Try.ntmps17
    go_wp2
    rw [H.out]
    clear H
    have s1 : ((w.alloc (.cells #[.int .i64 x, .int .i64 y] 23)).alloc (.cells #[.int .i64 0, .int .i64 0] 23)).heap[w.heap.size]? = some (.cells #[.int .i64 x, .int .i64 y] 23) := heap_lit_old (heap_alloc_new w _)
    have s2 : ((w.alloc (.cells #[.int .i64 x, .int .i64 y] 23)).alloc (.cells #[.int .i64 0, .int .i64 0] 23)).heap[w.heap.size + 1]? = some (.cells #[.int .i64 0, .int .i64 0] 23) := heap_lit_new _ _ _ (by simp)
    have g0 : Chg [] w ((w.alloc (.cells #[.int .i64 x, .int .i64 y] 23)).alloc (.cells #[.int .i64 0, .int .i64 0] 23)) := (Chg.alloc [] w _).t0 (Chg.alloc [] _ _)
    go_loopw [6] (fun i wr => ∃ j : Nat, j ≤ q ∧ i = .int .i64 j ∧ Chg [] w wr ∧ wr.heap[w.heap.size + 1]? = some (.cells #[.int .i64 0, .int .i64 0] 23) ∧ wr.heap[w.heap.size]? = some (.cells #[.int .i64 (rot j (x, y)).1, .int .i64 (rot j (x, y)).2] 23)) (fun i _ => q - (intOf i).toNat)
    case atStart => exact ⟨0, Nat.zero_le _, rfl, g0, s2, s1⟩
    case round =>
      clear g0 s1 s2
      obtain ⟨j, hj, rfl, g1, z2, z1⟩ := hrel
      obtain ⟨r1, r2⟩ := rot_near j (x, y) hx hy
      obtain ⟨d0, d1, _, _⟩ := cells2 z1
      by_cases hlt : j < q
      · have kr := fun w => krt w (rot j (x, y)).1 (rot j (x, y)).2 r1 r2
        have HS : Hid ((rot (j + 1) (x, y)).1 = -(rot j (x, y)).2 ∧ (rot (j + 1) (x, y)).2 = (rot j (x, y)).1) := Lib.hid ⟨rfl, rfl⟩
        generalize (rot j (x, y)).1 = X1 at *
        generalize (rot j (x, y)).2 = Y1 at *
        clear krt
        go_wp2_with (first
          | (go_at_call 15; refine (kr _).mono ?_; rintro e w2 ⟨rfl, g2⟩)
          | (refine store_rowC rfl _ _ _ rfl _ _ rfl [.int .i64 (-Y1), .int .i64 X1] rfl _ (g2.heap z1 (by simp)) (by kernel_rfl) rfl rfl ?_; intro W3 h3 g3 _))
        go_roundw
        case rel => exact ⟨j + 1, by omega, by go_num, (g1.t0 g2).tn g3 (by omega), g3.heap (g2.heap z2 (by simp)) (by simp), by rw [HS.out.1, HS.out.2]; exact h3⟩
        case measure => simp [intOf]; omega
      · have hjq : j = q := by omega
        subst hjq
        rw [← HXY.out.1, ← HXY.out.2] at z1
        rw [← HXY.out.1] at d0
        rw [← HXY.out.2] at d1
        go_wp2_with (refine store_rowC rfl _ _ _ rfl _ _ rfl [.int .i64 X, .int .i64 Y] rfl _ z2 (by kernel_rfl) rfl rfl ?_; intro W3 h3 g3 _)
        exact ret_row 4 23 rfl _ Try.underlying23 rfl [.int .i64 X, .int .i64 Y] (by kernel_rfl) rfl _ rfl (ra_block h3) ⟨rfl, g1.tn g3 (by omega)⟩
  · have H := Lib.hid h2
    clear h2
    go_enter Try.func17, Try.ntmps17
    go_wp2
    rw [H.out]
    clear H
    have s1 : ((w.alloc (.cells #[.int .i64 x, .int .i64 y] 23)).alloc (.cells #[.int .i64 0, .int .i64 0] 23)).heap[w.heap.size]? = some (.cells #[.int .i64 x, .int .i64 y] 23) := heap_lit_old (heap_alloc_new w _)
    have s2 : ((w.alloc (.cells #[.int .i64 x, .int .i64 y] 23)).alloc (.cells #[.int .i64 0, .int .i64 0] 23)).heap[w.heap.size + 1]? = some (.cells #[.int .i64 0, .int .i64 0] 23) := heap_lit_new _ _ _ (by simp)
    have g0 : Chg [] w ((w.alloc (.cells #[.int .i64 x, .int .i64 y] 23)).alloc (.cells #[.int .i64 0, .int .i64 0] 23)) := (Chg.alloc [] w _).t0 (Chg.alloc [] _ _)
    go_loopw [6] (fun i wr => ∃ j : Nat, j ≤ q ∧ i = .int .i64 j ∧ Chg [] w wr ∧ wr.heap[w.heap.size + 1]? = some (.cells #[.int .i64 0, .int .i64 0] 23) ∧ wr.heap[w.heap.size]? = some (.cells #[.int .i64 (rot j (x, y)).1, .int .i64 (rot j (x, y)).2] 23)) (fun i _ => q - (intOf i).toNat)
    case atStart => exact ⟨0, Nat.zero_le _, rfl, g0, s2, s1⟩
    case round =>
      clear g0 s1 s2
      obtain ⟨j, hj, rfl, g1, z2, z1⟩ := hrel
      obtain ⟨r1, r2⟩ := rot_near j (x, y) hx hy
      obtain ⟨d0, d1, _, _⟩ := cells2 z1
      by_cases hlt : j < q
      · have kr := fun w => krt w (rot j (x, y)).1 (rot j (x, y)).2 r1 r2
        have HS : Hid ((rot (j + 1) (x, y)).1 = -(rot j (x, y)).2 ∧ (rot (j + 1) (x, y)).2 = (rot j (x, y)).1) := Lib.hid ⟨rfl, rfl⟩
        generalize (rot j (x, y)).1 = X1 at *
        generalize (rot j (x, y)).2 = Y1 at *
        clear krt
        go_wp2_with (first
          | (go_at_call 15; refine (kr _).mono ?_; rintro e w2 ⟨rfl, g2⟩)
          | (refine store_rowC rfl _ _ _ rfl _ _ rfl [.int .i64 (-Y1), .int .i64 X1] rfl _ (g2.heap z1 (by simp)) (by kernel_rfl) rfl rfl ?_; intro W3 h3 g3 _))
        go_roundw
        case rel => exact ⟨j + 1, by omega, by go_num, (g1.t0 g2).tn g3 (by omega), g3.heap (g2.heap z2 (by simp)) (by simp), by rw [HS.out.1, HS.out.2]; exact h3⟩
        case measure => simp [intOf]; omega
      · have hjq : j = q := by omega
        subst hjq
        rw [← HXY.out.1, ← HXY.out.2] at z1
        rw [← HXY.out.1] at d0
        rw [← HXY.out.2] at d1
        go_wp2_with (refine store_rowC rfl _ _ _ rfl _ _ rfl [.int .i64 X, .int .i64 Y] rfl _ z2 (by kernel_rfl) rfl rfl ?_; intro W3 h3 g3 _)
        exact ret_row 4 23 rfl _ Try.underlying23 rfl [.int .i64 X, .int .i64 Y] (by kernel_rfl) rfl _ rfl (ra_block h3) ⟨rfl, g1.tn g3 (by omega)⟩

theorem rturn_ok (w : World) (x y n : Int) (hx : NearP x) (hy : NearP y) (hn : -9223372036854775808 ≤ n) (hn2 : n ≤ 9223372036854775807) :
    Calls Try.prog 17 #[pt x y, .int .i64 n] w fun e w' => e = .returned (pt (rot (quarters n) (x, y)).1 (rot (quarters n) (x, y)).2) ∧ Chg [] w w' := by
  have a := Int.tmod_lt_of_pos n (show (0 : Int) < 4 by decide)
  have b := Int.lt_tmod_of_pos n (show (0 : Int) < 4 by decide)
  exact rturn_q w x y n (quarters n) (by unfold quarters; omega) (by unfold quarters; omega) hx hy hn hn2
end Go.Proofs.Ytdfjpdgamahicaa
