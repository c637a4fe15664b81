/-
  The contracts of package point's functions: what each hands back of near points.
-/
import Derived.Test.YtdfjpdgamahicaaProg
import Derived.Test.YtdfjpdgamahicaaBase
import Derived.Test.YtdfjpdgamahicaaRowLaws
import Derived.Test.YtdfjpdgamahicaaFloat
import Derived.WalkLawsBesides
namespace Go.Proofs.Ytdfjpdgamahicaa
open Go.RowKit

def pt (x y : Int) : Value := .agg #[.int .i64 x, .int .i64 y]

theorem of_ok (w : World) (x y : Int) :
    Calls Try.prog 26 #[pt x y] w fun e w' => e = .returned (.complex .f64 (FloatKind.f64.nearest x) (FloatKind.f64.nearest y)) ∧ Chg [] w w' := by
  unfold pt
  go_enter Try.func26, Try.ntmps26
  go_wp2
  go_ret
  exact ⟨rfl, Chg.alloc _ _ _⟩

theorem point_ok (w : World) (a b : Nat) (x y : Int) (ha : F64 a x) (hb : F64 b y) (hx : Near53 x) (hy : Near53 y) :
    Calls Try.prog 25 #[.complex .f64 a b] w fun e w' => e = .returned (pt x y) ∧ Chg [] w w' := by
  have ka := fun w => run_convert_float_int (P := Try.prog) w 42 3 .f64 .i64 a x (by kernel_rfl) Try.underlying3 (f_int ha hx)
  have kb := fun w => run_convert_float_int (P := Try.prog) w 42 3 .f64 .i64 b y (by kernel_rfl) Try.underlying3 (f_int hb hy)
  unfold pt
  go_enter Try.func25, Try.ntmps25
  go_wp2
  exact bodyPost_ret (v := .agg #[.int .i64 x, .int .i64 y]) (by simp [results, Try.results25, go_sem]) rfl ⟨rfl, (Chg.alloc [] w _)⟩

/-- What two floats that are whole numbers make, part by part. -/
theorem complex_sum {a b c d : Nat} {x y u v : Int} (ha : F64 a x) (hb : F64 b y) (hc : F64 c u) (hd : F64 d v) (h1 : Near53 (x + u)) (h2 : Near53 (y + v)) :
    ∃ re im, F64 re (x + u) ∧ F64 im (y + v) ∧ ∀ (P : Program) (w : World) (t : TypeId), (binOp .add t (.complex .f64 a b) (.complex .f64 c d)).run P w = .ok (.complex .f64 re im) w := by
  obtain ⟨re, e1, f1⟩ := f_add ha hc h1
  obtain ⟨im, e2, f2⟩ := f_add hb hd h2
  exact ⟨re, im, f1, f2, fun P w t => run_complex_sum w .add (.inl rfl) t .f64 a b c d re im (by simp [cSumBits, e1, e2])⟩
theorem complex_diff {a b c d : Nat} {x y u v : Int} (ha : F64 a x) (hb : F64 b y) (hc : F64 c u) (hd : F64 d v) (h1 : Near53 (x - u)) (h2 : Near53 (y - v)) :
    ∃ re im, F64 re (x - u) ∧ F64 im (y - v) ∧ ∀ (P : Program) (w : World) (t : TypeId), (binOp .sub t (.complex .f64 a b) (.complex .f64 c d)).run P w = .ok (.complex .f64 re im) w := by
  obtain ⟨re, e1, f1⟩ := f_sub ha hc h1
  obtain ⟨im, e2, f2⟩ := f_sub hb hd h2
  exact ⟨re, im, f1, f2, fun P w t => run_complex_sum w .sub (.inr rfl) t .f64 a b c d re im (by simp [cSumBits, e1, e2])⟩
theorem complex_prod {a b c d : Nat} {x y u v : Int} (ha : F64 a x) (hb : F64 b y) (hc : F64 c u) (hd : F64 d v) (h1 : Near53 (x * u)) (h2 : Near53 (y * v)) (h3 : Near53 (x * u - y * v)) (h4 : Near53 (x * v)) (h5 : Near53 (y * u)) (h6 : Near53 (x * v + y * u)) :
    ∃ re im, F64 re (x * u - y * v) ∧ F64 im (x * v + y * u) ∧ ∀ (P : Program) (w : World) (t : TypeId), (binOp .mul t (.complex .f64 a b) (.complex .f64 c d)).run P w = .ok (.complex .f64 re im) w := by
  obtain ⟨r1, e1, f1⟩ := f_mul ha hc h1
  obtain ⟨r2, e2, f2⟩ := f_mul hb hd h2
  obtain ⟨r3, e3, f3⟩ := f_sub f1 f2 h3
  obtain ⟨r4, e4, f4⟩ := f_mul ha hd h4
  obtain ⟨r5, e5, f5⟩ := f_mul hb hc h5
  obtain ⟨r6, e6, f6⟩ := f_add f4 f5 h6
  exact ⟨r3, r6, f3, f6, fun P w t => run_complex_mul w t a b c d r3 r6 (by simp [cMulBits, e1, e2, e3, e4, e5, e6])⟩

/-- The coordinates are at most 2^21 away from nought. -/
def NearP (x : Int) : Prop := -2097152 ≤ x ∧ x ≤ 2097152
theorem NearP.w {x : Int} (h : NearP x) : Near53 x := by unfold NearP at h; unfold Near53; omega
theorem near_mul {x y : Int} {A B : Int} (hx : -A ≤ x ∧ x ≤ A) (hy : -B ≤ y ∧ y ≤ B) : -(A * B) ≤ x * y ∧ x * y ≤ A * B := by
  have hA : 0 ≤ A := by omega
  have hB : 0 ≤ B := by omega
  have h : (x.natAbs : Int) * (y.natAbs : Int) ≤ A * B := Int.mul_le_mul (by omega) (by omega) (by omega) hA
  have e : (x.natAbs : Int) * (y.natAbs : Int) = ((x * y).natAbs : Int) := by rw [Int.natAbs_mul]; simp
  rw [e] at h
  omega
theorem NearP.mul {x y : Int} (hx : NearP x) (hy : NearP y) : -4398046511104 ≤ x * y ∧ x * y ≤ 4398046511104 := near_mul hx hy


theorem add_ok (w : World) (x y u v : Int) (hx : NearP x) (hy : NearP y) (hu : NearP u) (hv : NearP v) :
    Calls Try.prog 10 #[pt x y, pt u v] w fun e w' => e = .returned (pt (x + u) (y + v)) ∧ Chg [] w w' := by
  have m1 := hx.mul hu
  have m2 := hy.mul hv
  have m3 := hx.mul hv
  have m4 := hy.mul hu
  obtain ⟨re, im, f1, f2, hrun⟩ := complex_sum (f_of_int hx.w) (f_of_int hy.w) (f_of_int hu.w) (f_of_int hv.w) (by unfold NearP at *; unfold Near53; omega) (by unfold NearP at *; unfold Near53; omega)
  have h1 : Near53 (x + u) := by unfold NearP at *; unfold Near53; omega
  have h2 : Near53 (y + v) := by unfold NearP at *; unfold Near53; omega
  have krun := hrun Try.prog
  clear hrun
  have kof := fun w => of_ok w x y
  have kof2 := fun w => of_ok w u v
  have kpt := fun w => point_ok w re im _ _ f1 f2 h1 h2
  clear m1 m2 m3 m4
  generalize x + u = X at *
  generalize y + v = Y at *
  unfold pt at *
  go_enter Try.func10, Try.ntmps10
  go_wp2
  have c0 : World.rangeAt (((w.alloc (.cells #[.int .i64 x, .int .i64 y] 23)).alloc (.cells #[.int .i64 u, .int .i64 v] 23)).alloc (.cells #[.int .i64 0, .int .i64 0] 23)) w.heap.size 0 [.int .i64 x, .int .i64 y] := ra2 (by go_simp) (by go_simp)
  have c1 : World.rangeAt (((w.alloc (.cells #[.int .i64 x, .int .i64 y] 23)).alloc (.cells #[.int .i64 u, .int .i64 v] 23)).alloc (.cells #[.int .i64 0, .int .i64 0] 23)) (w.heap.size + 1) 0 [.int .i64 u, .int .i64 v] := ra2 (by go_simp) (by go_simp)
  have g0 : Chg [] w (((w.alloc (.cells #[.int .i64 x, .int .i64 y] 23)).alloc (.cells #[.int .i64 u, .int .i64 v] 23)).alloc (.cells #[.int .i64 0, .int .i64 0] 23)) := ((Chg.alloc [] w _).t0 (Chg.alloc [] _ _)).t0 (Chg.alloc [] _ _)
  have s2 : (((w.alloc (.cells #[.int .i64 x, .int .i64 y] 23)).alloc (.cells #[.int .i64 u, .int .i64 v] 23)).alloc (.cells #[.int .i64 0, .int .i64 0] 23)).heap[w.heap.size + 1 + 1]? = some (.cells #[.int .i64 0, .int .i64 0] 23) := heap_lit_new _ _ _ (by simp)
  generalize (((w.alloc (.cells #[.int .i64 x, .int .i64 y] 23)).alloc (.cells #[.int .i64 u, .int .i64 v] 23)).alloc (.cells #[.int .i64 0, .int .i64 0] 23)) = W1 at *
  refine region_quiet_tailC 6 (by kernel_rfl) (by kernel_rfl) ?_
  simp only [List.take_succ_cons, List.take_zero, List.drop_succ_cons, List.drop_zero]
  repeat (first
    | (refine quiet_loadC rfl _ _ rfl _ _ rfl _ _ c0 Try.underlying23 rfl (by kernel_rfl) ?_)
    | (refine quiet_loadC rfl _ _ rfl _ _ rfl _ _ c1 Try.underlying23 rfl (by kernel_rfl) ?_)
    | quiet_step ((intro hx; first | rfl | with_reducible exact Calls.quietC hx (kof _) | with_reducible exact Calls.quietC hx (kof2 _) | with_reducible exact Calls.quietC hx (kpt _))))
  refine wpQuiet_nil ?_
  intro W2 hW2
  refine store_rowC rfl _ _ _ rfl _ _ rfl [.int .i64 X, .int .i64 Y] rfl _ (hW2.heap s2 (by simp)) (by kernel_rfl) rfl rfl ?_
  intro W3 h3 g3 _
  go_wp2
  exact ret_row 4 23 rfl _ Try.underlying23 rfl [.int .i64 X, .int .i64 Y] (by kernel_rfl) rfl _ rfl (ra_block h3) ⟨rfl, (g0.t0 hW2).tn g3 (by omega)⟩

theorem sub_ok (w : World) (x y u v : Int) (hx : NearP x) (hy : NearP y) (hu : NearP u) (hv : NearP v) :
    Calls Try.prog 12 #[pt x y, pt u v] w fun e w' => e = .returned (pt (x - u) (y - v)) ∧ Chg [] w w' := by
  have m1 := hx.mul hu
  have m2 := hy.mul hv
  have m3 := hx.mul hv
  have m4 := hy.mul hu
  obtain ⟨re, im, f1, f2, hrun⟩ := complex_diff (f_of_int hx.w) (f_of_int hy.w) (f_of_int hu.w) (f_of_int hv.w) (by unfold NearP at *; unfold Near53; omega) (by unfold NearP at *; unfold Near53; omega)
  have h1 : Near53 (x - u) := by unfold NearP at *; unfold Near53; omega
  have h2 : Near53 (y - v) := by unfold NearP at *; unfold Near53; omega
  have krun := hrun Try.prog
  clear hrun
  have kof := fun w => of_ok w x y
  have kof2 := fun w => of_ok w u v
  have kpt := fun w => point_ok w re im _ _ f1 f2 h1 h2
  clear m1 m2 m3 m4
  generalize x - u = X at *
  generalize y - v = Y at *
  unfold pt at *
  go_enter Try.func12, Try.ntmps12
  go_wp2
  have c0 : World.rangeAt (((w.alloc (.cells #[.int .i64 x, .int .i64 y] 23)).alloc (.cells #[.int .i64 u, .int .i64 v] 23)).alloc (.cells #[.int .i64 0, .int .i64 0] 23)) w.heap.size 0 [.int .i64 x, .int .i64 y] := ra2 (by go_simp) (by go_simp)
  have c1 : World.rangeAt (((w.alloc (.cells #[.int .i64 x, .int .i64 y] 23)).alloc (.cells #[.int .i64 u, .int .i64 v] 23)).alloc (.cells #[.int .i64 0, .int .i64 0] 23)) (w.heap.size + 1) 0 [.int .i64 u, .int .i64 v] := ra2 (by go_simp) (by go_simp)
  have g0 : Chg [] w (((w.alloc (.cells #[.int .i64 x, .int .i64 y] 23)).alloc (.cells #[.int .i64 u, .int .i64 v] 23)).alloc (.cells #[.int .i64 0, .int .i64 0] 23)) := ((Chg.alloc [] w _).t0 (Chg.alloc [] _ _)).t0 (Chg.alloc [] _ _)
  have s2 : (((w.alloc (.cells #[.int .i64 x, .int .i64 y] 23)).alloc (.cells #[.int .i64 u, .int .i64 v] 23)).alloc (.cells #[.int .i64 0, .int .i64 0] 23)).heap[w.heap.size + 1 + 1]? = some (.cells #[.int .i64 0, .int .i64 0] 23) := heap_lit_new _ _ _ (by simp)
  generalize (((w.alloc (.cells #[.int .i64 x, .int .i64 y] 23)).alloc (.cells #[.int .i64 u, .int .i64 v] 23)).alloc (.cells #[.int .i64 0, .int .i64 0] 23)) = W1 at *
  refine region_quiet_tailC 6 (by kernel_rfl) (by kernel_rfl) ?_
  simp only [List.take_succ_cons, List.take_zero, List.drop_succ_cons, List.drop_zero]
  repeat (first
    | (refine quiet_loadC rfl _ _ rfl _ _ rfl _ _ c0 Try.underlying23 rfl (by kernel_rfl) ?_)
    | (refine quiet_loadC rfl _ _ rfl _ _ rfl _ _ c1 Try.underlying23 rfl (by kernel_rfl) ?_)
    | quiet_step ((intro hx; first | rfl | with_reducible exact Calls.quietC hx (kof _) | with_reducible exact Calls.quietC hx (kof2 _) | with_reducible exact Calls.quietC hx (kpt _))))
  refine wpQuiet_nil ?_
  intro W2 hW2
  refine store_rowC rfl _ _ _ rfl _ _ rfl [.int .i64 X, .int .i64 Y] rfl _ (hW2.heap s2 (by simp)) (by kernel_rfl) rfl rfl ?_
  intro W3 h3 g3 _
  go_wp2
  exact ret_row 4 23 rfl _ Try.underlying23 rfl [.int .i64 X, .int .i64 Y] (by kernel_rfl) rfl _ rfl (ra_block h3) ⟨rfl, (g0.t0 hW2).tn g3 (by omega)⟩

theorem mul_ok (w : World) (x y u v : Int) (hx : NearP x) (hy : NearP y) (hu : NearP u) (hv : NearP v) :
    Calls Try.prog 14 #[pt x y, pt u v] w fun e w' => e = .returned (pt (x * u - y * v) (x * v + y * u)) ∧ Chg [] w w' := by
  have m1 := hx.mul hu
  have m2 := hy.mul hv
  have m3 := hx.mul hv
  have m4 := hy.mul hu
  obtain ⟨re, im, f1, f2, hrun⟩ := complex_prod (f_of_int hx.w) (f_of_int hy.w) (f_of_int hu.w) (f_of_int hv.w) (by unfold NearP at *; unfold Near53; omega) (by unfold NearP at *; unfold Near53; omega) (by unfold NearP at *; unfold Near53; omega) (by unfold NearP at *; unfold Near53; omega) (by unfold NearP at *; unfold Near53; omega) (by unfold NearP at *; unfold Near53; omega)
  have h1 : Near53 (x * u - y * v) := by unfold NearP at *; unfold Near53; omega
  have h2 : Near53 (x * v + y * u) := by unfold NearP at *; unfold Near53; omega
  have krun := hrun Try.prog
  clear hrun
  have kof := fun w => of_ok w x y
  have kof2 := fun w => of_ok w u v
  have kpt := fun w => point_ok w re im _ _ f1 f2 h1 h2
  clear m1 m2 m3 m4
  generalize x * u - y * v = X at *
  generalize x * v + y * u = Y at *
  unfold pt at *
  go_enter Try.func14, Try.ntmps14
  go_wp2
  have c0 : World.rangeAt (((w.alloc (.cells #[.int .i64 x, .int .i64 y] 23)).alloc (.cells #[.int .i64 u, .int .i64 v] 23)).alloc (.cells #[.int .i64 0, .int .i64 0] 23)) w.heap.size 0 [.int .i64 x, .int .i64 y] := ra2 (by go_simp) (by go_simp)
  have c1 : World.rangeAt (((w.alloc (.cells #[.int .i64 x, .int .i64 y] 23)).alloc (.cells #[.int .i64 u, .int .i64 v] 23)).alloc (.cells #[.int .i64 0, .int .i64 0] 23)) (w.heap.size + 1) 0 [.int .i64 u, .int .i64 v] := ra2 (by go_simp) (by go_simp)
  have g0 : Chg [] w (((w.alloc (.cells #[.int .i64 x, .int .i64 y] 23)).alloc (.cells #[.int .i64 u, .int .i64 v] 23)).alloc (.cells #[.int .i64 0, .int .i64 0] 23)) := ((Chg.alloc [] w _).t0 (Chg.alloc [] _ _)).t0 (Chg.alloc [] _ _)
  have s2 : (((w.alloc (.cells #[.int .i64 x, .int .i64 y] 23)).alloc (.cells #[.int .i64 u, .int .i64 v] 23)).alloc (.cells #[.int .i64 0, .int .i64 0] 23)).heap[w.heap.size + 1 + 1]? = some (.cells #[.int .i64 0, .int .i64 0] 23) := heap_lit_new _ _ _ (by simp)
  generalize (((w.alloc (.cells #[.int .i64 x, .int .i64 y] 23)).alloc (.cells #[.int .i64 u, .int .i64 v] 23)).alloc (.cells #[.int .i64 0, .int .i64 0] 23)) = W1 at *
  refine region_quiet_tailC 6 (by kernel_rfl) (by kernel_rfl) ?_
  simp only [List.take_succ_cons, List.take_zero, List.drop_succ_cons, List.drop_zero]
  repeat (first
    | (refine quiet_loadC rfl _ _ rfl _ _ rfl _ _ c0 Try.underlying23 rfl (by kernel_rfl) ?_)
    | (refine quiet_loadC rfl _ _ rfl _ _ rfl _ _ c1 Try.underlying23 rfl (by kernel_rfl) ?_)
    | quiet_step ((intro hx; first | rfl | with_reducible exact Calls.quietC hx (kof _) | with_reducible exact Calls.quietC hx (kof2 _) | with_reducible exact Calls.quietC hx (kpt _))))
  refine wpQuiet_nil ?_
  intro W2 hW2
  refine store_rowC rfl _ _ _ rfl _ _ rfl [.int .i64 X, .int .i64 Y] rfl _ (hW2.heap s2 (by simp)) (by kernel_rfl) rfl rfl ?_
  intro W3 h3 g3 _
  go_wp2
  exact ret_row 4 23 rfl _ Try.underlying23 rfl [.int .i64 X, .int .i64 Y] (by kernel_rfl) rfl _ rfl (ra_block h3) ⟨rfl, (g0.t0 hW2).tn g3 (by omega)⟩

/-- A point, turned by k quarters. -/
def rot : Nat → Int × Int → Int × Int
  | 0, p => p
  | k + 1, p => (-(rot k p).2, (rot k p).1)
theorem rot_near (k : Nat) (p : Int × Int) (h1 : NearP p.1) (h2 : NearP p.2) : NearP (rot k p).1 ∧ NearP (rot k p).2 := by
  induction k with
  | zero => exact ⟨h1, h2⟩
  | succ k ih => obtain ⟨a, b⟩ := ih; unfold NearP at *; simp only [rot]; omega
def quarters (n : Int) : Nat := ((n.tmod 4 + 4) % 4).toNat

theorem turn_q (w : World) (x y n : Int) (q : Nat) (hq3 : q ≤ 3) (HQ : Hid ((n.tmod 4 + 4) % 4 = (q : Int))) (hm1 : -3 ≤ n.tmod 4 ∧ n.tmod 4 ≤ 3) (hx : NearP x) (hy : NearP y) (hn : -9223372036854775808 ≤ n) (hn2 : n ≤ 9223372036854775807) :
    Calls Try.prog 16 #[pt x y, .int .i64 n] w fun e w' => e = .returned (pt (rot q (x, y)).1 (rot q (x, y)).2) ∧ Chg [] w w' := by
  have kof := fun w => of_ok w x y
  obtain ⟨hm1, hm2⟩ := hm1
  obtain ⟨X, Y, hXY⟩ : ∃ X Y, X = (rot q (x, y)).1 ∧ Y = (rot q (x, y)).2 := ⟨_, _, rfl, rfl⟩
  rw [← hXY.1, ← hXY.2]
  have HXY := Lib.hid hXY
  clear hXY
  unfold pt at *
  go_enter Try.func16, Try.ntmps16
  go_wp2_with (go_at_call 26; refine (kof _).mono ?_; rintro e w1 ⟨rfl, g1⟩)
  rw [HQ.out]
  clear HQ
  have g1' : Chg [] w w1 := ((Chg.alloc [] w _).t0 (Chg.alloc [] _ _)).t0 g1
  have s2 : w1.heap[w.heap.size + 1]? = some (.cells #[.int .i64 0, .int .i64 0] 23) := g1.heap (heap_lit_new _ _ _ (by simp)) (by simp)
  clear g1 kof
  go_loop [5, 12] (fun z i => ∃ j : Nat, j ≤ q ∧ i = .int .i64 j ∧ ∃ a b, z = .complex .f64 a b ∧ F64 a (rot j (x, y)).1 ∧ F64 b (rot j (x, y)).2) (fun _ i => q - (intOf i).toNat)
  case atStart => exact ⟨0, Nat.zero_le _, rfl, _, _, rfl, f_of_int hx.w, f_of_int hy.w⟩
  case round =>
    obtain ⟨j, hj, rfl, a, b, rfl, fa, fb⟩ := hrel
    obtain ⟨r1, r2⟩ := rot_near j (x, y) hx hy
    by_cases hlt : j < q
    · obtain ⟨re, im, f1, f2, hrun⟩ := complex_prod fa fb f_zero f_one (by simp [Near53]) (by unfold NearP at *; unfold Near53; omega) (by unfold NearP at *; unfold Near53; omega) (by unfold NearP at *; unfold Near53; omega) (by simp [Near53]) (by unfold NearP at *; unfold Near53; omega)
      have krun := hrun Try.prog
      have F1 : F64 re (rot (j + 1) (x, y)).1 := by simp only [rot]; simpa using f1
      have F2 : F64 im (rot (j + 1) (x, y)).2 := by simp only [rot]; simpa using f2
      clear hrun f1 f2 fa fb
      go_wp2
      go_round
      case rel => exact ⟨j + 1, by omega, by go_num, re, im, rfl, F1, F2⟩
      case measure => simp [intOf]; omega
    · have hjq : j = q := by omega
      subst hjq
      rw [← HXY.out.1] at fa r1
      rw [← HXY.out.2] at fb r2
      have kpt := fun w => point_ok w a b _ _ fa fb r1.w r2.w
      unfold pt at kpt
      clear fa fb
      go_wp2_with (first
        | (go_at_call 25; refine (kpt _).mono ?_; rintro e w2 ⟨rfl, g2⟩)
        | (refine store_rowC rfl _ _ _ rfl _ _ rfl [.int .i64 X, .int .i64 Y] rfl _ (g2.heap s2 (by simp)) (by kernel_rfl) rfl rfl ?_; intro W3 h3 g3 _))
      exact ret_row 4 23 rfl _ Try.underlying23 rfl [.int .i64 X, .int .i64 Y] (by kernel_rfl) rfl _ rfl (ra_block h3) ⟨rfl, (g1'.t0 g2).tn g3 (by omega)⟩
theorem turn_ok (w : World) (x y n : Int) (hx : NearP x) (hy : NearP y) (hn : -9223372036854775808 ≤ n) (hn2 : n ≤ 9223372036854775807) :
    Calls Try.prog 16 #[pt x y, .int .i64 n] w fun e w' => e = .returned (pt (rot (quarters n) (x, y)).1 (rot (quarters n) (x, y)).2) ∧ Chg [] w w' := by
  have hm1 : -3 ≤ n.tmod 4 ∧ n.tmod 4 ≤ 3 := by
    have a := Int.tmod_lt_of_pos n (show (0 : Int) < 4 by decide)
    have b := Int.lt_tmod_of_pos n (show (0 : Int) < 4 by decide)
    omega
  exact turn_q w x y n (quarters n) (by unfold quarters; omega) (Lib.hid (by unfold quarters; omega)) hm1 hx hy hn hn2

def normP (x y : Int) : Int := x * x + y * y
theorem norm_ok (w : World) (x y : Int) (hx : NearP x) (hy : NearP y) :
    Calls Try.prog 18 #[pt x y] w fun e w' => e = .returned (.int .i64 (normP x y)) ∧ Chg [] w w' := by
  have kof := fun w => of_ok w x y
  have m1 := hx.mul hx
  have m2 := hy.mul hy
  have m3 := hx.mul hy
  have e1 : y * -y = -(y * y) := Int.mul_neg ..
  have e2 : x * -y = -(x * y) := Int.mul_neg ..
  have e3 : y * x = x * y := Int.mul_comm ..
  obtain ⟨re, im, f1, f2, hrun⟩ := complex_prod (f_of_int hx.w) (f_of_int hy.w) (f_of_int hx.w) (f_neg (f_of_int hy.w)) (by unfold Near53; omega) (by unfold Near53; omega) (by unfold Near53; omega) (by unfold Near53; omega) (by unfold Near53; omega) (by unfold Near53; omega)
  have krun := hrun Try.prog
  have hz : x * x - y * -y = normP x y := by unfold normP; omega
  rw [hz] at f1
  have ka := fun w => run_convert_float_int (P := Try.prog) w 42 3 .f64 .i64 re (normP x y) (by kernel_rfl) Try.underlying3 (f_int f1 (by unfold normP Near53; omega))
  have kneg : Op.unary .neg (.float .f64 (FloatKind.f64.nearest y)) = pure (.float .f64 (Op.negFloat .f64 (FloatKind.f64.nearest y))) := rfl
  generalize normP x y = N at *
  clear f1 f2 hrun m1 m2 m3 e1 e2 e3 hz
  unfold pt at *
  go_enter Try.func18, Try.ntmps18
  go_wp2_with (go_at_call 26; refine (kof _).mono ?_; rintro e w1 ⟨rfl, g1⟩)
  go_ret
  exact ⟨rfl, (Chg.alloc [] w _).t0 g1⟩

theorem isNaN_ok (w : World) (x : Int) : Calls Try.prog 30 #[.int .i64 x] w fun e w' => e = .returned (.bool false) ∧ w = w' := by
  go_enter Try.func30, Try.ntmps30
  go_wp2
  go_ret
  exact ⟨by simp, rfl⟩
def sgn (x y : Int) : Int := if x < y then -1 else if y < x then 1 else 0
theorem cmpc_ok (w : World) (x y : Int) : Calls Try.prog 28 #[.int .i64 x, .int .i64 y] w fun e w' => e = .returned (.int .i64 (sgn x y)) ∧ w = w' := by
  have k1 := fun w => isNaN_ok w x
  have k2 := fun w => isNaN_ok w y
  unfold sgn
  rcases Int.lt_trichotomy x y with h | h | h
  · rw [if_pos h]
    go_enter Try.func28, Try.ntmps28
    go_wp2_with (go_at_call 30; first | (with_reducible refine (k1 _).mono ?_); rintro e w1 ⟨rfl, rfl⟩ | (with_reducible refine (k2 _).mono ?_); rintro e w1 ⟨rfl, rfl⟩)
    go_ret
    exact ⟨rfl, rfl⟩
  · subst h
    rw [if_neg (by omega), if_neg (by omega)]
    have h2 : decide (x < x) = false := by simp
    go_enter Try.func28, Try.ntmps28
    go_wp2_with (go_at_call 30; first | (with_reducible refine (k1 _).mono ?_); rintro e w1 ⟨rfl, rfl⟩ | (with_reducible refine (k2 _).mono ?_); rintro e w1 ⟨rfl, rfl⟩)
    go_ret
    exact ⟨rfl, rfl⟩
  · have h0 : ¬ x < y := by omega
    rw [if_neg h0, if_pos h]
    go_enter Try.func28, Try.ntmps28
    go_wp2_with (go_at_call 30; first | (with_reducible refine (k1 _).mono ?_); rintro e w1 ⟨rfl, rfl⟩ | (with_reducible refine (k2 _).mono ?_); rintro e w1 ⟨rfl, rfl⟩)
    go_ret
    exact ⟨rfl, rfl⟩
end Go.Proofs.Ytdfjpdgamahicaa
