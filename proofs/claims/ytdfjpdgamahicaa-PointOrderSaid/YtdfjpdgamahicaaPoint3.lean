/-
  The ranges, and the document's own points.
-/
import Derived.Test.YtdfjpdgamahicaaPoint2
namespace Go.Proofs.Ytdfjpdgamahicaa
open Go.RowKit

def inB (n m : Int) : Bool := decide (-m ≤ n ∧ n ≤ m)
theorem in_ok (w : World) (n m : Int) (h0 : 0 ≤ m) (h1 : m ≤ 2097152) : Calls Try.prog 24 #[.int .i64 n, .int .i64 m] w fun e w' => e = .returned (.bool (inB n m)) ∧ w = w' := by
  unfold inB
  by_cases h2 : -m ≤ n
  · have e : decide (-m ≤ n ∧ n ≤ m) = decide (n ≤ m) := by simp [h2]
    rw [e]
    clear e
    go_enter Try.func24, Try.ntmps24
    go_wp2
    go_ret
    exact ⟨rfl, rfl⟩
  · have e : decide (-m ≤ n ∧ n ≤ m) = false := by simp [h2]
    rw [e]
    clear e
    have h2' : n < -m := by omega
    go_enter Try.func24, Try.ntmps24
    go_wp2
    go_ret
    exact ⟨rfl, rfl⟩
def rightB (x y : Int) : Bool := inB x 1048576 && inB y 1048576
theorem right_ok (w : World) (x y : Int) : Calls Try.prog 8 #[pt x y] w fun e w' => e = .returned (.bool (rightB x y)) ∧ Chg [] w w' := by
  have k1 := fun w => in_ok w x 1048576 (by decide) (by decide)
  have k2 := fun w => in_ok w y 1048576 (by decide) (by decide)
  unfold rightB
  generalize inB x 1048576 = a at *
  generalize inB y 1048576 = b at *
  unfold pt
  cases a <;>
  · go_enter Try.func8, Try.ntmps8
    go_wp2_with (go_at_call 24; first | (with_reducible refine (k1 _).mono ?_); rintro e w1 ⟨rfl, rfl⟩ | (with_reducible refine (k2 _).mono ?_); rintro e w1 ⟨rfl, rfl⟩)
    go_ret
    exact ⟨rfl, Chg.alloc _ _ _⟩
theorem rright_ok (w : World) (x y : Int) : Calls Try.prog 9 #[pt x y] w fun e w' => e = .returned (.bool (rightB x y)) ∧ Chg [] w w' := by
  unfold rightB inB pt
  by_cases h1 : -1048576 ≤ x
  · by_cases h2 : x ≤ 1048576
    · by_cases h3 : -1048576 ≤ y
      · have e : (decide (-1048576 ≤ x ∧ x ≤ 1048576) && decide (-1048576 ≤ y ∧ y ≤ 1048576)) = decide (y ≤ 1048576) := by simp [h1, h2, h3]
        rw [e]
        clear e
        go_enter Try.func9, Try.ntmps9
        go_wp2
        go_ret
        exact ⟨rfl, Chg.alloc _ _ _⟩
      · have e : (decide (-1048576 ≤ x ∧ x ≤ 1048576) && decide (-1048576 ≤ y ∧ y ≤ 1048576)) = false := by simp [h3]
        rw [e]
        clear e
        have h4 : y < -1048576 := by omega
        go_enter Try.func9, Try.ntmps9
        go_wp2
        go_ret
        exact ⟨rfl, Chg.alloc _ _ _⟩
    · have e : (decide (-1048576 ≤ x ∧ x ≤ 1048576) && decide (-1048576 ≤ y ∧ y ≤ 1048576)) = false := by simp [h2]
      rw [e]
      clear e
      have h4 : 1048576 < x := by omega
      go_enter Try.func9, Try.ntmps9
      go_wp2
      go_ret
      exact ⟨rfl, Chg.alloc _ _ _⟩
  · have e : (decide (-1048576 ≤ x ∧ x ≤ 1048576) && decide (-1048576 ≤ y ∧ y ≤ 1048576)) = false := by simp [h1]
    rw [e]
    clear e
    have h4 : x < -1048576 := by omega
    go_enter Try.func9, Try.ntmps9
    go_wp2
    go_ret
    exact ⟨rfl, Chg.alloc _ _ _⟩

theorem radd_ok (w : World) (x y u v : Int) (hx : NearP x) (hy : NearP y) (hu : NearP u) (hv : NearP v) :
    Calls Try.prog 11 #[pt x y, pt u v] w fun e w' => e = .returned (pt (x + u) (y + v)) ∧ Chg [] w w' := by
  unfold NearP at *
  obtain ⟨m1, n1⟩ := hx
  obtain ⟨m2, n2⟩ := hy
  obtain ⟨m3, n3⟩ := hu
  obtain ⟨m4, n4⟩ := hv
  unfold pt
  go_enter Try.func11, Try.ntmps11
  go_wp2_with (refine store_rowC rfl _ _ _ rfl _ _ rfl [.int .i64 (x + u), .int .i64 (y + v)] rfl _ (heap_lit_new _ _ _ (by simp)) (by kernel_rfl) rfl rfl ?_; intro W3 h3 g3 _)
  exact ret_row 4 23 rfl _ Try.underlying23 rfl [.int .i64 (x + u), .int .i64 (y + v)] (by kernel_rfl) rfl _ rfl (ra_block h3) ⟨rfl, (((Chg.alloc [] w _).t0 (Chg.alloc [] _ _)).t0 (Chg.alloc [] _ _)).tn g3 (by omega)⟩

theorem rsub_ok (w : World) (x y u v : Int) (hx : NearP x) (hy : NearP y) (hu : NearP u) (hv : NearP v) :
    Calls Try.prog 13 #[pt x y, pt u v] w fun e w' => e = .returned (pt (x - u) (y - v)) ∧ Chg [] w w' := by
  unfold NearP at *
  obtain ⟨m1, n1⟩ := hx
  obtain ⟨m2, n2⟩ := hy
  obtain ⟨m3, n3⟩ := hu
  obtain ⟨m4, n4⟩ := hv
  unfold pt
  go_enter Try.func13, Try.ntmps13
  go_wp2_with (refine store_rowC rfl _ _ _ rfl _ _ rfl [.int .i64 (x - u), .int .i64 (y - v)] rfl _ (heap_lit_new _ _ _ (by simp)) (by kernel_rfl) rfl rfl ?_; intro W3 h3 g3 _)
  exact ret_row 4 23 rfl _ Try.underlying23 rfl [.int .i64 (x - u), .int .i64 (y - v)] (by kernel_rfl) rfl _ rfl (ra_block h3) ⟨rfl, (((Chg.alloc [] w _).t0 (Chg.alloc [] _ _)).t0 (Chg.alloc [] _ _)).tn g3 (by omega)⟩

theorem rmul_ok (w : World) (x y u v : Int) (hx : NearP x) (hy : NearP y) (hu : NearP u) (hv : NearP v) :
    Calls Try.prog 15 #[pt x y, pt u v] w fun e w' => e = .returned (pt (x * u - y * v) (x * v + y * u)) ∧ Chg [] w w' := by
  obtain ⟨m1, n1⟩ := hx.mul hu
  obtain ⟨m2, n2⟩ := hy.mul hv
  obtain ⟨m3, n3⟩ := hx.mul hv
  obtain ⟨m4, n4⟩ := hy.mul hu
  clear hx hy hu hv
  unfold pt
  go_enter Try.func15, Try.ntmps15
  go_wp2_with (refine store_rowC rfl _ _ _ rfl _ _ rfl [.int .i64 (x * u - y * v), .int .i64 (x * v + y * u)] rfl _ (heap_lit_new _ _ _ (by simp)) (by kernel_rfl) rfl rfl ?_; intro W3 h3 g3 _)
  exact ret_row 4 23 rfl _ Try.underlying23 rfl [.int .i64 (x * u - y * v), .int .i64 (x * v + y * u)] (by kernel_rfl) rfl _ rfl (ra_block h3) ⟨rfl, (((Chg.alloc [] w _).t0 (Chg.alloc [] _ _)).t0 (Chg.alloc [] _ _)).tn g3 (by omega)⟩

theorem rnorm_ok (w : World) (x y : Int) (hx : NearP x) (hy : NearP y) :
    Calls Try.prog 19 #[pt x y] w fun e w' => e = .returned (.int .i64 (normP x y)) ∧ Chg [] w w' := by
  obtain ⟨m1, n1⟩ := hx.mul hx
  obtain ⟨m2, n2⟩ := hy.mul hy
  clear hx hy
  unfold pt normP
  go_enter Try.func19, Try.ntmps19
  go_wp2
  go_ret
  exact ⟨rfl, Chg.alloc _ _ _⟩

theorem rsign_ok (w : World) (x y : Int) : Calls Try.prog 29 #[.int .i64 x, .int .i64 y] w fun e w' => e = .returned (.int .i64 (sgn x y)) ∧ Chg [] w w' := by
  unfold sgn
  rcases Int.lt_trichotomy x y with h | h | h
  · rw [if_pos h]
    go_enter Try.func29, Try.ntmps29
    go_wp2
    go_ret
    exact ⟨rfl, Chg.refl _ _⟩
  · subst h
    rw [if_neg (by omega), if_neg (by omega)]
    have h2 : decide (x < x) = false := by simp
    go_enter Try.func29, Try.ntmps29
    go_wp2
    go_ret
    exact ⟨rfl, Chg.refl _ _⟩
  · have h0 : ¬ x < y := by omega
    rw [if_neg h0, if_pos h]
    go_enter Try.func29, Try.ntmps29
    go_wp2
    go_ret
    exact ⟨rfl, Chg.refl _ _⟩

theorem sgn_zero {a b : Int} : sgn a b = 0 ↔ a = b := by
  unfold sgn; split
  · simp; omega
  · split
    · simp; omega
    · simp; omega
theorem cmpP_norm {x y u v : Int} (h : normP x y ≠ normP u v) : cmpP x y u v = sgn (normP x y) (normP u v) := by
  have : sgn (normP x y) (normP u v) ≠ 0 := fun e => h (sgn_zero.1 e)
  simp [cmpP, orF, this]
theorem cmpP_x {x y u v : Int} (h : normP x y = normP u v) (h2 : x ≠ u) : cmpP x y u v = sgn x u := by
  have h1 : sgn (normP x y) (normP u v) = 0 := sgn_zero.2 h
  have : sgn x u ≠ 0 := fun e => h2 (sgn_zero.1 e)
  simp [cmpP, orF, h1, this]
theorem cmpP_y {x y u v : Int} (h : normP x y = normP u v) (h2 : x = u) : cmpP x y u v = sgn y v := by
  have h1 : sgn (normP x y) (normP u v) = 0 := sgn_zero.2 h
  have : sgn x u = 0 := sgn_zero.2 h2
  simp only [cmpP, orF, h1, this, if_true]
  split <;> simp_all

end Go.Proofs.Ytdfjpdgamahicaa
