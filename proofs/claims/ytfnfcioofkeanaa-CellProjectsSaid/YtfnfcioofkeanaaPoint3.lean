/-
  The ranges, and the document's own points.
-/
import Derived.Test.YtfnfcioofkeanaaPoint2
namespace Go.Proofs.Ytfnfcioofkeanaa
set_option linter.unusedSimpArgs false
set_option linter.unusedVariables false
open Go.RowKit

def inB (n m : Int) : Bool := decide (-m ≤ n ∧ n ≤ m)
theorem in_ok (w : World) (n m : Int) (h0 : 0 ≤ m) (h1 : m ≤ 2097152) : Calls Try.prog 73 #[.int .i64 n, .int .i64 m] w fun e w' => e = .returned (.bool (inB n m)) ∧ w = w' := by
  unfold inB
  by_cases h2 : -m ≤ n
  · have e : decide (-m ≤ n ∧ n ≤ m) = decide (n ≤ m) := by simp [h2]
    rw [e]
    clear e
    go_enter Try.func73, Try.ntmps73
    go_wp2
    go_ret
    exact ⟨rfl, rfl⟩
  · have e : decide (-m ≤ n ∧ n ≤ m) = false := by simp [h2]
    rw [e]
    clear e
    have h2' : n < -m := by omega
    go_enter Try.func73, Try.ntmps73
    go_wp2
    go_ret
    exact ⟨rfl, rfl⟩
def rightB (x y : Int) : Bool := inB x 1048576 && inB y 1048576
theorem right_ok (w : World) (x y : Int) : Calls Try.prog 56 #[pt x y] w fun e w' => e = .returned (.bool (rightB x y)) ∧ Chg [] w w' := by
  have k1 := fun w => in_ok w x 1048576 (by decide) (by decide)
  have k2 := fun w => in_ok w y 1048576 (by decide) (by decide)
  unfold rightB
  generalize inB x 1048576 = a at *
  generalize inB y 1048576 = b at *
  unfold pt
  cases a <;>
  · go_enter Try.func56, Try.ntmps56
    go_wp2_with (go_at_call 73; first | (with_reducible refine (k1 _).mono ?_); rintro e w1 ⟨rfl, rfl⟩ | (with_reducible refine (k2 _).mono ?_); rintro e w1 ⟨rfl, rfl⟩)
    go_ret
    exact ⟨rfl, Chg.alloc _ _ _⟩
theorem rright_ok (w : World) (x y : Int) : Calls Try.prog 72 #[pt x y] w fun e w' => e = .returned (.bool (rightB x y)) ∧ Chg [] w w' := by
  unfold rightB inB pt
  by_cases h1 : -1048576 ≤ x
  · by_cases h2 : x ≤ 1048576
    · by_cases h3 : -1048576 ≤ y
      · have e : (decide (-1048576 ≤ x ∧ x ≤ 1048576) && decide (-1048576 ≤ y ∧ y ≤ 1048576)) = decide (y ≤ 1048576) := by simp [h1, h2, h3]
        rw [e]
        clear e
        go_enter Try.func72, Try.ntmps72
        go_wp2
        go_ret
        exact ⟨rfl, Chg.alloc _ _ _⟩
      · have e : (decide (-1048576 ≤ x ∧ x ≤ 1048576) && decide (-1048576 ≤ y ∧ y ≤ 1048576)) = false := by simp [h3]
        rw [e]
        clear e
        have h4 : y < -1048576 := by omega
        go_enter Try.func72, Try.ntmps72
        go_wp2
        go_ret
        exact ⟨rfl, Chg.alloc _ _ _⟩
    · have e : (decide (-1048576 ≤ x ∧ x ≤ 1048576) && decide (-1048576 ≤ y ∧ y ≤ 1048576)) = false := by simp [h2]
      rw [e]
      clear e
      have h4 : 1048576 < x := by omega
      go_enter Try.func72, Try.ntmps72
      go_wp2
      go_ret
      exact ⟨rfl, Chg.alloc _ _ _⟩
  · have e : (decide (-1048576 ≤ x ∧ x ≤ 1048576) && decide (-1048576 ≤ y ∧ y ≤ 1048576)) = false := by simp [h1]
    rw [e]
    clear e
    have h4 : x < -1048576 := by omega
    go_enter Try.func72, Try.ntmps72
    go_wp2
    go_ret
    exact ⟨rfl, Chg.alloc _ _ _⟩

theorem sgn_zero {a b : Int} : sgn a b = 0 ↔ a = b := by
  unfold sgn; split
  · simp; omega
  · split
    · simp; omega
    · simp; omega
theorem cmpP_norm {x y u v : Int} (h : normP x y ≠ normP u v) : cmpP x y u v = sgn (normP x y) (normP u v) := by
  have : sgn (normP x y) (normP u v) ≠ 0 := fun e => h (sgn_zero.1 e)
  simp [cmpP, orF, this]
theorem cmpP_x {x y u v : Int} (h : normP x y = normP u v) (h2 : x ≠ u) : cmpP x y u v = sgn x u := by
  have h1 : sgn (normP x y) (normP u v) = 0 := sgn_zero.2 h
  have : sgn x u ≠ 0 := fun e => h2 (sgn_zero.1 e)
  simp [cmpP, orF, h1, this]
theorem cmpP_y {x y u v : Int} (h : normP x y = normP u v) (h2 : x = u) : cmpP x y u v = sgn y v := by
  have h1 : sgn (normP x y) (normP u v) = 0 := sgn_zero.2 h
  have : sgn x u = 0 := sgn_zero.2 h2
  simp only [cmpP, orF, h1, this, if_true]
  split <;> simp_all

end Go.Proofs.Ytfnfcioofkeanaa
