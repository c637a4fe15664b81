/-
  The contracts of package point's functions: what each hands back of near points.
-/
import Derived.Test.YtfnfcioofkeanaaProg
import Derived.Test.YtfnfcioofkeanaaBase
import Derived.Test.YtfnfcioofkeanaaRowLaws
import Derived.Test.YtfnfcioofkeanaaFloat
import Derived.WalkLawsBesides
namespace Go.Proofs.Ytfnfcioofkeanaa
set_option linter.unusedSimpArgs false
set_option linter.unusedVariables false
open Go.RowKit

def pt (x y : Int) : Value := .agg #[.int .i64 x, .int .i64 y]

theorem of_ok (w : World) (x y : Int) :
    Calls Try.prog 82 #[pt x y] w fun e w' => e = .returned (.complex .f64 (FloatKind.f64.nearest x) (FloatKind.f64.nearest y)) ∧ Chg [] w w' := by
  unfold pt
  go_enter Try.func82, Try.ntmps82
  go_wp2
  go_ret
  exact ⟨rfl, Chg.alloc _ _ _⟩

/-- What two floats that are whole numbers make, part by part. -/
theorem complex_sum {a b c d : Nat} {x y u v : Int} (ha : F64 a x) (hb : F64 b y) (hc : F64 c u) (hd : F64 d v) (h1 : Near53 (x + u)) (h2 : Near53 (y + v)) :
    ∃ re im, F64 re (x + u) ∧ F64 im (y + v) ∧ ∀ (P : Program) (w : World) (t : TypeId), (binOp .add t (.complex .f64 a b) (.complex .f64 c d)).run P w = .ok (.complex .f64 re im) w := by
  obtain ⟨re, e1, f1⟩ := f_add ha hc h1
  obtain ⟨im, e2, f2⟩ := f_add hb hd h2
  exact ⟨re, im, f1, f2, fun P w t => run_complex_sum w .add (.inl rfl) t .f64 a b c d re im (by simp [cSumBits, e1, e2])⟩
theorem complex_diff {a b c d : Nat} {x y u v : Int} (ha : F64 a x) (hb : F64 b y) (hc : F64 c u) (hd : F64 d v) (h1 : Near53 (x - u)) (h2 : Near53 (y - v)) :
    ∃ re im, F64 re (x - u) ∧ F64 im (y - v) ∧ ∀ (P : Program) (w : World) (t : TypeId), (binOp .sub t (.complex .f64 a b) (.complex .f64 c d)).run P w = .ok (.complex .f64 re im) w := by
  obtain ⟨re, e1, f1⟩ := f_sub ha hc h1
  obtain ⟨im, e2, f2⟩ := f_sub hb hd h2
  exact ⟨re, im, f1, f2, fun P w t => run_complex_sum w .sub (.inr rfl) t .f64 a b c d re im (by simp [cSumBits, e1, e2])⟩
theorem complex_prod {a b c d : Nat} {x y u v : Int} (ha : F64 a x) (hb : F64 b y) (hc : F64 c u) (hd : F64 d v) (h1 : Near53 (x * u)) (h2 : Near53 (y * v)) (h3 : Near53 (x * u - y * v)) (h4 : Near53 (x * v)) (h5 : Near53 (y * u)) (h6 : Near53 (x * v + y * u)) :
    ∃ re im, F64 re (x * u - y * v) ∧ F64 im (x * v + y * u) ∧ ∀ (P : Program) (w : World) (t : TypeId), (binOp .mul t (.complex .f64 a b) (.complex .f64 c d)).run P w = .ok (.complex .f64 re im) w := by
  obtain ⟨r1, e1, f1⟩ := f_mul ha hc h1
  obtain ⟨r2, e2, f2⟩ := f_mul hb hd h2
  obtain ⟨r3, e3, f3⟩ := f_sub f1 f2 h3
  obtain ⟨r4, e4, f4⟩ := f_mul ha hd h4
  obtain ⟨r5, e5, f5⟩ := f_mul hb hc h5
  obtain ⟨r6, e6, f6⟩ := f_add f4 f5 h6
  exact ⟨r3, r6, f3, f6, fun P w t => run_complex_mul w t a b c d r3 r6 (by simp [cMulBits, e1, e2, e3, e4, e5, e6])⟩

/-- The coordinates are at most 2^21 away from nought. -/
def NearP (x : Int) : Prop := -2097152 ≤ x ∧ x ≤ 2097152
theorem NearP.w {x : Int} (h : NearP x) : Near53 x := by unfold NearP at h; unfold Near53; omega
theorem near_mul {x y : Int} {A B : Int} (hx : -A ≤ x ∧ x ≤ A) (hy : -B ≤ y ∧ y ≤ B) : -(A * B) ≤ x * y ∧ x * y ≤ A * B := by
  have hA : 0 ≤ A := by omega
  have hB : 0 ≤ B := by omega
  have h : (x.natAbs : Int) * (y.natAbs : Int) ≤ A * B := Int.mul_le_mul (by omega) (by omega) (by omega) hA
  have e : (x.natAbs : Int) * (y.natAbs : Int) = ((x * y).natAbs : Int) := by rw [Int.natAbs_mul]; simp
  rw [e] at h
  omega
theorem NearP.mul {x y : Int} (hx : NearP x) (hy : NearP y) : -4398046511104 ≤ x * y ∧ x * y ≤ 4398046511104 := near_mul hx hy


/-- A point, turned by k quarters. -/
def rot : Nat → Int × Int → Int × Int
  | 0, p => p
  | k + 1, p => (-(rot k p).2, (rot k p).1)
theorem rot_near (k : Nat) (p : Int × Int) (h1 : NearP p.1) (h2 : NearP p.2) : NearP (rot k p).1 ∧ NearP (rot k p).2 := by
  induction k with
  | zero => exact ⟨h1, h2⟩
  | succ k ih => obtain ⟨a, b⟩ := ih; unfold NearP at *; simp only [rot]; omega
def quarters (n : Int) : Nat := ((n.tmod 4 + 4) % 4).toNat

def normP (x y : Int) : Int := x * x + y * y
theorem norm_ok (w : World) (x y : Int) (hx : NearP x) (hy : NearP y) :
    Calls Try.prog 77 #[pt x y] w fun e w' => e = .returned (.int .i64 (normP x y)) ∧ Chg [] w w' := by
  have kof := fun w => of_ok w x y
  have m1 := hx.mul hx
  have m2 := hy.mul hy
  have m3 := hx.mul hy
  have e1 : y * -y = -(y * y) := Int.mul_neg ..
  have e2 : x * -y = -(x * y) := Int.mul_neg ..
  have e3 : y * x = x * y := Int.mul_comm ..
  obtain ⟨re, im, f1, f2, hrun⟩ := complex_prod (f_of_int hx.w) (f_of_int hy.w) (f_of_int hx.w) (f_neg (f_of_int hy.w)) (by unfold Near53; omega) (by unfold Near53; omega) (by unfold Near53; omega) (by unfold Near53; omega) (by unfold Near53; omega) (by unfold Near53; omega)
  have krun := hrun Try.prog
  have hz : x * x - y * -y = normP x y := by unfold normP; omega
  rw [hz] at f1
  have ka := fun w => run_convert_float_int (P := Try.prog) w 114 3 .f64 .i64 re (normP x y) (by kernel_rfl) Try.underlying3 (f_int f1 (by unfold normP Near53; omega))
  have kneg : Op.unary .neg (.float .f64 (FloatKind.f64.nearest y)) = pure (.float .f64 (Op.negFloat .f64 (FloatKind.f64.nearest y))) := rfl
  generalize normP x y = N at *
  clear f1 f2 hrun m1 m2 m3 e1 e2 e3 hz
  unfold pt at *
  go_enter Try.func77, Try.ntmps77
  go_wp2_with (go_at_call 82; refine (kof _).mono ?_; rintro e w1 ⟨rfl, g1⟩)
  go_ret
  exact ⟨rfl, (Chg.alloc [] w _).t0 g1⟩

theorem isNaN_ok (w : World) (x : Int) : Calls Try.prog 74 #[.int .i64 x] w fun e w' => e = .returned (.bool false) ∧ w = w' := by
  go_enter Try.func74, Try.ntmps74
  go_wp2
  go_ret
  exact ⟨by simp, rfl⟩
def sgn (x y : Int) : Int := if x < y then -1 else if y < x then 1 else 0
theorem cmpc_ok (w : World) (x y : Int) : Calls Try.prog 57 #[.int .i64 x, .int .i64 y] w fun e w' => e = .returned (.int .i64 (sgn x y)) ∧ w = w' := by
  have k1 := fun w => isNaN_ok w x
  have k2 := fun w => isNaN_ok w y
  unfold sgn
  rcases Int.lt_trichotomy x y with h | h | h
  · rw [if_pos h]
    go_enter Try.func57, Try.ntmps57
    go_wp2_with (go_at_call 74; first | (with_reducible refine (k1 _).mono ?_); rintro e w1 ⟨rfl, rfl⟩ | (with_reducible refine (k2 _).mono ?_); rintro e w1 ⟨rfl, rfl⟩)
    go_ret
    exact ⟨rfl, rfl⟩
  · subst h
    rw [if_neg (by omega), if_neg (by omega)]
    have h2 : decide (x < x) = false := by simp
    go_enter Try.func57, Try.ntmps57
    go_wp2_with (go_at_call 74; first | (with_reducible refine (k1 _).mono ?_); rintro e w1 ⟨rfl, rfl⟩ | (with_reducible refine (k2 _).mono ?_); rintro e w1 ⟨rfl, rfl⟩)
    go_ret
    exact ⟨rfl, rfl⟩
  · have h0 : ¬ x < y := by omega
    rw [if_neg h0, if_pos h]
    go_enter Try.func57, Try.ntmps57
    go_wp2_with (go_at_call 74; first | (with_reducible refine (k1 _).mono ?_); rintro e w1 ⟨rfl, rfl⟩ | (with_reducible refine (k2 _).mono ?_); rintro e w1 ⟨rfl, rfl⟩)
    go_ret
    exact ⟨rfl, rfl⟩
end Go.Proofs.Ytfnfcioofkeanaa
