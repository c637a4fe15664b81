/-
  Whole numbers as floats: sums, differences and products of whole numbers below 2^53 are exact. No program in sight.
-/
import Derived.Laws.ComplexArith
namespace Go.Proofs.Ytfnfcioofkeanaa
set_option linter.unusedSimpArgs false
set_option linter.unusedVariables false
open Ieee

/-- The magnitude m at the place e is the whole number N. -/
def Whole (m : Nat) (e : Int) (N : Nat) : Prop := m * 2 ^ e.toNat = N * 2 ^ (-e).toNat
def IsInt (d : Datum) (n : Int) : Prop := ∃ s m e, d = .number s m e ∧ Whole m e n.natAbs ∧ (n ≠ 0 → s = decide (n < 0))

theorem whole_neg {m a N : Nat} (h : Whole m (-(a : Int)) N) : m = N * 2 ^ a := by
  unfold Whole at h
  simpa using h
theorem whole_pos {m a N : Nat} (h : Whole m (a : Int) N) : N = m * 2 ^ a := by
  unfold Whole at h
  simpa using h.symm
theorem whole_zero {m N : Nat} {e : Int} (h : Whole m e N) : m = 0 ↔ N = 0 := by
  unfold Whole at h
  constructor
  · rintro rfl
    rcases Nat.mul_eq_zero.1 (by simpa using h.symm) with h | h
    · exact h
    · simp at h
  · rintro rfl
    rcases Nat.mul_eq_zero.1 (by simpa using h) with h | h
    · exact h
    · simp at h
theorem int_cases (e : Int) : (∃ a : Nat, e = a) ∨ (∃ a : Nat, e = -(a : Int) ∧ 0 < a) := by
  by_cases h : 0 ≤ e
  · exact .inl ⟨e.toNat, by omega⟩
  · exact .inr ⟨(-e).toNat, by omega, by omega⟩

theorem log2_mul_pow (n g : Nat) (h : n ≠ 0) : (n * 2 ^ g).log2 = n.log2 + g := by
  have h1 := Nat.log2_self_le h
  have h2 := Nat.lt_log2_self (n := n)
  rw [Nat.log2_eq_iff (by have : 0 < 2 ^ g := Nat.pos_of_ne_zero (by simp); exact Nat.mul_ne_zero h (by omega))]
  constructor
  · rw [Nat.pow_add]; exact Nat.mul_le_mul_right _ h1
  · rw [show n.log2 + g + 1 = (n.log2 + 1) + g by omega, Nat.pow_add]; exact Nat.mul_lt_mul_of_pos_right h2 (Nat.pos_of_ne_zero (by simp))

theorem cut_exact (way : Toward) (neg : Bool) (K d : Nat) (hK : K ≠ 0) : way.cut neg (K * 2 ^ d) d = K := by
  unfold Toward.cut
  have hm : min d ((K * 2 ^ d).log2 + 2) = d := by rw [log2_mul_pow _ _ hK]; omega
  rw [hm]
  have hp : 0 < 2 ^ d := Nat.pos_of_ne_zero (by simp)
  simp only [Nat.shiftLeft_eq, Nat.one_mul, Nat.mul_mod_left, Nat.mul_div_cancel _ hp]
  cases way <;> simp

/-- What is written of a whole number that is not nought. -/
theorem nearest_whole (s : Bool) (m N : Nat) (e : Int) (h : Whole m e N) (h0 : N ≠ 0) (hb : N < 2 ^ 53) :
    double.nearest s m e = double.word s ((1074 - (52 - N.log2)) * 2 ^ 52 + N * 2 ^ (52 - N.log2)) := by
  have hm0 : m ≠ 0 := fun hm => h0 ((whole_zero h).1 hm)
  have hl : N.log2 < 53 := (Nat.log2_lt h0).2 hb
  have hN1 := Nat.log2_self_le h0
  have hN2 := Nat.lt_log2_self (n := N)
  obtain ⟨g, hg⟩ : ∃ g, g = 52 - N.log2 := ⟨_, rfl⟩
  have hK1 : N * 2 ^ g < 2 ^ 53 := by
    rw [show (53 : Nat) = N.log2 + 1 + g by omega, Nat.pow_add]; exact Nat.mul_lt_mul_of_pos_right hN2 (Nat.pos_of_ne_zero (by simp))
  have hK0 : N * 2 ^ g ≠ 0 := Nat.mul_ne_zero h0 (by simp)
  have hlog : e + (m.log2 : Int) = (N.log2 : Int) := by
    rcases int_cases e with ⟨a, rfl⟩ | ⟨a, rfl, _⟩
    · rw [whole_pos h, log2_mul_pow _ _ hm0]; push_cast; omega
    · rw [whole_neg h, log2_mul_pow _ _ h0]; push_cast; omega
  rw [← hg]
  unfold Format.nearest
  rw [if_neg hm0]
  have hlast : max (e + (m.log2 : Int) - (double.fractionBits : Int)) double.leastPlace = -(g : Int) := by
    rw [hlog]
    have e1 : (double.fractionBits : Int) = 52 := rfl
    have e2 : double.leastPlace = -1074 := by decide
    rw [e1, e2]; omega
  simp only [hlast]
  have hcut : Toward.even.cut s (m <<< (e - -(g : Int)).toNat) (-(g : Int) - e).toNat = N * 2 ^ g := by
    rw [Nat.shiftLeft_eq]
    rcases int_cases e with ⟨a, rfl⟩ | ⟨a, rfl, _⟩
    · have hw := whole_pos h
      rw [show ((a : Int) - -(g : Int)).toNat = a + g by omega, show (-(g : Int) - (a : Int)).toNat = 0 by omega, Nat.pow_add, ← Nat.mul_assoc, ← hw]
      have := cut_exact .even s (N * 2 ^ g) 0 hK0
      simpa using this
    · have hw := whole_neg h
      by_cases hag : a ≤ g
      · rw [show (-(a : Int) - -(g : Int)).toNat = g - a by omega, show (-(g : Int) - -(a : Int)).toNat = 0 by omega, hw, Nat.mul_assoc, ← Nat.pow_add, show a + (g - a) = g by omega]
        have := cut_exact .even s (N * 2 ^ g) 0 hK0
        simpa using this
      · rw [show (-(a : Int) - -(g : Int)).toNat = 0 by omega, show (-(g : Int) - -(a : Int)).toNat = a - g by omega, hw, Nat.pow_zero, Nat.mul_one]
        rw [show N * 2 ^ a = N * 2 ^ g * 2 ^ (a - g) by rw [Nat.mul_assoc, ← Nat.pow_add, show g + (a - g) = a by omega]]
        exact cut_exact .even s (N * 2 ^ g) (a - g) hK0
  rw [hcut]
  have e2 : double.leastPlace = -1074 := by decide
  have e3 : double.binade = 2 ^ 52 := rfl
  have e4 : double.infRung = 2047 * 2 ^ 52 := by decide
  rw [e2, e3, e4, show (-(g : Int) - -1074).toNat = 1074 - g by omega]
  have hle : (1074 - g) * 2 ^ 52 + N * 2 ^ g ≤ 2047 * 2 ^ 52 := by
    generalize N * 2 ^ g = K at hK1
    omega
  rw [Nat.min_eq_left hle]

theorem read_write (d : Datum) (n : Int) (h : IsInt d n) (hb : n.natAbs < 2 ^ 53) : IsInt (double.read (double.write d)) n := by
  obtain ⟨s, m, e, rfl, hw, hs⟩ := h
  have e1 : double.signWeight = 2 ^ 63 := rfl
  have e2 : double.leastPlace = -1074 := by decide
  have e3 : double.binade = 2 ^ 52 := rfl
  have e4 : double.infRung = 2047 * 2 ^ 52 := by decide
  by_cases h0 : n.natAbs = 0
  · have hn : n = 0 := by omega
    subst hn
    have hm : m = 0 := (whole_zero hw).2 rfl
    subst hm
    have : double.write (.number s 0 e) = double.word s 0 := by simp [Format.write, Format.nearest]
    rw [this]
    cases s
    · exact ⟨false, 0, -1074, by rfl, by simp only [Whole, Nat.zero_mul, Int.natAbs_zero], fun h => absurd rfl h⟩
    · exact ⟨true, 0, -1074, by rfl, by simp only [Whole, Nat.zero_mul, Int.natAbs_zero], fun h => absurd rfl h⟩
  · have hl : n.natAbs.log2 < 53 := (Nat.log2_lt h0).2 hb
    have hN1 := Nat.log2_self_le h0
    have hN2 := Nat.lt_log2_self (n := n.natAbs)
    obtain ⟨g, hg⟩ : ∃ g, g = 52 - n.natAbs.log2 := ⟨_, rfl⟩
    have hK1 : n.natAbs * 2 ^ g < 2 ^ 53 := by
      rw [show (53 : Nat) = n.natAbs.log2 + 1 + g by omega, Nat.pow_add]; exact Nat.mul_lt_mul_of_pos_right hN2 (Nat.pos_of_ne_zero (by simp))
    have hK2 : 2 ^ 52 ≤ n.natAbs * 2 ^ g := by
      rw [show (52 : Nat) = n.natAbs.log2 + g by omega, Nat.pow_add]; exact Nat.mul_le_mul_right _ hN1
    have hwr : double.write (.number s m e) = double.word s ((1074 - g) * 2 ^ 52 + n.natAbs * 2 ^ g) := by
      rw [hg]; exact nearest_whole s m n.natAbs e hw h0 hb
    rw [hwr]
    refine ⟨s, n.natAbs * 2 ^ g, -(g : Int), ?_, by simp [Whole], hs⟩
    generalize n.natAbs * 2 ^ g = K at *
    have hg2 : g ≤ 52 := by omega
    unfold Format.read Format.word
    simp only [e1, e2, e3, e4]
    have hsg : (if s = true then 2 ^ 63 + ((1074 - g) * 2 ^ 52 + K) else (1074 - g) * 2 ^ 52 + K) / 2 ^ 63 % 2 = (if s = true then 1 else 0) := by cases s <;> simp <;> omega
    have hrg : (if s = true then 2 ^ 63 + ((1074 - g) * 2 ^ 52 + K) else (1074 - g) * 2 ^ 52 + K) % 2 ^ 63 = (1074 - g) * 2 ^ 52 + K := by cases s <;> simp <;> omega
    rw [hsg, hrg, if_neg (by omega), if_pos (by omega)]
    have hd : ((1074 - g) * 2 ^ 52 + K) / 2 ^ 52 = 1074 - g + 1 := by omega
    have hmd : ((1074 - g) * 2 ^ 52 + K) % 2 ^ 52 = K - 2 ^ 52 := by omega
    rw [hd, hmd]
    have a1 : ((if s = true then 1 else 0) == 1) = s := by cases s <;> rfl
    have a2 : 2 ^ 52 + (K - 2 ^ 52) = K := by omega
    have a3 : (-1074 : Int) + ((1074 - g + 1 - 1 : Nat) : Int) = -(g : Int) := by omega
    rw [a1, a2, a3]

theorem signed_at {s : Bool} {m : Nat} {i b n : Int} (hw : Whole m i n.natAbs) (hs : n ≠ 0 → s = decide (n < 0)) (hb : b ≤ i) :
    signed s m (i - b).toNat * 2 ^ b.toNat = n * 2 ^ (-b).toNat := by
  have hmag : (m <<< (i - b).toNat) * 2 ^ b.toNat = n.natAbs * 2 ^ (-b).toNat := by
    rw [Nat.shiftLeft_eq]
    rcases int_cases b with ⟨c, rfl⟩ | ⟨c, rfl, _⟩
    · obtain ⟨a, rfl⟩ : ∃ a : Nat, i = a := ⟨i.toNat, by omega⟩
      have := whole_pos hw
      rw [show ((a : Int) - (c : Int)).toNat = a - c by omega, show ((c : Int)).toNat = c by omega, show (-(c : Int)).toNat = 0 by omega, this, Nat.mul_assoc, ← Nat.pow_add, show a - c + c = a by omega]
      simp
    · rcases int_cases i with ⟨a, rfl⟩ | ⟨a, rfl, _⟩
      · have := whole_pos hw
        rw [show ((a : Int) - -(c : Int)).toNat = a + c by omega, show (-(c : Int)).toNat = 0 by omega, show (- -(c : Int)).toNat = c by omega, this, Nat.pow_add, ← Nat.mul_assoc]
        simp
      · have := whole_neg hw
        rw [show (-(a : Int) - -(c : Int)).toNat = c - a by omega, show (-(c : Int)).toNat = 0 by omega, show (- -(c : Int)).toNat = c by omega, this, Nat.pow_zero, Nat.mul_one, Nat.mul_assoc, ← Nat.pow_add, show a + (c - a) = c by omega]
  unfold signed
  by_cases h0 : n = 0
  · subst h0
    have : m = 0 := (whole_zero hw).2 rfl
    subst this
    cases s <;> simp
  · have hs := hs h0
    have hc := congrArg (fun x : Nat => (x : Int)) hmag
    simp only [Int.natCast_mul, Int.natCast_pow] at hc
    by_cases hn : n < 0
    · rw [hs]
      simp only [hn, decide_true, if_true]
      rw [Int.neg_mul]
      have : ((n.natAbs : Nat) : Int) = -n := by omega
      rw [this, Int.neg_mul] at hc
      push_cast at hc ⊢
      omega
    · rw [hs]
      simp only [hn, decide_false, Bool.false_eq_true, if_false]
      have : ((n.natAbs : Nat) : Int) = n := by omega
      rw [this] at hc
      simpa using hc

theorem sum_ok {d d' : Datum} {n n' : Int} (h : IsInt d n) (h' : IsInt d' n') : ∃ r, d.sum d' = some r ∧ IsInt r (n + n') := by
  obtain ⟨s, m, i, rfl, hw, hs⟩ := h
  obtain ⟨t, q, j, rfl, hw', hs'⟩ := h'
  refine ⟨_, rfl, ?_⟩
  obtain ⟨b, hb⟩ : ∃ b, b = min i j := ⟨_, rfl⟩
  rw [← hb]
  have h1 := signed_at hw hs (b := b) (by omega)
  have h2 := signed_at hw' hs' (b := b) (by omega)
  generalize signed s m (i - b).toNat = A at *
  generalize signed t q (j - b).toNat = B at *
  have h3 : (A + B) * 2 ^ b.toNat = (n + n') * 2 ^ (-b).toNat := by rw [Int.add_mul, Int.add_mul, h1, h2]
  have hp : (0 : Int) < 2 ^ b.toNat := Int.pow_pos (by decide)
  have hp' : (0 : Int) < 2 ^ (-b).toNat := Int.pow_pos (by decide)
  refine ⟨_, _, _, rfl, ?_, fun hne => ?_⟩
  · unfold Whole
    have := congrArg Int.natAbs h3
    simpa [Int.natAbs_mul, Int.natAbs_pow] using this
  · have hT : A + B ≠ 0 := by
      intro h0
      rw [h0] at h3
      rcases Int.mul_eq_zero.1 (by simpa using h3.symm) with h | h
      · exact hne h
      · omega
    rw [if_neg hT]
    have e : (A + B < 0) ↔ (n + n' < 0) := by
      constructor
      · intro h
        have := Int.mul_neg_of_neg_of_pos h hp
        rw [h3] at this
        exact Int.lt_of_mul_lt_mul_right (a := 2 ^ (-b).toNat) (by simpa using this) (Int.le_of_lt hp')
      · intro h
        have := Int.mul_neg_of_neg_of_pos h hp'
        rw [← h3] at this
        exact Int.lt_of_mul_lt_mul_right (a := 2 ^ b.toNat) (by simpa using this) (Int.le_of_lt hp)
    exact decide_eq_decide.2 e

theorem opposite_ok {d : Datum} {n : Int} (h : IsInt d n) : IsInt d.opposite (-n) := by
  obtain ⟨s, m, i, rfl, hw, hs⟩ := h
  refine ⟨_, _, _, rfl, by simpa using hw, fun h0 => ?_⟩
  rw [hs (by omega)]
  by_cases hn : n < 0
  · simp [hn]; omega
  · simp [hn]; omega

theorem product_ok {d d' : Datum} {n n' : Int} (h : IsInt d n) (h' : IsInt d' n') : ∃ r, d.product d' = some r ∧ IsInt r (n * n') := by
  obtain ⟨s, m, i, rfl, hw, hs⟩ := h
  obtain ⟨t, q, j, rfl, hw', hs'⟩ := h'
  refine ⟨_, rfl, _, _, _, rfl, ?_, fun hne => ?_⟩
  · rw [Int.natAbs_mul]
    unfold Whole
    rcases int_cases i with ⟨a, rfl⟩ | ⟨a, rfl, _⟩ <;> rcases int_cases j with ⟨c, rfl⟩ | ⟨c, rfl, _⟩
    · rw [whole_pos hw, whole_pos hw', show ((a : Int) + (c : Int)).toNat = a + c by omega, show (-((a : Int) + (c : Int))).toNat = 0 by omega, Nat.pow_add]
      simp only [Nat.pow_zero, Nat.mul_one]; ac_rfl
    · rw [whole_pos hw, whole_neg hw']
      by_cases hac : c ≤ a
      · rw [show ((a : Int) + -(c : Int)).toNat = a - c by omega, show (-((a : Int) + -(c : Int))).toNat = 0 by omega]
        rw [show m * (n'.natAbs * 2 ^ c) * 2 ^ (a - c) = m * n'.natAbs * (2 ^ c * 2 ^ (a - c)) by ac_rfl, ← Nat.pow_add, show c + (a - c) = a by omega]
        simp only [Nat.pow_zero, Nat.mul_one]; ac_rfl
      · rw [show ((a : Int) + -(c : Int)).toNat = 0 by omega, show (-((a : Int) + -(c : Int))).toNat = c - a by omega]
        rw [show m * 2 ^ a * n'.natAbs * 2 ^ (c - a) = m * n'.natAbs * (2 ^ a * 2 ^ (c - a)) by ac_rfl, ← Nat.pow_add, show a + (c - a) = c by omega]
        simp only [Nat.pow_zero, Nat.mul_one]; ac_rfl
    · rw [whole_neg hw, whole_pos hw']
      by_cases hac : a ≤ c
      · rw [show (-(a : Int) + (c : Int)).toNat = c - a by omega, show (-(-(a : Int) + (c : Int))).toNat = 0 by omega]
        rw [show n.natAbs * 2 ^ a * q * 2 ^ (c - a) = n.natAbs * q * (2 ^ a * 2 ^ (c - a)) by ac_rfl, ← Nat.pow_add, show a + (c - a) = c by omega]
        simp only [Nat.pow_zero, Nat.mul_one]; ac_rfl
      · rw [show (-(a : Int) + (c : Int)).toNat = 0 by omega, show (-(-(a : Int) + (c : Int))).toNat = a - c by omega]
        rw [show n.natAbs * (q * 2 ^ c) * 2 ^ (a - c) = n.natAbs * q * (2 ^ c * 2 ^ (a - c)) by ac_rfl, ← Nat.pow_add, show c + (a - c) = a by omega]
        simp only [Nat.pow_zero, Nat.mul_one]; ac_rfl
    · rw [whole_neg hw, whole_neg hw', show (-(a : Int) + -(c : Int)).toNat = 0 by omega, show (-(-(a : Int) + -(c : Int))).toNat = a + c by omega, Nat.pow_add]
      simp only [Nat.pow_zero, Nat.mul_one]; ac_rfl
  · have h1 : n ≠ 0 := fun h => hne (by rw [h]; simp)
    have h2 : n' ≠ 0 := fun h => hne (by rw [h]; simp)
    rw [hs h1, hs' h2]
    by_cases a : n < 0 <;> by_cases b : n' < 0
    · have : ¬ n * n' < 0 := by have := Int.mul_pos_of_neg_of_neg a b; omega
      simp [a, b, this]
    · have : n * n' < 0 := Int.mul_neg_of_neg_of_pos a (by omega)
      simp [a, b, this]
    · have : n * n' < 0 := Int.mul_neg_of_pos_of_neg (by omega) b
      simp [a, b, this]
    · have : ¬ n * n' < 0 := by have := Int.mul_pos (show 0 < n by omega) (show 0 < n' by omega); omega
      simp [a, b, this]

theorem toInt_ok {d : Datum} {n : Int} (h : IsInt d n) : d.toInt .zero = some n := by
  obtain ⟨s, m, i, rfl, hw, hs⟩ := h
  unfold Datum.toInt Datum.integral
  have hc : Toward.zero.cut s (m <<< i.toNat) (-i).toNat = n.natAbs := by
    rw [Nat.shiftLeft_eq]
    by_cases h0 : n.natAbs = 0
    · rw [h0] at hw ⊢
      have : m = 0 := (whole_zero hw).2 rfl
      subst this
      unfold Toward.cut
      simp
    · unfold Whole at hw
      rw [hw]
      exact cut_exact _ _ _ _ h0
  simp only [hc]
  unfold signed
  simp only [Nat.shiftLeft_zero]
  by_cases h0 : n = 0
  · subst h0; cases s <;> simp
  · rw [hs h0]
    by_cases hn : n < 0
    · simp only [hn, decide_true, if_true]; congr 1; omega
    · simp only [hn, decide_false, Bool.false_eq_true, if_false]; congr 1; omega

/-- The float64 whose bits are x is the whole number n. -/
def F64 (x : Nat) (n : Int) : Prop := IsInt (double.read x) n
def Near53 (n : Int) : Prop := -9007199254740992 < n ∧ n < 9007199254740992
theorem near53 {n : Int} (h : Near53 n) : n.natAbs < 2 ^ 53 := by unfold Near53 at h; omega

theorem f_of_int {n : Int} (h : Near53 n) : F64 (FloatKind.f64.nearest n) n :=
  read_write _ n ⟨_, _, _, rfl, by simp [Whole], fun _ => rfl⟩ (near53 h)
theorem f_add {x y : Nat} {n m : Int} (hx : F64 x n) (hy : F64 y m) (h : Near53 (n + m)) : ∃ r, floatBits .add .f64 x y = some r ∧ F64 r (n + m) := by
  obtain ⟨d, hd, hi⟩ := sum_ok hx hy
  refine ⟨double.write d, ?_, read_write d _ hi (near53 h)⟩
  show (double.add x y) = _
  unfold Format.add
  rw [hd]; rfl
theorem f_sub {x y : Nat} {n m : Int} (hx : F64 x n) (hy : F64 y m) (h : Near53 (n - m)) : ∃ r, floatBits .sub .f64 x y = some r ∧ F64 r (n - m) := by
  obtain ⟨d, hd, hi⟩ := sum_ok hx (opposite_ok hy)
  rw [← Int.sub_eq_add_neg] at hi
  refine ⟨double.write d, ?_, read_write d _ hi (near53 h)⟩
  show (double.sub x y) = _
  unfold Format.sub
  rw [hd]; rfl
theorem f_mul {x y : Nat} {n m : Int} (hx : F64 x n) (hy : F64 y m) (h : Near53 (n * m)) : ∃ r, floatBits .mul .f64 x y = some r ∧ F64 r (n * m) := by
  obtain ⟨d, hd, hi⟩ := product_ok hx hy
  refine ⟨double.write d, ?_, read_write d _ hi (near53 h)⟩
  show (double.mul x y) = _
  unfold Format.mul
  rw [hd]; rfl
theorem f_int {x : Nat} {n : Int} (hx : F64 x n) (h : Near53 n) : floatToIntVal .f64 x .i64 = some n := by
  unfold floatToIntVal
  have : (FloatKind.f64.decode x).toInt .zero = some n := toInt_ok hx
  rw [this]
  unfold Near53 at h
  have e1 : IntKind.i64.min = -9223372036854775808 := rfl
  have e2 : IntKind.i64.max = 9223372036854775807 := rfl
  simp only [e1, e2]
  rw [if_pos (by omega)]
theorem f_neg {x : Nat} {n : Int} (hx : F64 x n) : F64 (Op.negFloat .f64 x) (-n) := by
  have h := opposite_ok hx
  have e : double.read (Op.negFloat .f64 x) = (double.read x).opposite := by
    have e0 : Op.negFloat .f64 x = x ^^^ 2 ^ 63 := rfl
    have e1 : double.signWeight = 2 ^ 63 := rfl
    have h1 : (x ^^^ 2 ^ 63) % 2 ^ 63 = x % 2 ^ 63 := by rw [Nat.xor_mod_two_pow]; simp
    have h2 : (x ^^^ 2 ^ 63) / 2 ^ 63 % 2 = 1 - x / 2 ^ 63 % 2 := by
      have h3 : (x ^^^ 2 ^ 63) / 2 ^ 63 = (x / 2 ^ 63) ^^^ 1 := by
        rw [← Nat.shiftRight_eq_div_pow, Nat.shiftRight_xor_distrib, Nat.shiftRight_eq_div_pow]; rfl
      have h4 : (x / 2 ^ 63 ^^^ 1) % 2 = (x / 2 ^ 63 % 2) ^^^ 1 := Nat.xor_mod_two_pow (n := 1)
      rw [h3, h4]
      rcases Nat.mod_two_eq_zero_or_one (x / 2 ^ 63) with h5 | h5 <;> rw [h5] <;> rfl
    rw [e0]
    unfold Format.read
    simp only [e1]
    rw [h1, h2]
    have h6 : ((1 - x / 2 ^ 63 % 2) == 1) = !((x / 2 ^ 63 % 2) == 1) := by
      rcases Nat.mod_two_eq_zero_or_one (x / 2 ^ 63) with h5 | h5 <;> rw [h5] <;> rfl
    rw [h6]
    split
    · rfl
    · split
      · rfl
      · split <;> rfl
  unfold F64
  rw [e]; exact h
theorem f_zero : F64 0 0 := ⟨false, 0, -1074, by decide, by simp only [Whole, Nat.zero_mul, Int.natAbs_zero], fun h => absurd rfl h⟩
theorem f_one : F64 4607182418800017408 1 := ⟨false, 4503599627370496, -52, by decide, by simp [Whole], fun _ => by decide⟩
end Go.Proofs.Ytfnfcioofkeanaa
