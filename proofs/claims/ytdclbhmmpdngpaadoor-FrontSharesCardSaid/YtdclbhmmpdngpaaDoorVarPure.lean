/-
  Numbers of few bytes, over lists and numbers alone.
-/
import Derived.Test.YtdclbhmmpdngpaaDoorCurPure
import Derived.Lib.BitFns
namespace Go.Proofs.YtdclbhmmpdngpaaDoor
set_option linter.unusedSimpArgs false
set_option linter.unusedVariables false
open Go.RowKit

/-- A number's bytes. -/
def vput (n : Nat) : List UInt8 := if h : n < 128 then [UInt8.ofNat n] else UInt8.ofNat (n % 128 + 128) :: vput (n / 128)
termination_by n
decreasing_by omega
theorem vput_short {n : Nat} (h : n < 128) : vput n = [UInt8.ofNat n] := by rw [vput, dif_pos h]
theorem vput_long {n : Nat} (h : ¬ n < 128) : vput n = UInt8.ofNat (n % 128 + 128) :: vput (n / 128) := by rw [vput, dif_neg h]
def vsize (n : Nat) : Nat := (vput n).length
theorem vsize_short {n : Nat} (h : n < 128) : vsize n = 1 := by rw [vsize, vput_short h]; rfl
theorem vsize_long {n : Nat} (h : ¬ n < 128) : vsize n = vsize (n / 128) + 1 := by rw [vsize, vput_long h]; rfl
theorem vsize_pos (n : Nat) : 1 ≤ vsize n := by
  by_cases h : n < 128
  · rw [vsize_short h]; decide
  · rw [vsize_long h]; omega
/-- How many bytes: the least k with n < 128^k. -/
theorem vsize_le (k : Nat) : ∀ (n : Nat), n < 128 ^ (k + 1) → vsize n ≤ k + 1 := by
  induction k with
  | zero => intro n h; rw [vsize_short (by simpa using h)]; exact Nat.le_refl _
  | succ k ih =>
    intro n h
    by_cases hs : n < 128
    · rw [vsize_short hs]; omega
    · rw [vsize_long hs]
      have := ih (n / 128) (by rw [Nat.div_lt_iff_lt_mul (by decide)]; rw [Nat.pow_succ] at h; exact h)
      omega
theorem vsize_gt (k : Nat) : ∀ (n : Nat), 128 ^ k ≤ n → k < vsize n := by
  induction k with
  | zero => intro n _; exact vsize_pos n
  | succ k ih =>
    intro n h
    have hp : 0 < 128 ^ k := Nat.pos_of_ne_zero (by simp)
    rw [Nat.pow_succ] at h
    have hs : ¬ n < 128 := by omega
    rw [vsize_long hs]
    have := ih (n / 128) (by rw [Nat.le_div_iff_mul_le (by decide)]; exact h)
    omega
theorem vsize_ten {n : Nat} (h : n < 2 ^ 64) : vsize n ≤ 10 := vsize_le 9 n (by omega)

/-- varint.Size's own reckoning. -/
theorem bitLen_or (n : Nat) (h : n < 2 ^ 64) (h0 : n ≠ 0) : Lib.bitLen (n ||| 1) = Lib.bitLen n := by
  have h1 : (n ||| 1) / 2 = n / 2 := by
    have := Nat.or_div_two (a := n) (b := 1)
    simpa using this
  have h2 : n ||| 1 ≠ 0 := by
    intro e
    have := Nat.left_le_or (n := n) (m := 1)
    omega
  rw [Lib.bitLen_half (n ||| 1) h2 (Nat.or_lt_two_pow h (by decide)), Lib.bitLen_half n h0 h, h1]
theorem bitLen_small (n : Nat) (h : n < 128) : 1 ≤ Lib.bitLen (n ||| 1) ∧ Lib.bitLen (n ||| 1) ≤ 7 := by
  have h2 : n ||| 1 ≠ 0 := by
    intro e
    have := Nat.right_le_or (n := n) (m := 1)
    omega
  have h3 : n ||| 1 < 2 ^ 7 := Nat.or_lt_two_pow (by simpa using h) (by decide)
  refine ⟨?_, Lib.bitLen_le _ 7 (by decide) h3⟩
  rw [Lib.bitLen_half _ h2 (by omega)]
  omega
theorem size_len : ∀ (n : Nat), n < 2 ^ 64 → (Lib.bitLen (n ||| 1) + 6) / 7 = vsize n := by
  intro n
  induction n using Nat.strongRecOn with
  | _ n ih =>
    intro h
    by_cases hs : n < 128
    · have := bitLen_small n hs
      rw [vsize_short hs]; omega
    · rw [vsize_long hs, ← ih (n / 128) (by omega) (by omega), bitLen_or n h (by omega), bitLen_or (n / 128) (by omega) (by omega), Lib.bitLen_shift 7 n (by omega) h]
      show (7 + Lib.bitLen (n / 128) + 6) / 7 = _
      omega

/-- A number is read, its k lower bytes having made acc; none: it may not be. -/
def vgetL : List UInt8 → Nat → Nat → Option (Nat × List UInt8)
  | [], _, _ => none
  | x :: r, k, acc => if (0 < k ∧ x.toNat = 0) ∨ (k = 9 ∧ 1 < x.toNat) then none else if x.toNat < 128 then some (acc + x.toNat * 128 ^ k, r) else vgetL r (k + 1) (acc + x.toNat % 128 * 128 ^ k)
def got : Option (Nat × List UInt8) → Nat × CS
  | some (n, r) => (n, ⟨r, false⟩)
  | none => (0, CS.fail)
def CS.vget (s : CS) : Nat × CS := if s.bad then (0, CS.fail) else got (vgetL s.l 0 0)
def CS.vlen (s : CS) (most : Int) : Nat × CS := if s.vget.2.bad = true ∨ most < 0 ∨ most < (s.vget.1 : Int) then (0, CS.fail) else s.vget

theorem vgetL_lt : ∀ (l : List UInt8) (k acc : Nat), k ≤ 9 → acc < 128 ^ k → ∀ n r, vgetL l k acc = some (n, r) → n < 2 ^ 64
  | [], _, _, _, _, _, _, h => by simp [vgetL] at h
  | x :: r, k, acc, hk, ha, n, r', h => by
    simp only [vgetL] at h
    split at h
    · cases h
    · rename_i hno
      have hx := x.toNat_lt
      have hp : 0 < 128 ^ k := Nat.pos_of_ne_zero (by simp)
      split at h
      · rename_i hlt
        simp at h
        obtain ⟨rfl, rfl⟩ := h
        by_cases h9 : k = 9
        · subst h9
          have hx1 : x.toNat ≤ 1 := by omega
          have : x.toNat * 128 ^ 9 ≤ 1 * 128 ^ 9 := Nat.mul_le_mul_right _ hx1
          omega
        · have h1 : (x.toNat + 1) * 128 ^ k ≤ 128 * 128 ^ k := Nat.mul_le_mul_right _ (by omega)
          have h2 : 128 * 128 ^ k = 128 ^ (k + 1) := by rw [Nat.pow_succ, Nat.mul_comm]
          have h3 : 128 ^ (k + 1) ≤ 128 ^ 9 := Nat.pow_le_pow_right (by decide) (by omega)
          rw [Nat.add_mul] at h1
          omega
      · rename_i hlt
        have h9 : k ≠ 9 := fun e => by omega
        refine vgetL_lt r (k + 1) _ (by omega) ?_ n r' h
        have h1 : (x.toNat % 128 + 1) * 128 ^ k ≤ 128 * 128 ^ k := Nat.mul_le_mul_right _ (by omega)
        rw [Nat.add_mul] at h1
        rw [Nat.pow_succ]
        omega
theorem CS.vget_lt (s : CS) : s.vget.1 < 2 ^ 64 := by
  unfold CS.vget
  split
  · exact Nat.pos_of_ne_zero (by simp)
  · cases h : vgetL s.l 0 0 with
    | none => exact Nat.pos_of_ne_zero (by simp)
    | some x => obtain ⟨n, r⟩ := x; exact vgetL_lt _ 0 0 (by decide) (by decide) n r h
theorem vgetL_len : ∀ (l : List UInt8) (k acc n : Nat) (r : List UInt8), vgetL l k acc = some (n, r) → r.length < l.length
  | [], _, _, _, _, h => by simp [vgetL] at h
  | x :: t, k, acc, n, r, h => by
    simp only [vgetL] at h
    split at h
    · cases h
    · split at h
      · simp at h; obtain ⟨_, rfl⟩ := h; simp
      · have := vgetL_len t _ _ _ _ h; simp; omega

theorem or_apart128 (a x k : Nat) (ha : a < 128 ^ k) : a ||| (x * 128 ^ k) = a + x * 128 ^ k := by
  have e : (128 : Nat) ^ k = 2 ^ (7 * k) := by rw [Nat.pow_mul]
  rw [e] at ha ⊢
  rw [Nat.mul_comm x, Nat.or_comm, ← Nat.two_pow_add_eq_or_of_lt ha, Nat.add_comm]

/-- What was put is got, whatever stands behind it. -/
theorem vgetL_vput : ∀ (n k acc : Nat) (r : List UInt8), (k = 0 ∨ 0 < n) → k ≤ 9 → n * 128 ^ k < 2 ^ 64 → vgetL (vput n ++ r) k acc = some (acc + n * 128 ^ k, r) := by
  intro n
  induction n using Nat.strongRecOn with
  | _ n ih =>
    intro k acc r h0 hk hn
    have hp : 0 < 128 ^ k := Nat.pos_of_ne_zero (by simp)
    by_cases hs : n < 128
    · rw [vput_short hs]
      have e : (UInt8.ofNat n).toNat = n := by simp; omega
      simp only [List.singleton_append, vgetL, e]
      rw [if_neg, if_pos hs]
      rintro (⟨h1, h2⟩ | ⟨h1, h2⟩)
      · omega
      · subst h1
        have : 2 * 128 ^ 9 ≤ n * 128 ^ 9 := Nat.mul_le_mul_right _ h2
        omega
    · rw [vput_long hs]
      have e : (UInt8.ofNat (n % 128 + 128)).toNat = n % 128 + 128 := by simp; omega
      simp only [List.cons_append, vgetL, e]
      have h9 : k ≠ 9 := by
        rintro rfl
        have : 128 * 128 ^ 9 ≤ n * 128 ^ 9 := Nat.mul_le_mul_right _ (by omega)
        omega
      rw [if_neg (by omega), if_neg (by omega)]
      have hdm : n * 128 ^ k = n % 128 * 128 ^ k + n / 128 * 128 ^ (k + 1) := by
        rw [Nat.pow_succ, ← Nat.mul_assoc, Nat.mul_right_comm, ← Nat.add_mul]
        congr 1
        omega
      rw [ih (n / 128) (by omega) (k + 1) _ r (.inr (by omega)) (by omega) (by omega)]
      congr 2
      rw [show (n % 128 + 128) % 128 = n % 128 by omega]
      omega
theorem CS.vget_vput {n : Nat} {r : List UInt8} (h : n < 2 ^ 64) : CS.vget ⟨vput n ++ r, false⟩ = (n, ⟨r, false⟩) := by
  unfold CS.vget
  rw [if_neg (by simp)]
  simp only [vgetL_vput n 0 0 r (.inl rfl) (by decide) (by simpa using h), got]
  simp

/-- What is got, put again, is what was read. -/
theorem vput_vgetL : ∀ (l : List UInt8) (k acc n : Nat) (r : List UInt8), acc < 128 ^ k → vgetL l k acc = some (n, r) → ∃ m, n = acc + m * 128 ^ k ∧ l = vput m ++ r ∧ (0 < k → 0 < m)
  | [], _, _, _, _, _, h => by simp [vgetL] at h
  | x :: t, k, acc, n, r, ha, h => by
    simp only [vgetL] at h
    split at h
    · cases h
    · rename_i hno
      have hx := x.toNat_lt
      split at h
      · rename_i hlt
        simp at h
        obtain ⟨rfl, rfl⟩ := h
        refine ⟨x.toNat, rfl, ?_, by omega⟩
        rw [vput_short hlt]
        simp
      · rename_i hlt
        have hp : 0 < 128 ^ k := Nat.pos_of_ne_zero (by simp)
        obtain ⟨m, hm, rfl, hm0⟩ := vput_vgetL t (k + 1) _ n r (by
          have h1 : (x.toNat % 128 + 1) * 128 ^ k ≤ 128 * 128 ^ k := Nat.mul_le_mul_right _ (by omega)
          rw [Nat.add_mul] at h1
          rw [Nat.pow_succ]
          omega) h
        have hm1 := hm0 (by omega)
        refine ⟨x.toNat % 128 + 128 * m, ?_, ?_, by omega⟩
        · rw [hm, Nat.pow_succ, Nat.add_mul, Nat.add_assoc]
          congr 2
          rw [Nat.mul_comm (128 ^ k) 128, ← Nat.mul_assoc, Nat.mul_comm m 128]
        · rw [vput_long (n := x.toNat % 128 + 128 * m) (by omega)]
          rw [show (x.toNat % 128 + 128 * m) % 128 + 128 = x.toNat by omega, show (x.toNat % 128 + 128 * m) / 128 = m by omega]
          simp
end Go.Proofs.YtdclbhmmpdngpaaDoor
