/-
  What package cursor reckons, over lists and numbers alone.
-/
import Derived.RowKit
import Derived.WalkKit
namespace Go.Proofs.YtdclbhmmpdngpaaDoor
set_option linter.unusedSimpArgs false
set_option linter.unusedVariables false
open Go.RowKit

/-- A cursor: the bytes that are left, and whether it is bad. -/
structure CS where
  l : List UInt8
  bad : Bool

def CS.fail : CS := ⟨[], true⟩
def CS.off (s : CS) (n : Int) : Prop := s.bad = true ∨ n < 0 ∨ (s.l.length : Int) < n
instance (s : CS) (n : Int) : Decidable (s.off n) := by unfold CS.off; infer_instance
/-- The bytes that Take hands back, and the cursor behind it. -/
def CS.took (s : CS) (n : Int) : List UInt8 := if s.off n then [] else s.l.take n.toNat
def CS.then (s : CS) (n : Int) : CS := if s.off n then CS.fail else ⟨s.l.drop n.toNat, false⟩
/-- A number's value, the lowest byte first. -/
def lenum : List UInt8 → Nat
  | [] => 0
  | x :: r => x.toNat + 256 * lenum r
def CS.num (s : CS) (n : Int) : Nat := lenum (s.took n)

theorem CS.took_off {s : CS} {n : Int} (h : s.off n) : s.took n = [] := if_pos h
theorem CS.then_off {s : CS} {n : Int} (h : s.off n) : s.then n = CS.fail := if_pos h
theorem CS.took_on {s : CS} {n : Int} (h : ¬ s.off n) : s.took n = s.l.take n.toNat := if_neg h
theorem CS.then_on {s : CS} {n : Int} (h : ¬ s.off n) : s.then n = ⟨s.l.drop n.toNat, false⟩ := if_neg h

theorem lenum_lt (l : List UInt8) : lenum l < 256 ^ l.length := by
  induction l with
  | nil => simp [lenum]
  | cons x r ih =>
    have := x.toNat_lt
    simp only [lenum, List.length_cons, Nat.pow_succ]
    omega
theorem lenum_snoc (l : List UInt8) (x : UInt8) : lenum (l ++ [x]) = lenum l + x.toNat * 256 ^ l.length := by
  induction l with
  | nil => simp [lenum]
  | cons y r ih =>
    simp only [List.cons_append, lenum, ih, List.length_cons, Nat.pow_succ]
    rw [Nat.mul_add, Nat.mul_left_comm, Nat.mul_comm 256 (256 ^ r.length), Nat.add_assoc]
theorem take_snoc {α : Type} (l : List α) (k : Nat) (h : k < l.length) : l.take (k + 1) = l.take k ++ [l[k]] := by
  rw [List.take_succ_eq_append_getElem h]
theorem lenum_take (l : List UInt8) (k : Nat) (h : k < l.length) : lenum (l.take (k + 1)) = lenum (l.take k) + l[k].toNat * 256 ^ k := by
  rw [take_snoc l k h, lenum_snoc, List.length_take, Nat.min_eq_left (by omega)]
theorem CS.took_length (s : CS) (n : Nat) : (s.took n).length ≤ n := by
  unfold CS.took; split <;> simp; omega
theorem CS.num_lt (s : CS) (n : Nat) : s.num n < 256 ^ n := by
  have h := lenum_lt (s.took n)
  exact Nat.lt_of_lt_of_le h (Nat.pow_le_pow_right (by decide) (CS.took_length s n))
/-- or of apart bits is a sum. -/
theorem or_apart (a x k : Nat) (ha : a < 256 ^ k) : a ||| (x * 256 ^ k) = a + x * 256 ^ k := by
  have e : (256 : Nat) ^ k = 2 ^ (8 * k) := by rw [Nat.pow_mul]
  rw [e] at ha ⊢
  rw [Nat.mul_comm x, Nat.or_comm, ← Nat.two_pow_add_eq_or_of_lt ha, Nat.add_comm]

theorem wraps_u32 (n : Int) (h₀ : 0 ≤ n) (h₁ : n < 2 ^ 32) : IntKind.u32.wrap n = n := IntWalk.u32_in n ⟨h₀, by omega⟩
theorem wraps_u64 (n : Int) (h₀ : 0 ≤ n) (h₁ : n < 2 ^ 64) : IntKind.u64.wrap n = n := IntWalk.u64_in n ⟨h₀, by omega⟩
theorem or_u32 (a b : Nat) (ha : a < 2 ^ 32) (hb : b < 2 ^ 32) : bits .or .u32 a b = ((a ||| b : Nat) : Int) := (bits_nat .u32 32 (by decide) wraps_u32 a b ha hb).2
theorem or_u64 (a b : Nat) (ha : a < 2 ^ 64) (hb : b < 2 ^ 64) : bits .or .u64 a b = ((a ||| b : Nat) : Int) := (bits_nat .u64 64 (by decide) wraps_u64 a b ha hb).2
theorem pow256 (k : Nat) : 256 ^ k = 2 ^ (8 * k) := by rw [Nat.pow_mul]
theorem pow256_le {k m : Nat} (h : k ≤ m) : 256 ^ k ≤ 256 ^ m := Nat.pow_le_pow_right (by decide) h
theorem byte_part {x k : Nat} (hx : x < 256) : x * 256 ^ k < 256 ^ (k + 1) := by
  rw [Nat.pow_succ, Nat.mul_comm]; exact Nat.mul_lt_mul_of_pos_left hx (Nat.pos_of_ne_zero (by simp))
theorem step_u32 (a x k : Nat) (hx : x < 256) (hk : k < 4) (ha : a < 256 ^ k) : bits .or .u32 a ((x : Int) % 4294967296 * 2 ^ (8 * k) % 4294967296) = ((a + x * 256 ^ k : Nat) : Int) := by
  have h1 := byte_part (k := k) hx
  have h2 := pow256_le (show k + 1 ≤ 4 by omega)
  have h3 := pow256_le (show k ≤ 4 by omega)
  have e : ((x : Int) % 4294967296 * 2 ^ (8 * k) % 4294967296) = ((x * 256 ^ k : Nat) : Int) := by
    rw [show (4294967296 : Int) = ((4294967296 : Nat) : Int) by rfl]
    have e1 : ((x : Int) % ((4294967296 : Nat) : Int)) = (x : Int) := by omega
    rw [e1, pow256]
    have e2 : ((x : Int) * 2 ^ (8 * k)) = ((x * 2 ^ (8 * k) : Nat) : Int) := by push_cast; rfl
    rw [e2, ← pow256]
    omega
  rw [e, or_u32 _ _ (by omega) (by omega), or_apart a x k ha]
theorem step_u64 (a x k : Nat) (hx : x < 256) (hk : k < 8) (ha : a < 256 ^ k) : bits .or .u64 a (IntKind.u64.wrap (IntKind.u64.wrap (x : Int) * 2 ^ (8 * k))) = ((a + x * 256 ^ k : Nat) : Int) := by
  have h1 := byte_part (k := k) hx
  have h2 := pow256_le (show k + 1 ≤ 8 by omega)
  have h3 := pow256_le (show k ≤ 8 by omega)
  have e : IntKind.u64.wrap (IntKind.u64.wrap (x : Int) * 2 ^ (8 * k)) = ((x * 256 ^ k : Nat) : Int) := by
    have e1 : IntKind.u64.wrap (x : Int) = (x : Int) := wraps_u64 _ (by omega) (by omega)
    have e2 : ((x : Int) * 2 ^ (8 * k)) = ((x * 2 ^ (8 * k) : Nat) : Int) := by push_cast; rfl
    rw [e1, e2, ← pow256]
    exact wraps_u64 _ (by omega) (by omega)
  rw [e, or_u64 _ _ (by omega) (by omega), or_apart a x k ha]

/-- The k lowest bytes of a number, the lowest first. -/
def lowb (n k : Nat) : List UInt8 := (List.range k).map fun i => UInt8.ofNat (n / 256 ^ i)
theorem lowb_length (n k : Nat) : (lowb n k).length = k := by simp [lowb]
theorem lowb_snoc (n k : Nat) : lowb n (k + 1) = lowb n k ++ [UInt8.ofNat (n / 256 ^ k)] := by simp [lowb, List.range_succ]
theorem lowb_zero (n : Nat) : lowb n 0 = [] := rfl
theorem low_div (n k : Nat) : n / 256 ^ (k + 1) = n / 256 ^ k / 256 := by rw [Nat.pow_succ, Nat.div_div_eq_div_mul]
theorem low_cast (n k : Nat) : ((n / 256 ^ (k + 1) : Nat) : Int) = (n : Int) / 256 ^ k / 256 := by
  rw [low_div, Int.natCast_ediv, Int.natCast_ediv, Int.natCast_pow]; rfl
theorem byte_val (n : Nat) : ((UInt8.ofNat n).toNat : Int) = (n : Int) % 256 := by simp

theorem lenum_lowb (n k : Nat) : lenum (lowb n k) = n % 256 ^ k := by
  induction k with
  | zero => simp [lowb, lenum, Nat.mod_one]
  | succ k ih =>
    rw [lowb_snoc, lenum_snoc, ih, lowb_length, Nat.pow_succ, Nat.mod_mul]
    simp [Nat.mul_comm]
theorem CS.num_lowb {n k : Nat} {r : List UInt8} (h : n < 256 ^ k) : CS.num ⟨lowb n k ++ r, false⟩ k = n := by
  have ho : ¬ CS.off ⟨lowb n k ++ r, false⟩ k := by simp [CS.off, lowb_length]; omega
  rw [CS.num, CS.took_on ho]
  simp only [Int.toNat_natCast]
  rw [List.take_left' (lowb_length n k), lenum_lowb, Nat.mod_eq_of_lt h]
theorem CS.then_lowb {n k : Nat} {r : List UInt8} : CS.then ⟨lowb n k ++ r, false⟩ k = ⟨r, false⟩ := by
  have ho : ¬ CS.off ⟨lowb n k ++ r, false⟩ k := by simp [CS.off, lowb_length]; omega
  rw [CS.then_on ho]
  simp only [Int.toNat_natCast]
  rw [List.drop_left' (lowb_length n k)]
theorem CS.took_app {l r : List UInt8} : CS.took ⟨l ++ r, false⟩ l.length = l := by
  have ho : ¬ CS.off ⟨l ++ r, false⟩ l.length := by simp [CS.off]; omega
  rw [CS.took_on ho]
  simp
theorem CS.then_app {l r : List UInt8} : CS.then ⟨l ++ r, false⟩ l.length = ⟨r, false⟩ := by
  have ho : ¬ CS.off ⟨l ++ r, false⟩ l.length := by simp [CS.off]; omega
  rw [CS.then_on ho]
  simp

end Go.Proofs.YtdclbhmmpdngpaaDoor
