/-
  Words of 32 bits: what Go's operations on uint32 are, over BitVec 32.
-/
import Derived.Test.YtgepfmofignmfaaBase
namespace Go.Proofs.Ytgepfmofignmfaa
set_option linter.unusedSimpArgs false
set_option linter.unusedVariables false
open Go.RowKit

abbrev W32 := BitVec 32
/-- A word as an integer, as the cells hold it. -/
def iw (x : W32) : Int := (x.toNat : Int)
def wv (x : W32) : Value := .int .u32 (iw x)
theorem iw_lt (x : W32) : 0 ≤ iw x ∧ iw x < 4294967296 := by
  unfold iw; have := x.isLt; omega
theorem ofInt_iw (x : W32) : BitVec.ofInt 32 (iw x) = x := by
  unfold iw; rw [BitVec.ofInt_natCast, BitVec.ofNat_toNat]; simp
theorem wrap_iw (x : W32) : IntKind.u32.wrap ((x.toNat : Nat) : Int) = iw x := by
  have := x.isLt
  unfold iw
  exact IntWalk.u32_in _ (by omega)
theorem iw_xor (a b : W32) : bits .xor .u32 (iw a) (iw b) = iw (a ^^^ b) := by
  unfold bits
  simp only [IntKind.bits, ofInt_iw]
  exact wrap_iw _
theorem iw_and (a b : W32) : bits .and .u32 (iw a) (iw b) = iw (a &&& b) := by
  unfold bits
  simp only [IntKind.bits, ofInt_iw]
  exact wrap_iw _
theorem iw_or (a b : W32) : bits .or .u32 (iw a) (iw b) = iw (a ||| b) := by
  unfold bits
  simp only [IntKind.bits, ofInt_iw]
  exact wrap_iw _
theorem iw_add (a b : W32) : (iw a + iw b) % 4294967296 = iw (a + b) := by
  unfold iw; rw [BitVec.toNat_add]; omega
theorem iw_addw (a b : W32) : IntKind.u32.wrap (iw a + iw b) = iw (a + b) := by
  have e := iw_add a b
  rw [← e]; rfl
theorem iw_mulw (a b : W32) : IntKind.u32.wrap (iw a * iw b) = iw (a * b) := by
  have e : (iw a * iw b) % 4294967296 = iw (a * b) := by
    unfold iw; rw [BitVec.toNat_mul, ← Int.natCast_mul]; omega
  rw [← e]; rfl
theorem iw_shl (a : W32) (n : Nat) : (iw a * 2 ^ n) % 4294967296 = iw (a <<< n) := by
  unfold iw; rw [BitVec.toNat_shiftLeft, Nat.shiftLeft_eq]
  have e : ((a.toNat : Int) * 2 ^ n) = ((a.toNat * 2 ^ n : Nat) : Int) := by push_cast; rfl
  rw [e]
  omega
theorem iw_shr (a : W32) (n : Nat) : iw a / 2 ^ n = iw (a >>> n) := by
  unfold iw; rw [BitVec.toNat_ushiftRight, Nat.shiftRight_eq_div_pow]
  have e : ((2 : Int) ^ n) = ((2 ^ n : Nat) : Int) := by push_cast; rfl
  rw [e]
  omega

/-- A word turned right. -/
def rr (x : W32) (n : Nat) : W32 := (x >>> n) ||| (x <<< (32 - n))
theorem rr_add (x : W32) (n : Nat) (h0 : 0 < n) (h : n < 32) : (x >>> n) + (x <<< (32 - n)) = rr x n := by
  unfold rr
  exact BitVec.add_eq_or_of_and_eq_zero _ _ (by
    apply BitVec.eq_of_getLsbD_eq
    intro i hi
    simp only [BitVec.getLsbD_and, BitVec.getLsbD_ushiftRight, BitVec.getLsbD_shiftLeft, BitVec.getLsbD_zero]
    by_cases h1 : i < 32 - n
    · simp [h1]
    · have : x.getLsbD (n + i) = false := BitVec.getLsbD_of_ge _ _ (by omega)
      simp [this])
theorem or_comm32 (a b : W32) : a ||| b = b ||| a := BitVec.or_comm a b

/-- The choice, and the majority, as both texts write them. -/
theorem ch_eq (e f g : W32) : g ^^^ (e &&& (f ^^^ g)) = (e &&& f) ^^^ (~~~e &&& g) := by
  apply BitVec.eq_of_getLsbD_eq
  intro i hi
  simp only [BitVec.getLsbD_xor, BitVec.getLsbD_and, BitVec.getLsbD_not, hi, decide_true, Bool.true_and]
  cases e.getLsbD i <;> cases f.getLsbD i <;> cases g.getLsbD i <;> rfl
theorem maj_eq (a b c : W32) : (a &&& b) ||| (c &&& (a ||| b)) = (a &&& b) ^^^ (a &&& c) ^^^ (b &&& c) := by
  apply BitVec.eq_of_getLsbD_eq
  intro i hi
  simp only [BitVec.getLsbD_xor, BitVec.getLsbD_and, BitVec.getLsbD_or]
  cases a.getLsbD i <;> cases b.getLsbD i <;> cases c.getLsbD i <;> rfl

/-- The cells of words. -/
def wcs (l : List W32) : List Value := l.map wv
theorem wcs_length (l : List W32) : (wcs l).length = l.length := by simp [wcs]

end Go.Proofs.Ytgepfmofignmfaa
