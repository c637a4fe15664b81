/-
  Two digests, reckoned.
-/
import Derived.Test.YtgepfmofignmfaaSha10
namespace Go.Proofs.Ytgepfmofignmfaa
set_option linter.unusedSimpArgs false
set_option linter.unusedVariables false

/-- The rounds with the ring beside them: what the kernel can reckon. -/
def roundsR (h : List W32) (b : List UInt8) : Nat → List W32 × List W32
  | 0 => (h, part b 16 0 16)
  | t + 1 => let s := roundsR h b t; (rnd s.1 (kAt t, nextW s.2 t), nextL s.2 t)
theorem roundsR_eq (h : List W32) (b : List UInt8) (t : Nat) : roundsR h b t = (rounds h b t, ringAt b t) := by
  induction t with
  | zero => rfl
  | succ t ih => simp only [roundsR, ih, rounds, ringAt, nextW_ring]
def compR (h : List W32) (b : List UInt8) : List W32 := List.zipWith (· + ·) (roundsR h b 64).1 h
theorem compR_eq (h : List W32) (b : List UInt8) : compR h b = comp h b := by unfold compR comp; rw [roundsR_eq]
def blocksR : Nat → List W32 → List UInt8 → List W32
  | 0, h, _ => h
  | f + 1, h, l => if l.length < 64 then h else blocksR f (compR h (l.take 64)) (l.drop 64)
theorem blocksR_eq (f : Nat) : ∀ h l, blocksR f h l = blocksF f h l := by
  induction f with
  | zero => intro h l; rfl
  | succ f ih => intro h l; simp only [blocksR, blocksF, ih, compR_eq]
theorem blocks_two (h : List W32) (l : List UInt8) (hl : l.length < 128) : blocks h l = blocksR 2 h l := by
  rw [blocksR_eq]
  by_cases h1 : l.length < 64
  · rw [blocks_short h l h1]; simp only [blocksF]; rw [if_pos h1]
  · rw [blocks_long h l h1, blocks_short _ _ (by simp; omega)]
    simp only [blocksF]
    rw [if_neg h1, if_pos (by simp; omega)]
def sumR (b : List UInt8) : List UInt8 := dig (blocksR 2 first8 (b ++ padL b.length))
theorem sumR_eq (b : List UInt8) (hb : b.length < 50) : sumR b = sumB b := by
  unfold sumR sumB
  rw [blocks_two]
  have := padL_length b.length
  have := padZ_lt b.length
  have hz : padZ b.length = (119 - b.length % 64) % 64 := rfl
  simp only [List.length_append]
  omega
theorem sum_nil : (sumB []).getD 0 0 = 0xe3 ∧ (sumB []).getD 3 0 = 0x42 := by
  rw [← sumR_eq [] (by decide)]
  decide +kernel
theorem sum_abc : (sumB [97, 98, 99]).getD 0 0 = 0xba ∧ (sumB [97, 98, 99]).getD 31 0 = 0xad := by
  rw [← sumR_eq [97, 98, 99] (by decide)]
  decide +kernel
theorem pad_55 : (padL 55).length = 9 ∧ (padL 55).getD 0 0 = 128 ∧ (padL 55).getD 8 0 = 184 := by decide +kernel
theorem pad_56 : (padL 56).length = 72 := by decide +kernel
end Go.Proofs.Ytgepfmofignmfaa
