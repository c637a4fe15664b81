/-
  The contract of the document's own Get (hypostyleref16).
-/
import Derived.Test.YtfnfcioofkeanaaSchema3
namespace Go.Proofs.Ytfnfcioofkeanaa
set_option linter.unusedSimpArgs false
set_option linter.unusedVariables false
open Go.RowKit

theorem CS.then_bad {s : CS} (h : s.bad = true) (n : Int) : s.then n = CS.fail := CS.then_off (.inl h)
theorem CS.num_bad {s : CS} (h : s.bad = true) (n : Int) : s.num n = 0 := by rw [CS.num, CS.took_off (.inl h)]; rfl
theorem CS.oneS_bad {s : CS} (h : s.bad = true) : s.oneS.bad = true := by
  have h0 : s.vget = (0, CS.fail) := by unfold CS.vget; rw [if_pos h]
  have h1 : s.c1 = CS.fail := by unfold CS.c1 CS.vlen; rw [if_pos (.inl (by rw [h0]; rfl))]
  have h2 : s.c2 = CS.fail := by unfold CS.c2; rw [h1]; exact CS.then_bad rfl _
  have h3 : s.c3 = CS.fail := by unfold CS.c3; rw [h2]; exact CS.then_bad rfl _
  have h4 : s.c4 = CS.fail := by unfold CS.c4; rw [h3]; exact CS.then_bad rfl _
  unfold CS.oneS
  split
  · rw [h4]; rfl
  · rfl
theorem colsN_bad : ∀ (n : Nat) (s : CS) (out : List Col), s.bad = true → (colsN n s out).2.bad = true
  | 0, _, _, h => h
  | n + 1, s, out, h => colsN_bad n _ _ (CS.oneS_bad h)

theorem RCur.is {B : Nat} {w : World} {q : Nat} {s : CS} (h : RCur B w q s) : w.cell? ⟨q, 1, none⟩ = some (.bool s.bad) := by
  obtain ⟨v, hh, _⟩ := h
  exact (cells2 hh).2.1

end Go.Proofs.Ytfnfcioofkeanaa
