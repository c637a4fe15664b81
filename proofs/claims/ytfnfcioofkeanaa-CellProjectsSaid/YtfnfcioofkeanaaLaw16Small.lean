/-
  small of chapter 16.
-/
import Derived.Test.YtfnfcioofkeanaaSchemaPure
import Derived.Test.YtfnfcioofkeanaaCurMore
import Derived.Lib.SlBytesConst
namespace Go.Proofs.Ytfnfcioofkeanaa
set_option linter.unusedSimpArgs false
set_option linter.unusedVariables false
open Go.RowKit

def L0 : List Col := [⟨[97], 0, false⟩, ⟨[98, 99], 3, true⟩]
theorem putB_L0 : putB L0 = [2, 1, 97, 0, 0, 2, 98, 99, 3, 1] := by
  simp only [putB, L0, colB, List.length_cons, List.length_nil, List.flatMap_cons, List.flatMap_nil]
  rw [vput_short (by decide), vput_short (by decide)]
  rfl
theorem colsV_L0 : colsV L0 = 0 := by decide +kernel
theorem putB_nil : putB [] = [0] := by
  simp only [putB, List.length_nil, List.flatMap_nil]
  rw [vput_short (by decide)]
  rfl
/-- Columns with a name twice are not read. -/
theorem gcols_dup {L : List Col} {r : List UInt8} (h : colsV L ≠ 0) (hl : L.length ≤ 64) (hL : ∀ c ∈ L, c.name.length ≤ 100 ∧ 0 ≤ c.typ ∧ c.typ < 4) : CS.gcols ⟨putB L ++ r, false⟩ = ([], CS.fail) := by
  have e1 : CS.vlen ⟨putB L ++ r, false⟩ 64 = (L.length, ⟨L.flatMap colB ++ r, false⟩) := by
    unfold putB
    rw [List.append_assoc]
    exact CS.vlen_vput (by omega) (by omega)
  unfold CS.gcols
  rw [e1]
  dsimp only
  rw [colsN_putB L r [] hL]
  unfold gotC
  rw [if_pos (by simp [h])]
def L1 : List Col := [⟨[97], 0, false⟩, ⟨[97], 0, false⟩]
theorem putB_L1 : putB L1 = [2, 1, 97, 0, 0, 1, 97, 0, 0] := by
  simp only [putB, L1, colB, List.length_cons, List.length_nil, List.flatMap_cons, List.flatMap_nil]
  rw [vput_short (by decide), vput_short (by decide)]
  rfl
theorem gcols_L1 : CS.gcols ⟨[2, 1, 97, 0, 0, 1, 97, 0, 0], false⟩ = ([], CS.fail) := by
  have h := gcols_dup (L := L1) (r := []) (by decide +kernel) (by decide) (by decide +kernel)
  rw [putB_L1] at h
  exact h

/-- A new row whose marks are whatever, seen as a slice. -/
theorem Sl.litF (w : World) (cs : Array Value) (e n : Nat) (fr : Nat × Nat) (hn : n ≤ maxLen) (hcs : n = 0 → cs = #[] := by intro h; cases h) : Sl (w.alloc (.cells cs e fr)) (.slice (some ⟨w.heap.size, 0, none⟩) n n) n cs.toList := by
  refine ⟨_, _, rfl, Nat.le_refl _, hn, fun h => (by cases h), fun x hx _ => (by cases hx; simp), fun h => (by have := hcs h; simpa using this), fun j u hj => ⟨_, rfl, ?_⟩⟩
  rw [Addr.add_lit, cell_of_row _ _ _ _ _ _ (heap_alloc_new w _)]
  simpa using hj
theorem World.size_alloc' (w : World) (o : Obj) : (w.alloc o).heap.size = w.heap.size + 1 := by simp

end Go.Proofs.Ytfnfcioofkeanaa
