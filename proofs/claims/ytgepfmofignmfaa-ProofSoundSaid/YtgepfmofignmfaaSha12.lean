/-
  The small cases.
-/
import Derived.Test.YtgepfmofignmfaaProg
import Derived.Test.YtgepfmofignmfaaSha11
import Derived.Lib.SlBytesConst
namespace Go.Proofs.Ytgepfmofignmfaa
set_option linter.unusedSimpArgs false
set_option linter.unusedVariables false
open Go.RowKit

/-- A marked row, seen as a slice. -/
theorem Sl.marked (w : World) (cs : Array Value) (e n : Nat) (fr : Nat × Nat) (hn : n ≤ maxLen) (h0 : 0 < n) : Sl (w.alloc (.cells cs e fr)) (.slice (some ⟨w.heap.size, 0, none⟩) n n) n cs.toList := by
  refine ⟨_, _, rfl, Nat.le_refl _, hn, fun h => (by cases h), fun x hx _ => (by cases hx; simp), fun h => (by omega), fun j u hj => ⟨_, rfl, ?_⟩⟩
  rw [Addr.add_lit, cell_of_row _ _ _ cs e fr (heap_alloc_last w _), Nat.zero_add]
  simpa using hj

end Go.Proofs.Ytgepfmofignmfaa
