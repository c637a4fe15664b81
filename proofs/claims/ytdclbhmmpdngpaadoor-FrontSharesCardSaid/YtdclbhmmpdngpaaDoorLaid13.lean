/-
  A world for the witnesses of this seat's rows: the settled one, in which bytes.ErrTooLarge holds what its initialiser lays.
-/
import Derived.Test.YtdclbhmmpdngpaaDoorCards
import Derived.Test.YtdclbhmmpdngpaaDoorTie
import Derived.WalkKit
import Derived.ProofKit
import Derived.Deep.DeepHandedRow
import Derived.Lib.LaidTab
namespace Go.Proofs.YtdclbhmmpdngpaaDoor
set_option linter.unusedSimpArgs false
set_option linter.unusedVariables false
open Go.RowKit

def tooLargeS : ByteArray := { data := #[98, 121, 116, 101, 115, 46, 66, 117, 102, 102, 101, 114, 58, 32, 116, 111, 111, 32, 108, 97, 114, 103, 101] }
noncomputable def lowLaid : Nat := (World.holding Tryd.prog default ⟨#[], #[], []⟩).heap.size
noncomputable def laidWorld (os : Os) : World :=
  { World.holding Tryd.prog os ⟨#[.cells #[.string tooLargeS] 90], #[], []⟩ with heap := (World.holding Tryd.prog os ⟨#[.cells #[.string tooLargeS] 90], #[], []⟩).heap.modify 0 fun
      | .cells _ t frozen => .cells #[.iface 75 (.pointer (some ⟨lowLaid, 0, none⟩))] t frozen
      | o => o }
set_option maxRecDepth 100000 in
theorem laid_metB (os : Os) (args : Array Value) : laidMet Tryd.prog [("bytes.ErrTooLarge", Rows.laid_bytes_ErrTooLarge)] ((laidWorld os).forCall (fun _ _ => 0) ⟨#[], args, []⟩).memory :=
  laidMet_of_run' 8 (by kernel_rfl) (by kernel_rfl)
end Go.Proofs.YtdclbhmmpdngpaaDoor
