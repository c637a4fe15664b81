/-
  In a soft region: an operation that makes memory.
-/
import Derived.Test.YtdclbhmmpdngpaaDoorSoft
namespace Go.Proofs.YtdclbhmmpdngpaaDoor
set_option linter.unusedSimpArgs false
set_option linter.unusedVariables false
open Go.RowKit
section
variable {P : Program} {ops : Array Oper}
theorem soft_made {Q : Exit → Act → World → Prop} {o : Oper} {a : Act} {w w' : World} {v : Value} {F : Value → World → Prop} (hw : Region.wanted o (yielded ops a.tmps) = true) (hr : (execOp a.eval o).run P w = .ok (.value v) w') (hg : Chg [] w w') (hf : F v w') : softStep P ops Q o a w F := by
  unfold softStep
  rw [if_pos hw]
  unfold Oper.wp
  rw [hr]
  exact ⟨v, rfl, hg, hf⟩
end
end Go.Proofs.YtdclbhmmpdngpaaDoor
