/-
  In a quiet head: an operation that its guard leaves out.
-/
import Derived.Test.YtfnfcioofkeanaaSoft
namespace Go.Proofs.Ytfnfcioofkeanaa
set_option linter.unusedSimpArgs false
set_option linter.unusedVariables false
open Go.RowKit
theorem quiet_skipC {P : Program} {ops : Array Oper} {C : World → Prop} {R : Act → Prop} {rest : List Oper} {a : Act} {o : Oper} (hw : Region.wanted o (yielded ops a.tmps) = false) (h : wpQuiet P ops C R rest (a.put o.dst undef)) : wpQuiet P ops C R (o :: rest) a := by
  refine wpQuiet_step fun K hK => ?_
  rw [if_neg (by rw [hw]; exact Bool.false_ne_true)]
  exact hK _ h
end Go.Proofs.Ytfnfcioofkeanaa
