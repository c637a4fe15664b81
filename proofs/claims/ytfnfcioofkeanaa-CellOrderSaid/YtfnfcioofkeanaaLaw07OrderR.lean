/-
  CellOrder: the walk, with its arguments' bounds ahead.
-/
import Derived.Test.YtfnfcioofkeanaaLaw07Order
namespace Go.Proofs.Ytfnfcioofkeanaa
set_option linter.unusedSimpArgs false
set_option linter.unusedVariables false
open Go.RowKit

theorem cellOrder_run (w : World) (a b c : Cell) (col : Col) (_ : okCell a) (_ : okCell b) (_ : okCell c) (_ : okCol col) :
    Calls Try.prog 11 #[.agg (cellc a).toArray, .agg (cellc b).toArray, .agg (cellc c).toArray, .agg (colc col).toArray] w fun e w' => e = .returned (.bool true) ∧ Chg [] w w' :=
  order7_run w a b c col
end Go.Proofs.Ytfnfcioofkeanaa
