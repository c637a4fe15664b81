/-
  Columns that come in.
-/
import Derived.Test.YtfnfcioofkeanaaOpenD
import Derived.Test.YtfnfcioofkeanaaCols
namespace Go.Proofs.Ytfnfcioofkeanaa
set_option linter.unusedSimpArgs false
set_option linter.unusedVariables false
open Go.RowKit Go.ChangeShapes Go.WideShapes Go.Deep

def okCol (c : Col) : Prop := c.name.length ≤ 140737488351232 ∧ I64 c.typ
theorem dec_col {H : Type} {enc : TypeId × Value → H} {w : World} : Dec enc Try.prog w 58 3 colc okCol :=
  (dec_struct3 Try.underlying58 (dec_string Try.underlying9) (dec_int Try.underlying3) (dec_bool Try.underlying4) (by kernel_rfl)).mapD (fun ⟨a, b, c⟩ ⟨h0, h1, _⟩ => ⟨⟨a, b, c⟩, rfl, h0, h1⟩)
theorem okCol.wide {L : List Col} (h : ∀ c ∈ L, okCol c) : ∀ c ∈ L, c.name.length ≤ maxLen ∧ -9223372036854775808 ≤ c.typ ∧ c.typ ≤ 9223372036854775807 :=
  fun c hc => by obtain ⟨h0, h1, h2⟩ := h c hc; exact ⟨by unfold maxLen; omega, h1, h2⟩
end Go.Proofs.Ytfnfcioofkeanaa
