/-
  Rows of rows of bytes that come in.
-/
import Derived.Test.YtfodlkofjmbolaaProg
import Derived.Test.YtfodlkofjmbolaaOpenD
import Derived.Test.YtfodlkofjmbolaaRowsB
namespace Go.Proofs.Ytfodlkofjmbolaa
set_option linter.unusedSimpArgs false
set_option linter.unusedVariables false
open Go.RowKit

theorem dec_rowB {H : Type} {enc : TypeId × Value → H} {w : World} : Dec enc Try.prog w 22 1 (fun x : Value × List UInt8 => [x.1]) (fun x => Sl w x.1 x.2.length (bcs x.2) ∧ x.2.length ≤ 140737488351232) :=
  (dec_slice (dec_byte Try.underlying5) Try.underlying22 (by kernel_rfl) (bytes := 1) (by kernel_rfl) (by decide)).mapD (fun ⟨v, l⟩ ⟨h1, _, h3⟩ => ⟨(v, l), rfl, by rw [flatMap_single] at h1; exact h1, by omega⟩)
theorem SlB.of {w : World} {v : Value} {D : RowsB} (h : Sl w v D.length (D.flatMap fun x : Value × List UInt8 => [x.1])) (hD : ∀ x ∈ D, Sl w x.1 x.2.length (bcs x.2) ∧ x.2.length ≤ 140737488351232) : SlB w v D :=
  ⟨by rw [flatMap_single] at h; exact h, fun x hx => (hD x hx).1⟩
/-- A tag, and parts, that come in. -/
abbrev RowR := List UInt8 × Value × RowsB
def rowc (x : RowR) : List Value := [.string (bstr x.1), x.2.1]
def okR (w : World) (x : RowR) : Prop := x.1.length ≤ 140737488351232 ∧ SlB w x.2.1 x.2.2 ∧ (∀ r ∈ x.2.2, r.2.length ≤ 140737488351232) ∧ x.2.2.length * 24 ≤ 140737488351232
theorem dec_rowR {H : Type} {enc : TypeId × Value → H} {w : World} : Dec enc Try.prog w 53 2 rowc (okR w) :=
  (dec_struct2 Try.underlying53 (dec_string Try.underlying9) (dec_slice dec_rowB Try.underlying38 (by kernel_rfl) (bytes := 24) (by kernel_rfl) (by decide)) (by kernel_rfl)).mapD
    (fun ⟨s, ⟨v, D⟩⟩ ⟨h0, h1, h2, h3⟩ => ⟨(s, v, D), rfl, h0, SlB.of h1 h2, fun r hr => (h2 r hr).2, h3⟩)
end Go.Proofs.Ytfodlkofjmbolaa
