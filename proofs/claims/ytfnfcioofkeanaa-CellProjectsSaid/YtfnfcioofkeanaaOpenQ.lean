/-
  Queries and footers that come in, by value.
-/
import Derived.Test.YtfnfcioofkeanaaOpenD
import Derived.Test.YtfnfcioofkeanaaQuery6
namespace Go.Proofs.Ytfnfcioofkeanaa
set_option linter.unusedSimpArgs false
set_option linter.unusedVariables false
open Go.RowKit Go.ChangeShapes Go.WideShapes Go.Deep

theorem dec_any {H : Type} {enc : TypeId × Value → H} {P : Program} {w : World} {t e : TypeId} (ht : P.underlying t = some (.slice e)) : Dec enc P w t 1 (fun v : Value => [v]) (fun v => ∃ a n c, v = .slice a n c) := by
  intro cs n y h _ _
  rcases open_slice ht h with ⟨rfl, rfl⟩ | ⟨a, len, cap, m, n, D, Pl, rfl, _⟩
  · exact ⟨_, rfl, _, _, _, rfl⟩
  · exact ⟨_, rfl, _, _, _, rfl⟩
def okQ (w : World) (x : Value × Qu) : Prop := Sl w x.1 x.2.cols.length (ics .i64 x.2.cols) ∧ (∀ c ∈ x.2.cols, I64 c) ∧ x.2.cols.length * 8 ≤ 140737488351232 ∧ I64 x.2.lo ∧ I64 x.2.hi
theorem dec_query {H : Type} {enc : TypeId × Value → H} {w : World} : Dec enc Try.prog w 24 3 (fun x : Value × Qu => [x.1, .int .i64 x.2.lo, .int .i64 x.2.hi]) (okQ w) :=
  (dec_struct3 Try.underlying24 (dec_slice (dec_int Try.underlying3) Try.underlying22 (by kernel_rfl) (bytes := 8) (by kernel_rfl) (by decide)) (dec_int Try.underlying3) (dec_int Try.underlying3) (by kernel_rfl)).mapD
    (fun ⟨⟨v, l⟩, lo, hi⟩ ⟨⟨h0, h1, h2⟩, h3, h4⟩ => ⟨(v, ⟨l, lo, hi⟩), rfl, by rw [flatMap_single] at h0; exact h0, h1, h2, h3, h4⟩)
/-- A footer: the slice of its columns, its rows, the slice of its groups. -/
theorem dec_footer {H : Type} {enc : TypeId × Value → H} {w : World} : Dec enc Try.prog w 28 3 (fun x : Value × Int × Value => [x.1, .int .i64 x.2.1, x.2.2]) (fun x => (∃ a n c, x.1 = .slice a n c) ∧ I64 x.2.1 ∧ ∃ a n c, x.2.2 = .slice a n c) :=
  (dec_struct3 Try.underlying28 (dec_any Try.underlying25) (dec_int Try.underlying3) (dec_any Try.underlying26) (by kernel_rfl)).mapD
    (fun ⟨v, r, g⟩ ⟨h0, h1, h2⟩ => ⟨(v, r, g), rfl, h0, h1, h2⟩)
end Go.Proofs.Ytfnfcioofkeanaa
