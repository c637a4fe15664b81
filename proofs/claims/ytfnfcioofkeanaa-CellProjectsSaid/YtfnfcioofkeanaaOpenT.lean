/-
  Cells and tables that come in.
-/
import Derived.Test.YtfnfcioofkeanaaOpenQ
import Derived.Test.YtfnfcioofkeanaaOpenC
import Derived.Test.YtfnfcioofkeanaaTab
namespace Go.Proofs.Ytfnfcioofkeanaa
set_option linter.unusedSimpArgs false
set_option linter.unusedVariables false
open Go.RowKit Go.ChangeShapes Go.WideShapes Go.Deep

theorem dec_struct4 {H : Type} {enc : TypeId × Value → H} {P : Program} {w : World} {α β γ δ : Type} {t : TypeId} {f0 f1 f2 f3 : Field} {s0 s1 s2 s3 : Nat} {g0 : α → List Value} {g1 : β → List Value} {g2 : γ → List Value} {g3 : δ → List Value} {k0 : α → Prop} {k1 : β → Prop} {k2 : γ → Prop} {k3 : δ → Prop} (ht : P.underlying t = some (.struct #[f0, f1, f2, f3]))
    (d0 : Dec enc P w f0.type s0 g0 k0) (d1 : Dec enc P w f1.type s1 g1 k1) (d2 : Dec enc P w f2.type s2 g2 k2) (d3 : Dec enc P w f3.type s3 g3 k3) (hs : (P.cellsOf f0.type, P.cellsOf f1.type, P.cellsOf f2.type, P.cellsOf f3.type, f0.offset, f1.offset, f2.offset, f3.offset) = (s0, s1, s2, s3, 0, s0, s0 + s1, s0 + s1 + s2)) :
    Dec enc P w t (s0 + s1 + s2 + s3) (fun x : α × β × γ × δ => g0 x.1 ++ (g1 x.2.1 ++ (g2 x.2.2.1 ++ g3 x.2.2.2))) (fun x => k0 x.1 ∧ k1 x.2.1 ∧ k2 x.2.2.1 ∧ k3 x.2.2.2) := by
  simp only [Prod.mk.injEq] at hs
  obtain ⟨c0, c1, c2, c3, o0, o1, o2, o3⟩ := hs
  intro cs n y h hl hsm
  obtain ⟨xs, m, _, rfl, _, hlen, hf⟩ := DataW.trod_struct ht h
  match xs, hlen with
  | [y0, y1, y2, y3], _ =>
    have h0 := by simpa using hf 0 f0 rfl
    have h1 := by simpa using hf 1 f1 rfl
    have h2 := by simpa using hf 2 f2 rfl
    have h3 := by simpa using hf 3 f3 rfl
    rw [c0, o0, List.drop_zero] at h0
    rw [c1, o1] at h1
    rw [c2, o2] at h2
    rw [c3, o3] at h3
    have hw : ∀ n ∈ DataW.weightsEach P [f0.type, f1.type, f2.type, f3.type] [y0.1, y1.1, y2.1, y3.1], n ≤ reachBytes := by simpa [Small, DataW.weights, ht] using hsm
    obtain ⟨a, e0, ok0⟩ := d0 _ _ _ h0 (by simp; omega) (fun n hn => hw n (by simp [DataW.weightsEach, hn]))
    obtain ⟨b, e1, ok1⟩ := d1 _ _ _ h1 (by simp; omega) (fun n hn => hw n (by simp [DataW.weightsEach, hn]))
    obtain ⟨c, e2, ok2⟩ := d2 _ _ _ h2 (by simp; omega) (fun n hn => hw n (by simp [DataW.weightsEach, hn]))
    obtain ⟨d, e3, ok3⟩ := d3 _ _ _ h3 (by simp; omega) (fun n hn => hw n (by simp [DataW.weightsEach, hn]))
    refine ⟨(a, b, c, d), ?_, ok0, ok1, ok2, ok3⟩
    dsimp only
    rw [← e0, ← e1, ← e2, ← e3]
    rw [List.take_of_length_le (l := cs.drop (s0 + s1 + s2)) (by simp; omega)]
    rw [show cs.drop (s0 + s1 + s2) = ((cs.drop s0).drop s1).drop s2 by rw [List.drop_drop, List.drop_drop, Nat.add_assoc], show cs.drop (s0 + s1) = (cs.drop s0).drop s1 by rw [List.drop_drop], List.take_append_drop, List.take_append_drop, List.take_append_drop]
theorem dec_point {H : Type} {enc : TypeId × Value → H} {w : World} : Dec enc Try.prog w 52 2 (fun x : Int × Int => [.int .i64 x.1, .int .i64 x.2]) (fun x => I64 x.1 ∧ I64 x.2) :=
  dec_struct2 Try.underlying52 (dec_int Try.underlying3) (dec_int Try.underlying3) (by kernel_rfl)
def okCell (c : Cell) : Prop := I64 c.int ∧ c.text.length ≤ 140737488351232 ∧ I64 c.x ∧ I64 c.y
theorem dec_cell {H : Type} {enc : TypeId × Value → H} {w : World} : Dec enc Try.prog w 54 5 cellc okCell :=
  (dec_struct4 Try.underlying54 (dec_bool Try.underlying4) (dec_int Try.underlying3) (dec_string Try.underlying9) dec_point (by kernel_rfl)).mapD (fun ⟨a, b, c, d⟩ ⟨_, h1, h2, h3⟩ => ⟨⟨a, b, c, d.1, d.2⟩, rfl, h1, h2, h3.1, h3.2⟩)
/-- A table that comes in: its columns' slice, its columns, its rows, its data's slice, its data. -/
def okT (w : World) (x : Value × List Col × Int × Value × Rows2) : Prop :=
  Sl w x.1 x.2.1.length (x.2.1.flatMap colc) ∧ (∀ c ∈ x.2.1, okCol c) ∧ x.2.1.length * 32 ≤ 140737488351232 ∧ I64 x.2.2.1 ∧ Sl2 w x.2.2.2.1 x.2.2.2.2 ∧ (∀ r ∈ x.2.2.2.2, (∀ c ∈ r.2, okCell c) ∧ r.2.length * 48 ≤ 140737488351232) ∧ x.2.2.2.2.length * 24 ≤ 140737488351232
theorem dec_table {H : Type} {enc : TypeId × Value → H} {w : World} : Dec enc Try.prog w 42 3 (fun x : Value × List Col × Int × Value × Rows2 => [x.1, .int .i64 x.2.2.1, x.2.2.2.1]) (okT w) :=
  (dec_struct3 Try.underlying42 (dec_slice dec_col Try.underlying25 (by kernel_rfl) (bytes := 32) (by kernel_rfl) (by decide)) (dec_int Try.underlying3)
    (dec_slice (dec_slice dec_cell Try.underlying50 (by kernel_rfl) (bytes := 48) (by kernel_rfl) (by decide)) Try.underlying40 (by kernel_rfl) (bytes := 24) (by kernel_rfl) (by decide)) (by kernel_rfl)).mapD
    (fun ⟨⟨v, L⟩, r, ⟨u, D⟩⟩ ⟨⟨h0, h1, h2⟩, h3, ⟨h4, h5, h6⟩⟩ => ⟨(v, L, r, u, D), rfl, h0, h1, h2, h3, ⟨by rw [flatMap_single] at h4; exact h4, fun x hx => (h5 x hx).1⟩, fun x hx => ⟨(h5 x hx).2.1, (h5 x hx).2.2⟩, h6⟩)
end Go.Proofs.Ytfnfcioofkeanaa
