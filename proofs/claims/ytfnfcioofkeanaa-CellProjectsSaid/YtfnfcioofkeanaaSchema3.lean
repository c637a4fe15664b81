/-
  The contracts of schema.Get and of the document's own Get (hypostyleref16).
-/
import Derived.Test.YtfnfcioofkeanaaSchema2
import Derived.Test.YtfnfcioofkeanaaCurMore
namespace Go.Proofs.Ytfnfcioofkeanaa
set_option linter.unusedSimpArgs false
set_option linter.unusedVariables false
open Go.RowKit

theorem el_col : ElemT Try.prog 25 58 3 32 := by
  obtain ⟨i, hi, hz, h1, h2⟩ := info_parts (P := Try.prog) (e := 58) (z := .agg #[.string { data := #[] }, .int .i64 0, .bool false]) (size := 3) (bytes := 32) (by kernel_rfl)
  exact ⟨Try.underlying25, ⟨i, _, hi, hz, h1, h2, rfl⟩, by decide, by decide⟩

/-- n columns are read. -/
def colsN : Nat → CS → List Col → List Col × CS
  | 0, s, out => (out, s)
  | n + 1, s, out => colsN n s.oneS (out ++ [s.oneC])
def gotC (r : List Col × CS) : List Col × CS := if colsV r.1 ≠ 0 ∨ r.2.bad = true then ([], CS.fail) else r
def CS.gcols (s : CS) : List Col × CS := gotC (colsN (s.vlen 64).1 (s.vlen 64).2 [])

theorem CS.vlen_le (s : CS) (most : Nat) : (s.vlen most).1 ≤ most := by
  by_cases h : (most : Int) < 0 ∨ (most : Int) < (s.vget.1 : Int)
  · rw [CS.vlen_off h]; exact Nat.zero_le _
  · rw [CS.vlen_on h]; omega
theorem CS.oneC_ok (s : CS) : s.oneC.name.length ≤ 100 ∧ 0 ≤ s.oneC.typ ∧ s.oneC.typ < 256 := by
  have h1 := CS.took_length s.c1 (s.vlen 100).1
  have h2 := CS.vlen_le s 100
  have h3 : s.c2.num 1 < 256 := CS.num_lt s.c2 1
  refine ⟨Nat.le_trans h1 h2, ?_, ?_⟩ <;> (simp only [CS.oneC]; omega)
theorem colc_one (l : List Col) : ∀ u ∈ l.flatMap colc, u.oneCell' = true := by
  intro u hu
  obtain ⟨c, _, hc⟩ := List.mem_flatMap.1 hu
  simp only [colc, List.mem_cons, List.not_mem_nil, or_false] at hc
  rcases hc with rfl | rfl | rfl <;> rfl
theorem colc_length (l : List Col) : (l.flatMap colc).length = l.length * 3 := flat_length colc 3 l (fun _ _ => rfl)

end Go.Proofs.Ytfnfcioofkeanaa
