/-
  A column more keeps columns right just if it may be, and has a name that is not there: pure.
-/
import Derived.Test.YtfnfcioofkeanaaCols
namespace Go.Proofs.Ytfnfcioofkeanaa
set_option linter.unusedSimpArgs false
set_option linter.unusedVariables false

theorem colsGo_snoc (c : Col) : ∀ (l : List Col) (seen : List (List UInt8)), colsGo (l ++ [c]) seen = 0 ↔ colsGo l seen = 0 ∧ c.name ∉ seen ∧ c.name ∉ l.map (·.name) ∧ colsGo [c] [] = 0
  | [], seen => by
    simp only [List.nil_append, colsGo, List.map_nil, List.not_mem_nil, not_false_eq_true, true_and, or_false]
    by_cases h1 : c.name.length = 0 ∨ 100 < c.name.length
    · have h2 : c.name.length = 0 ∨ 100 < c.name.length ∨ c.name ∈ seen := by rcases h1 with h | h <;> simp [h]
      rw [if_pos h2, if_pos h1]
      simp
    · by_cases h3 : c.name ∈ seen
      · rw [if_pos (.inr (.inr h3))]; simp [h3]
      · rw [if_neg (by simp only [not_or] at h1 ⊢; exact ⟨h1.1, h1.2, h3⟩), if_neg h1]
        simp [h3]
  | a :: l, seen => by
    have ih := colsGo_snoc c l (seen ++ [a.name])
    simp only [List.cons_append]
    rw [show colsGo (a :: (l ++ [c])) seen = if a.name.length = 0 ∨ 100 < a.name.length ∨ a.name ∈ seen then 1 else if a.typ < 0 ∨ 4 ≤ a.typ then 3 else colsGo (l ++ [c]) (seen ++ [a.name]) from rfl]
    rw [show colsGo (a :: l) seen = if a.name.length = 0 ∨ 100 < a.name.length ∨ a.name ∈ seen then 1 else if a.typ < 0 ∨ 4 ≤ a.typ then 3 else colsGo l (seen ++ [a.name]) from rfl]
    split
    · simp
    · split
      · simp
      · rw [ih]
        simp only [List.mem_append, List.map_cons, List.mem_cons, List.not_mem_nil, or_false, not_or]
        constructor
        · rintro ⟨h1, ⟨h2, h3⟩, h4, h5⟩; exact ⟨h1, h2, ⟨h3, h4⟩, h5⟩
        · rintro ⟨h1, h2, ⟨h3, h4⟩, h5⟩; exact ⟨h1, ⟨h2, h3⟩, h4, h5⟩
theorem colsV_snoc (l : List Col) (c : Col) : decide (colsV (l ++ [c]) = 0) = (decide (colsV [c] = 0) && decide (colsV l = 0) && !decide (c.name ∈ l.map (·.name)) && decide (l.length < 64)) := by
  have h := colsGo_snoc c l []
  have h0 : c.name ∉ ([] : List (List UInt8)) := by simp
  unfold colsV
  simp only [List.length_append, List.length_cons, List.length_nil, Nat.zero_add]
  rw [if_neg (show ¬ 64 < 1 by omega)]
  by_cases h1 : l.length < 64
  · rw [if_neg (by omega), if_neg (by omega)]
    rw [Bool.eq_iff_iff]
    simp only [decide_eq_true_eq, Bool.and_eq_true, Bool.not_eq_true', decide_eq_false_iff_not]
    rw [h]
    constructor
    · rintro ⟨a, _, b, d⟩; exact ⟨⟨⟨d, a⟩, b⟩, h1⟩
    · rintro ⟨⟨⟨d, a⟩, b⟩, _⟩; exact ⟨a, h0, b, d⟩
  · rw [if_pos (by omega)]
    simp [h1]
end Go.Proofs.Ytfnfcioofkeanaa
