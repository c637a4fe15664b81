/-
  A projection of a table is one; a projection of a projection is one of the table: pure.
-/
import Derived.Test.YtfnfcioofkeanaaProj
namespace Go.Proofs.Ytfnfcioofkeanaa
set_option linter.unusedSimpArgs false
set_option linter.unusedVariables false
open Go.RowKit

theorem colsGo_zeroP : ∀ (l : List Col) (seen : List (List UInt8)), colsGo l seen = 0 ↔ (∀ c ∈ l, 0 < c.name.length ∧ c.name.length ≤ 100 ∧ 0 ≤ c.typ ∧ c.typ < 4 ∧ c.name ∉ seen) ∧ (l.map (·.name)).Nodup
  | [], seen => by simp [colsGo]
  | a :: l, seen => by
    have ih := colsGo_zeroP l (seen ++ [a.name])
    rw [show colsGo (a :: l) seen = if a.name.length = 0 ∨ 100 < a.name.length ∨ a.name ∈ seen then 1 else if a.typ < 0 ∨ 4 ≤ a.typ then 3 else colsGo l (seen ++ [a.name]) from rfl]
    split
    · rename_i h
      constructor
      · intro h; cases h
      · rintro ⟨h1, _⟩
        obtain ⟨q1, q2, _, _, q5⟩ := h1 a (List.mem_cons_self ..)
        rcases h with h | h | h
        · omega
        · omega
        · exact absurd h q5
    · rename_i h
      simp only [not_or] at h
      obtain ⟨p1, p2, p3⟩ := h
      split
      · rename_i h
        constructor
        · intro h; cases h
        · rintro ⟨h1, _⟩
          obtain ⟨_, _, q3, q4, _⟩ := h1 a (List.mem_cons_self ..)
          omega
      · rename_i h
        rw [ih, List.map_cons, List.nodup_cons]
        constructor
        · rintro ⟨h1, h2⟩
          refine ⟨fun c hc => ?_, ?_, h2⟩
          · rcases List.mem_cons.1 hc with rfl | hc
            · exact ⟨by omega, by omega, by omega, by omega, p3⟩
            · obtain ⟨q1, q2, q3, q4, q5⟩ := h1 c hc
              exact ⟨q1, q2, q3, q4, fun hm => q5 (List.mem_append_left _ hm)⟩
          · intro hm
            obtain ⟨c, hc, e⟩ := List.mem_map.1 hm
            exact (h1 c hc).2.2.2.2 (by rw [e]; simp)
        · rintro ⟨h1, h2, h3⟩
          refine ⟨fun c hc => ?_, h3⟩
          obtain ⟨q1, q2, q3, q4, q5⟩ := h1 c (List.mem_cons_of_mem _ hc)
          refine ⟨q1, q2, q3, q4, fun hm => ?_⟩
          rcases List.mem_append.1 hm with hm | hm
          · exact q5 hm
          · rw [List.mem_singleton] at hm
            exact h2 (List.mem_map.2 ⟨c, hc, hm⟩)
theorem colsV_zeroP {l : List Col} : colsV l = 0 ↔ l.length ≤ 64 ∧ (∀ c ∈ l, 0 < c.name.length ∧ c.name.length ≤ 100 ∧ 0 ≤ c.typ ∧ c.typ < 4) ∧ (l.map (·.name)).Nodup := by
  unfold colsV
  split
  · rename_i h
    constructor
    · intro h; cases h
    · rintro ⟨h1, _⟩; omega
  · rename_i h
    rw [colsGo_zeroP]
    constructor
    · rintro ⟨h1, h2⟩
      exact ⟨by omega, fun c hc => ⟨(h1 c hc).1, (h1 c hc).2.1, (h1 c hc).2.2.1, (h1 c hc).2.2.2.1⟩, h2⟩
    · rintro ⟨_, h1, h2⟩
      exact ⟨fun c hc => ⟨(h1 c hc).1, (h1 c hc).2.1, (h1 c hc).2.2.1, (h1 c hc).2.2.2, by simp⟩, h2⟩
/-- Picks of what is not twice are not twice. -/
theorem nodup_pick {α : Type} [DecidableEq α] (l : List α) (d : α) (hn : l.Nodup) : ∀ cols : List Int, cols.Nodup → (∀ c ∈ cols, 0 ≤ c ∧ c < (l.length : Int)) → (cols.map fun k => l.getD k.toNat d).Nodup
  | [], _, _ => by simp
  | c :: cols, h1, h2 => by
    rw [List.map_cons, List.nodup_cons]
    obtain ⟨h3, h4⟩ := List.nodup_cons.1 h1
    refine ⟨fun hm => ?_, nodup_pick l d hn cols h4 fun x hx => h2 x (List.mem_cons_of_mem _ hx)⟩
    obtain ⟨x, hx, e⟩ := List.mem_map.1 hm
    obtain ⟨a1, a2⟩ := h2 x (List.mem_cons_of_mem _ hx)
    obtain ⟨b1, b2⟩ := h2 c (List.mem_cons_self ..)
    have ex : l.getD x.toNat d = l[x.toNat]'(by omega) := by simp [List.getD, show x.toNat < l.length by omega]
    have ec : l.getD c.toNat d = l[c.toNat]'(by omega) := by simp [List.getD, show c.toNat < l.length by omega]
    rw [ex, ec] at e
    have hh := List.pairwise_iff_getElem.1 hn
    have hxc : x.toNat = c.toNat := by
      rcases Nat.lt_trichotomy x.toNat c.toNat with q | q | q
      · exact absurd e (hh _ _ _ _ q)
      · exact q
      · exact absurd e.symm (hh _ _ _ _ q)
    exact h3 (by rw [show c = x by omega]; exact hx)
/-- A list of numbers that are not twice and below n is not longer than n. -/
theorem nodup_few (n : Nat) (cols : List Int) (h1 : cols.Nodup) (h2 : ∀ c ∈ cols, 0 ≤ c ∧ c < (n : Int)) : cols.length ≤ n := by
  exact nodup_length cols n h1 h2
theorem fitsV_iff {cols : List Int} {lo hi many rows : Int} : fitsV cols lo hi many rows = true ↔ cols.Nodup ∧ (∀ c ∈ cols, 0 ≤ c ∧ c < many) ∧ 0 ≤ lo ∧ lo ≤ hi ∧ hi ≤ rows := by
  unfold fitsV; rw [decide_eq_true_iff]
theorem getD_memP {α : Type} {l : List α} {k : Nat} (d : α) (h : k < l.length) : l.getD k d ∈ l := by
  rw [List.getD, List.getElem?_eq_getElem h]; exact List.getElem_mem h
/-- A projection of a table is one. -/
theorem pick_good {t : Tab} (h : checkV t = 0) {cols : List Int} {lo hi : Int} (hf : fitsV cols lo hi t.cols.length t.rows = true) : checkV (pickT t cols lo hi) = 0 := by
  obtain ⟨z1, z2, z3, z4, z5, z6⟩ := checkV_zero h
  obtain ⟨f1, f2, f3, f4, f5⟩ := fitsV_iff.1 hf
  obtain ⟨c1, c2, c3⟩ := colsV_zeroP.1 z1
  have hd : ∀ c ∈ cols, t.data.getD c.toNat [] ∈ t.data := fun c hc => getD_memP _ (by have := f2 c hc; omega)
  have hc : ∀ c ∈ cols, t.cols.getD c.toNat ⟨[], 0, false⟩ ∈ t.cols := fun c hc => getD_memP _ (by have := f2 c hc; omega)
  have hcols : colsV (pickT t cols lo hi).cols = 0 := by
    rw [colsV_zeroP]
    refine ⟨?_, fun c hc' => ?_, ?_⟩
    · have := nodup_few t.cols.length cols f1 f2
      simp only [pickT, List.length_map]
      omega
    · obtain ⟨x, hx, rfl⟩ := List.mem_map.1 hc'
      exact c2 _ (hc x hx)
    · have := nodup_pick (t.cols.map (·.name)) [] c3 cols f1 (by simpa using f2)
      have e : (pickT t cols lo hi).cols.map (·.name) = cols.map fun k => (t.cols.map (·.name)).getD k.toNat [] := by
        simp only [pickT, List.map_map]
        refine List.map_congr_left fun k hk => ?_
        obtain ⟨a, b⟩ := f2 k hk
        simp [List.getD, show k.toNat < t.cols.length by omega]
      rw [e]; exact this
  unfold checkV
  rw [if_neg (by rw [hcols]; simp), if_neg (by simp only [pickT]; omega), if_neg, if_neg]
  · unfold hasBad at z6 ⊢
    simp only [decide_eq_true_eq, decide_eq_false_iff_not, not_exists, not_and] at z6 ⊢
    intro p hp c hcp hbad
    have hz : (pickT t cols lo hi).cols.zip (pickT t cols lo hi).data = cols.map fun k => (t.cols.getD k.toNat ⟨[], 0, false⟩, ((t.data.getD k.toNat []).take hi.toNat).drop lo.toNat) := by
      simp only [pickT]
      rw [List.zip_map']
    rw [hz] at hp
    obtain ⟨k, hk, rfl⟩ := List.mem_map.1 hp
    have hk2 := f2 k hk
    refine z6 (t.cols.getD k.toNat ⟨[], 0, false⟩, t.data.getD k.toNat []) ?_ c (List.mem_of_mem_take (List.mem_of_mem_drop hcp)) hbad
    refine List.mem_iff_getElem.2 ⟨k.toNat, by simp; omega, ?_⟩
    simp [List.getD, show k.toNat < t.cols.length by omega, show k.toNat < t.data.length by omega]
  · simp only [not_or, pickT, List.length_map]
    refine ⟨by omega, by simp, ?_⟩
    unfold badLen
    simp only [decide_eq_true_eq, not_exists, not_and, Decidable.not_not]
    intro l hl
    obtain ⟨k, hk, rfl⟩ := List.mem_map.1 hl
    have := z5 _ (hd k hk)
    simp only [List.length_drop, List.length_take]
    omega
/-- A projection of a projection is one of the table. -/
theorem pick_pick {t : Tab} {cols some : List Int} {lo hi a b : Int} (hf : fitsV cols lo hi t.cols.length t.rows = true) (hg : fitsV some a b cols.length (hi - lo) = true) :
    fitsV (some.map fun k => cols.getD k.toNat 0) (lo + a) (lo + b) t.cols.length t.rows = true ∧ pickT (pickT t cols lo hi) some a b = pickT t (some.map fun k => cols.getD k.toNat 0) (lo + a) (lo + b) := by
  obtain ⟨f1, f2, f3, f4, f5⟩ := fitsV_iff.1 hf
  obtain ⟨g1, g2, g3, g4, g5⟩ := fitsV_iff.1 hg
  refine ⟨fitsV_iff.2 ⟨nodup_pick cols 0 f1 some g1 g2, fun c hc => ?_, by omega, by omega, by omega⟩, ?_⟩
  · obtain ⟨x, hx, rfl⟩ := List.mem_map.1 hc
    exact f2 _ (getD_memP _ (by have := g2 x hx; omega))
  · unfold pickT
    simp only [List.map_map, Tab.mk.injEq]
    refine ⟨List.map_congr_left fun k hk => ?_, by omega, List.map_congr_left fun k hk => ?_⟩
    · have := g2 k hk
      simp [List.getD, show k.toNat < cols.length by omega]
    · have := g2 k hk
      simp only [Function.comp, List.getD, List.getElem?_map, List.getElem?_eq_getElem (show k.toNat < cols.length by omega), Option.map_some, Option.getD_some]
      rw [List.take_drop, List.take_take, List.drop_drop]
      congr 2
      · omega
      · congr 1; omega
end Go.Proofs.Ytfnfcioofkeanaa
