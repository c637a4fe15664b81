/-
  What package proof reckons, over lists of digests alone.
-/
import Derived.Test.YtgepfmofignmfaaTreePure
namespace Go.Proofs.Ytgepfmofignmfaa
set_option linter.unusedSimpArgs false
set_option linter.unusedVariables false
open Go.RowKit

/-- What a walk over a tree does, with a state. -/
structure Acts (σ : Type) where
  inn : σ → Nat → Nat → Bytes × σ
  bes : σ → Nat → Nat → Bytes × σ
  nod : σ → Bytes → Bytes → Bytes × σ
def overV {σ : Type} (A : Acts σ) (lo hi a b : Nat) (s : σ) : Bytes × σ :=
  if _h : hi ≤ lo ∨ b ≤ lo ∨ hi ≤ a then A.bes s a b
  else if _h2 : lo ≤ a ∧ b ≤ hi then A.inn s a b
  else A.nod (overV A lo hi (a + splitV (b - a)) b (overV A lo hi a (a + splitV (b - a)) s).2).2 (overV A lo hi a (a + splitV (b - a)) s).1 (overV A lo hi (a + splitV (b - a)) b (overV A lo hi a (a + splitV (b - a)) s).2).1
termination_by b - a
decreasing_by
  all_goals
    have h1 := splitV_pos (n := b - a) (by omega)
    have h2 := splitV_lt (n := b - a) (by omega)
    omega
theorem overV_bes {σ : Type} {A : Acts σ} {lo hi a b : Nat} {s : σ} (h : hi ≤ lo ∨ b ≤ lo ∨ hi ≤ a) : overV A lo hi a b s = A.bes s a b := by
  rw [overV, dif_pos h]
theorem overV_inn {σ : Type} {A : Acts σ} {lo hi a b : Nat} {s : σ} (h : ¬ (hi ≤ lo ∨ b ≤ lo ∨ hi ≤ a)) (h2 : lo ≤ a ∧ b ≤ hi) : overV A lo hi a b s = A.inn s a b := by
  rw [overV, dif_neg h, dif_pos h2]
theorem overV_nod {σ : Type} {A : Acts σ} {lo hi a b : Nat} {s : σ} (h : ¬ (hi ≤ lo ∨ b ≤ lo ∨ hi ≤ a)) (h2 : ¬ (lo ≤ a ∧ b ≤ hi)) :
    overV A lo hi a b s = A.nod (overV A lo hi (a + splitV (b - a)) b (overV A lo hi a (a + splitV (b - a)) s).2).2 (overV A lo hi a (a + splitV (b - a)) s).1 (overV A lo hi (a + splitV (b - a)) b (overV A lo hi a (a + splitV (b - a)) s).2).1 := by
  conv => lhs; rw [overV]
  rw [dif_neg h, dif_neg h2]
/-- How many parts there are beside. -/
def needV (lo hi a b : Nat) : Nat :=
  if _h : hi ≤ lo ∨ b ≤ lo ∨ hi ≤ a then 1
  else if _h2 : lo ≤ a ∧ b ≤ hi then 0
  else needV lo hi a (a + splitV (b - a)) + needV lo hi (a + splitV (b - a)) b
termination_by b - a
decreasing_by
  all_goals
    have h1 := splitV_pos (n := b - a) (by omega)
    have h2 := splitV_lt (n := b - a) (by omega)
    omega
theorem needV_bes {lo hi a b : Nat} (h : hi ≤ lo ∨ b ≤ lo ∨ hi ≤ a) : needV lo hi a b = 1 := by
  rw [needV, dif_pos h]
theorem needV_inn {lo hi a b : Nat} (h : ¬ (hi ≤ lo ∨ b ≤ lo ∨ hi ≤ a)) (h2 : lo ≤ a ∧ b ≤ hi) : needV lo hi a b = 0 := by
  rw [needV, dif_neg h, dif_pos h2]
theorem needV_nod {lo hi a b : Nat} (h : ¬ (hi ≤ lo ∨ b ≤ lo ∨ hi ≤ a)) (h2 : ¬ (lo ≤ a ∧ b ≤ hi)) :
    needV lo hi a b = needV lo hi a (a + splitV (b - a)) + needV lo hi (a + splitV (b - a)) b := by
  conv => lhs; rw [needV]
  rw [dif_neg h, dif_neg h2]
/-- An induction over the parts of a tree. -/
theorem over_ind {lo hi : Nat} {P : Nat → Nat → Prop}
    (hb : ∀ a b, a < b → (hi ≤ lo ∨ b ≤ lo ∨ hi ≤ a) → P a b)
    (hi' : ∀ a b, a < b → ¬ (hi ≤ lo ∨ b ≤ lo ∨ hi ≤ a) → (lo ≤ a ∧ b ≤ hi) → P a b)
    (hn : ∀ a b, a + 2 ≤ b → ¬ (hi ≤ lo ∨ b ≤ lo ∨ hi ≤ a) → ¬ (lo ≤ a ∧ b ≤ hi) → a < a + splitV (b - a) → a + splitV (b - a) < b → P a (a + splitV (b - a)) → P (a + splitV (b - a)) b → P a b)
    (a b : Nat) (hab : a < b) : P a b := by
  generalize hk : b - a = k
  induction k using Nat.strongRecOn generalizing a b with
  | ind k ih =>
    by_cases h1 : hi ≤ lo ∨ b ≤ lo ∨ hi ≤ a
    · exact hb a b hab h1
    by_cases h2 : lo ≤ a ∧ b ≤ hi
    · exact hi' a b hab h1 h2
    have k1 := splitV_pos (n := b - a) (by omega)
    have k2 := splitV_lt (n := b - a) (by omega)
    exact hn a b (by omega) h1 h2 (by omega) (by omega) (ih _ (by omega) a _ (by omega) rfl) (ih _ (by omega) _ b (by omega) rfl)
theorem need_zero {lo hi a b : Nat} (hab : a < b) : needV lo hi a b = 0 ↔ (lo < hi ∧ lo ≤ a ∧ b ≤ hi) := by
  refine over_ind (lo := lo) (hi := hi) (P := fun a b => needV lo hi a b = 0 ↔ (lo < hi ∧ lo ≤ a ∧ b ≤ hi)) ?_ ?_ ?_ a b hab
  · intro a b h h1
    rw [needV_bes h1]
    omega
  · intro a b h h1 h2
    rw [needV_inn h1 h2]
    omega
  · intro a b h h1 h2 k1 k2 i1 i2
    rw [needV_nod h1 h2]
    omega
theorem depth_parts {n : Nat} (h : 2 ≤ n) : depthV n = 1 + depthV (splitV n) ∧ depthV (n - splitV n) ≤ depthV (splitV n) :=
  ⟨depthV_split h, depthV_mono (by have := splitV_half h; omega)⟩
theorem need_left {lo hi a b : Nat} (hab : a < b) (h : lo ≤ a) (h2 : a < hi) : needV lo hi a b ≤ depthV (b - a) := by
  revert h h2
  refine over_ind (lo := lo) (hi := hi) (P := fun a b => lo ≤ a → a < hi → needV lo hi a b ≤ depthV (b - a)) ?_ ?_ ?_ a b hab
  · intro a b h h1 h3 h4
    omega
  · intro a b h h1 h2 _ _
    rw [needV_inn h1 h2]
    omega
  · intro a b h h1 h2 k1 k2 i1 i2 h3 h4
    obtain ⟨d1, d2⟩ := depth_parts (n := b - a) (by omega)
    rw [needV_nod h1 h2]
    have j1 := i1 h3 h4
    rw [show a + splitV (b - a) - a = splitV (b - a) by omega] at j1
    by_cases hm : hi ≤ a + splitV (b - a)
    · rw [needV_bes (a := a + splitV (b - a)) (b := b) (by omega)]
      omega
    · have j2 := i2 (by omega) (by omega)
      rw [show b - (a + splitV (b - a)) = b - a - splitV (b - a) by omega] at j2
      rw [needV_inn (a := a) (b := a + splitV (b - a)) (by omega) (by omega)]
      omega
theorem need_right {lo hi a b : Nat} (hab : a < b) (h : b ≤ hi) (h2 : lo < b) : needV lo hi a b ≤ depthV (b - a) := by
  revert h h2
  refine over_ind (lo := lo) (hi := hi) (P := fun a b => b ≤ hi → lo < b → needV lo hi a b ≤ depthV (b - a)) ?_ ?_ ?_ a b hab
  · intro a b h h1 h3 h4
    omega
  · intro a b h h1 h2 _ _
    rw [needV_inn h1 h2]
    omega
  · intro a b h h1 h2 k1 k2 i1 i2 h3 h4
    obtain ⟨d1, d2⟩ := depth_parts (n := b - a) (by omega)
    rw [needV_nod h1 h2]
    have j2 := i2 h3 h4
    rw [show b - (a + splitV (b - a)) = b - a - splitV (b - a) by omega] at j2
    by_cases hm : a + splitV (b - a) ≤ lo
    · rw [needV_bes (a := a) (b := a + splitV (b - a)) (by omega)]
      omega
    · have j1 := i1 (by omega) (by omega)
      rw [show a + splitV (b - a) - a = splitV (b - a) by omega] at j1
      rw [needV_inn (a := a + splitV (b - a)) (b := b) (by omega) (by omega)]
      omega
theorem need_all {lo hi a b : Nat} (hab : a < b) (h0 : lo < hi) (h : lo < b) (h2 : a < hi) : needV lo hi a b ≤ 2 * depthV (b - a) := by
  revert h h2
  refine over_ind (lo := lo) (hi := hi) (P := fun a b => lo < b → a < hi → needV lo hi a b ≤ 2 * depthV (b - a)) ?_ ?_ ?_ a b hab
  · intro a b h h1 h3 h4
    omega
  · intro a b h h1 h2 _ _
    rw [needV_inn h1 h2]
    omega
  · intro a b h h1 h2 k1 k2 i1 i2 h3 h4
    obtain ⟨d1, d2⟩ := depth_parts (n := b - a) (by omega)
    rw [needV_nod h1 h2]
    by_cases hm : hi ≤ a + splitV (b - a)
    · have j1 := i1 (by omega) (by omega)
      rw [show a + splitV (b - a) - a = splitV (b - a) by omega] at j1
      rw [needV_bes (a := a + splitV (b - a)) (b := b) (by omega)]
      omega
    by_cases hl : a + splitV (b - a) ≤ lo
    · have j2 := i2 (by omega) (by omega)
      rw [show b - (a + splitV (b - a)) = b - a - splitV (b - a) by omega] at j2
      rw [needV_bes (a := a) (b := a + splitV (b - a)) (by omega)]
      omega
    · have j1 := need_right (lo := lo) (hi := hi) k1 (by omega) (by omega)
      have j2 := need_left (lo := lo) (hi := hi) k2 (by omega) (by omega)
      rw [show a + splitV (b - a) - a = splitV (b - a) by omega] at j1
      rw [show b - (a + splitV (b - a)) = b - a - splitV (b - a) by omega] at j2
      omega
theorem need_one {lo a b : Nat} (hab : a < b) (h : lo < b) (h2 : a ≤ lo) : needV lo (lo + 1) a b ≤ depthV (b - a) := by
  revert h h2
  refine over_ind (lo := lo) (hi := lo + 1) (P := fun a b => lo < b → a ≤ lo → needV lo (lo + 1) a b ≤ depthV (b - a)) ?_ ?_ ?_ a b hab
  · intro a b h h1 h3 h4
    omega
  · intro a b h h1 h2 _ _
    rw [needV_inn h1 h2]
    omega
  · intro a b h h1 h2 k1 k2 i1 i2 h3 h4
    obtain ⟨d1, d2⟩ := depth_parts (n := b - a) (by omega)
    rw [needV_nod h1 h2]
    by_cases hm : lo + 1 ≤ a + splitV (b - a)
    · have j1 := i1 (by omega) (by omega)
      rw [show a + splitV (b - a) - a = splitV (b - a) by omega] at j1
      rw [needV_bes (a := a + splitV (b - a)) (b := b) (by omega)]
      omega
    · have j2 := i2 (by omega) (by omega)
      rw [show b - (a + splitV (b - a)) = b - a - splitV (b - a) by omega] at j2
      rw [needV_bes (a := a) (b := a + splitV (b - a)) (by omega)]
      omega
/-- May that be? -/
def fitsP (n lo hi : Int) : Bool := decide (0 ≤ lo) && decide (lo ≤ hi) && decide (hi ≤ n) && decide (n ≤ 65536)
def needP (n lo hi : Int) : Int := if fitsP n lo hi = true then (if n = 0 then 0 else (needV lo.toNat hi.toNat 0 n.toNat : Int)) else -1
/-- Few digests are needed. -/
theorem few_law (n lo hi : Int) (h : ¬ (n < 0 ∨ n > 65536 ∨ lo < 0 ∨ lo > hi ∨ hi > n)) :
    if lo = hi then (n = 0 ∧ needP n lo hi = 0) ∨ (n > 0 ∧ needP n lo hi = 1) else needP n lo hi ≥ 0 ∧ needP n lo hi ≤ 2 * depthV n.toNat ∧ (decide (needP n lo hi = 0) = (decide (lo = 0) && decide (hi = n))) ∧ (hi - lo > 1 ∨ needP n lo hi ≤ depthV n.toNat) := by
  have hf : fitsP n lo hi = true := by simp only [fitsP, Bool.and_eq_true, decide_eq_true_eq]; omega
  unfold needP
  rw [if_pos hf]
  by_cases e : lo = hi
  · rw [if_pos e]
    by_cases hn : n = 0
    · exact .inl ⟨hn, if_pos hn⟩
    · rw [if_neg hn, needV_bes (by omega)]
      exact .inr ⟨by omega, rfl⟩
  · rw [if_neg e]
    have hn : ¬ n = 0 := by omega
    rw [if_neg hn]
    have h0 : 0 < n.toNat := by omega
    have h1 := need_all (lo := lo.toNat) (hi := hi.toNat) h0 (by omega) (by omega) (by omega)
    have h2 := need_zero (lo := lo.toNat) (hi := hi.toNat) h0
    rw [Nat.sub_zero] at h1
    refine ⟨by omega, by omega, ?_, ?_⟩
    · rw [Bool.eq_iff_iff]
      simp only [Bool.and_eq_true, decide_eq_true_eq]
      omega
    · by_cases h3 : hi - lo > 1
      · exact .inl h3
      · have h4 := need_one (lo := lo.toNat) h0 (by omega) (by omega)
        rw [show lo.toNat + 1 = hi.toNat by omega, Nat.sub_zero] at h4
        exact .inr (by omega)
/-- Some of a list. -/
def cutL (L : List Bytes) (a b : Nat) : List Bytes := (L.take b).drop a
theorem cutL_len {L : List Bytes} {a b : Nat} (hb : b ≤ L.length) : (cutL L a b).length = b - a := by simp [cutL]; omega
theorem cutL_32 {L : List Bytes} {a b : Nat} (h : ∀ x ∈ L, x.length = 32) : ∀ x ∈ cutL L a b, x.length = 32 := fun x hx => h x (List.mem_of_mem_take (List.mem_of_mem_drop hx))
theorem cutL_all {L : List Bytes} : cutL L 0 L.length = L := by simp [cutL]
theorem cutL_take {L : List Bytes} {a b k : Nat} (hk : a + k ≤ b) : (cutL L a b).take k = cutL L a (a + k) := by
  unfold cutL
  rw [List.take_drop, List.take_take, Nat.min_eq_left (by omega)]
theorem cutL_drop {L : List Bytes} {a b k : Nat} : (cutL L a b).drop k = cutL L (a + k) b := by
  unfold cutL
  rw [List.drop_drop]
theorem tree_cut {L : List Bytes} {a b : Nat} (hb : b ≤ L.length) (hab : a + 2 ≤ b) : treeV (cutL L a b) = (hashV nodeS [(treeV (cutL L a (a + splitV (b - a)))).1, (treeV (cutL L (a + splitV (b - a)) b)).1],
    (treeV (cutL L a (a + splitV (b - a)))).2 ++ (treeV (cutL L (a + splitV (b - a)) b)).2 ++ [frameB nodeS [(treeV (cutL L a (a + splitV (b - a)))).1, (treeV (cutL L (a + splitV (b - a)) b)).1]]) := by
  have k2 := splitV_lt (n := b - a) (by omega)
  rw [treeV_many (by rw [cutL_len hb]; omega), cutL_len hb, cutL_take (by omega), cutL_drop]
/-- What is proved: digests, and what is logged. -/
def proveA (L : List Bytes) : Acts (List Bytes × List Bytes) where
  inn s _ _ := (zero32, s)
  bes s a b := (zero32, (s.1 ++ [(treeV (cutL L a b)).1], s.2 ++ (treeV (cutL L a b)).2))
  nod s _ _ := (zero32, s)
/-- What is joined: what is left of the proof, and what is logged. -/
def joinA (part : List Bytes) (lo : Nat) : Acts (List Bytes × List Bytes) where
  inn s a b := ((treeV (cutL part (a - lo) (b - lo))).1, (s.1, s.2 ++ (treeV (cutL part (a - lo) (b - lo))).2))
  bes s _ _ := (s.1.headD zero32, (s.1.tail, s.2))
  nod s x y := (hashV nodeS [x, y], (s.1, s.2 ++ [frameB nodeS [x, y]]))
def needA : Acts Nat where
  inn s _ _ := (zero32, s)
  bes s _ _ := (zero32, s + 1)
  nod s _ _ := (zero32, s)
theorem need_over {lo hi a b s : Nat} (hab : a < b) : (overV needA lo hi a b s).2 = s + needV lo hi a b := by
  refine over_ind (lo := lo) (hi := hi) (P := fun a b => ∀ s, (overV needA lo hi a b s).2 = s + needV lo hi a b) ?_ ?_ ?_ a b hab s
  · intro a b h h1 s; rw [overV_bes h1, needV_bes h1]; rfl
  · intro a b h h1 h2 s; rw [overV_inn h1 h2, needV_inn h1 h2]; rfl
  · intro a b h h1 h2 k1 k2 i1 i2 s
    rw [overV_nod h1 h2, needV_nod h1 h2]
    show (overV needA lo hi _ b (overV needA lo hi a _ s).2).2 = _
    rw [i2, i1]
    omega
/-- A proof is as long as needed. -/
theorem prove_len {L : List Bytes} {lo hi a b : Nat} (hab : a < b) (s : List Bytes × List Bytes) : (overV (proveA L) lo hi a b s).2.1.length = s.1.length + needV lo hi a b := by
  refine over_ind (lo := lo) (hi := hi) (P := fun a b => ∀ s : List Bytes × List Bytes, (overV (proveA L) lo hi a b s).2.1.length = s.1.length + needV lo hi a b) ?_ ?_ ?_ a b hab s
  · intro a b h h1 s; rw [overV_bes h1, needV_bes h1]; simp [proveA]
  · intro a b h h1 h2 s; rw [overV_inn h1 h2, needV_inn h1 h2]; rfl
  · intro a b h h1 h2 k1 k2 i1 i2 s
    rw [overV_nod h1 h2, needV_nod h1 h2]
    show (overV (proveA L) lo hi _ b (overV (proveA L) lo hi a _ s).2).2.1.length = _
    rw [i2, i1]
    omega
theorem prove_32 {L : List Bytes} (hL : ∀ x ∈ L, x.length = 32) {lo hi a b : Nat} (hab : a < b) (s : List Bytes × List Bytes) (hs : ∀ x ∈ s.1, x.length = 32) : ∀ x ∈ (overV (proveA L) lo hi a b s).2.1, x.length = 32 := by
  refine over_ind (lo := lo) (hi := hi) (P := fun a b => ∀ s : List Bytes × List Bytes, (∀ x ∈ s.1, x.length = 32) → ∀ x ∈ (overV (proveA L) lo hi a b s).2.1, x.length = 32) ?_ ?_ ?_ a b hab s hs
  · intro a b h h1 s hs
    rw [overV_bes h1]
    intro x hx
    rcases List.mem_append.1 hx with hx | hx
    · exact hs x hx
    · rw [List.mem_singleton.1 hx]; exact treeV_len (cutL_32 hL)
  · intro a b h h1 h2 s hs; rw [overV_inn h1 h2]; exact hs
  · intro a b h h1 h2 k1 k2 i1 i2 s hs
    rw [overV_nod h1 h2]
    exact i2 _ (i1 s hs)
/-- What is proved is put behind what was. -/
theorem prove_add {L : List Bytes} {lo hi a b : Nat} (hab : a < b) (s : List Bytes × List Bytes) : (overV (proveA L) lo hi a b s).2.1 = s.1 ++ (overV (proveA L) lo hi a b ([], [])).2.1 := by
  refine over_ind (lo := lo) (hi := hi) (P := fun a b => ∀ s : List Bytes × List Bytes, (overV (proveA L) lo hi a b s).2.1 = s.1 ++ (overV (proveA L) lo hi a b ([], [])).2.1) ?_ ?_ ?_ a b hab s
  · intro a b h h1 s; rw [overV_bes h1, overV_bes h1]; simp [proveA]
  · intro a b h h1 h2 s; rw [overV_inn h1 h2, overV_inn h1 h2]; simp [proveA]
  · intro a b h h1 h2 k1 k2 i1 i2 s
    rw [overV_nod h1 h2, overV_nod h1 h2]
    show (overV (proveA L) lo hi _ b (overV (proveA L) lo hi a _ s).2).2.1 = s.1 ++ (overV (proveA L) lo hi _ b (overV (proveA L) lo hi a _ ([], [])).2).2.1
    rw [i2, i1 s, i2 (overV (proveA L) lo hi a _ ([], [])).2, List.append_assoc]
/-- What is proved is joined to the root. -/
theorem join_prove {L : List Bytes} {lo hi a b : Nat} (hab : a < b) (hb : b ≤ L.length) (hh : hi ≤ L.length) (rest F G : List Bytes) :
    (overV (joinA (cutL L lo hi) lo) lo hi a b ((overV (proveA L) lo hi a b ([], [])).2.1 ++ rest, F)).1 = (treeV (cutL L a b)).1 ∧ (overV (joinA (cutL L lo hi) lo) lo hi a b ((overV (proveA L) lo hi a b ([], [])).2.1 ++ rest, F)).2.1 = rest := by
  clear G
  revert hb
  refine over_ind (lo := lo) (hi := hi) (P := fun a b => ∀ (rest F : List Bytes), b ≤ L.length → (overV (joinA (cutL L lo hi) lo) lo hi a b ((overV (proveA L) lo hi a b ([], [])).2.1 ++ rest, F)).1 = (treeV (cutL L a b)).1 ∧ (overV (joinA (cutL L lo hi) lo) lo hi a b ((overV (proveA L) lo hi a b ([], [])).2.1 ++ rest, F)).2.1 = rest) ?_ ?_ ?_ a b hab rest F
  · intro a b h h1 rest F _
    rw [overV_bes h1, overV_bes h1]
    simp [joinA, proveA]
  · intro a b h h1 h2 rest F _
    rw [overV_inn h1 h2, overV_inn h1 h2]
    simp only [joinA, proveA, List.nil_append, and_true]
    have e : cutL (cutL L lo hi) (a - lo) (b - lo) = cutL L a b := by
      unfold cutL
      rw [List.take_drop, List.take_take, List.drop_drop]
      congr 2 <;> omega
    rw [e]
  · intro a b h h1 h2 k1 k2 i1 i2 rest F hb
    have hP : (overV (proveA L) lo hi a b ([], [])).2.1 = (overV (proveA L) lo hi a (a + splitV (b - a)) ([], [])).2.1 ++ (overV (proveA L) lo hi (a + splitV (b - a)) b ([], [])).2.1 := by
      rw [overV_nod h1 h2]
      exact prove_add k2 _
    rw [hP, List.append_assoc, overV_nod h1 h2, tree_cut hb h]
    generalize (overV (proveA L) lo hi (a + splitV (b - a)) b ([], [])).2.1 = P2 at *
    generalize (overV (proveA L) lo hi a (a + splitV (b - a)) ([], [])).2.1 = P1 at *
    obtain ⟨j1, j2⟩ := i1 (P2 ++ rest) F (by omega)
    generalize overV (joinA (cutL L lo hi) lo) lo hi a (a + splitV (b - a)) (P1 ++ (P2 ++ rest), F) = X at *
    obtain ⟨x, s, F2⟩ := X
    dsimp only at j1 j2
    subst j2
    obtain ⟨j3, j4⟩ := i2 rest F2 hb
    dsimp only
    generalize overV (joinA (cutL L lo hi) lo) lo hi (a + splitV (b - a)) b (P2 ++ rest, F2) = Y at *
    obtain ⟨y, s', F3⟩ := Y
    dsimp only at j3 j4 ⊢
    rw [← j1, ← j3]
    exact ⟨rfl, j4⟩
theorem zero32_len : zero32.length = 32 := List.length_replicate
theorem headD_32 {r : List Bytes} (h : ∀ x ∈ r, x.length = 32) : (r.headD zero32).length = 32 := by
  cases r with
  | nil => exact zero32_len
  | cons x r => exact h x (List.mem_cons_self ..)
/-- What is joined has 32 bytes, and what was logged stays. -/
theorem join_32 {part : List Bytes} (hp : ∀ x ∈ part, x.length = 32) {lo hi a b : Nat} (hab : a < b) (s : List Bytes × List Bytes) (hs : ∀ x ∈ s.1, x.length = 32) :
    (overV (joinA part lo) lo hi a b s).1.length = 32 ∧ (∀ x ∈ (overV (joinA part lo) lo hi a b s).2.1, x.length = 32) ∧ ∀ f ∈ s.2, f ∈ (overV (joinA part lo) lo hi a b s).2.2 := by
  refine over_ind (lo := lo) (hi := hi) (P := fun a b => ∀ s : List Bytes × List Bytes, (∀ x ∈ s.1, x.length = 32) → (overV (joinA part lo) lo hi a b s).1.length = 32 ∧ (∀ x ∈ (overV (joinA part lo) lo hi a b s).2.1, x.length = 32) ∧ ∀ f ∈ s.2, f ∈ (overV (joinA part lo) lo hi a b s).2.2) ?_ ?_ ?_ a b hab s hs
  · intro a b h h1 s hs
    rw [overV_bes h1]
    exact ⟨headD_32 hs, fun x hx => hs x (List.mem_of_mem_tail hx), fun f hf => hf⟩
  · intro a b h h1 h2 s hs
    rw [overV_inn h1 h2]
    exact ⟨treeV_len (cutL_32 hp), hs, fun f hf => List.mem_append_left _ hf⟩
  · intro a b h h1 h2 k1 k2 i1 i2 s hs
    rw [overV_nod h1 h2]
    obtain ⟨_, j2, j3⟩ := i1 s hs
    obtain ⟨_, j5, j6⟩ := i2 _ j2
    exact ⟨(show (hashV nodeS [_, _]).length = 32 from hashV_len _ _), j5, fun f hf => List.mem_append_left _ (j6 f (j3 f hf))⟩
theorem cutL_get {L : List Bytes} {a b i : Nat} (h1 : a ≤ i) (h2 : i < b) : (cutL L a b)[i - a]? = L[i]? := by
  unfold cutL
  rw [List.getElem?_drop, show a + (i - a) = i by omega, List.getElem?_take, if_pos h2]
/-- No other leaves are joined to a root, unless two frames have one digest. -/
theorem join_sound {L part : List Bytes} (hL : ∀ x ∈ L, x.length = 32) (hp : ∀ x ∈ part, x.length = 32) {lo hi a b : Nat} (hhi : hi = lo + part.length) (hh : hi ≤ L.length) (hab : a < b) (hb : b ≤ L.length) (s : List Bytes × List Bytes) (hs : ∀ x ∈ s.1, x.length = 32)
    (he : (overV (joinA part lo) lo hi a b s).1 = (treeV (cutL L a b)).1) :
    (∀ i, a ≤ i → i < b → lo ≤ i → i < hi → part[i - lo]? = L[i]?) ∨ ∃ x ∈ (treeV (cutL L a b)).2, ∃ y ∈ (overV (joinA part lo) lo hi a b s).2.2, sumB y = sumB x ∧ y ≠ x := by
  revert he hs hb
  refine over_ind (lo := lo) (hi := hi) (P := fun a b => ∀ s : List Bytes × List Bytes, b ≤ L.length → (∀ x ∈ s.1, x.length = 32) → (overV (joinA part lo) lo hi a b s).1 = (treeV (cutL L a b)).1 → (∀ i, a ≤ i → i < b → lo ≤ i → i < hi → part[i - lo]? = L[i]?) ∨ ∃ x ∈ (treeV (cutL L a b)).2, ∃ y ∈ (overV (joinA part lo) lo hi a b s).2.2, sumB y = sumB x ∧ y ≠ x) ?_ ?_ ?_ a b hab s
  · intro a b h h1 s _ _ _
    exact .inl fun i _ _ _ _ => by omega
  · intro a b h h1 h2 s hb hs he
    rw [overV_inn h1 h2] at he ⊢
    by_cases hq : cutL L a b = cutL part (a - lo) (b - lo)
    · refine .inl fun i q1 q2 q3 q4 => ?_
      have e1 := cutL_get (L := L) q1 q2
      have e2 := cutL_get (L := part) (a := a - lo) (b := b - lo) (i := i - lo) (by omega) (by omega)
      rw [show i - lo - (a - lo) = i - a by omega, ← hq, e1] at e2
      exact e2.symm
    · obtain ⟨x, hx, y, hy, q⟩ := treeV_tells (cutL_32 hL) (cutL_32 hp) (by rw [cutL_len hb, cutL_len (by omega)]; omega) (show (treeV (cutL L a b)).1 = (treeV (cutL part (a - lo) (b - lo))).1 from he.symm) hq
      exact .inr ⟨x, hx, y, List.mem_append_right _ hy, q⟩
  · intro a b h h1 h2 k1 k2 i1 i2 s hb hs he
    rw [overV_nod h1 h2, tree_cut hb h] at he
    rw [overV_nod h1 h2, tree_cut hb h]
    obtain ⟨n1, n2, n3⟩ := join_32 hp k1 (lo := lo) (hi := hi) s hs
    have j1 := i1 s (by omega) hs
    generalize overV (joinA part lo) lo hi a (a + splitV (b - a)) s = X at *
    obtain ⟨m1, m2, m3⟩ := join_32 hp k2 (lo := lo) (hi := hi) X.2 n2
    have j2 := i2 X.2 hb n2
    generalize overV (joinA part lo) lo hi (a + splitV (b - a)) b X.2 = Y at *
    have he : hashV nodeS [X.1, Y.1] = hashV nodeS [(treeV (cutL L a (a + splitV (b - a)))).1, (treeV (cutL L (a + splitV (b - a)) b)).1] := he
    rw [hashV, hashV, if_pos (node_ok _ _), if_pos (node_ok _ _)] at he
    have t1 := treeV_len (L := cutL L a (a + splitV (b - a))) (cutL_32 hL)
    have t2 := treeV_len (L := cutL L (a + splitV (b - a)) b) (cutL_32 hL)
    show _ ∨ ∃ x ∈ _, ∃ y ∈ Y.2.2 ++ [frameB nodeS [X.1, Y.1]], _
    by_cases hf : frameB nodeS [X.1, Y.1] = frameB nodeS [(treeV (cutL L a (a + splitV (b - a)))).1, (treeV (cutL L (a + splitV (b - a)) b)).1]
    · have e1 := parse_node n1 m1
      rw [hf, parse_node t1 t2] at e1
      simp only [Prod.mk.injEq, List.cons.injEq, and_true, true_and] at e1
      rcases j1 e1.1.symm with q1 | ⟨x, hx, y, hy, q⟩
      · rcases j2 e1.2.symm with q2 | ⟨x, hx, y, hy, q⟩
        · refine .inl fun i u1 u2 u3 u4 => ?_
          by_cases hm : i < a + splitV (b - a)
          · exact q1 i u1 hm u3 u4
          · exact q2 i (by omega) u2 u3 u4
        · exact .inr ⟨x, by simp [hx], y, by simp [hy], q⟩
      · exact .inr ⟨x, by simp [hx], y, List.mem_append_left _ (m3 y hy), q⟩
    · exact .inr ⟨_, List.mem_append_right _ (List.mem_singleton.2 rfl), _, List.mem_append_right _ (List.mem_singleton.2 rfl), he, hf⟩
end Go.Proofs.Ytgepfmofignmfaa
