/-
  What package tree reckons, over lists of digests alone.
-/
import Derived.Test.YtgepfmofignmfaaDigMap
import Derived.Test.YtgepfmofignmfaaOpenD
import Derived.Lib.ItoaNum
namespace Go.Proofs.Ytgepfmofignmfaa
set_option linter.unusedSimpArgs false
set_option linter.unusedVariables false
open Go.RowKit

def nodeS : Bytes := [110, 111, 100, 101]
def noneS : Bytes := [110, 111, 110, 101]
def splitV (n : Nat) : Nat := if n < 2 then 0 else 2 ^ Nat.log2 (n - 1)
def depthV (n : Nat) : Nat := if n < 2 then 0 else Nat.log2 (n - 1) + 1
theorem splitV_pos {n : Nat} (h : 2 ≤ n) : 1 ≤ splitV n := by
  unfold splitV
  rw [if_neg (by omega)]
  exact Nat.pow_pos (by decide)
theorem splitV_lt {n : Nat} (h : 2 ≤ n) : splitV n < n := by
  unfold splitV
  rw [if_neg (by omega)]
  have := Nat.log2_self_le (n := n - 1) (by omega)
  omega
theorem splitV_half {n : Nat} (h : 2 ≤ n) : n ≤ 2 * splitV n := by
  unfold splitV
  rw [if_neg (by omega)]
  have := Nat.lt_log2_self (n := n - 1)
  rw [Nat.pow_succ] at this
  omega
/-- The digest of all, and what is logged. -/
def treeV (L : List Bytes) : Bytes × List Bytes :=
  if h : L.length < 2 then (match L with | [] => (hashV noneS [], [frameB noneS []]) | a :: _ => (a, []))
  else (hashV nodeS [(treeV (L.take (splitV L.length))).1, (treeV (L.drop (splitV L.length))).1],
    (treeV (L.take (splitV L.length))).2 ++ (treeV (L.drop (splitV L.length))).2 ++ [frameB nodeS [(treeV (L.take (splitV L.length))).1, (treeV (L.drop (splitV L.length))).1]])
termination_by L.length
decreasing_by
  all_goals
    have h1 := splitV_pos (n := L.length) (by omega)
    have h2 := splitV_lt (n := L.length) (by omega)
    simp only [List.length_take, List.length_drop]
    omega
theorem treeV_nil : treeV [] = (hashV noneS [], [frameB noneS []]) := by rw [treeV]; rfl
theorem treeV_one (a : Bytes) : treeV [a] = (a, []) := by rw [treeV]; rfl
theorem treeV_many {L : List Bytes} (h : 2 ≤ L.length) : treeV L = (hashV nodeS [(treeV (L.take (splitV L.length))).1, (treeV (L.drop (splitV L.length))).1],
    (treeV (L.take (splitV L.length))).2 ++ (treeV (L.drop (splitV L.length))).2 ++ [frameB nodeS [(treeV (L.take (splitV L.length))).1, (treeV (L.drop (splitV L.length))).1]]) := by
  conv => lhs; rw [treeV]
  rw [dif_neg (by omega)]
theorem node_ok (a b : Bytes) : frameOk nodeS [a, b] = true := by simp [frameOk, nodeS]
theorem none_ok : frameOk noneS [] = true := by simp [frameOk, noneS]
theorem log_node (a b : Bytes) : logB nodeS [a, b] = [frameB nodeS [a, b]] := by rw [logB, if_pos (node_ok a b)]
theorem log_none : logB noneS [] = [frameB noneS []] := by rw [logB, if_pos none_ok]
theorem treeV_len {L : List Bytes} (h : ∀ x ∈ L, x.length = 32) : (treeV L).1.length = 32 := by
  by_cases h2 : 2 ≤ L.length
  · rw [treeV_many h2]; dsimp only; exact hashV_len _ _
  · match L, h2, h with
    | [], _, _ => rw [treeV_nil]; dsimp only; exact hashV_len _ _
    | [a], _, h => rw [treeV_one]; exact h a (List.mem_cons_self ..)
    | _ :: _ :: _, h2, _ => simp at h2
/-- An induction over trees. -/
theorem tree_ind {P : List Bytes → Prop} (h0 : P []) (h1 : ∀ a, P [a]) (h2 : ∀ L : List Bytes, 2 ≤ L.length → P (L.take (splitV L.length)) → P (L.drop (splitV L.length)) → P L) (L : List Bytes) : P L := by
  generalize hn : L.length = n
  induction n using Nat.strongRecOn generalizing L with
  | ind n ih =>
    by_cases hl : 2 ≤ L.length
    · have k1 := splitV_pos hl
      have k2 := splitV_lt hl
      exact h2 L hl (ih _ (by simp only [List.length_take]; omega) _ rfl) (ih _ (by simp only [List.length_drop]; omega) _ rfl)
    · match L, hl with
      | [], _ => exact h0
      | [a], _ => exact h1 a
      | _ :: _ :: _, h2 => simp at h2
theorem treeV_count (L : List Bytes) : (treeV L).2.length = if L.length = 0 then 1 else L.length - 1 := by
  refine tree_ind (P := fun L => (treeV L).2.length = if L.length = 0 then 1 else L.length - 1) ?_ ?_ ?_ L
  · rw [treeV_nil]; rfl
  · intro a; rw [treeV_one]; rfl
  · intro L h i1 i2
    have k1 := splitV_pos h
    have k2 := splitV_lt h
    rw [treeV_many h]
    simp only [List.length_append, i1, i2, List.length_take, List.length_drop, List.length_cons, List.length_nil]
    rw [if_neg (by omega), if_neg (by omega), if_neg (by omega)]
    omega
theorem node_len {a b : Bytes} (ha : a.length = 32) (hb : b.length = 32) : (frameB nodeS [a, b]).length = 86 := by
  simp [frameB, nodeS, partB_len, ha, hb]
/-- What is logged are frames of nodes, or of nothing. -/
theorem treeV_log {L : List Bytes} (hL : ∀ x ∈ L, x.length = 32) : ∀ f ∈ (treeV L).2, (L = [] ∧ f = frameB noneS []) ∨ (L ≠ [] ∧ ∃ a b : Bytes, a.length = 32 ∧ b.length = 32 ∧ f = frameB nodeS [a, b]) := by
  revert hL
  refine tree_ind (P := fun L => (∀ x ∈ L, x.length = 32) → ∀ f ∈ (treeV L).2, (L = [] ∧ f = frameB noneS []) ∨ (L ≠ [] ∧ ∃ a b : Bytes, a.length = 32 ∧ b.length = 32 ∧ f = frameB nodeS [a, b])) ?_ ?_ ?_ L
  · intro _ f hf
    rw [treeV_nil] at hf
    exact .inl ⟨rfl, by simpa using hf⟩
  · intro a _ f hf
    rw [treeV_one] at hf
    simp at hf
  · intro L h i1 i2 hL f hf
    have k1 := splitV_pos h
    have k2 := splitV_lt h
    have hne : L ≠ [] := by rintro rfl; simp at h
    have n1 : L.take (splitV L.length) ≠ [] := by intro e; have := congrArg List.length e; simp only [List.length_take, List.length_nil] at this; omega
    have n2 : L.drop (splitV L.length) ≠ [] := by intro e; have := congrArg List.length e; simp only [List.length_drop, List.length_nil] at this; omega
    have l1 : ∀ x ∈ L.take (splitV L.length), x.length = 32 := fun x hx => hL x (List.mem_of_mem_take hx)
    have l2 : ∀ x ∈ L.drop (splitV L.length), x.length = 32 := fun x hx => hL x (List.mem_of_mem_drop hx)
    rw [treeV_many h] at hf
    simp only [List.mem_append, List.mem_singleton] at hf
    rcases hf with (hf | hf) | hf
    · rcases i1 l1 f hf with ⟨e, _⟩ | ⟨_, r⟩
      · exact absurd e n1
      · exact .inr ⟨hne, r⟩
    · rcases i2 l2 f hf with ⟨e, _⟩ | ⟨_, r⟩
      · exact absurd e n2
      · exact .inr ⟨hne, r⟩
    · exact .inr ⟨hne, _, _, treeV_len l1, treeV_len l2, hf⟩
theorem treeV_short {L : List Bytes} (hL : ∀ x ∈ L, x.length = 32) : ∀ f ∈ (treeV L).2, f.length ≤ 1000 := by
  intro f hf
  rcases treeV_log hL f hf with ⟨_, rfl⟩ | ⟨_, a, b, ha, hb, rfl⟩
  · simp [frameB, noneS]
  · rw [node_len ha hb]; decide
/-- A root tells all leaves, unless two frames have one digest. -/
theorem treeV_tells {L M : List Bytes} (hL : ∀ x ∈ L, x.length = 32) (hM : ∀ x ∈ M, x.length = 32) (hl : L.length = M.length) (hr : (treeV L).1 = (treeV M).1) (hne : L ≠ M) :
    ∃ x ∈ (treeV L).2, ∃ y ∈ (treeV M).2, sumB y = sumB x ∧ y ≠ x := by
  revert M
  refine tree_ind (P := fun L => (∀ x ∈ L, x.length = 32) → ∀ {M : List Bytes}, (∀ x ∈ M, x.length = 32) → L.length = M.length → (treeV L).1 = (treeV M).1 → L ≠ M → ∃ x ∈ (treeV L).2, ∃ y ∈ (treeV M).2, sumB y = sumB x ∧ y ≠ x) ?_ ?_ ?_ L hL
  · intro _ M _ hl _ hne
    exact absurd (List.eq_nil_of_length_eq_zero hl.symm).symm hne
  · intro a _ M _ hl hr hne
    match M, hl with
    | [b], _ =>
      rw [treeV_one, treeV_one] at hr
      exact absurd (by rw [show a = b from hr]) hne
  · intro L h i1 i2 hL M hM hl hr hne
    have h' : 2 ≤ M.length := by omega
    have l1 : ∀ x ∈ L.take (splitV L.length), x.length = 32 := fun x hx => hL x (List.mem_of_mem_take hx)
    have l2 : ∀ x ∈ L.drop (splitV L.length), x.length = 32 := fun x hx => hL x (List.mem_of_mem_drop hx)
    have m1 : ∀ x ∈ M.take (splitV L.length), x.length = 32 := fun x hx => hM x (List.mem_of_mem_take hx)
    have m2 : ∀ x ∈ M.drop (splitV L.length), x.length = 32 := fun x hx => hM x (List.mem_of_mem_drop hx)
    rw [treeV_many h, treeV_many h', ← hl] at hr
    rw [treeV_many h, treeV_many h', ← hl]
    simp only at hr
    rw [hashV, hashV, if_pos (node_ok _ _), if_pos (node_ok _ _)] at hr
    by_cases hf : frameB nodeS [(treeV (L.take (splitV L.length))).1, (treeV (L.drop (splitV L.length))).1] = frameB nodeS [(treeV (M.take (splitV L.length))).1, (treeV (M.drop (splitV L.length))).1]
    · have hb := fun (a b : Bytes) (ha : a.length = 32) (hb : b.length = 32) => parse_frame (node_ok a b) (by intro p hp; simp at hp; rcases hp with rfl | rfl <;> omega)
      have e1 := hb _ _ (treeV_len l1) (treeV_len l2)
      have e2 := hb _ _ (treeV_len m1) (treeV_len m2)
      rw [hf, e2] at e1
      simp only [Option.some.injEq, Prod.mk.injEq, List.cons.injEq, and_true, true_and] at e1
      obtain ⟨e1, e2⟩ := e1
      by_cases hh : L.take (splitV L.length) = M.take (splitV L.length)
      · have hd : L.drop (splitV L.length) ≠ M.drop (splitV L.length) := fun e => hne (by rw [← List.take_append_drop (splitV L.length) L, ← List.take_append_drop (splitV L.length) M, hh, e])
        obtain ⟨x, hx, y, hy, h1, h2⟩ := i2 l2 m2 (by simp [hl]) e2.symm hd
        exact ⟨x, by simp [hx], y, by simp [hy], h1, h2⟩
      · obtain ⟨x, hx, y, hy, h1, h2⟩ := i1 l1 m1 (by simp [hl]) e1.symm hh
        exact ⟨x, by simp [hx], y, by simp [hy], h1, h2⟩
    · exact ⟨_, List.mem_append_right _ (List.mem_singleton.2 rfl), _, List.mem_append_right _ (List.mem_singleton.2 rfl), hr.symm, fun e => hf e.symm⟩
theorem bitLen_log2 {x : Nat} (h0 : x ≠ 0) (h : x < 2 ^ 64) : Lib.bitLen x = Nat.log2 x + 1 := by
  obtain ⟨h1, h2, h3⟩ := Lib.bitLenAux_bounds 64 x h h0
  have e : x.log2 = Lib.bitLen x - 1 := (Nat.log2_eq_iff h0).2 ⟨h2, by
    have e : Lib.bitLen x - 1 + 1 = Lib.bitLenAux 64 x := by unfold Lib.bitLen; omega
    rw [e]; exact h3⟩
  have : 1 ≤ Lib.bitLen x := h1
  omega
theorem log2_pow_pred {m : Nat} (h : 1 ≤ m) : Nat.log2 (2 ^ m - 1) = m - 1 := by
  obtain ⟨j, rfl⟩ : ∃ j, m = j + 1 := ⟨m - 1, by omega⟩
  have hp : 1 ≤ 2 ^ j := Nat.pow_pos (by decide)
  have e : 2 ^ (j + 1) = 2 * 2 ^ j := by rw [Nat.pow_succ]; omega
  rw [Nat.log2_eq_iff (by omega)]
  rw [Nat.add_sub_cancel]
  omega
theorem depthV_pow (m : Nat) : depthV (2 ^ m) = m := by
  unfold depthV
  cases m with
  | zero => rfl
  | succ m =>
    have hp : 1 ≤ 2 ^ m := Nat.pow_pos (by decide)
    have e : 2 ^ (m + 1) = 2 * 2 ^ m := by rw [Nat.pow_succ]; omega
    rw [if_neg (by omega), log2_pow_pred (by omega)]
    omega
theorem splitV_pow {n : Nat} (h : 2 ≤ n) : splitV n = 2 ^ Nat.log2 (n - 1) := by unfold splitV; rw [if_neg (by omega)]
theorem depthV_split {n : Nat} (h : 2 ≤ n) : depthV n = 1 + depthV (splitV n) := by
  rw [splitV_pow h, depthV_pow]
  unfold depthV
  rw [if_neg (by omega)]
  omega
theorem splitV_depth {n : Nat} (h : 2 ≤ n) : splitV n = 2 ^ depthV (splitV n) := by
  rw [splitV_pow h, depthV_pow]
theorem depthV_mono {a b : Nat} (h : a ≤ b) : depthV a ≤ depthV b := by
  unfold depthV
  by_cases ha : a < 2
  · rw [if_pos ha]; omega
  · rw [if_neg ha, if_neg (by omega)]
    have h1 := Nat.log2_self_le (n := a - 1) (by omega)
    have h2 := Nat.lt_log2_self (n := b - 1)
    have h3 : 2 ^ Nat.log2 (a - 1) < 2 ^ (Nat.log2 (b - 1) + 1) := by omega
    have := (Nat.pow_lt_pow_iff_right (by decide : 1 < 2)).1 h3
    omega
theorem depthV_lt {n : Nat} (h : n ≤ 2 ^ 40) : depthV n ≤ 40 := by
  have := depthV_mono h
  rw [depthV_pow] at this
  exact this
/-- A number's 64 bits. -/
def n64 (k : Int) : Nat := (k % 18446744073709551616).toNat
theorem n64_lt (k : Int) : n64 k < 2 ^ 64 := by unfold n64; omega
theorem n64_inj {a b : Int} (ha : I64 a) (hb : I64 b) (h : n64 a = n64 b) : a = b := by
  unfold n64 at h
  obtain ⟨h1, h2⟩ := ha
  obtain ⟨h3, h4⟩ := hb
  omega
theorem n64_small {a : Int} (h0 : 0 ≤ a) (h1 : a ≤ 9223372036854775807) : n64 a = a.toNat := by unfold n64; omega
def leafP (k n : Int) (d : Bytes) : List Bytes := [lowb (n64 k) 8, lowb (n64 n) 8, d]
theorem leafP_inj {k n i m : Int} {d e : Bytes} (hk : I64 k) (hn : I64 n) (hi : I64 i) (hm : I64 m) (h : leafP k n d = leafP i m e) : k = i ∧ n = m ∧ d = e := by
  have hl := fun a b (h : lowb (n64 a) 8 = lowb (n64 b) 8) => by
    have := congrArg lenum h
    rw [lenum_lowb, lenum_lowb, Nat.mod_eq_of_lt (n64_lt a), Nat.mod_eq_of_lt (n64_lt b)] at this
    exact this
  simp only [leafP, List.cons.injEq, and_true] at h
  obtain ⟨h1, h2, h3⟩ := h
  exact ⟨n64_inj hk hi (hl _ _ h1), n64_inj hn hm (hl _ _ h2), h3⟩
theorem leaf_ok {s : Bytes} (h1 : 1 ≤ s.length) (h2 : s.length ≤ 200) (k n : Int) (d : Bytes) : frameOk s (leafP k n d) = true := by
  simp [frameOk, leafP]; omega
/-- Leaves that are not the same have unlike frames. -/
theorem leaf_frames {s t : Bytes} {k n i m : Int} {d e : Bytes} (hs : frameOk s (leafP k n d) = true) (ht : frameOk t (leafP i m e) = true) (hk : I64 k) (hn : I64 n) (hi : I64 i) (hm : I64 m) (hd : d.length < 2 ^ 64) (he : e.length < 2 ^ 64)
    (h : frameB s (leafP k n d) = frameB t (leafP i m e)) : s = t ∧ k = i ∧ n = m ∧ d = e := by
  have p1 := parse_frame hs (by intro p hp; simp only [leafP, List.mem_cons, List.not_mem_nil, or_false] at hp; rcases hp with rfl | rfl | rfl <;> first | assumption | (rw [lowb_length]; decide))
  have p2 := parse_frame ht (by intro p hp; simp only [leafP, List.mem_cons, List.not_mem_nil, or_false] at hp; rcases hp with rfl | rfl | rfl <;> first | assumption | (rw [lowb_length]; decide))
  rw [h, p2] at p1
  simp only [Option.some.injEq, Prod.mk.injEq] at p1
  exact ⟨p1.1.symm, leafP_inj hk hn hi hm p1.2.symm⟩
/-- What is told of two rows of frames of which two have one digest. -/
theorem ext_found {A B : List Bytes} {x y : Bytes} (hx : x ∈ A) (hy : y ∈ B) (hs : sumB y = sumB x) (hne : y ≠ x) : ∃ u v, extT A B = (u, v, true) ∧ u ∈ A ∧ v ∈ B ∧ sumB v = sumB u ∧ v ≠ u := by
  unfold extT
  cases h : extractV A B with
  | none => exact absurd (extractV_none h x hx y hy hs) hne
  | some p =>
    obtain ⟨u, v⟩ := p
    obtain ⟨h1, h2, h3, h4⟩ := extractV_some h
    exact ⟨u, v, rfl, h1, h2, h3, h4⟩
theorem parse_node {a b : Bytes} (ha : a.length = 32) (hb : b.length = 32) : parseT (frameB nodeS [a, b]) = (nodeS, [a, b], true) := by
  unfold parseT
  rw [parse_frame (node_ok a b)]
  intro p hp
  simp at hp
  rcases hp with rfl | rfl <;> omega
theorem parse_none : parseT (frameB noneS []) = (noneS, [], true) := by
  unfold parseT
  rw [parse_frame none_ok]
  simp
end Go.Proofs.Ytgepfmofignmfaa
