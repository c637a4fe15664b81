/-
  The order check of a region's quiet head, by pairs: cheap for the kernel where the head is long.
-/
import Derived.Test.YtfnfcioofkeanaaQuietTail
namespace Go.Proofs.Ytfnfcioofkeanaa
set_option linter.unusedSimpArgs false
set_option linter.unusedVariables false
open Go.RowKit

def statB (md : Region.Mode) (ops : Array Oper) (n : Nat) : Bool :=
  (List.range n).all fun k => match ops[k]? with
    | none => false
    | some ok => ok.after.all (fun e => !Region.binds md e || decide (e.on < k)) && (List.range ops.size).all fun j => decide (j ≤ k) || match ops[j]? with
        | some oj => oj.after.any (fun e => Region.binds md e && e.on == k) || ok.apart ops oj
        | none => true
def bits (k m : Nat) : Array Bool := (List.replicate k true ++ List.replicate m false).toArray
theorem bits_getD (k m i : Nat) (d : Bool) : (bits k m).getD i d = if i < k then true else if i < k + m then false else d := by
  unfold bits
  rw [Array.getD_eq_getD_getElem?, List.getElem?_toArray]
  by_cases h1 : i < k
  · rw [if_pos h1, List.getElem?_append_left (by simpa using h1)]
    simp [h1]
  · rw [if_neg h1, List.getElem?_append_right (by simp; omega)]
    by_cases h2 : i < k + m
    · rw [if_pos h2]
      have : i - k < m := by omega
      simp [this]
    · rw [if_neg h2]
      have : ¬ i - k < m := by omega
      simp [this]
theorem bits_set (k m : Nat) (h : 0 < m) : (bits k m).setIfInBounds k true = bits (k + 1) (m - 1) := by
  unfold bits
  obtain ⟨r, rfl⟩ : ∃ r, m = r + 1 := ⟨m - 1, by omega⟩
  rw [List.setIfInBounds_toArray, List.set_append_right _ _ (by simp), List.length_replicate, Nat.sub_self, List.replicate_succ, List.set_cons_zero, Nat.add_sub_cancel, List.replicate_succ', List.append_assoc]
  rfl
theorem lexHead_stat {md : Region.Mode} {ops : Array Oper} {n g : Nat} (hn : n < ops.size) (h : statB md ops n = true) (hs : Region.seqB md ops g n (bits n (ops.size - n)) = true) :
    ∀ (f k : Nat), k + f = n → Region.lexHead md ops g f k (bits k (ops.size - k)) = true
  | 0, k, hk => by
    obtain rfl : k = n := by omega
    exact hs
  | f + 1, k, hk => by
    have h0 := List.all_eq_true.1 h k (List.mem_range.2 (by omega))
    unfold Region.lexHead
    rw [bits_set k _ (by omega), show ops.size - k - 1 = ops.size - (k + 1) by omega, lexHead_stat hn h hs f (k + 1) (by omega), Bool.and_true, Bool.and_eq_true]
    cases ho : ops[k]? with
    | none => rw [ho] at h0; cases h0
    | some ok =>
      rw [ho] at h0
      simp only [Bool.and_eq_true] at h0
      obtain ⟨h1, h2⟩ := h0
      constructor
      · rw [List.contains_iff_mem]
        refine mem_ready.2 ⟨?_, ok, ho, fun e he hb => ?_⟩
        · rw [bits_getD, if_neg (by omega), if_pos (by omega)]
        · have := Array.all_eq_true_iff_forall_mem.1 h1 e he
          rw [hb] at this
          simp at this
          rw [bits_getD, if_pos this]
      · unfold Region.free
        rw [ho]
        refine List.all_eq_true.2 fun j hj => ?_
        have h3 := List.all_eq_true.1 h2 j hj
        by_cases hjk : j = k
        · simp [hjk]
        by_cases hlt : j < k
        · rw [bits_getD, if_pos hlt]; simp
        · have : ¬ j ≤ k := by omega
          rw [decide_eq_false this, Bool.false_or] at h3
          cases hj' : ops[j]? with
          | none => simp
          | some oj =>
            rw [hj'] at h3
            dsimp only at h3 ⊢
            rw [h3, Bool.or_true]
def fastTailB (ops : Array Oper) (n : Nat) : Bool := Region.noSelect ops && decide (n < ops.size) && Region.sinkB .any ops n && Region.chainB .any ops n && statB .any ops n && Region.seqB .any ops (ops.size - n) n (bits n (ops.size - n))
theorem bits_zero (m : Nat) : bits 0 m = Array.replicate m false := by
  unfold bits
  simp
theorem fast_lex {ops : Array Oper} {n : Nat} (h : fastTailB ops n = true) : Region.lexTailB .any ops n = true := by
  simp only [fastTailB, Bool.and_eq_true] at h
  obtain ⟨⟨⟨⟨⟨h1, h2⟩, h3⟩, h4⟩, h5⟩, h6⟩ := h
  unfold Region.lexTailB
  simp only [Bool.and_eq_true]
  refine ⟨⟨⟨⟨h1, h2⟩, h3⟩, h4⟩, ?_⟩
  have := lexHead_stat (of_decide_eq_true h2) h5 h6 n 0 (by omega)
  rw [Nat.sub_zero, bits_zero] at this
  exact this
end Go.Proofs.Ytfnfcioofkeanaa
