/-
  Texts by what they share, as bytes: pure.
-/
import Derived.Test.YtdclbhmmpdngpaaDoorVget2
namespace Go.Proofs.YtdclbhmmpdngpaaDoor
set_option linter.unusedSimpArgs false
set_option linter.unusedVariables false
open Go.RowKit

/-- With how many bytes two texts begin alike. -/
def shareV : List UInt8 → List UInt8 → Nat
  | x :: a, y :: b => if x = y then shareV a b + 1 else 0
  | [], _ => 0
  | _ :: _, [] => 0
theorem shareV_le : ∀ a b : List UInt8, shareV a b ≤ a.length ∧ shareV a b ≤ b.length
  | x :: a, y :: b => by
    unfold shareV
    have := shareV_le a b
    split
    · simp; omega
    · simp
  | [], _ => by simp [shareV]
  | _ :: _, [] => by simp [shareV]
theorem shareV_take : ∀ a b : List UInt8, a.take (shareV a b) = b.take (shareV a b)
  | x :: a, y :: b => by
    unfold shareV
    split
    · rename_i h
      simp [h, shareV_take a b]
    · simp
  | [], _ => by simp [shareV]
  | _ :: _, [] => by simp [shareV]
theorem shareV_comm : ∀ a b : List UInt8, shareV a b = shareV b a
  | x :: a, y :: b => by
    unfold shareV
    by_cases h : x = y
    · rw [if_pos h, if_pos h.symm, shareV_comm a b]
    · rw [if_neg h, if_neg (fun e => h e.symm)]
  | [], [] => rfl
  | [], _ :: _ => rfl
  | _ :: _, [] => rfl
/-- What begins alike is shared. -/
theorem shareV_ge : ∀ (a b : List UInt8) (k : Nat), a.take k = b.take k → k ≤ a.length → k ≤ b.length → k ≤ shareV a b
  | _, _, 0, _, _, _ => Nat.zero_le _
  | [], _, k + 1, _, h, _ => by simp at h
  | _ :: _, [], k + 1, _, _, h => by simp at h
  | x :: a, y :: b, k + 1, h, h1, h2 => by
    simp only [List.take_succ_cons, List.cons.injEq] at h
    unfold shareV
    rw [if_pos h.1]
    have := shareV_ge a b k h.2 (by simpa using h1) (by simpa using h2)
    omega
/-- Where they part nothing is shared. -/
theorem shareV_stop : ∀ (a b : List UInt8) (k : Nat) (h1 : k < a.length) (h2 : k < b.length), a[k] ≠ b[k] → shareV a b ≤ k
  | x :: a, y :: b, 0, _, _, h => by
    unfold shareV
    rw [if_neg (by simpa using h)]
    exact Nat.le_refl _
  | x :: a, y :: b, k + 1, h1, h2, h => by
    unfold shareV
    have := shareV_stop a b k (by simpa using h1) (by simpa using h2) (by simpa using h)
    split <;> omega
theorem shareV_at {a b : List UInt8} {k : Nat} (h1 : k < a.length) (h2 : k < b.length) (h : a.take k = b.take k) (hn : a[k] ≠ b[k]) : shareV a b = k :=
  Nat.le_antisymm (shareV_stop a b k h1 h2 hn) (shareV_ge a b k h (Nat.le_of_lt h1) (Nat.le_of_lt h2))
theorem shareV_end {a b : List UInt8} {k : Nat} (hk : k = min a.length b.length) (h : a.take k = b.take k) : shareV a b = k := by
  have h1 := shareV_le a b
  have h2 := shareV_ge a b k h (by omega) (by omega)
  omega
theorem take_more {a b : List UInt8} {k : Nat} (h1 : k < a.length) (h2 : k < b.length) (h : a.take k = b.take k) (e : a[k] = b[k]) : a.take (k + 1) = b.take (k + 1) := by
  rw [List.take_succ_eq_append_getElem h1, List.take_succ_eq_append_getElem h2, h, e]
/-- Behind what is shared they part. -/
theorem shareV_parts {a b : List UInt8} (h1 : shareV a b < a.length) (h2 : shareV a b < b.length) : a[shareV a b] ≠ b[shareV a b] := by
  intro e
  have h := shareV_ge a b (shareV a b + 1) (take_more h1 h2 (shareV_take a b) e) h1 h2
  omega

def sumT (l : List (List UInt8)) : Nat := (l.map List.length).sum
theorem sumT_nil : sumT [] = 0 := rfl
theorem sumT_cons (s : List UInt8) (l : List (List UInt8)) : sumT (s :: l) = s.length + sumT l := by simp [sumT]
theorem sumT_snoc (l : List (List UInt8)) (s : List UInt8) : sumT (l ++ [s]) = sumT l + s.length := by simp [sumT]
theorem sumT_append (l m : List (List UInt8)) : sumT (l ++ m) = sumT l + sumT m := by simp [sumT]
theorem sumT_take (l : List (List UInt8)) (k : Nat) : sumT (l.take k) ≤ sumT l := by
  have h := sumT_append (l.take k) (l.drop k)
  rw [List.take_append_drop] at h
  omega
theorem sumT_bound (l : List (List UInt8)) (n : Nat) (h : ∀ s ∈ l, s.length ≤ n) : sumT l ≤ l.length * n := by
  induction l with
  | nil => simp [sumT]
  | cons a l ih =>
    rw [sumT_cons, List.length_cons, Nat.add_mul]
    have := ih fun s hs => h s (List.mem_cons_of_mem _ hs)
    have := h a (List.mem_cons_self ..)
    omega
/-- Not too many texts, none too long, nor all. -/
def fewT (l : List (List UInt8)) : Bool := decide (l.length ≤ 65536 ∧ (∀ s ∈ l, s.length ≤ 65536) ∧ sumT l ≤ 16777216)
/-- The bytes of texts, by what each shares with the one ahead. -/
def encT : List UInt8 → List (List UInt8) → List UInt8
  | _, [] => []
  | was, s :: r => vput (shareV was s) ++ (vput (s.length - shareV was s) ++ (s.drop (shareV was s) ++ encT s r))
/-- The text ahead of those behind. -/
def lastT (was : List UInt8) (l : List (List UInt8)) : List UInt8 := l.getLastD was
theorem lastT_snoc (was : List UInt8) (l : List (List UInt8)) (s : List UInt8) : lastT was (l ++ [s]) = s := by simp [lastT]
theorem encT_snoc : ∀ (l : List (List UInt8)) (was s : List UInt8), encT was (l ++ [s]) = encT was l ++ encT (lastT was l) [s]
  | [], was, s => by simp [encT, lastT]
  | a :: l, was, s => by
    have e : lastT was (a :: l) = lastT a l := by
      unfold lastT
      cases l <;> simp [List.getLastD]
    simp only [List.cons_append, encT, e]
    rw [encT_snoc l a s]
    simp [encT]
theorem encT_length : ∀ (l : List (List UInt8)) (was : List UInt8), (∀ s ∈ l, s.length ≤ 65536) → (encT was l).length ≤ l.length * 20 + sumT l
  | [], _, _ => by simp [encT]
  | s :: r, was, h => by
    have h0 := h s (List.mem_cons_self ..)
    have hs := shareV_le was s
    have ih := encT_length r s fun x hx => h x (List.mem_cons_of_mem _ hx)
    have a1 : (vput (shareV was s)).length ≤ 10 := vsize_ten (by omega)
    have a2 : (vput (s.length - shareV was s)).length ≤ 10 := vsize_ten (by omega)
    rw [sumT_cons]
    simp only [encT, List.length_append, List.length_drop, List.length_cons, Nat.add_mul]
    omega
/-- Texts are read, one behind another. -/
def textT (s : CS) (was : List UInt8) : List UInt8 × CS :=
  (was.take (s.vlen was.length).1 ++ (((s.vlen was.length).2.vlen 65536).2.took ((s.vlen was.length).2.vlen 65536).1), ((s.vlen was.length).2.vlen 65536).2.then ((s.vlen was.length).2.vlen 65536).1)
def decT : Nat → CS → List UInt8 → Nat → Option (List (List UInt8) × CS)
  | 0, s, _, _ => some ([], s)
  | n + 1, s, was, all =>
    if (textT s was).2.bad = true ∨ 16777216 < all + (textT s was).1.length then none
    else (decT n (textT s was).2 (textT s was).1 (all + (textT s was).1.length)).map fun x => ((textT s was).1 :: x.1, x.2)
/-- The texts of bytes. -/
def decodeT (b : List UInt8) (n : Int) : Option (List (List UInt8)) :=
  if n < 0 ∨ 65536 < n then none
  else match decT n.toNat ⟨b, false⟩ [] 0 with
    | none => none
    | some x => if x.2.done = true ∧ fewT x.1 = true ∧ encT [] x.1 = b then some x.1 else none
theorem decT_length : ∀ (n : Nat) (s : CS) (was : List UInt8) (all : Nat) (x : List (List UInt8) × CS), decT n s was all = some x → x.1.length = n
  | 0, s, was, all, x, h => by simp only [decT, Option.some.injEq] at h; subst h; rfl
  | n + 1, s, was, all, x, h => by
    simp only [decT] at h
    split at h
    · cases h
    · cases hd : decT n (textT s was).2 (textT s was).1 (all + (textT s was).1.length) with
      | none => rw [hd] at h; cases h
      | some y =>
        rw [hd] at h
        simp only [Option.map_some, Option.some.injEq] at h
        subst h
        simp [decT_length n _ _ _ y hd]
theorem CS.vlenT_vput {n : Nat} {r : List UInt8} {most : Int} (h : n < 2 ^ 64) (hm : (n : Int) ≤ most) : CS.vlen ⟨vput n ++ r, false⟩ most = (n, ⟨r, false⟩) := by
  have hg := CS.vget_vput (r := r) h
  rw [CS.vlen_on (by rw [hg]; dsimp only; omega), hg]
theorem textT_enc {was s r : List UInt8} (hs : s.length ≤ 65536) : textT ⟨vput (shareV was s) ++ (vput (s.length - shareV was s) ++ (s.drop (shareV was s) ++ r)), false⟩ was = (s, ⟨r, false⟩) := by
  have hle := shareV_le was s
  unfold textT
  rw [CS.vlenT_vput (by omega) (by omega)]
  dsimp only
  rw [CS.vlenT_vput (by omega) (by omega)]
  dsimp only
  have hl : (s.drop (shareV was s)).length = s.length - shareV was s := by simp
  have h1 := CS.took_app (l := s.drop (shareV was s)) (r := r)
  have h2 := CS.then_app (l := s.drop (shareV was s)) (r := r)
  rw [hl] at h1 h2
  rw [h1, h2, shareV_take, List.take_append_drop]
/-- What was laid is read as it was. -/
theorem decT_encT : ∀ (l : List (List UInt8)) (was r : List UInt8) (all : Nat), (∀ s ∈ l, s.length ≤ 65536) → all + sumT l ≤ 16777216 → decT l.length ⟨encT was l ++ r, false⟩ was all = some (l, ⟨r, false⟩)
  | [], _, _, _, _, _ => by simp [decT, encT]
  | s :: l, was, r, all, h, hs => by
    have h0 := h s (List.mem_cons_self ..)
    rw [sumT_cons] at hs
    have e : encT was (s :: l) ++ r = vput (shareV was s) ++ (vput (s.length - shareV was s) ++ (s.drop (shareV was s) ++ (encT s l ++ r))) := by simp [encT]
    rw [e, List.length_cons, decT, textT_enc h0]
    dsimp only
    rw [if_neg (by simp; omega), decT_encT l s r (all + s.length) (fun x hx => h x (List.mem_cons_of_mem _ hx)) (by omega)]
    rfl
theorem decodeT_encT {l : List (List UInt8)} (h : fewT l = true) : decodeT (encT [] l) l.length = some l := by
  have hf := h
  unfold fewT at hf
  simp only [decide_eq_true_eq] at hf
  obtain ⟨h1, h2, h3⟩ := hf
  have hd := decT_encT l [] [] 0 h2 (by omega)
  rw [List.append_nil] at hd
  unfold decodeT
  rw [if_neg (by omega), Int.toNat_natCast, hd]
  dsimp only
  rw [if_pos ⟨by simp [CS.done], h, rfl⟩]
/-- What is read has that form, and as many texts as asked for. -/
theorem decodeT_some {b : List UInt8} {n : Int} {l : List (List UInt8)} (h : decodeT b n = some l) : (l.length : Int) = n ∧ fewT l = true ∧ encT [] l = b := by
  unfold decodeT at h
  split at h
  · cases h
  · rename_i hn
    split at h
    · cases h
    · rename_i x hx
      split at h
      · rename_i hc
        cases h
        have := decT_length _ _ _ _ _ hx
        exact ⟨by omega, hc.2.1, hc.2.2⟩
      · cases h
end Go.Proofs.YtdclbhmmpdngpaaDoor
