/-
  Columns put and got, over lists alone.
-/
import Derived.Test.YtfnfcioofkeanaaSchema4
namespace Go.Proofs.Ytfnfcioofkeanaa
set_option linter.unusedSimpArgs false
set_option linter.unusedVariables false
open Go.RowKit

/-- What was read well is what the number's bytes are. -/
theorem CS.vget_once {l : List UInt8} (h : (CS.vget ⟨l, false⟩).2.bad = false) : ∃ n r, CS.vget ⟨l, false⟩ = (n, ⟨r, false⟩) ∧ l = vput n ++ r ∧ n < 2 ^ 64 := by
  have hlt := CS.vget_lt ⟨l, false⟩
  unfold CS.vget at h hlt ⊢
  rw [if_neg (by simp)] at h hlt ⊢
  cases hv : vgetL l 0 0 with
  | none => rw [hv] at h; cases h
  | some x =>
    obtain ⟨n, r⟩ := x
    obtain ⟨m, hm, hl, _⟩ := vput_vgetL l 0 0 n r (by decide) hv
    rw [hv] at hlt
    refine ⟨n, r, rfl, ?_, hlt⟩
    rw [hl, hm]; simp

theorem CS.vlen_vput {n : Nat} {r : List UInt8} {most : Int} (h : n < 2 ^ 64) (hm : (n : Int) ≤ most) : CS.vlen ⟨vput n ++ r, false⟩ most = (n, ⟨r, false⟩) := by
  have e := CS.vget_vput (r := r) h
  rw [CS.vlen_on (by rw [e]; simp only [not_or]; omega), e]
theorem CS.num1_cons (y : UInt8) (r : List UInt8) : CS.num ⟨y :: r, false⟩ 1 = y.toNat ∧ CS.then ⟨y :: r, false⟩ 1 = ⟨r, false⟩ := by
  have ho : ¬ CS.off ⟨y :: r, false⟩ 1 := by simp [CS.off]; omega
  exact ⟨by rw [CS.num, CS.took_on ho]; simp [lenum], by rw [CS.then_on ho]; simp⟩

theorem one_colB {c : Col} {r : List UInt8} (h : c.name.length ≤ 100 ∧ 0 ≤ c.typ ∧ c.typ < 4) : CS.oneC ⟨colB c ++ r, false⟩ = c ∧ CS.oneS ⟨colB c ++ r, false⟩ = ⟨r, false⟩ := by
  obtain ⟨h1, h2, h3⟩ := h
  have e1 : CS.vlen ⟨colB c ++ r, false⟩ 100 = (c.name.length, ⟨c.name ++ (UInt8.ofNat c.typ.toNat :: nullB c :: r), false⟩) := by
    have : colB c ++ r = vput c.name.length ++ (c.name ++ (UInt8.ofNat c.typ.toNat :: nullB c :: r)) := by unfold colB; simp
    rw [this]
    exact CS.vlen_vput (by omega) (by omega)
  have e2 : CS.c1 ⟨colB c ++ r, false⟩ = ⟨c.name ++ (UInt8.ofNat c.typ.toNat :: nullB c :: r), false⟩ := by unfold CS.c1; rw [e1]
  have e3 : CS.nm ⟨colB c ++ r, false⟩ = c.name := by unfold CS.nm; rw [e2, e1]; exact CS.took_app
  have e4 : CS.c2 ⟨colB c ++ r, false⟩ = ⟨UInt8.ofNat c.typ.toNat :: nullB c :: r, false⟩ := by unfold CS.c2; rw [e2, e1]; exact CS.then_app
  have e5 : CS.c3 ⟨colB c ++ r, false⟩ = ⟨nullB c :: r, false⟩ := by unfold CS.c3; rw [e4]; exact (CS.num1_cons _ _).2
  have e6 : CS.c4 ⟨colB c ++ r, false⟩ = ⟨r, false⟩ := by unfold CS.c4; rw [e5]; exact (CS.num1_cons _ _).2
  have e7 : CS.num (CS.c2 ⟨colB c ++ r, false⟩) 1 = c.typ.toNat := by rw [e4, (CS.num1_cons _ _).1]; simp; omega
  have e8 : CS.num (CS.c3 ⟨colB c ++ r, false⟩) 1 = (nullB c).toNat := by rw [e5, (CS.num1_cons _ _).1]
  have e9 : (nullB c).toNat = if c.null then 1 else 0 := by unfold nullB; split <;> rfl
  constructor
  · unfold CS.oneC
    rw [e3, e7, e8, e9]
    obtain ⟨nm, ty, nu⟩ := c
    simp only [Col.mk.injEq, true_and]
    refine ⟨by simp only at *; omega, by cases nu <;> simp⟩
  · unfold CS.oneS
    rw [e8, e9, e6, if_pos (by split <;> omega)]

theorem colsN_putB : ∀ (L : List Col) (r : List UInt8) (out : List Col), (∀ c ∈ L, c.name.length ≤ 100 ∧ 0 ≤ c.typ ∧ c.typ < 4) → colsN L.length ⟨L.flatMap colB ++ r, false⟩ out = (out ++ L, ⟨r, false⟩)
  | [], r, out, _ => by simp [colsN]
  | c :: M, r, out, h => by
    have h1 := one_colB (r := M.flatMap colB ++ r) (h c (List.mem_cons_self ..))
    simp only [List.length_cons, colsN, List.flatMap_cons, List.append_assoc]
    rw [h1.1, h1.2, colsN_putB M r _ (fun x hx => h x (List.mem_cons_of_mem _ hx))]
    simp
theorem gcols_putB {L : List Col} {r : List UInt8} (h : colsV L = 0) : CS.gcols ⟨putB L ++ r, false⟩ = (L, ⟨r, false⟩) := by
  obtain ⟨h1, h2⟩ := colsV_zero h
  have e1 : CS.vlen ⟨putB L ++ r, false⟩ 64 = (L.length, ⟨L.flatMap colB ++ r, false⟩) := by
    unfold putB
    rw [List.append_assoc]
    exact CS.vlen_vput (by omega) (by omega)
  unfold CS.gcols
  rw [e1]
  dsimp only
  rw [colsN_putB L r [] (fun c hc => by have := h2 c hc; omega)]
  unfold gotC
  rw [if_neg (by simp [h])]
  simp

/-- What was read well is what the columns' bytes are. -/
theorem CS.vlen_inv {l : List UInt8} {most : Int} (h : (CS.vlen ⟨l, false⟩ most).2.bad = false) : ∃ n r, CS.vlen ⟨l, false⟩ most = (n, ⟨r, false⟩) ∧ l = vput n ++ r ∧ n < 2 ^ 64 := by
  by_cases ho : most < 0 ∨ most < ((CS.vget ⟨l, false⟩).1 : Int)
  · rw [CS.vlen_off ho] at h; cases h
  · rw [CS.vlen_on ho] at h ⊢
    exact CS.vget_once h
theorem CS.then_inv {l : List UInt8} {n : Nat} (h : (CS.then ⟨l, false⟩ n).bad = false) : n ≤ l.length ∧ CS.then ⟨l, false⟩ n = ⟨l.drop n, false⟩ ∧ CS.took ⟨l, false⟩ n = l.take n := by
  by_cases ho : CS.off ⟨l, false⟩ n
  · rw [CS.then_off ho] at h; cases h
  · refine ⟨by simp [CS.off] at ho; omega, by rw [CS.then_on ho]; simp, by rw [CS.took_on ho]; simp⟩
theorem CS.then1_inv {l : List UInt8} (h : (CS.then ⟨l, false⟩ 1).bad = false) : ∃ y r, l = y :: r ∧ CS.then ⟨l, false⟩ 1 = ⟨r, false⟩ ∧ CS.num ⟨l, false⟩ 1 = y.toNat := by
  cases l with
  | nil => cases h
  | cons y r => exact ⟨y, r, rfl, (CS.num1_cons y r).2, (CS.num1_cons y r).1⟩

theorem bad_back {s : CS} {f : CS → CS} (hf : s.bad = true → (f s).bad = true) (h : (f s).bad = false) : s.bad = false := by
  cases hb : s.bad
  · rfl
  · rw [hf hb] at h; cases h
theorem one_inv {l : List UInt8} (h : (CS.oneS ⟨l, false⟩).bad = false) : ∃ r, CS.oneS ⟨l, false⟩ = ⟨r, false⟩ ∧ l = colB (CS.oneC ⟨l, false⟩) ++ r := by
  have hz : CS.num (CS.c3 ⟨l, false⟩) 1 ≤ 1 := by
    by_cases hz : CS.num (CS.c3 ⟨l, false⟩) 1 ≤ 1
    · exact hz
    · unfold CS.oneS at h; rw [if_neg hz] at h; cases h
  have h4 : (CS.c4 ⟨l, false⟩).bad = false := by unfold CS.oneS at h; rw [if_pos hz] at h; exact h
  have h3 : (CS.c3 ⟨l, false⟩).bad = false := bad_back (f := fun s => s.then 1) (fun hb => by rw [CS.then_bad hb]; rfl) h4
  have h2 : (CS.c2 ⟨l, false⟩).bad = false := bad_back (f := fun s => s.then 1) (fun hb => by rw [CS.then_bad hb]; rfl) h3
  have h1 : (CS.c1 ⟨l, false⟩).bad = false := bad_back (f := fun s => s.then (CS.vlen ⟨l, false⟩ 100).1) (fun hb => by rw [CS.then_bad hb]; rfl) h2
  obtain ⟨n, r1, e1, hl, hn⟩ := CS.vlen_inv h1
  have f1 : CS.c1 ⟨l, false⟩ = ⟨r1, false⟩ := by unfold CS.c1; rw [e1]
  have f2 : CS.c2 ⟨l, false⟩ = CS.then ⟨r1, false⟩ n := by unfold CS.c2; rw [f1, e1]
  rw [f2] at h2
  obtain ⟨g1, g2, g3⟩ := CS.then_inv h2
  have f3 : CS.nm ⟨l, false⟩ = r1.take n := by unfold CS.nm; rw [f1, e1]; exact g3
  rw [g2] at f2
  have f4 : CS.c3 ⟨l, false⟩ = CS.then ⟨r1.drop n, false⟩ 1 := by unfold CS.c3; rw [f2]
  rw [f4] at h3
  obtain ⟨y, r3, k1, k2, k3⟩ := CS.then1_inv h3
  rw [k2] at f4
  have f5 : CS.c4 ⟨l, false⟩ = CS.then ⟨r3, false⟩ 1 := by unfold CS.c4; rw [f4]
  rw [f5] at h4
  obtain ⟨z, r4, m1, m2, m3⟩ := CS.then1_inv h4
  rw [m2] at f5
  refine ⟨r4, by unfold CS.oneS; rw [if_pos hz, f5], ?_⟩
  have n2 : CS.num (CS.c2 ⟨l, false⟩) 1 = y.toNat := by rw [f2]; exact k3
  have n3 : CS.num (CS.c3 ⟨l, false⟩) 1 = z.toNat := by rw [f4]; exact m3
  rw [n3] at hz
  have hlen : (r1.take n).length = n := by rw [List.length_take, Nat.min_eq_left g1]
  have hnull : nullB (CS.oneC ⟨l, false⟩) = z := by
    unfold nullB CS.oneC
    rw [n3]
    dsimp only
    by_cases hz1 : z.toNat = 1
    · rw [if_pos (by simpa using hz1)]
      exact UInt8.toNat_inj.1 (by rw [hz1]; rfl)
    · rw [if_neg (by simpa using hz1)]
      exact UInt8.toNat_inj.1 (by have : z.toNat = 0 := by omega
                                  rw [this]; rfl)
  have hty : UInt8.ofNat (CS.oneC ⟨l, false⟩).typ.toNat = y := by
    unfold CS.oneC
    rw [n2]
    simp
  unfold colB
  rw [hnull, hty]
  have hnm : (CS.oneC ⟨l, false⟩).name = r1.take n := f3
  rw [hnm, hlen, hl]
  simp only [List.append_assoc, List.cons_append, List.nil_append]
  rw [← m1, ← k1, List.take_append_drop]
theorem colsN_inv : ∀ (n : Nat) (l : List UInt8) (out : List Col), (colsN n ⟨l, false⟩ out).2.bad = false → ∃ M r, colsN n ⟨l, false⟩ out = (out ++ M, ⟨r, false⟩) ∧ M.length = n ∧ l = M.flatMap colB ++ r
  | 0, l, out, _ => ⟨[], l, by simp [colsN], rfl, by simp⟩
  | n + 1, l, out, h => by
    rw [colsN] at h ⊢
    have hb : (CS.oneS ⟨l, false⟩).bad = false := bad_back (f := fun s => (colsN n s (out ++ [CS.oneC ⟨l, false⟩])).2) (fun hb => colsN_bad n _ _ hb) h
    obtain ⟨r, e, hl⟩ := one_inv hb
    rw [e] at h ⊢
    obtain ⟨M, r', e2, hM, hl2⟩ := colsN_inv n r _ h
    refine ⟨CS.oneC ⟨l, false⟩ :: M, r', by rw [e2]; simp, by simp [hM], ?_⟩
    simp only [List.flatMap_cons, List.append_assoc]
    rw [← hl2]
    exact hl
/-- Columns are read well, or not at all. -/
theorem gcols_inv (l : List UInt8) : CS.gcols ⟨l, false⟩ = ([], CS.fail) ∨ ∃ L r, CS.gcols ⟨l, false⟩ = (L, ⟨r, false⟩) ∧ colsV L = 0 ∧ l = putB L ++ r := by
  unfold CS.gcols gotC
  by_cases hb : colsV (colsN (CS.vlen ⟨l, false⟩ 64).1 (CS.vlen ⟨l, false⟩ 64).2 []).1 ≠ 0 ∨ (colsN (CS.vlen ⟨l, false⟩ 64).1 (CS.vlen ⟨l, false⟩ 64).2 []).2.bad = true
  · left; rw [if_pos hb]
  · right
    rw [if_neg hb]
    simp only [not_or, Decidable.not_not, Bool.not_eq_true] at hb
    obtain ⟨b1, b2⟩ := hb
    have hv : (CS.vlen ⟨l, false⟩ 64).2.bad = false := bad_back (f := fun s => (colsN (CS.vlen ⟨l, false⟩ 64).1 s []).2) (fun hb => colsN_bad _ _ _ hb) b2
    obtain ⟨n, r, e, hl, hn⟩ := CS.vlen_inv hv
    rw [e] at b1 b2 ⊢
    obtain ⟨M, r', e2, hM, hl2⟩ := colsN_inv n r [] b2
    rw [e2] at b1 ⊢
    refine ⟨M, r', by simp, by simpa using b1, ?_⟩
    unfold putB
    rw [hM, List.append_assoc, ← hl2]
    exact hl

theorem colsGo_dup : ∀ (L : List Col) (seen : List (List UInt8)) (c : Col), c.name ∈ seen ∨ c.name ∈ L.map (·.name) → colsGo (L ++ [c]) seen ≠ 0
  | [], seen, c, h => by
    simp only [List.map_nil, List.not_mem_nil, or_false] at h
    simp only [List.nil_append, colsGo]
    rw [if_pos (.inr (.inr h))]
    decide
  | d :: r, seen, c, h => by
    simp only [List.cons_append, colsGo]
    split
    · decide
    · split
      · decide
      · refine colsGo_dup r _ c ?_
        rcases h with h | h
        · exact .inl (List.mem_append_left _ h)
        · rcases List.mem_cons.1 h with h | h
          · exact .inl (List.mem_append_right _ (by simpa using h))
          · exact .inr h
theorem colsV_dup {L : List Col} {c : Col} (h : c.name ∈ L.map (·.name)) : colsV (L ++ [c]) ≠ 0 := by
  unfold colsV
  split
  · decide
  · exact colsGo_dup L [] c (.inr h)
end Go.Proofs.Ytfnfcioofkeanaa
