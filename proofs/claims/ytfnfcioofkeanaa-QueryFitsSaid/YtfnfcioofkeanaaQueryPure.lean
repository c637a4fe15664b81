/-
  Queries encoded and decoded, over lists alone.
-/
import Derived.Test.YtfnfcioofkeanaaQuery5
namespace Go.Proofs.Ytfnfcioofkeanaa
set_option linter.unusedSimpArgs false
set_option linter.unusedVariables false
open Go.RowKit

theorem CS.vget_once {l : List UInt8} (h : (CS.vget ⟨l, false⟩).2.bad = false) : ∃ n r, CS.vget ⟨l, false⟩ = (n, ⟨r, false⟩) ∧ l = vput n ++ r ∧ n < 2 ^ 64 := by
  have hlt := CS.vget_lt ⟨l, false⟩
  unfold CS.vget at h hlt ⊢
  rw [if_neg (by simp)] at h hlt ⊢
  cases hv : vgetL l 0 0 with
  | none => rw [hv] at h; cases h
  | some x =>
    obtain ⟨n, r⟩ := x
    obtain ⟨m, hm, hl, _⟩ := vput_vgetL l 0 0 n r (by decide) hv
    rw [hv] at hlt
    refine ⟨n, r, rfl, ?_, hlt⟩
    rw [hl, hm]; simp
theorem CS.vlen_vput {n : Nat} {r : List UInt8} {most : Int} (h : n < 2 ^ 64) (hm : (n : Int) ≤ most) : CS.vlen ⟨vput n ++ r, false⟩ most = (n, ⟨r, false⟩) := by
  have e := CS.vget_vput (r := r) h
  rw [CS.vlen_on (by rw [e]; simp only [not_or]; omega), e]
theorem CS.vlen_inv {l : List UInt8} {most : Int} (h : (CS.vlen ⟨l, false⟩ most).2.bad = false) : ∃ n r, CS.vlen ⟨l, false⟩ most = (n, ⟨r, false⟩) ∧ l = vput n ++ r ∧ n < 2 ^ 64 := by
  by_cases ho : most < 0 ∨ most < ((CS.vget ⟨l, false⟩).1 : Int)
  · rw [CS.vlen_off ho] at h; cases h
  · rw [CS.vlen_on ho] at h ⊢
    exact CS.vget_once h
theorem bad_back {s : CS} {f : CS → CS} (hf : s.bad = true → (f s).bad = true) (h : (f s).bad = false) : s.bad = false := by
  cases hb : s.bad
  · rfl
  · rw [hf hb] at h; cases h
theorem lensN_puts : ∀ (M : List Int) (r : List UInt8) (out : List Int), (∀ c ∈ M, 0 ≤ c ∧ c < 64) → lensN M.length ⟨M.flatMap nput ++ r, false⟩ out = (out ++ M, ⟨r, false⟩)
  | [], r, out, _ => by simp [lensN]
  | c :: M, r, out, h => by
    have hc := h c (List.mem_cons_self ..)
    obtain ⟨X, rfl⟩ : ∃ X : Nat, c = (X : Int) := ⟨c.toNat, by omega⟩
    simp only [List.length_cons, lensN, List.flatMap_cons, List.append_assoc, nput_nat]
    rw [CS.vlen_vput (by omega) (by omega), lensN_puts M r _ (fun x hx => h x (List.mem_cons_of_mem _ hx))]
    simp
theorem dec_enc {q : Qu} (h : mayQ q = true) : decQ (encB q) = (q, true) := by
  obtain ⟨h1, h2, h3, h4, h5⟩ := mayQ_bounds h
  obtain ⟨l, lo, hi⟩ := q
  dsimp only at *
  obtain ⟨LO, rfl⟩ : ∃ X : Nat, lo = (X : Int) := ⟨lo.toNat, by omega⟩
  obtain ⟨HI, rfl⟩ : ∃ X : Nat, hi = (X : Int) := ⟨hi.toNat, by omega⟩
  have e0 : encB ⟨l, LO, HI⟩ = vput l.length ++ (l.flatMap nput ++ (vput LO ++ (vput HI ++ []))) := by simp [encB, nput_nat]
  have e1 : CS.qraw ⟨encB ⟨l, LO, HI⟩, false⟩ = (⟨l, LO, HI⟩, ⟨[], false⟩) := by
    unfold CS.qraw
    rw [e0, CS.vlen_vput (by omega) (by omega)]
    dsimp only
    rw [lensN_puts l _ [] h2]
    dsimp only
    rw [CS.vlen_vput (by omega) (by omega)]
    dsimp only
    rw [CS.vlen_vput (by omega) (by omega)]
    simp
  unfold decQ
  rw [e1, if_pos ⟨rfl, h⟩]
theorem lensN_inv : ∀ (n : Nat) (l : List UInt8) (out : List Int), (lensN n ⟨l, false⟩ out).2.bad = false → ∃ M r, lensN n ⟨l, false⟩ out = (out ++ M, ⟨r, false⟩) ∧ M.length = n ∧ l = M.flatMap nput ++ r
  | 0, l, out, _ => ⟨[], l, by simp [lensN], rfl, by simp⟩
  | n + 1, l, out, h => by
    rw [lensN] at h ⊢
    have hb : (CS.vlen ⟨l, false⟩ 63).2.bad = false := bad_back (f := fun s => (lensN n s (out ++ [((CS.vlen ⟨l, false⟩ 63).1 : Int)])).2) (fun hb => lensN_bad n _ _ hb) h
    obtain ⟨x, r, e, hl, hx⟩ := CS.vlen_inv hb
    rw [e] at h ⊢
    dsimp only at h ⊢
    obtain ⟨M, r', e2, hM, hl2⟩ := lensN_inv n r _ h
    refine ⟨(x : Int) :: M, r', by rw [e2]; simp, by simp [hM], ?_⟩
    simp only [List.flatMap_cons, List.append_assoc, nput_nat]
    rw [← hl2]
    exact hl
theorem dec_inv {b : List UInt8} (h : (decQ b).2 = true) : mayQ (decQ b).1 = true ∧ encB (decQ b).1 = b := by
  unfold decQ at h ⊢
  by_cases hc : (CS.qraw ⟨b, false⟩).2.done = true ∧ mayQ (CS.qraw ⟨b, false⟩).1 = true
  · rw [if_pos hc]
    obtain ⟨hd, hm⟩ := hc
    refine ⟨hm, ?_⟩
    unfold CS.qraw at hd ⊢
    dsimp only at *
    unfold CS.done at hd
    simp only [Bool.and_eq_true, Bool.not_eq_true'] at hd
    obtain ⟨hb4, hl4⟩ := hd
    have hb3 := bad_back (f := fun s => (s.vlen 65536).2) (fun hb => by rw [CS.vlen_bad hb]; rfl) hb4
    have hb2 := bad_back (f := fun s => (s.vlen 65536).2) (fun hb => by rw [CS.vlen_bad hb]; rfl) hb3
    have hb1 : (CS.vlen ⟨b, false⟩ 64).2.bad = false := bad_back (f := fun s => (lensN (CS.vlen ⟨b, false⟩ 64).1 s []).2) (fun hb => lensN_bad _ _ _ hb) hb2
    obtain ⟨n, r1, e1, hl1, hn1⟩ := CS.vlen_inv hb1
    rw [e1] at hb2 hb3 hb4 hl4 ⊢
    dsimp only at *
    obtain ⟨M, r2, e2, hM, hl2⟩ := lensN_inv n r1 [] hb2
    rw [e2] at hb3 hb4 hl4 ⊢
    dsimp only at *
    obtain ⟨x, r3, e3, hl3, hx⟩ := CS.vlen_inv hb3
    rw [e3] at hb4 hl4 ⊢
    dsimp only at *
    obtain ⟨y, r4, e4, hl5, hy⟩ := CS.vlen_inv hb4
    rw [e4] at hl4 ⊢
    dsimp only at *
    have h4 : r4 = [] := by simpa using hl4
    subst h4
    unfold encB
    dsimp only
    simp only [List.nil_append, List.flatMap_append, List.flatMap_cons, List.flatMap_nil, nput_nat, List.append_nil]
    rw [hl1, hl2, hl3, hl5, hM]
    simp
  · rw [if_neg hc] at h
    cases h
theorem dec_no {b : List UInt8} (h : (decQ b).2 = false) : (decQ b).1 = noQ := by
  unfold decQ at h ⊢
  by_cases hc : (CS.qraw ⟨b, false⟩).2.done = true ∧ mayQ (CS.qraw ⟨b, false⟩).1 = true
  · rw [if_pos hc] at h; cases h
  · rw [if_neg hc]
theorem enc_inj {p q : Qu} (hp : mayQ p = true) (hq : mayQ q = true) : encB p = encB q ↔ p = q := by
  constructor
  · intro h
    have h1 := dec_enc hp
    rw [h, dec_enc hq] at h1
    exact (Prod.mk.inj h1).1.symm
  · rintro rfl; rfl
end Go.Proofs.Ytfnfcioofkeanaa
