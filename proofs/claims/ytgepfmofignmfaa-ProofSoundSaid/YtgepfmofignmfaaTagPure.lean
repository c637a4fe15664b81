/-
  What package tag reckons, over lists of bytes alone.
-/
import Derived.Test.YtgepfmofignmfaaCurPure
namespace Go.Proofs.Ytgepfmofignmfaa
set_option linter.unusedSimpArgs false
set_option linter.unusedVariables false
open Go.RowKit

abbrev Bytes := List UInt8
/-- A part, its length ahead. -/
def partB (p : Bytes) : Bytes := lowb p.length 8 ++ p
def frameOk (s : Bytes) (ps : List Bytes) : Bool := decide (0 < s.length) && decide (s.length ≤ 255) && decide (ps.length ≤ 255)
def frameB (s : Bytes) (ps : List Bytes) : Bytes := [UInt8.ofNat s.length] ++ s ++ [UInt8.ofNat ps.length] ++ ps.flatMap partB
def frameV (s : Bytes) (ps : List Bytes) : Bytes := if frameOk s ps then frameB s ps else []

def cutV (b : Bytes) (n : Nat) : Bytes × Bytes × Bool := if n ≤ b.length then (b.take n, b.drop n, true) else ([], [], false)
def partV (b : Bytes) : Bytes × Bytes × Bool := if 8 ≤ b.length then cutV (b.drop 8) (lenum (b.take 8)) else ([], [], false)
def partsV : Nat → Bytes → Option (List Bytes × Bytes)
  | 0, b => some ([], b)
  | n + 1, b => if (partV b).2.2 = true then (partsV n (partV b).2.1).map fun x => ((partV b).1 :: x.1, x.2) else none
/-- The tag and the parts of a frame. -/
def parseV (b : Bytes) : Option (Bytes × List Bytes) :=
  match b with
  | [] => none
  | h :: t => if h = 0 then none else if h.toNat ≤ t.length then
      match t.drop h.toNat with
      | [] => none
      | m :: r => match partsV m.toNat r with
        | some (l, []) => some (t.take h.toNat, l)
        | _ => none
    else none

theorem partB_len (p : Bytes) : (partB p).length = 8 + p.length := by simp [partB, lowb_length]
theorem partV_partB {p r : Bytes} (h : p.length < 2 ^ 64) : partV (partB p ++ r) = (p, r, true) := by
  have h8 : (lowb p.length 8).length = 8 := lowb_length _ _
  have e : partB p ++ r = lowb p.length 8 ++ (p ++ r) := by simp [partB]
  unfold partV
  rw [e, if_pos (by simp [h8]), List.drop_left' h8, List.take_left' h8, lenum_lowb, Nat.mod_eq_of_lt (by simpa using h)]
  unfold cutV
  rw [if_pos (by simp)]
  simp
theorem partsV_flat : ∀ (ps : List Bytes) (r : Bytes), (∀ p ∈ ps, p.length < 2 ^ 64) → partsV ps.length (ps.flatMap partB ++ r) = some (ps, r)
  | [], r, _ => by simp [partsV]
  | p :: ps, r, h => by
    have ih := partsV_flat ps r (fun q hq => h q (List.mem_cons_of_mem _ hq))
    simp only [List.length_cons, partsV, List.flatMap_cons, List.append_assoc]
    rw [partV_partB (h p (List.mem_cons_self ..))]
    simp [ih]
theorem u8_small {n : Nat} (h : n ≤ 255) : (UInt8.ofNat n).toNat = n := by simp; omega
/-- A frame is parsed as it was. -/
theorem parse_frame {s : Bytes} {ps : List Bytes} (h : frameOk s ps = true) (hp : ∀ p ∈ ps, p.length < 2 ^ 64) : parseV (frameB s ps) = some (s, ps) := by
  simp only [frameOk, Bool.and_eq_true, decide_eq_true_eq] at h
  obtain ⟨⟨h1, h2⟩, h3⟩ := h
  have e : frameB s ps = UInt8.ofNat s.length :: (s ++ (UInt8.ofNat ps.length :: ps.flatMap partB)) := by simp [frameB]
  rw [e]
  simp only [parseV]
  rw [if_neg (by intro h; have := congrArg UInt8.toNat h; rw [u8_small h2] at this; simp at this; simp [this] at h1), u8_small h2, if_pos (by simp)]
  rw [List.drop_left' rfl, List.take_left' rfl]
  simp only []
  rw [u8_small h3]
  have := partsV_flat ps [] hp
  rw [List.append_nil] at this
  rw [this]
theorem lowb_lenum : ∀ (k : Nat) (l : Bytes), l.length = k → lowb (lenum l) k = l
  | 0, l, h => by simp at h; subst h; rfl
  | k + 1, l, h => by
    have hl : l = l.take k ++ [l[k]] := by rw [← take_snoc l k (by omega), List.take_of_length_le (by omega)]
    have ih := lowb_lenum k (l.take k) (by simp; omega)
    have hlt := lenum_lt (l.take k)
    rw [show (l.take k).length = k by simp; omega] at hlt
    have hx := (l[k]).toNat_lt
    have e : lenum l = lenum (l.take k) + l[k].toNat * 256 ^ k := by
      conv => lhs; rw [hl]
      rw [lenum_snoc, show (l.take k).length = k by simp; omega]
    rw [lowb_snoc]
    have e1 : lowb (lenum l) k = lowb (lenum (l.take k)) k := by
      unfold lowb
      apply List.map_congr_left
      intro i hi
      have hi := List.mem_range.1 hi
      rw [e]
      have e2 : 256 ^ k = 256 ^ i * (256 * 256 ^ (k - i - 1)) := by
        rw [← Nat.pow_succ', ← Nat.pow_add]; congr 1; omega
      rw [e2, Nat.mul_left_comm, Nat.add_mul_div_left _ _ (by exact Nat.pow_pos (by decide)), ← UInt8.toNat_inj]
      simp only [UInt8.toNat_ofNat']
      rw [Nat.mul_left_comm, Nat.add_mul_mod_self_left]
    have e2 : lenum l / 256 ^ k = l[k].toNat := by
      rw [e, Nat.mul_comm, Nat.add_mul_div_left _ _ (by exact Nat.pow_pos (by decide)), Nat.div_eq_of_lt hlt, Nat.zero_add]
    rw [e1, ih, e2]
    conv => rhs; rw [hl]
    congr 1
    simp
theorem partB_partV {b : Bytes} (h : (partV b).2.2 = true) : partB (partV b).1 ++ (partV b).2.1 = b := by
  unfold partV at *
  by_cases h8 : 8 ≤ b.length
  · rw [if_pos h8] at *
    unfold cutV at *
    by_cases h2 : lenum (b.take 8) ≤ (b.drop 8).length
    · rw [if_pos h2]
      simp only [partB]
      have e : ((b.drop 8).take (lenum (b.take 8))).length = lenum (b.take 8) := by rw [List.length_take, Nat.min_eq_left h2]
      rw [e, lowb_lenum 8 (b.take 8) (by simp; omega), List.append_assoc, List.take_append_drop, List.take_append_drop]
    · rw [if_neg h2] at h; simp at h
  · rw [if_neg h8] at h; simp at h
theorem flat_partsV : ∀ (n : Nat) (b : Bytes) (l : List Bytes) (r : Bytes), partsV n b = some (l, r) → l.length = n ∧ l.flatMap partB ++ r = b
  | 0, b, l, r, h => by simp [partsV] at h; obtain ⟨rfl, rfl⟩ := h; simp
  | n + 1, b, l, r, h => by
    simp only [partsV] at h
    split at h
    · rename_i h1
      cases h2 : partsV n (partV b).2.1 with
      | none => rw [h2] at h; simp at h
      | some x =>
        rw [h2] at h
        simp at h
        obtain ⟨rfl, rfl⟩ := h
        obtain ⟨h3, h4⟩ := flat_partsV n _ x.1 x.2 h2
        refine ⟨by simp [h3], ?_⟩
        simp only [List.flatMap_cons, List.append_assoc]
        rw [h4, partB_partV h1]
    · cases h
theorem mem_flat_len {ps : List Bytes} {p : Bytes} (h : p ∈ ps) : (partB p).length ≤ (ps.flatMap partB).length := by
  induction ps with
  | nil => cases h
  | cons q ps ih =>
    rw [List.flatMap_cons, List.length_append]
    rcases List.mem_cons.1 h with rfl | h
    · omega
    · have := ih h; omega
/-- What is parsed has that frame. -/
theorem frame_parse {b : Bytes} {s : Bytes} {ps : List Bytes} (h : parseV b = some (s, ps)) : frameOk s ps = true ∧ frameB s ps = b := by
  unfold parseV at h
  split at h
  · cases h
  · rename_i hd t
    split at h
    · cases h
    · rename_i h0
      split at h
      · rename_i hle
        split at h
        · cases h
        · rename_i m r hdr
          split at h
          · rename_i l hpv
            simp at h
            obtain ⟨rfl, rfl⟩ := h
            obtain ⟨h3, h4⟩ := flat_partsV _ _ _ _ hpv
            have hl : (t.take hd.toNat).length = hd.toNat := by rw [List.length_take, Nat.min_eq_left hle]
            have hm := m.toNat_lt
            have hh := hd.toNat_lt
            have hp : 0 < hd.toNat := by
              rcases Nat.eq_zero_or_pos hd.toNat with e | e
              · exact absurd (UInt8.toNat_inj.1 (by simpa using e)) h0
              · exact e
            refine ⟨?_, ?_⟩
            · simp only [frameOk, Bool.and_eq_true, decide_eq_true_eq]
              omega
            · unfold frameB
              rw [hl, h3]
              rw [List.append_nil] at h4
              rw [h4]
              simp only [UInt8.ofNat_toNat, List.cons_append, List.nil_append, List.append_assoc]
              rw [← hdr, List.take_append_drop]
          · cases h
      · cases h
theorem parse_small {b s : Bytes} {ps : List Bytes} (h : parseV b = some (s, ps)) : ps.length ≤ 255 ∧ s.length ≤ b.length ∧ ∀ p ∈ ps, p.length ≤ b.length := by
  obtain ⟨h1, h2⟩ := frame_parse h
  simp only [frameOk, Bool.and_eq_true, decide_eq_true_eq] at h1
  refine ⟨h1.2, ?_, fun p hp => ?_⟩
  · rw [← h2]; simp [frameB]; omega
  · have := mem_flat_len hp
    rw [partB_len] at this
    rw [← h2]
    simp only [frameB, List.length_append, List.length_cons, List.length_nil]
    omega
/-- Unlike tags or parts have unlike frames. -/
theorem frame_inj {s s' : Bytes} {ps ps' : List Bytes} (h : frameOk s ps = true) (h' : frameOk s' ps' = true) (hp : ∀ p ∈ ps, p.length < 2 ^ 64) (hp' : ∀ p ∈ ps', p.length < 2 ^ 64) (e : frameB s ps = frameB s' ps') : s = s' ∧ ps = ps' := by
  have h1 := parse_frame h hp
  rw [e, parse_frame h' hp'] at h1
  simp at h1
  exact ⟨h1.1.symm, h1.2.symm⟩
theorem frame_len (s : Bytes) (ps : List Bytes) : (frameB s ps).length = 2 + s.length + (ps.flatMap partB).length := by
  simp only [frameB, List.length_append, List.length_cons, List.length_nil]; omega
theorem flatB_take (ps : List Bytes) (k : Nat) (h : k < ps.length) : (ps.take (k + 1)).flatMap partB = (ps.take k).flatMap partB ++ partB ps[k] := by
  rw [List.take_succ_eq_append_getElem h, List.flatMap_append]
  simp only [List.flatMap_cons, List.flatMap_nil, List.append_nil]
/-- All bytes of parts. -/
def sumL (ps : List Bytes) : Nat := (ps.map (·.length)).sum
theorem flatB_len : ∀ ps : List Bytes, (ps.flatMap partB).length = 8 * ps.length + sumL ps
  | [] => rfl
  | p :: ps => by
    simp only [List.flatMap_cons, List.length_append, partB_len, flatB_len ps, sumL, List.map_cons, List.sum_cons, List.length_cons]; omega
end Go.Proofs.Ytgepfmofignmfaa
