/-
  SHA-256's block: the words, the rounds. No program in sight.
-/
import Derived.Test.YtgepfmofignmfaaWord
import Derived.Test.YtgepfmofignmfaaSha3
namespace Go.Proofs.Ytgepfmofignmfaa
set_option linter.unusedSimpArgs false
set_option linter.unusedVariables false

def bw8 (x : UInt8) : W32 := BitVec.ofNat 32 x.toNat
/-- The first i bytes of the k-th word. -/
def pw (b : List UInt8) (k : Nat) : Nat → W32
  | 0 => 0#32
  | i + 1 => 256#32 * pw b k i + bw8 (b.getD (4 * k + i) 0)
def bw (b : List UInt8) (k : Nat) : W32 := pw b k 4
theorem pw_or (x : W32) (c : UInt8) : (x <<< 8) ||| bw8 c = 256#32 * x + bw8 c := by
  have h : 256#32 * x = x <<< 8 := by
    apply BitVec.eq_of_toNat_eq
    rw [BitVec.toNat_mul, BitVec.toNat_shiftLeft, Nat.shiftLeft_eq]
    simp [Nat.mul_comm]
  rw [h]
  refine (BitVec.add_eq_or_of_and_eq_zero _ _ ?_).symm
  apply BitVec.eq_of_getLsbD_eq
  intro i hi
  simp only [BitVec.getLsbD_and, BitVec.getLsbD_shiftLeft, BitVec.getLsbD_zero, bw8, BitVec.getLsbD_ofNat]
  by_cases h1 : i < 8
  · simp [h1]
  · have : c.toNat.testBit i = false := Nat.testBit_lt_two_pow (Nat.lt_of_lt_of_le (UInt8.toNat_lt c) (Nat.pow_le_pow_right (by omega) (by omega : 8 ≤ i)))
    simp [this]
theorem iw_bw8 (c : UInt8) : iw (bw8 c) = (c.toNat : Int) := by
  have := UInt8.toNat_lt c
  unfold iw bw8
  rw [BitVec.toNat_ofNat, Nat.mod_eq_of_lt (by omega)]

/-- n words, of which k are whole, and i bytes of the next. -/
def part (b : List UInt8) (k i n : Nat) : List W32 := (List.range n).map fun j => if j < k then bw b j else if j = k then pw b k i else 0#32
theorem part_length (b : List UInt8) (k i n : Nat) : (part b k i n).length = n := by simp [part]
theorem part_at (b : List UInt8) (k i n : Nat) (h : k < n) : (part b k i n).getD k 0#32 = pw b k i := by simp [part, List.getD, h]
theorem part_set (b : List UInt8) (k i n : Nat) : (part b k i n).set k (256#32 * pw b k i + bw8 (b.getD (4 * k + i) 0)) = part b k (i + 1) n := by
  apply List.ext_getElem (by simp [part])
  intro j h1 h2
  simp only [part, List.getElem_set, List.getElem_map, List.getElem_range]
  by_cases hj : k = j
  · subst hj; simp [pw]
  · have hj' : ¬ j = k := fun e => hj e.symm
    simp [hj, hj']
theorem part_next (b : List UInt8) (k n : Nat) : part b k 4 n = part b (k + 1) 0 n := by
  apply List.ext_getElem (by simp [part])
  intro j h1 h2
  simp only [part, List.getElem_map, List.getElem_range]
  by_cases hj : j < k
  · simp [hj, Nat.lt_succ_of_lt hj]
  · by_cases hk : j = k
    · subst hk; simp [bw]
    · have h3 : ¬ j < k + 1 := by omega
      by_cases h4 : j = k + 1
      · subst h4; simp [pw]; intro h; omega
      · simp [hj, hk, h3, h4]
theorem part_zero (b : List UInt8) (n : Nat) : part b 0 0 n = List.replicate n 0#32 := by
  apply List.ext_getElem (by simp [part])
  intro j h1 h2
  simp only [part, List.getElem_map, List.getElem_range, List.getElem_replicate]
  by_cases h : j = 0
  · subst h; simp [pw]
  · simp [h]

/-- The t-th word. -/
def wAt (b : List UInt8) (t : Nat) : W32 :=
  if t < 16 then bw b t else wAt b (t - 16) + mixed3 (wAt b (t - 15)) 7 18 3 + wAt b (t - 7) + mixed3 (wAt b (t - 2)) 17 19 10
termination_by t
theorem wAt_lo (b : List UInt8) (t : Nat) (h : t < 16) : wAt b t = bw b t := by rw [wAt, if_pos h]
theorem wAt_hi (b : List UInt8) (t : Nat) (h : 16 ≤ t) : wAt b t = wAt b (t - 16) + mixed3 (wAt b (t - 15)) 7 18 3 + wAt b (t - 7) + mixed3 (wAt b (t - 2)) 17 19 10 := by
  conv => lhs; rw [wAt, if_neg (by omega)]
/-- 64 words, of which t are there. -/
def ext (b : List UInt8) (t : Nat) : List W32 := (List.range 64).map fun j => if j < t then wAt b j else 0#32
theorem ext_length (b : List UInt8) (t : Nat) : (ext b t).length = 64 := by simp [ext]
theorem ext_get (b : List UInt8) (t j : Nat) (h : j < t) (h2 : j < 64) : (ext b t).getD j 0#32 = wAt b j := by simp [ext, List.getD, h, h2]
theorem ext_set (b : List UInt8) (t : Nat) : (ext b t).set t (wAt b t) = ext b (t + 1) := by
  apply List.ext_getElem (by simp [ext])
  intro j h1 h2
  simp only [ext, List.getElem_set, List.getElem_map, List.getElem_range]
  by_cases hj : t = j
  · subst hj; simp
  · by_cases h3 : j < t
    · simp [hj, h3, Nat.lt_succ_of_lt h3]
    · have : ¬ j < t + 1 := by omega
      simp [hj, h3, this]
theorem part_ext (b : List UInt8) : part b 16 0 64 = ext b 16 := by
  apply List.ext_getElem (by simp [part, ext])
  intro j h1 h2
  simp only [part, ext, List.getElem_map, List.getElem_range]
  by_cases hj : j < 16
  · simp [hj, wAt_lo b j hj]
  · by_cases h3 : j = 16
    · subst h3; simp [pw]
    · simp [hj, h3]

/-- The ring behind t steps. -/
def ringAt (b : List UInt8) : Nat → List W32
  | 0 => part b 16 0 16
  | t + 1 => nextL (ringAt b t) t
theorem ringAt_length (b : List UInt8) (t : Nat) : (ringAt b t).length = 16 := by
  induction t with
  | zero => simp [ringAt, part_length]
  | succ t ih => rw [ringAt, nextL_length, ih]
theorem ringAt_lo (b : List UInt8) (t : Nat) (h : t ≤ 16) : ringAt b t = part b 16 0 16 := by
  induction t with
  | zero => rfl
  | succ t ih => rw [ringAt, ih (by omega)]; unfold nextL; rw [if_neg (by omega)]
theorem part16_get (b : List UInt8) (m : Nat) (h : m < 16) : (part b 16 0 16).getD m 0#32 = wAt b m := by
  simp [part, List.getD, h, wAt_lo b m h]
theorem ring_get (b : List UInt8) (t : Nat) : ∀ m, m < max t 16 → max t 16 ≤ m + 16 → (ringAt b t).getD (m % 16) 0#32 = wAt b m := by
  induction t with
  | zero =>
    intro m h1 h2
    rw [ringAt, Nat.mod_eq_of_lt (by omega)]
    exact part16_get b m (by omega)
  | succ t ih =>
    intro m h1 h2
    by_cases ht : 16 ≤ t
    · have e : Nat.max t 16 = t := Nat.max_eq_left ht
      have e1 : max t 16 = t := e
      have e2 : max (t + 1) 16 = t + 1 := Nat.max_eq_left (by omega)
      rw [e2] at h1 h2
      rw [e1] at ih
      rw [ringAt]; unfold nextL; rw [if_pos ht]
      by_cases hm : m = t
      · subst hm
        have hl := ringAt_length b m
        rw [wAt_hi b m ht]
        have hlt : m % 16 < 16 := Nat.mod_lt _ (by omega)
        have e0 := ih (m - 16) (by omega) (by omega)
        have e1 := ih (m - 15) (by omega) (by omega)
        have e9 := ih (m - 7) (by omega) (by omega)
        have e14 := ih (m - 2) (by omega) (by omega)
        rw [show (m - 16) % 16 = m % 16 by omega] at e0
        rw [show (m - 15) % 16 = (m + 1) % 16 by omega] at e1
        rw [show (m - 7) % 16 = (m + 9) % 16 by omega] at e9
        rw [show (m - 2) % 16 = (m + 14) % 16 by omega] at e14
        rw [e0, e1, e9, e14]
        simp only [List.getD, List.getElem?_set, hl, hlt, if_true, Option.getD_some]
        simp only [BitVec.add_assoc]
      · have h3 := ih m (by omega) (by omega)
        rw [← h3]
        have hne : t % 16 ≠ m % 16 := by omega
        simp only [List.getD, List.getElem?_set_ne hne]
    · have e : ringAt b (t + 1) = ringAt b 0 := by rw [ringAt_lo b (t + 1) (by omega), ringAt_lo b 0 (by omega)]
      rw [e, ringAt, Nat.mod_eq_of_lt (by omega)]
      exact part16_get b m (by omega)
theorem nextW_ring (b : List UInt8) (t : Nat) : nextW (ringAt b t) t = wAt b t := by
  unfold nextW
  exact ring_get b (t + 1) t (by omega) (by omega)

/-- One round. -/
def rnd (s : List W32) (kw : W32 × W32) : List W32 :=
  let a := s.getD 0 0#32; let b := s.getD 1 0#32; let c := s.getD 2 0#32; let d := s.getD 3 0#32
  let e := s.getD 4 0#32; let f := s.getD 5 0#32; let g := s.getD 6 0#32; let i := s.getD 7 0#32
  let p := i + turned3 e 6 11 25 + ((e &&& f) ^^^ (~~~e &&& g)) + kw.1 + kw.2
  let q := turned3 a 2 13 22 + ((a &&& b) ^^^ (a &&& c) ^^^ (b &&& c))
  [p + q, a, b, c, d + p, e, f, g]
def rounds (h : List W32) (b : List UInt8) : Nat → List W32
  | 0 => h
  | t + 1 => rnd (rounds h b t) (kAt t, wAt b t)
def comp (h : List W32) (b : List UInt8) : List W32 := List.zipWith (· + ·) (rounds h b 64) h
theorem rnd_length (s : List W32) (x : W32 × W32) : (rnd s x).length = 8 := rfl
theorem rounds_length (h : List W32) (b : List UInt8) (hl : h.length = 8) (t : Nat) : (rounds h b t).length = 8 := by
  cases t with
  | zero => exact hl
  | succ t => rfl
theorem comp_length (h : List W32) (b : List UInt8) (hl : h.length = 8) : (comp h b).length = 8 := by simp [comp, rounds_length h b hl, hl]

end Go.Proofs.Ytgepfmofignmfaa
