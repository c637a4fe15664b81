/-
  The order of cells: pure.
-/
import Derived.Test.YtfnfcioofkeanaaCmp
namespace Go.Proofs.Ytfnfcioofkeanaa
set_option linter.unusedSimpArgs false
set_option linter.unusedVariables false
open Go.RowKit

theorem cmpP_le (x y u v : Int) : cmpP x y u v ≤ 0 ↔ normP x y < normP u v ∨ normP x y = normP u v ∧ (x < u ∨ x = u ∧ y ≤ v) := by
  unfold cmpP
  generalize normP x y = N
  generalize normP u v = M
  simp only [orF, sgn]
  repeat' split
  all_goals omega
theorem cmpP_neg (x y u v : Int) : cmpP u v x y = -cmpP x y u v := by
  unfold cmpP
  generalize normP x y = N
  generalize normP u v = M
  simp only [orF, sgn]
  repeat' split
  all_goals omega
theorem cmpP_zero (x y u v : Int) : cmpP x y u v = 0 ↔ x = u ∧ y = v := by
  constructor
  · intro h
    have h1 := (cmpP_le x y u v).1 (by omega)
    have h2 := (cmpP_le u v x y).1 (by rw [cmpP_neg]; omega)
    omega
  · rintro ⟨rfl, rfl⟩
    simp [cmpP, orF, sgn]
theorem cmpP_range (x y u v : Int) : cmpP x y u v = -1 ∨ cmpP x y u v = 0 ∨ cmpP x y u v = 1 := by
  unfold cmpP
  generalize normP x y = N
  generalize normP u v = M
  simp only [orF, sgn]
  repeat' split
  all_goals omega
theorem cmpP_trans {x y u v s t : Int} (h1 : cmpP x y u v ≤ 0) (h2 : cmpP u v s t ≤ 0) : cmpP x y s t ≤ 0 := by
  rw [cmpP_le] at *
  omega

theorem sgn_le (x y : Int) : sgn x y ≤ 0 ↔ x ≤ y := by
  unfold sgn
  repeat' split
  all_goals omega
theorem sgn_neg (x y : Int) : sgn y x = -sgn x y := by
  unfold sgn
  repeat' split
  all_goals omega
theorem sgn_zer (x y : Int) : sgn x y = 0 ↔ x = y := by
  unfold sgn
  repeat' split
  all_goals omega
theorem sgn_trans {x y z : Int} (h1 : sgn x y ≤ 0) (h2 : sgn y z ≤ 0) : sgn x z ≤ 0 := by rw [sgn_le] at *; omega
theorem cmpB_neg : ∀ (a b : List UInt8), Lib.compareBytes b a = -Lib.compareBytes a b
  | [], [] => rfl
  | [], _ :: _ => rfl
  | _ :: _, [] => rfl
  | a :: xs, b :: ys => by
    unfold Lib.compareBytes
    have ih := cmpB_neg xs ys
    simp only [UInt8.lt_iff_toNat_lt]
    by_cases h1 : a.toNat < b.toNat
    · rw [if_neg (by omega), if_pos h1, if_pos h1]; rfl
    · by_cases h2 : b.toNat < a.toNat
      · rw [if_pos h2, if_neg h1, if_pos h2]
      · rw [if_neg h2, if_neg h1, if_neg h1, if_neg h2, ih]
theorem cmpB_zero : ∀ (a b : List UInt8), Lib.compareBytes a b = 0 ↔ a = b
  | [], [] => by simp [Lib.compareBytes]
  | [], _ :: _ => by simp [Lib.compareBytes]
  | _ :: _, [] => by simp [Lib.compareBytes]
  | a :: xs, b :: ys => by
    unfold Lib.compareBytes
    have ih := cmpB_zero xs ys
    simp only [UInt8.lt_iff_toNat_lt]
    by_cases h1 : a.toNat < b.toNat
    · rw [if_pos h1]
      have : a ≠ b := by rintro rfl; omega
      simp [this]
    · by_cases h2 : b.toNat < a.toNat
      · rw [if_neg h1, if_pos h2]
        have : a ≠ b := by rintro rfl; omega
        simp [this]
      · rw [if_neg h1, if_neg h2, ih]
        have : a = b := UInt8.toNat_inj.1 (by omega)
        simp [this]
theorem cmpB_trans : ∀ {a b c : List UInt8}, Lib.compareBytes a b ≤ 0 → Lib.compareBytes b c ≤ 0 → Lib.compareBytes a c ≤ 0
  | [], _, [], _, _ => by simp [Lib.compareBytes]
  | [], _, _ :: _, _, _ => by simp [Lib.compareBytes]
  | _ :: _, [], _, h, _ => by simp [Lib.compareBytes] at h
  | _ :: _, _ :: _, [], _, h => by simp [Lib.compareBytes] at h
  | a :: xs, b :: ys, c :: zs, h1, h2 => by
    unfold Lib.compareBytes at h1 h2 ⊢
    have ih := @cmpB_trans xs ys zs
    simp only [UInt8.lt_iff_toNat_lt] at h1 h2 ⊢
    by_cases x1 : a.toNat < b.toNat
    · by_cases y1 : b.toNat < c.toNat
      · rw [if_pos (by omega)]; decide
      · by_cases y2 : c.toNat < b.toNat
        · rw [if_neg y1, if_pos y2] at h2; exact absurd h2 (by decide)
        · rw [if_pos (by omega)]; decide
    · by_cases x2 : b.toNat < a.toNat
      · rw [if_neg x1, if_pos x2] at h1; exact absurd h1 (by decide)
      · rw [if_neg x1, if_neg x2] at h1
        by_cases y1 : b.toNat < c.toNat
        · rw [if_pos (by omega)]; decide
        · by_cases y2 : c.toNat < b.toNat
          · rw [if_neg y1, if_pos y2] at h2; exact absurd h2 (by decide)
          · rw [if_neg y1, if_neg y2] at h2
            rw [if_neg (by omega), if_neg (by omega)]
            exact ih h1 h2

/-- What a cell that is right for a column is. -/
theorem right_cases {c : Cell} {typ : Int} {nul : Bool} (h : rightC c typ nul = true) : c = nullC ∨ (c.null = false ∧ 0 ≤ typ ∧ typ < 4 ∧ c = plainC c typ ∧ rightB c.x c.y = true) := by
  by_cases hn : c.null = true
  · rw [rightC_null c typ nul hn] at h
    simp only [Bool.and_eq_true, decide_eq_true_eq] at h
    exact .inl h.2
  · have hn' : c.null = false := by simpa using hn
    by_cases ht : typ < 0 ∨ 4 ≤ typ
    · rw [rightC_out c typ nul hn' ht] at h; cases h
    · rw [rightC_in c typ nul hn' (by omega) (by omega)] at h
      simp only [Bool.and_eq_true, decide_eq_true_eq] at h
      exact .inr ⟨hn', by omega, by omega, h.1, h.2.2.1⟩
theorem right_near {c : Cell} {typ : Int} {nul : Bool} (h : rightC c typ nul = true) : NearC c := by
  rcases right_cases h with rfl | ⟨_, _, _, _, h⟩
  · unfold NearC NearP nullC; decide
  · simp [rightB, inB] at h; unfold NearC NearP; omega
theorem cmpC_in {a b : Cell} {typ : Int} (ha : a.null = false) (hb : b.null = false) (h0 : 0 ≤ typ) (h4 : typ < 4) : cmpC typ a b = if typ = 0 ∨ typ = 1 then sgn a.int b.int else if typ = 2 then Lib.compareBytes a.text b.text else cmpP a.x a.y b.x b.y := by
  unfold cmpC
  rw [if_neg (by simp [ha]), if_neg (by simp [hb])]
  by_cases e1 : typ = 0 ∨ typ = 1
  · rw [if_pos e1, if_pos e1]
  · rw [if_neg e1, if_neg e1]
    by_cases e2 : typ = 2
    · rw [if_pos e2, if_pos e2]
    · rw [if_neg e2, if_neg e2, if_pos (by omega)]
theorem cmpC_neg (a b : Cell) (typ : Int) : cmpC typ b a = -cmpC typ a b := by
  unfold cmpC
  cases a.null <;> cases b.null <;> simp
  rw [sgn_neg a.int b.int, cmpB_neg a.text b.text, cmpP_neg a.x a.y b.x b.y]
  split
  · rfl
  · split
    · rfl
    · split <;> rfl
theorem cmpC_zero {a b : Cell} {typ : Int} {nul : Bool} (ha : rightC a typ nul = true) (hb : rightC b typ nul = true) : cmpC typ a b = 0 ↔ a = b := by
  rcases right_cases ha with rfl | ⟨na, h0, h4, ea, _⟩ <;> rcases right_cases hb with rfl | ⟨nb, h0', h4', eb, _⟩
  · simp [cmpC, nullC]
  · have : nullC ≠ b := by rintro rfl; cases nb
    simp [this, cmpC, nb]
    simp [nullC]
  · have : a ≠ nullC := by rintro rfl; cases na
    simp [this, cmpC, na]
    simp [nullC]
  · rw [cmpC_in na nb h0 h4]
    have fin : (plainC a typ = plainC b typ) ↔ a = b := by rw [← ea, ← eb]
    rw [← fin]
    unfold plainC
    by_cases e1 : typ = 0 ∨ typ = 1
    · rw [if_pos e1, if_pos e1, if_pos e1, sgn_zer]; simp
    · rw [if_neg e1, if_neg e1, if_neg e1]
      by_cases e2 : typ = 2
      · rw [if_pos e2, if_pos e2, if_pos e2, cmpB_zero]; simp
      · rw [if_neg e2, if_neg e2, if_neg e2, cmpP_zero]; simp
theorem cmpC_trans {a b c : Cell} {typ : Int} {nul : Bool} (ha : rightC a typ nul = true) (hb : rightC b typ nul = true) (hc : rightC c typ nul = true) (h1 : cmpC typ a b ≤ 0) (h2 : cmpC typ b c ≤ 0) : cmpC typ a c ≤ 0 := by
  by_cases na : a.null = true
  · unfold cmpC
    rw [if_pos na]
    split <;> decide
  have na' : a.null = false := by simpa using na
  have nb' : b.null = false := by
    by_cases nb : b.null = true
    · simp [cmpC, na', nb] at h1
    · simpa using nb
  have nc' : c.null = false := by
    by_cases nc : c.null = true
    · simp [cmpC, nb', nc] at h2
    · simpa using nc
  rcases right_cases ha with rfl | ⟨_, h0, h4, _, _⟩
  · cases na'
  rw [cmpC_in na' nb' h0 h4] at h1
  rw [cmpC_in nb' nc' h0 h4] at h2
  rw [cmpC_in na' nc' h0 h4]
  by_cases e1 : typ = 0 ∨ typ = 1
  · rw [if_pos e1] at *; exact sgn_trans h1 h2
  · rw [if_neg e1] at *
    by_cases e2 : typ = 2
    · rw [if_pos e2] at *; exact cmpB_trans h1 h2
    · rw [if_neg e2] at *; exact cmpP_trans h1 h2
theorem cmpC_null {a b : Cell} {typ : Int} (h : a.null = true) : cmpC typ a b ≤ 0 := by
  unfold cmpC
  rw [if_pos h]
  split <;> decide
end Go.Proofs.Ytfnfcioofkeanaa
