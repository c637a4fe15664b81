/-
  CursorParts: a number of four bytes is that of four single ones, and one of eight that of two of four.
-/
import Derived.Test.YtiednighldjojaaRef03
import Derived.Test.YtiednighldjojaaOpen
namespace Go.Proofs.Ytiednighldjojaa
open Go.RowKit

theorem lenum_app (l m : List UInt8) : lenum (l ++ m) = lenum l + 256 ^ l.length * lenum m := by
  induction l with
  | nil => simp [lenum]
  | cons x l ih =>
    simp only [List.cons_append, lenum, ih, List.length_cons, Nat.pow_succ, Nat.mul_add, Nat.add_assoc]
    congr 2
    rw [← Nat.mul_assoc, Nat.mul_comm 256]

set_option maxRecDepth 100000 in
set_option maxHeartbeats 4000000 in
theorem parts_walk (w : World) (b : List UInt8) (h8 : b.length = 8) :
    Calls Try.prog 7 #[.agg (bcs b).toArray] w fun e w' => e = .returned (.bool true) ∧ Chg [] w w' := by
  have hone : Hid ((bcs b).toArray.toList = bcs b) := by simp [Hid]
  have hs8 : (bcs b).toArray.size = 8 := by simp [bcs, h8]
  generalize hB : (bcs b).toArray = B at *
  go_enter Try.func7, Try.ntmps7
  go_wp2_with fail
  refine (small_ok _).mono ?_
  rintro e w1 ⟨rfl, g1⟩
  have hSl : Sl (w.alloc (.cells B 47)) (.slice (some ⟨w.heap.size, 0, none⟩) 8 8) b.length (bcs b) := by
    rw [h8, ← hone.out]; exact Sl.lit w B _ 8 (by decide)
  have s1 := hSl.tr0 g1
  have gw1 : Chg [] w w1 := (Chg.alloc [] w _).t0 g1
  have hB8 : b.length ≤ big := by rw [h8]; decide
  go_wp2_with fail
  refine (over_ok w1 _ b s1 hB8).mono ?_
  rintro e w2 ⟨p, rfl, hp, c2, g2⟩
  go_wp2_with fail
  refine (over_ok w2 _ b (s1.tr0 g2) hB8).mono ?_
  rintro e w3 ⟨q, rfl, hq, d3, g3⟩
  go_wp2_with fail
  refine (over_ok w3 _ b ((s1.tr0 g2).tr0 g3) hB8).mono ?_
  rintro e w4 ⟨r, rfl, hr, f4, g4⟩
  have hpq : p < q := by have := c2.lt; omega
  have hqr : q < r := by have := d3.lt; omega
  have c4 := (c2.tr0 g3).tr0 g4
  have d4 := d3.tr0 g4
  have gw4 := ((gw1.t0 g2).t0 g3).t0 g4
  have hpw : w.heap.size ≤ p := by have := gw1.size; omega
  clear g1 g2 g3 g4 s1 hSl gw1 c2 d3
  have eoff : ∀ (n : Int), n ≤ b.length → 0 ≤ n → ¬ CS.off ⟨b, false⟩ n := by intro n h1 h2; simp [CS.off]; omega
  have t8 : CS.num ⟨b, false⟩ 8 = lenum b := by rw [CS.num, CS.took_on (eoff 8 (by omega) (by omega)), show (8 : Int).toNat = b.length by rw [h8]; rfl, List.take_length]
  have u8' : CS.then ⟨b, false⟩ 8 = ⟨[], false⟩ := by rw [CS.then_on (eoff 8 (by omega) (by omega)), show (8 : Int).toNat = b.length by rw [h8]; rfl, List.drop_length]
  have t4 : CS.num ⟨b, false⟩ 4 = lenum (b.take 4) := by rw [CS.num, CS.took_on (eoff 4 (by omega) (by omega))]; rfl
  have u4' : CS.then ⟨b, false⟩ 4 = ⟨b.drop 4, false⟩ := by rw [CS.then_on (eoff 4 (by omega) (by omega))]; rfl
  have hd4 : (b.drop 4).length = 4 := by simp [h8]
  have hoff4 : ¬ CS.off ⟨b.drop 4, false⟩ 4 := by simp [CS.off, h8]
  have t4b : CS.num ⟨b.drop 4, false⟩ 4 = lenum (b.drop 4) := by rw [CS.num, CS.took_on hoff4, show (4 : Int).toNat = (b.drop 4).length by rw [hd4]; rfl, List.take_length]
  have u4b : CS.then ⟨b.drop 4, false⟩ 4 = ⟨[], false⟩ := by rw [CS.then_on hoff4, show (4 : Int).toNat = (b.drop 4).length by rw [hd4]; rfl, List.drop_length]
  have T8 : Hid (CS.num ⟨b, false⟩ 8 = lenum b ∧ CS.then ⟨b, false⟩ 8 = ⟨[], false⟩) := ⟨t8, u8'⟩
  have T4 : Hid (CS.num ⟨b, false⟩ 4 = lenum (b.take 4) ∧ CS.then ⟨b, false⟩ 4 = ⟨b.drop 4, false⟩) := ⟨t4, u4'⟩
  have T4b : Hid (CS.num ⟨b.drop 4, false⟩ 4 = lenum (b.drop 4) ∧ CS.then ⟨b.drop 4, false⟩ 4 = ⟨[], false⟩) := ⟨t4b, u4b⟩
  have l1 := lenum_lt (b.take 4)
  have l2 := lenum_lt (b.drop 4)
  rw [List.length_take, h8] at l1
  rw [hd4] at l2
  have HS : Hid (lenum b = lenum (b.take 4) + 4294967296 * lenum (b.drop 4)) := by
    have h := lenum_app (b.take 4) (b.drop 4)
    rw [List.take_append_drop, List.length_take, h8] at h
    exact h
  have H8 : Hid (b.length = 8) := h8
  have l1' : lenum (b.take 4) < 4294967296 := l1
  have l2' : lenum (b.drop 4) < 4294967296 := l2
  clear t8 u8' t4 u4' t4b u4b hd4 hoff4 eoff hB8 hone l1 l2 h8 hs8
  go_wp2_with fail
  refine (u64_ok _ _ _ c4).mono ?_
  rintro e w5 ⟨he, c5, g5⟩
  rw [T8.out.1] at he; rw [T8.out.2] at c5; subst he
  have d5 := d4.trC g5 (by omega) c4
  have f5 := f4.trC g5 (by omega) c4
  have gw5 := gw4.tn g5 hpw
  go_wp2_with fail
  refine (u32_ok _ _ _ d5).mono ?_
  rintro e w6 ⟨he, d6, g6⟩
  rw [T4.out.1] at he; rw [T4.out.2] at d6; subst he
  have c6 := c5.trC g6 (by omega) d5
  have f6 := f5.trC g6 (by omega) d5
  have gw6 := gw5.tn g6 (by omega)
  go_wp2_with fail
  refine (u32_ok _ _ _ d6).mono ?_
  rintro e w7 ⟨he, d7, g7⟩
  rw [T4b.out.1] at he; rw [T4b.out.2] at d7; subst he
  have c7 := c6.trC g7 (by omega) d6
  have f7 := f6.trC g7 (by omega) d6
  have gw7 := gw6.tn g7 (by omega)
  clear c4 c5 c6 d4 d5 d6 f4 f5 f6 g5 g6 g7 gw4 gw5 gw6
  go_wp2_with fail
  go_loopw [10, 11] (fun mv iv wr => ∃ k : Nat, k ≤ 8 ∧ iv = .int .i64 k ∧ mv = .int .u64 (lenum (b.take k) : Nat) ∧ Cur wr p ⟨[], false⟩ ∧ Cur wr q ⟨[], false⟩ ∧ Cur wr r ⟨b.drop k, false⟩ ∧ Chg [] w wr) (fun _ iv _ => 8 - (intOf iv).toNat)
  case atStart => exact ⟨0, by omega, rfl, rfl, c7, d7, by simpa using f7, gw7⟩
  case round =>
    obtain ⟨k, hk, rfl, rfl, c, d, f, gw⟩ := hrel
    clear c7 d7 f7 gw7
    by_cases hlt : k < 8
    · have hkb : k < b.length := by rw [H8.out]; exact hlt
      have hcons : b.drop k = b[k] :: b.drop (k + 1) := List.drop_eq_getElem_cons hkb
      have ho : ¬ CS.off ⟨b.drop k, false⟩ 1 := by simp [CS.off]; omega
      have n1 : CS.num ⟨b.drop k, false⟩ 1 = b[k].toNat := by rw [CS.num, CS.took_on ho]; show lenum ((b.drop k).take 1) = _; rw [hcons]; simp only [List.take_succ_cons, List.take_zero, lenum, Nat.mul_zero, Nat.add_zero]
      have m1 : CS.then ⟨b.drop k, false⟩ 1 = ⟨b.drop (k + 1), false⟩ := by rw [CS.then_on ho]; show (⟨(b.drop k).drop 1, false⟩ : CS) = _; rw [List.drop_drop]
      have hl1 := lenum_lt (b.take k)
      rw [List.length_take, H8.out, Nat.min_eq_left hk] at hl1
      have hstep := step_u64 (lenum (b.take k)) b[k].toNat k (UInt8.toNat_lt _) hlt hl1
      rw [← lenum_take b k hkb] at hstep
      have HT : Hid _ := hstep
      clear hstep hcons ho hl1
      go_wp2_with fail
      refine (byte_ok _ _ _ f).mono ?_
      rintro e w8 ⟨he, f8, g8⟩
      rw [n1] at he; rw [m1] at f8; subst he
      have c8 := c.trC g8 (by omega) f
      have d8 := d.trC g8 (by omega) f
      have gw8 := gw.tn g8 (by omega)
      clear n1 m1 c d f g8 gw
      go_wp2
      go_roundw
      case rel =>
        refine ⟨k + 1, by omega, by go_num, ?_, c8, d8, f8, gw8⟩
        have h := HT.out
        rw [← h]
      case measure => simp [intOf]; omega
    · obtain rfl : k = 8 := by omega
      have hk8 : b.take 8 = b := by rw [← H8.out, List.take_length]
      rw [hk8]
      have HK8 : Hid (b.drop 8 = []) := by
        have := List.drop_length (l := b)
        rw [H8.out] at this
        exact this
      rw [HK8.out] at f
      have hor : bits .or .u64 (lenum (b.take 4)) ((lenum (b.drop 4) : Int) * 4294967296) = (lenum b : Int) := by
        have e1 : ((lenum (b.drop 4) : Int) * 4294967296) = ((lenum (b.drop 4) * 256 ^ 4 : Nat) : Int) := by omega
        rw [e1, or_u64 _ _ (by omega) (by omega), or_apart _ _ 4 (by omega), HS.out]
        omega
      clear hk8
      go_wp2_with (first
        | (go_at_call 21; (with_reducible refine (end_ok _ p _ c).mono ?_); rintro e w8 ⟨he, rfl⟩; obtain rfl : e = .returned (.bool true) := he)
        | (go_at_call 21; (with_reducible refine (end_ok _ q _ d).mono ?_); rintro e w8 ⟨he, rfl⟩; obtain rfl : e = .returned (.bool true) := he)
        | (go_at_call 21; (with_reducible refine (end_ok _ r _ f).mono ?_); rintro e w8 ⟨he, rfl⟩; obtain rfl : e = .returned (.bool true) := he))
      go_ret
      exact ⟨rfl, gw⟩

theorem cursorParts_run (w : World) (v0 : Value) (b : List UInt8) (h : b.length = 8 ∧ v0 = .agg (bcs b).toArray) :
    Calls Try.prog 7 #[v0] w fun e w' => e = .returned (.bool true) ∧ Chg [] w w' := by
  obtain ⟨h8, rfl⟩ := h
  exact parts_walk w b h8

end Go.Proofs.Ytiednighldjojaa
