/-
  The contracts of varint.Len and of the document's Get and Len.
-/
import Derived.Test.YtdclbhmmpdngpaaDoorVget
namespace Go.Proofs.YtdclbhmmpdngpaaDoor
set_option linter.unusedSimpArgs false
set_option linter.unusedVariables false
open Go.RowKit

theorem CS.vget_bad (s : CS) : s.vget.2.bad = true → s.vget = (0, CS.fail) := by
  unfold CS.vget
  split
  · intro _; rfl
  · cases h : vgetL s.l 0 0 with
    | none => intro _; rfl
    | some x => obtain ⟨n, r⟩ := x; intro h; cases h
theorem CS.vlen_off {s : CS} {most : Int} (h : most < 0 ∨ most < (s.vget.1 : Int)) : s.vlen most = (0, CS.fail) := by
  unfold CS.vlen
  rw [if_pos (.inr h)]
theorem CS.vlen_on {s : CS} {most : Int} (h : ¬ (most < 0 ∨ most < (s.vget.1 : Int))) : s.vlen most = s.vget := by
  unfold CS.vlen
  split
  · rename_i h2
    rcases h2 with h2 | h2
    · exact (CS.vget_bad s h2).symm
    · exact absurd h2 h
  · rfl

set_option maxHeartbeats 2000000 in
set_option maxRecDepth 20000 in
theorem vlen_ok (w : World) (p : Nat) (s : CS) (most : Int) (h0 : -9223372036854775808 ≤ most) (h1 : most ≤ 9223372036854775807) (hc : Cur w p s) :
    Calls Tryd.prog 35 #[.pointer (some ⟨p, 0, none⟩), .int .i64 most] w fun e w' => e = .returned (.int .i64 ((s.vlen most).1 : Nat)) ∧ Cur w' p (s.vlen most).2 ∧ Chg [p] w w' := by
  obtain ⟨L, hL⟩ : ∃ L, L = s.vlen most := ⟨_, rfl⟩
  rw [← hL]
  go_enter Tryd.func35, Tryd.ntmps35
  go_wp2_with fail
  refine (vget_ok w p s hc).mono ?_
  rintro e w1 ⟨rfl, hc1, hg1⟩
  have hlt := CS.vget_lt s
  by_cases hoff : most < 0 ∨ most < (s.vget.1 : Int)
  · rw [CS.vlen_off hoff] at hL
    subst hL
    generalize s.vget = R at *
    obtain ⟨n, s1⟩ := R
    dsimp only at *
    go_wp2_with fail
    all_goals first
      | (exfalso; simp at *; omega)
      | skip
    all_goals refine (fail_ok w1 p s1 hc1).mono ?_
    all_goals rintro e w2 ⟨rfl, hc2, hg2⟩
    all_goals go_wp2_with fail
    all_goals refine (bad_ok w2 p _ hc2).mono ?_
    all_goals rintro e w2' ⟨rfl, rfl⟩
    all_goals have hbt : CS.fail.bad = true := rfl
    all_goals go_wp2
    all_goals go_ret
    all_goals exact ⟨rfl, hc2, hg1.t1 hg2⟩
  · rw [CS.vlen_on hoff] at hL
    replace hL := hL.symm
    have hb := CS.vget_bad s
    rw [hL] at hb hlt hoff hc1 ⊢
    clear hL
    obtain ⟨n, s1⟩ := L
    dsimp only at *
    have h2 : ¬ most < 0 := by omega
    have h3 : (n : Int) ≤ most := by omega
    go_wp2_with fail
    refine (bad_ok w1 p s1 hc1).mono ?_
    rintro e w2' ⟨rfl, rfl⟩
    by_cases hbb : s1.bad = true
    · have := hb hbb
      simp only [Prod.mk.injEq] at this
      obtain ⟨rfl, rfl⟩ := this
      go_wp2
      go_ret
      exact ⟨rfl, hc1, hg1⟩
    · have hbb2 : s1.bad = false := by simpa using hbb
      rw [hbb2]
      go_wp2
      go_ret
      refine ⟨congrArg Ending.returned (congrArg (Value.int IntKind.i64) ?_), hc1, hg1⟩
      omega

theorem shift128 (a x k : Nat) (hx : x < 256) (hk : k ≤ 9) (ha : a < 128 ^ k) (h9 : k = 9 → x ≤ 1) : x % 128 * 128 ^ k < 18446744073709551616 ∧ a + x % 128 * 128 ^ k < 18446744073709551616 ∧ (k < 9 → a + x % 128 * 128 ^ k < 128 ^ (k + 1)) := by
  have hp : 0 < 128 ^ k := Nat.pos_of_ne_zero (by simp)
  by_cases h : k = 9
  · subst h
    have := h9 rfl
    have : x % 128 * 128 ^ 9 ≤ 1 * 128 ^ 9 := Nat.mul_le_mul_right _ (by omega)
    omega
  · have h1 : (x % 128 + 1) * 128 ^ k ≤ 128 * 128 ^ k := Nat.mul_le_mul_right _ (by omega)
    have h2 : 128 * 128 ^ k = 128 ^ (k + 1) := by rw [Nat.pow_succ, Nat.mul_comm]
    have h3 : 128 ^ (k + 1) ≤ 128 ^ 9 := Nat.pow_le_pow_right (by decide) (by omega)
    rw [Nat.add_mul] at h1
    omega

set_option maxHeartbeats 4000000 in
set_option maxRecDepth 20000 in
theorem rget_ok (B : Nat) (w : World) (p : Nat) (s0 : CS) (hc0 : RCur B w p s0) :
    Calls Tryd.prog 38 #[.pointer (some ⟨p, 0, none⟩)] w fun e w' => e = .returned (.int .u64 (s0.vget.1 : Nat)) ∧ RCur B w' p s0.vget.2 ∧ Chg [p] w w' := by
  obtain ⟨R, hR⟩ : ∃ R, R = s0.vget := ⟨_, rfl⟩
  rw [← hR]
  have hI0 := VInv.start s0
  rw [← hR] at hI0
  clear hR
  go_enter Tryd.func38, Tryd.ntmps38
  go_wp2_with fail
  go_loopw [3, 4] (fun nv kv wr => ∃ (k acc : Nat) (s : CS), k ≤ 9 ∧ acc < 128 ^ k ∧ VInv R s k acc ∧ nv = .int .u64 acc ∧ kv = .int .i64 k ∧ RCur B wr p s ∧ Chg [p] w wr) (fun _ kv _ => 10 - (intOf kv).toNat)
  case atStart => exact ⟨0, 0, s0, by decide, by decide, hI0, rfl, rfl, hc0, Chg.refl _ _⟩
  case round =>
    obtain ⟨k, acc, s, hk, ha, hI, rfl, rfl, hc, hg⟩ := hrel
    clear hI0 hc0
    go_wp2_with fail
    refine (rtake_ok B wr p s 1 hc).mono ?_
    rintro e w2 ⟨v2, rfl, o2, hc2, hg2⟩
    have hg' := hg.t1 hg2
    rcases s.then1 with ⟨hb, hf, hs⟩ | ⟨y, r, rfl, hy, ht⟩
    · have hR0 := hI.ends hs
      subst hR0
      have htk : s.took 1 = [] := by
        rcases hs with hs | hs
        · exact CS.took_off (.inl hs)
        · exact CS.took_off (.inr (.inr (by rw [hs]; decide)))
      rw [hf] at hc2
      rw [htk] at o2
      obtain ⟨a2, c2, rfl⟩ := own_shape o2
      clear hI hc hg hg2 o2
      go_wp2
      go_ret
      exact ⟨rfl, hc2, hg'⟩
    · have hyl := y.toNat_lt
      have hob : ¬ CS.off ⟨y :: r, false⟩ 1 := by simp [CS.off]; omega
      have htk : CS.took ⟨y :: r, false⟩ 1 = [y] := by rw [CS.took_on hob]; simp
      rw [ht] at hc2
      rw [htk] at o2
      obtain ⟨a2, c2, rfl, q1, q2, q3, q4, q6, q5⟩ := Sl.ofOwns o2
      obtain ⟨x2, rfl, hcell'⟩ := q5 0 (.int .u8 (y.toNat : Int)) rfl
      have hcell : w2.cell? x2 = some (.int .u8 (y.toNat : Int)) := by
        obtain ⟨xb, xo, xs⟩ := x2
        cases xs <;> exact hcell'
      clear hcell'
      clear q1 q2 q3 q4 q5 q6 hob htk ht hy o2
      by_cases hz : (0 < k ∧ y.toNat = 0) ∨ (k = 9 ∧ 1 < y.toNat)
      · have hR0 := hI.wrong hz
        subst hR0
        clear hI hc hg hg2
        go_wp2_with fail
        all_goals first
          | (exfalso; simp at *; omega)
          | skip
        all_goals refine (rfail_ok B w2 p ⟨r, false⟩ hc2).mono ?_
        all_goals rintro e w3 ⟨rfl, hc3, hg3⟩
        all_goals go_wp2
        all_goals go_ret
        all_goals exact ⟨rfl, hc3, hg'.t1 hg3⟩
      · have hsh := shift128 acc y.toNat k hyl hk ha (fun h => by omega)
        by_cases h9 : k = 9
        · subst h9
          have hR0 := hI.done hz (by omega)
          have hy1 : y.toNat ≤ 1 := by omega
          subst hR0
          replace hsh := Lib.hid hsh
          clear hI hc hg hg2
          go_wp2
          all_goals first
            | (exfalso; simp at *; omega)
            | (go_ret
               refine ⟨congrArg Ending.returned (congrArg (Value.int IntKind.u64) ?_), hc2, hg'⟩
               have hsh := hsh.out
               try rw [IntKind.wrap_u64]
               try dsimp only
               omega)
        · replace h9 : k < 9 := by omega
          obtain ⟨s1, s2, s3⟩ := hsh
          have hsh : IntKind.u64.wrap ((acc : Int) + IntKind.u64.wrap ((y.toNat : Int) % 128 * 2 ^ (7 * k))) = ((acc + y.toNat % 128 * 128 ^ k : Nat) : Int) := by
            have e2 : ((y.toNat : Int) % 128 * 2 ^ (7 * k)) = ((y.toNat % 128 * 128 ^ k : Nat) : Int) := by
              rw [show (128 : Nat) ^ k = 2 ^ (7 * k) by rw [Nat.pow_mul]]
              push_cast; rfl
            have e3 : IntKind.u64.wrap ((y.toNat % 128 * 128 ^ k : Nat) : Int) = ((y.toNat % 128 * 128 ^ k : Nat) : Int) := wraps_u64 _ (by omega) (by omega)
            rw [e2, e3, IntKind.wrap_u64]
            omega
          replace s3 := s3 h9
          replace hsh := Lib.hid hsh
          replace s3 := Lib.hid s3
          have hz1 : 0 < k → ¬ y.toNat = 0 := by omega
          clear s1 s2
          by_cases hlt : y.toNat < 128
          · have hR0 := hI.done hz hlt
            subst hR0
            clear hI hc hg hg2
            go_wp2
            all_goals first
              | (exfalso; simp at *; omega)
              | (go_ret
                 refine ⟨congrArg Ending.returned (congrArg (Value.int IntKind.u64) ?_), hc2, hg'⟩
                 rw [hsh.out, Nat.mod_eq_of_lt (by omega)]
                 try push_cast
                 try rfl)
          · have hI2 := hI.on hz hlt
            clear hI hc hg hg2
            go_wp2
            all_goals first
              | (exfalso; simp at *; omega)
              | skip
            all_goals go_roundw
            all_goals first
              | exact ⟨k + 1, _, ⟨r, false⟩, by omega, s3.out, hI2, by rw [hsh.out], by congr 1, hc2, hg'⟩
              | (simp only [intOf]; omega)

set_option maxHeartbeats 2000000 in
set_option maxRecDepth 20000 in
theorem rlen_ok (B : Nat) (w : World) (p : Nat) (s : CS) (most : Int) (h0 : -9223372036854775808 ≤ most) (h1 : most ≤ 9223372036854775807) (hc : RCur B w p s) :
    Calls Tryd.prog 27 #[.pointer (some ⟨p, 0, none⟩), .int .i64 most] w fun e w' => e = .returned (.int .i64 ((s.vlen most).1 : Nat)) ∧ RCur B w' p (s.vlen most).2 ∧ Chg [p] w w' := by
  obtain ⟨L, hL⟩ : ∃ L, L = s.vlen most := ⟨_, rfl⟩
  rw [← hL]
  go_enter Tryd.func27, Tryd.ntmps27
  go_wp2_with fail
  refine (rget_ok B w p s hc).mono ?_
  rintro e w1 ⟨rfl, hc1, hg1⟩
  have hlt := CS.vget_lt s
  have hbb := CS.vget_bad s
  obtain ⟨v, hh, _⟩ := id hc1
  obtain ⟨c0, c1, f0, f1⟩ := cells2 hh
  by_cases hoff : s.vget.2.bad = true ∨ most < 0 ∨ most < (s.vget.1 : Int)
  · have hL2 : L = (0, CS.fail) := by rw [hL, CS.vlen, if_pos hoff]
    subst hL2
    clear hL hbb
    generalize s.vget = R at *
    obtain ⟨n, s1⟩ := R
    obtain ⟨l1, b1⟩ := s1
    dsimp only at *
    clear hh f0 f1
    cases b1
    all_goals go_wp2_with fail
    all_goals first
      | (exfalso; simp at *; omega)
      | skip
    all_goals refine (rfail_ok B w1 p _ hc1).mono ?_
    all_goals rintro e w2 ⟨rfl, hc2, hg2⟩
    all_goals go_wp2
    all_goals go_ret
    all_goals exact ⟨rfl, hc2, hg1.t1 hg2⟩
  · have hL2 : L = s.vget := by rw [hL, CS.vlen, if_neg hoff]
    clear hL
    rw [← hL2] at hc1 hoff hlt hh c1 ⊢
    clear hL2 hbb
    obtain ⟨n, s1⟩ := L
    obtain ⟨l1, b1⟩ := s1
    dsimp only at *
    simp only [not_or, Bool.not_eq_true] at hoff
    obtain ⟨rfl, o2, o3⟩ := hoff
    clear hh f0 f1
    go_wp2
    all_goals first
      | (exfalso; simp at *; omega)
      | skip
    go_ret
    refine ⟨congrArg Ending.returned (congrArg (Value.int IntKind.i64) ?_), hc1, hg1⟩
    first
      | rfl
      | omega
end Go.Proofs.YtdclbhmmpdngpaaDoor
