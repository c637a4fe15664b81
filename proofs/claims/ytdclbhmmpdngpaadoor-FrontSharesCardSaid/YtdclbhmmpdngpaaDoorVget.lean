/-
  The contract of varint.Get, and of varint.Len.
-/
import Derived.Test.YtdclbhmmpdngpaaDoorVarint
namespace Go.Proofs.YtdclbhmmpdngpaaDoor
set_option linter.unusedSimpArgs false
set_option linter.unusedVariables false
open Go.RowKit

set_option maxRecDepth 100000 in
theorem andNot_u8 (x : Nat) (hx : x < 256) : bits .andNot .u8 (x : Int) 128 = ((x % 128 : Nat) : Int) := by
  have h : ∀ x : Fin 256, bits .andNot .u8 ((x : Nat) : Int) 128 = (((x : Nat) % 128 : Nat) : Int) := by decide
  exact h ⟨x, hx⟩
theorem step128 (a x k : Nat) (hx : x < 256) (hk : k ≤ 9) (ha : a < 128 ^ k) (h9 : k = 9 → x ≤ 1) :
    bits .or .u64 a (IntKind.u64.wrap (IntKind.u64.wrap (bits .andNot .u8 (x : Int) 128) * 2 ^ (7 * k))) = ((a + x % 128 * 128 ^ k : Nat) : Int) := by
  have hp : 0 < 128 ^ k := Nat.pos_of_ne_zero (by simp)
  have hlt : x % 128 * 128 ^ k < 2 ^ 64 := by
    by_cases h : k = 9
    · subst h
      have := h9 rfl
      have : x % 128 * 128 ^ 9 ≤ 1 * 128 ^ 9 := Nat.mul_le_mul_right _ (by omega)
      omega
    · have h1 : (x % 128 + 1) * 128 ^ k ≤ 128 * 128 ^ k := Nat.mul_le_mul_right _ (by omega)
      have h2 : 128 * 128 ^ k = 128 ^ (k + 1) := by rw [Nat.pow_succ, Nat.mul_comm]
      have h3 : 128 ^ (k + 1) ≤ 128 ^ 9 := Nat.pow_le_pow_right (by decide) (by omega)
      rw [Nat.add_mul] at h1
      omega
  have ha2 : a < 2 ^ 64 := by
    have h3 : 128 ^ k ≤ 128 ^ 9 := Nat.pow_le_pow_right (by decide) (by omega)
    omega
  have e1 : IntKind.u64.wrap (((x % 128 : Nat) : Int)) = ((x % 128 : Nat) : Int) := wraps_u64 _ (by omega) (by omega)
  have e2 : (((x % 128 : Nat) : Int) * 2 ^ (7 * k)) = ((x % 128 * 128 ^ k : Nat) : Int) := by
    rw [show (128 : Nat) ^ k = 2 ^ (7 * k) by rw [Nat.pow_mul]]
    push_cast; rfl
  rw [andNot_u8 x hx, e1, e2, wraps_u64 _ (by omega) (by omega), or_u64 _ _ ha2 hlt, or_apart128 a _ k ha]

/-- What is to be read from here. -/
def VInv (R : Nat × CS) (s : CS) (k acc : Nat) : Prop :=
  if s.bad then k = 0 ∧ R = (0, CS.fail) else R = got (vgetL s.l k acc)
theorem VInv.start (s : CS) : VInv s.vget s 0 0 := by
  unfold VInv CS.vget
  split <;> simp_all

theorem CS.then1 (s : CS) : (s.then 1).bad = true ∧ s.then 1 = CS.fail ∧ (s.bad = true ∨ s.l = []) ∨ ∃ y r, s = ⟨y :: r, false⟩ ∧ s.num 1 = y.toNat ∧ s.then 1 = ⟨r, false⟩ := by
  obtain ⟨l, b⟩ := s
  cases b
  · cases l with
    | nil => exact .inl ⟨rfl, rfl, .inr rfl⟩
    | cons y r =>
      have ho : ¬ CS.off ⟨y :: r, false⟩ 1 := by simp [CS.off]; omega
      exact .inr ⟨y, r, rfl, by rw [CS.num, CS.took_on ho]; simp [lenum], by rw [CS.then_on ho]; simp⟩
  · exact .inl ⟨by simp [CS.then, CS.off, CS.fail], by simp [CS.then, CS.off], .inl rfl⟩
theorem VInv.ends {R : Nat × CS} {s : CS} {k acc : Nat} (h : VInv R s k acc) (hs : s.bad = true ∨ s.l = []) : R = (0, CS.fail) := by
  unfold VInv at h
  split at h
  · exact h.2
  · rename_i hb
    rcases hs with hs | hs
    · exact absurd hs hb
    · rw [hs] at h; simpa [vgetL, got] using h
theorem VInv.wrong {R : Nat × CS} {y : UInt8} {r : List UInt8} {k acc : Nat} (h : VInv R ⟨y :: r, false⟩ k acc) (hs : (0 < k ∧ y.toNat = 0) ∨ (k = 9 ∧ 1 < y.toNat)) : R = (0, CS.fail) := by
  unfold VInv at h
  simpa [vgetL, if_pos hs, got] using h
theorem VInv.done {R : Nat × CS} {y : UInt8} {r : List UInt8} {k acc : Nat} (h : VInv R ⟨y :: r, false⟩ k acc) (hs : ¬ ((0 < k ∧ y.toNat = 0) ∨ (k = 9 ∧ 1 < y.toNat))) (hy : y.toNat < 128) : R = (acc + y.toNat * 128 ^ k, ⟨r, false⟩) := by
  unfold VInv at h
  simpa [vgetL, if_neg hs, hy, got] using h
theorem VInv.on {R : Nat × CS} {y : UInt8} {r : List UInt8} {k acc : Nat} (h : VInv R ⟨y :: r, false⟩ k acc) (hs : ¬ ((0 < k ∧ y.toNat = 0) ∨ (k = 9 ∧ 1 < y.toNat))) (hy : ¬ y.toNat < 128) : VInv R ⟨r, false⟩ (k + 1) (acc + y.toNat % 128 * 128 ^ k) := by
  unfold VInv at h ⊢
  simpa [vgetL, if_neg hs, hy] using h

set_option maxHeartbeats 4000000 in
set_option maxRecDepth 20000 in
theorem vget_ok (w : World) (p : Nat) (s0 : CS) (hc0 : Cur w p s0) :
    Calls Tryd.prog 44 #[.pointer (some ⟨p, 0, none⟩)] w fun e w' => e = .returned (.int .u64 (s0.vget.1 : Nat)) ∧ Cur w' p s0.vget.2 ∧ Chg [p] w w' := by
  generalize hR : s0.vget = R
  have hI0 := VInv.start s0
  rw [hR] at hI0
  go_enter Tryd.func44, Tryd.ntmps44
  go_wp2
  refine wp_scope_two 0 1 (fun a' w' => ∃ (k acc : Nat) (s : CS) (u5 u6 u7 u8 u9 u10 u11 u12 u13 u14 u15 u16 u17 u18 u19 u20 u21 u22 u23 u24 u25 u26 u27 u28 u29 u30 u31 u32 u33 u34 u35 u36 u37 u38 : Value), k ≤ 9 ∧ acc < 128 ^ k ∧ VInv R s k acc ∧ a' = { tmps := #[.pointer (some ⟨p, 0, none⟩), undef, .int .u64 0, .int .u64 acc, .int .i64 k, u5, u6, u7, u8, u9, u10, u11, u12, u13, u14, u15, u16, u17, u18, u19, u20, u21, u22, u23, u24, u25, u26, u27, u28, u29, u30, u31, u32, u33, u34, u35, u36, u37, u38], defers := [] } ∧ Cur w' p s ∧ Chg [p] w w')
    (fun a' w' => ∃ (s : CS) (u3 u4 u5 u6 u7 u8 u9 u10 u11 u12 u13 u14 u15 u16 u17 u18 u19 u20 u21 u22 u23 u24 u25 u26 u27 u28 u29 u30 u31 u32 u33 u34 u35 u36 u37 u38 : Value), R = (0, CS.fail) ∧ a' = { tmps := #[.pointer (some ⟨p, 0, none⟩), undef, .int .u64 0, u3, u4, u5, u6, u7, u8, u9, u10, u11, u12, u13, u14, u15, u16, u17, u18, u19, u20, u21, u22, u23, u24, u25, u26, u27, u28, u29, u30, u31, u32, u33, u34, u35, u36, u37, u38], defers := [] } ∧ Cur w' p s ∧ Chg [p] w w')
    (fun a' _ => 10 - (intOf (a'.tmps.getD 4 undef)).toNat) rfl rfl ?first ?pass ?last
  case first =>
    intro hp
    go_wp2
    go_step3
    rename_i hK
    apply hK
    refine hp _ _ ?_
    exact ⟨0, 0, s0, _, _, _, _, _, _, _, _, _, _, _, _, _, _, _, _, _, _, _, _, _, _, _, _, _, _, _, _, _, _, _, _, _, _, by decide, by decide, hI0, rfl, hc0, Chg.refl _ _⟩
  case pass =>
    rintro a1 w1 ⟨k, acc, s, u5, u6, u7, u8, u9, u10, u11, u12, u13, u14, u15, u16, u17, u18, u19, u20, u21, u22, u23, u24, u25, u26, u27, u28, u29, u30, u31, u32, u33, u34, u35, u36, u37, u38, hk, ha, hI, rfl, hc, hg⟩
    go_wp2_with fail
    refine (byte_ok w1 p s hc).mono ?_
    rintro e w2 ⟨rfl, hc2, hg2⟩
    have hg' := hg.t1 hg2
    go_wp2_with fail
    refine (bad_ok w2 p _ hc2).mono ?_
    rintro e w2' ⟨rfl, rfl⟩
    rcases s.then1 with ⟨hb, hf, hs⟩ | ⟨y, r, rfl, hy, ht⟩
    · have hR0 := hI.ends hs
      subst hR0
      rw [hf] at hc2
      clear hI hc hg hg2
      go_wp2
      dsimp only [jump2]
      go_ret
      exact ⟨rfl, hc2, hg'⟩
    · have hyl := y.toNat_lt
      rw [ht] at hc2 ⊢
      rw [hy]
      have hst := step128 acc y.toNat k hyl hk ha
      by_cases hz : (0 < k ∧ y.toNat = 0) ∨ (k = 9 ∧ 1 < y.toNat)
      · have hR0 := hI.wrong hz
        subst hR0
        clear hI hc hg hg2 hst
        go_wp2
        all_goals (go_step3; exact .inr ⟨rfl, ⟨r, false⟩, _, _, _, _, _, _, _, _, _, _, _, _, _, _, _, _, _, _, _, _, _, _, _, _, _, _, _, _, _, _, _, _, _, _, _, _, rfl, rfl, hc2, hg'⟩)
      · by_cases h9 : k = 9
        · subst h9
          have hst' : bits .or .u64 (acc : Int) (IntKind.u64.wrap (IntKind.u64.wrap (bits .andNot .u8 (y.toNat : Int) 128) * 9223372036854775808)) = ((acc + y.toNat % 128 * 128 ^ 9 : Nat) : Int) := by
            rw [show (9223372036854775808 : Int) = 2 ^ (7 * 9) by decide]
            exact hst (fun _ => by omega)
          replace hst' := Lib.hid hst'
          have hR0 := hI.done hz (by omega)
          have hy1 : y.toNat ≤ 1 := by omega
          subst hR0
          clear hst hI hc hg hg2
          go_wp2
          all_goals first
            | (exfalso; simp at *; omega)
            | (dsimp only [jump2]
               go_ret
               refine ⟨congrArg Ending.returned (congrArg (Value.int IntKind.u64) ?_), hc2, hg'⟩
               rw [hst'.out, Nat.mod_eq_of_lt (by omega)])
        · replace hst := hst (fun h => absurd h h9)
          replace hst := Lib.hid hst
          replace h9 : k < 9 := by omega
          have hz1 : 0 < k → ¬ y.toNat = 0 := by omega
          by_cases hlt : y.toNat < 128
          · have hR0 := hI.done hz hlt
            subst hR0
            clear hI hc hg hg2
            go_wp2
            all_goals first
              | (exfalso; simp at *; omega)
              | (dsimp only [jump2]
                 go_ret
                 refine ⟨congrArg Ending.returned (congrArg (Value.int IntKind.u64) ?_), hc2, hg'⟩
                 rw [hst.out, Nat.mod_eq_of_lt (by omega)])
          · have hI2 := hI.on hz hlt
            have hlt2 : acc + y.toNat % 128 * 128 ^ k < 128 ^ (k + 1) := by
              have h1 : (y.toNat % 128 + 1) * 128 ^ k ≤ 128 * 128 ^ k := Nat.mul_le_mul_right _ (by omega)
              rw [Nat.add_mul] at h1
              rw [Nat.pow_succ]
              omega
            replace hlt2 := Lib.hid hlt2
            clear hI hc hg hg2
            go_wp2
            all_goals first
              | (exfalso; simp at *; omega)
              | (go_step3
                 rw [hst.out, show ((k : Int) + 1) = ((k + 1 : Nat) : Int) by omega]
                 exact .inl ⟨rfl, ⟨k + 1, _, ⟨r, false⟩, _, _, _, _, _, _, _, _, _, _, _, _, _, _, _, _, _, _, _, _, _, _, _, _, _, _, _, _, _, _, _, _, _, _, by omega, hlt2.out, hI2, rfl, hc2, hg'⟩, by simp only [intOf, Array.getD]; simp; omega⟩)
  case last =>
    rintro a1 w1 ⟨s, u3, u4, u5, u6, u7, u8, u9, u10, u11, u12, u13, u14, u15, u16, u17, u18, u19, u20, u21, u22, u23, u24, u25, u26, u27, u28, u29, u30, u31, u32, u33, u34, u35, u36, u37, u38, hR0, rfl, hc, hg⟩
    subst hR0
    go_wp2_with fail
    refine (fail_ok w1 p s hc).mono ?_
    rintro e w2 ⟨rfl, hc2, hg2⟩
    go_wp2
    dsimp only [Exit.noGoto]
    go_ret
    exact ⟨rfl, hc2, hg.t1 hg2⟩
end Go.Proofs.YtdclbhmmpdngpaaDoor
