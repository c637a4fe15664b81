/-
  The contracts of tree.Split, tree.Depth and of the document's own.
-/
import Derived.Test.YtgepfmofignmfaaTreePure
import Derived.Test.YtgepfmofignmfaaLen64
namespace Go.Proofs.Ytgepfmofignmfaa
set_option linter.unusedSimpArgs false
set_option linter.unusedVariables false
open Go.RowKit

set_option maxHeartbeats 4000000 in
theorem len_ok (w : World) (x : Nat) (h0 : x ≠ 0) (hx : x < 2 ^ 64) :
    Calls Try.prog 41 #[.int .u64 x] w fun e w' => e = .returned (.int .i64 ((Nat.log2 x + 1 : Nat) : Int)) ∧ w' = w := by
  rw [← bitLen_log2 h0 hx]
  go_enter Try.func41, Try.ntmps41
  go_wp2_with fail
  refine (len64_ok w x hx).mono ?_
  rintro e w2 ⟨rfl, rfl⟩
  go_wp2
  go_ret
  exact ⟨rfl, rfl⟩
theorem log2_63 {x : Nat} (hx : x < 2 ^ 63) : Nat.log2 x ≤ 62 := by
  by_cases h : x = 0
  · subst h; decide
  · have := (Nat.log2_lt h).2 hx
    omega
theorem shl_pow {x : Nat} (hx : x < 2 ^ 63) : 2 ^ Nat.log2 x ≤ 4611686018427387904 := by
  have := Nat.pow_le_pow_right (show 0 < 2 by decide) (log2_63 hx)
  simpa using this
set_option maxRecDepth 100000 in
set_option maxHeartbeats 4000000 in
theorem split_ok (w : World) (n : Int) (hn : I64 n) :
    Calls Try.prog 23 #[.int .i64 n] w fun e w' => e = .returned (.int .i64 (splitV n.toNat)) ∧ w' = w := by
  obtain ⟨n1, n2⟩ := hn
  by_cases h : n < 2
  · have e : splitV n.toNat = 0 := by unfold splitV; rw [if_pos (by omega)]
    rw [e]
    go_enter Try.func23, Try.ntmps23
    go_wp2
    go_ret
    exact ⟨rfl, rfl⟩
  · obtain ⟨m, rfl⟩ : ∃ m : Nat, n = ((m + 1 : Nat) : Int) := ⟨(n - 1).toNat, by omega⟩
    have hm : m < 2 ^ 63 := by omega
    have e : splitV ((m + 1 : Nat) : Int).toNat = 2 ^ Nat.log2 m := by unfold splitV; rw [if_neg (by omega)]; simp
    rw [e]
    have hl := log2_63 hm
    have hp := shl_pow hm
    have hm0 : m ≠ 0 := by omega
    have hm1 : m < 2 ^ 64 := by omega
    have hm2 : (m : Int) ≤ 9223372036854775806 := by omega
    have hm3 : (1 : Int) ≤ m := by omega
    clear hm n1 n2 h e
    have kL := fun w => len_ok w m hm0 hm1
    clear hm0 hm1
    generalize hL : Nat.log2 m = L at *
    clear hL
    have hpc : ((2 : Int) ^ L) = ((2 ^ L : Nat) : Int) := by push_cast; rfl
    generalize 2 ^ L = T at *
    rw [show (((m + 1 : Nat) : Int)) = (m : Int) + 1 by omega]
    go_enter Try.func23, Try.ntmps23
    go_wp2_with fail
    refine (kL w).mono ?_
    rintro e w2 ⟨rfl, rfl⟩
    go_wp2
    go_ret
    exact ⟨rfl, rfl⟩
set_option maxRecDepth 100000 in
set_option maxHeartbeats 4000000 in
theorem depth_ok (w : World) (n : Int) (hn : I64 n) :
    Calls Try.prog 25 #[.int .i64 n] w fun e w' => e = .returned (.int .i64 (depthV n.toNat)) ∧ w' = w := by
  obtain ⟨n1, n2⟩ := hn
  by_cases h : n < 2
  · have e : depthV n.toNat = 0 := by unfold depthV; rw [if_pos (by omega)]
    rw [e]
    go_enter Try.func25, Try.ntmps25
    go_wp2
    go_ret
    exact ⟨rfl, rfl⟩
  · obtain ⟨m, rfl⟩ : ∃ m : Nat, n = ((m + 1 : Nat) : Int) := ⟨(n - 1).toNat, by omega⟩
    have e : depthV ((m + 1 : Nat) : Int).toNat = Nat.log2 m + 1 := by unfold depthV; rw [if_neg (by omega)]; simp
    rw [e]
    have hm0 : m ≠ 0 := by omega
    have hm1 : m < 2 ^ 64 := by omega
    have hm2 : (m : Int) ≤ 9223372036854775806 := by omega
    have hm3 : (1 : Int) ≤ m := by omega
    clear n1 n2 h e
    have kL := fun w => len_ok w m hm0 hm1
    clear hm0 hm1
    generalize hL : Nat.log2 m = L at *
    clear hL
    rw [show (((m + 1 : Nat) : Int)) = (m : Int) + 1 by omega]
    go_enter Try.func25, Try.ntmps25
    go_wp2_with fail
    refine (kL w).mono ?_
    rintro e w2 ⟨rfl, rfl⟩
    go_wp2
    go_ret
    exact ⟨rfl, rfl⟩
set_option maxRecDepth 100000 in
set_option maxHeartbeats 4000000 in
theorem rsplit_ok (w : World) (n : Int) (hn : I64 n) :
    Calls Try.prog 24 #[.int .i64 n] w fun e w' => e = .returned (.int .i64 (splitV n.toNat)) ∧ w' = w := by
  obtain ⟨n1, n2⟩ := hn
  by_cases h : n < 2
  · have e : splitV n.toNat = 0 := by unfold splitV; rw [if_pos (by omega)]
    rw [e]
    go_enter Try.func24, Try.ntmps24
    go_wp2
    go_ret
    exact ⟨rfl, rfl⟩
  · obtain ⟨m, rfl⟩ : ∃ m : Nat, n = ((m + 1 : Nat) : Int) := ⟨(n - 1).toNat, by omega⟩
    have e : splitV ((m + 1 : Nat) : Int).toNat = 2 ^ Nat.log2 m := by unfold splitV; rw [if_neg (by omega)]; simp
    rw [e]
    have hm2 : (m : Int) ≤ 9223372036854775806 := by omega
    have hm3 : (1 : Int) ≤ m := by omega
    have a1 := Nat.log2_self_le (n := m) (by omega)
    have a2 := Nat.lt_log2_self (n := m)
    clear n1 n2 h e
    generalize hL : Nat.log2 m = L at *
    clear hL
    have up : ∀ j, j < L → 2 * 2 ^ j ≤ m := fun j hj => by
      have := Nat.pow_le_pow_right (show 0 < 2 by decide) (show j + 1 ≤ L by omega)
      rw [Nat.pow_succ] at this
      omega
    rw [Nat.pow_succ] at a2
    have sc : ∀ j, 2 ^ (j + 1) = 2 * 2 ^ j := fun j => by rw [Nat.pow_succ]; omega
    have pp : ∀ j, 1 ≤ 2 ^ j := fun j => Nat.pow_pos (by decide)
    obtain ⟨T, hT⟩ : ∃ T : Nat → Nat, T = fun j => 2 ^ j := ⟨_, rfl⟩
    have e0 : T 0 = 1 := by rw [hT]
    have eL : T L = 2 ^ L := by rw [hT]
    replace up : Hid (∀ j, j < L → 2 * T j ≤ m) := Lib.hid (by rw [hT]; exact up)
    replace sc : Hid (∀ j, T (j + 1) = 2 * T j) := Lib.hid (by rw [hT]; exact sc)
    replace pp : Hid (∀ j, 1 ≤ T j) := Lib.hid (by rw [hT]; exact pp)
    rw [← eL] at a1 a2 ⊢
    clear hT eL
    rw [show (((m + 1 : Nat) : Int)) = (m : Int) + 1 by omega]
    replace a1 := Lib.hid a1
    replace a2 := Lib.hid a2
    replace e0 := Lib.hid e0
    go_enter Try.func24, Try.ntmps24
    go_wp2_with fail
    go_loop [3] (fun kv => ∃ (j : Nat), j ≤ L ∧ kv = .int .i64 (T j)) (fun kv => m - (intOf kv).toNat)
    case atStart => exact ⟨0, Nat.zero_le _, by rw [e0.out]; rfl⟩
    case round =>
      obtain ⟨j, hj, rfl⟩ := hrel
      have hp := pp.out j
      by_cases hlt : j < L
      · have h2 := up.out j hlt
        have h3 := sc.out j
        have h4 := pp.out (j + 1)
        replace h3 := Lib.hid h3
        generalize T j = K at *
        go_wp2
        go_round
        case rel => exact ⟨j + 1, by omega, by rw [h3.out]; push_cast; rfl⟩
        case measure => simp [intOf]; omega
      · obtain rfl : j = L := by omega
        have h1 := a1.out
        have h2 := a2.out
        obtain ⟨K, hK⟩ : ∃ K, K = T j := ⟨_, rfl⟩
        rw [← hK] at h1 h2 hp ⊢
        replace hK := Lib.hid hK
        go_wp2
        go_ret
        exact ⟨by rw [← hK.out]; rfl, rfl⟩
set_option maxRecDepth 100000 in
set_option maxHeartbeats 4000000 in
theorem rdepth_ok (w : World) (n : Nat) (hn : (n : Int) ≤ 1099511627776) :
    Calls Try.prog 26 #[.int .i64 n] w fun e w' => e = .returned (.int .i64 (depthV n)) ∧ w' = w := by
  induction n using Nat.strongRecOn generalizing w with
  | ind n ih =>
    by_cases h : n < 2
    · have e : depthV n = 0 := by unfold depthV; rw [if_pos (by omega)]
      rw [e]
      clear ih e
      have h : (n : Int) < 2 := by omega
      go_enter Try.func26, Try.ntmps26
      go_wp2
      go_ret
      exact ⟨rfl, rfl⟩
    · have h2 : 2 ≤ n := by omega
      have e := depthV_split h2
      have k1 := splitV_lt h2
      have kS := fun w => rsplit_ok w n ⟨by omega, by omega⟩
      have kD := fun w => ih (splitV n) k1 w (by omega)
      simp only [Int.toNat_natCast] at kS
      have hd : depthV n ≤ 40 := depthV_lt (by omega)
      rw [e] at hd ⊢
      generalize splitV n = s at *
      generalize depthV s = d at *
      have h3 : (2 : Int) ≤ n := by omega
      clear ih h k1 h2
      go_enter Try.func26, Try.ntmps26
      go_wp2_with fail
      refine (kS _).mono ?_
      rintro e w2 ⟨rfl, rfl⟩
      go_wp2_with fail
      refine (kD _).mono ?_
      rintro e w2 ⟨rfl, rfl⟩
      go_wp2
      go_ret
      exact ⟨by simp, rfl⟩
theorem rdepthI_ok (w : World) (n : Int) (hn : n ≤ 1099511627776) (hi : I64 n) :
    Calls Try.prog 26 #[.int .i64 n] w fun e w' => e = .returned (.int .i64 (depthV n.toNat)) ∧ w' = w := by
  by_cases h : 0 ≤ n
  · have := rdepth_ok w n.toNat (by omega)
    rw [show ((n.toNat : Nat) : Int) = n by omega] at this
    exact this
  · obtain ⟨n1, n2⟩ := hi
    have e : depthV n.toNat = 0 := by unfold depthV; rw [if_pos (by omega)]
    rw [e]
    have h : n < 2 := by omega
    go_enter Try.func26, Try.ntmps26
    go_wp2
    go_ret
    exact ⟨rfl, rfl⟩
end Go.Proofs.Ytgepfmofignmfaa
