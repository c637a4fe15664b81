/-
  VarintZigs and VarintOrder: the walks.
-/
import Derived.Test.YtllidfhdklfkmaaLaw04Small
import Derived.Test.YtllidfhdklfkmaaOpen
namespace Go.Proofs.Ytllidfhdklfkmaa
open Go.RowKit

set_option maxHeartbeats 4000000 in
set_option maxRecDepth 20000 in
theorem varintZigs_run (W : World) (n u0 : Int) (hn0 : (Lit.int .i64 n).wf = true) (hu0 : (Lit.int .u64 u0).wf = true) :
    Calls Try.prog 5 #[.int .i64 n, .int .u64 u0] W fun e w' => e = .returned (.bool true) ∧ Chg [] W w' := by
  obtain ⟨u, rfl, hu⟩ := u64_wf hu0
  obtain ⟨n0, n1⟩ := i64_wf hn0
  clear hn0 hu0
  have kz := fun w => zag_ok w (zig n) (zig_lt n n0 n1)
  rw [zag_zig n n0 n1] at kz
  have ku := fun w => zig_ok w (zag u) (zag_ge u hu).1 (zag_ge u hu).2
  rw [zig_zag u] at ku
  have he := zig_even n
  go_enter Try.func5, Try.ntmps5
  go_wp2_with fail
  refine (small04_ok W).mono ?_
  rintro e w1 ⟨rfl, g1⟩
  go_wp2_with fail
  refine (zig_ok w1 n n0 n1).mono ?_
  rintro e w1' ⟨rfl, rfl⟩
  go_wp2_with fail
  refine (kz w1).mono ?_
  rintro e w1' ⟨rfl, rfl⟩
  go_wp2_with fail
  refine (zag_ok w1 u hu).mono ?_
  rintro e w1' ⟨rfl, rfl⟩
  go_wp2_with fail
  refine (ku w1).mono ?_
  rintro e w1' ⟨rfl, rfl⟩
  clear kz ku
  generalize zig n = z at *
  by_cases hn : 0 ≤ n
  · have h2 : (z : Int) % 2 = 0 := by have := he.2 hn; omega
    clear he
    go_wp2
    all_goals go_ret
    all_goals refine ⟨congrArg Ending.returned (congrArg Value.bool ?_), g1⟩
    all_goals first
      | rfl
      | (simp; omega)
      | simp [h3]
  · have h2 : (z : Int) % 2 = 1 := by have := mt he.1 hn; omega
    have h3 : n < 0 := by omega
    clear he hn
    go_wp2
    all_goals go_ret
    all_goals refine ⟨congrArg Ending.returned (congrArg Value.bool ?_), g1⟩
    all_goals first
      | rfl
      | (simp; omega)
      | simp [h3]

theorem vsize_lt (n : Nat) : n < 128 ^ vsize n := by
  by_cases h : n < 128 ^ vsize n
  · exact h
  · have := vsize_gt (vsize n) n (by omega); omega
theorem vsize_ge (n : Nat) (h : 1 < vsize n) : 128 ^ (vsize n - 1) ≤ n := by
  by_cases h2 : 128 ^ (vsize n - 1) ≤ n
  · exact h2
  · obtain ⟨k, hk⟩ : ∃ k, vsize n = k + 2 := ⟨vsize n - 2, by omega⟩
    have := vsize_le k n (by rw [hk] at h2; simpa using h2)
    omega
theorem vsize_mono {n m : Nat} (h : n ≤ m) : vsize n ≤ vsize m := by
  by_cases h1 : 1 < vsize n
  · have h2 := vsize_ge n h1
    have := vsize_gt (vsize n - 1) m (by omega)
    omega
  · have := vsize_pos m; omega
theorem pow128 (k : Nat) : (2 : Int) ^ (7 * k) = ((128 ^ k : Nat) : Int) := by
  rw [Int.pow_mul]; rw [Int.natCast_pow]; rfl

set_option maxHeartbeats 4000000 in
set_option maxRecDepth 20000 in
theorem varintOrder_run (W : World) (n0 m0 : Int) (hn0 : (Lit.int .u64 n0).wf = true) (hm0 : (Lit.int .u64 m0).wf = true) :
    Calls Try.prog 6 #[.int .u64 n0, .int .u64 m0] W fun e w' => e = .returned (.bool true) ∧ Chg [] W w' := by
  obtain ⟨n, rfl, hn⟩ := u64_wf hn0
  obtain ⟨m, rfl, hm⟩ := u64_wf hm0
  clear hn0 hm0
  go_enter Try.func6, Try.ntmps6
  go_wp2_with fail
  refine (small04_ok W).mono ?_
  rintro e w1 ⟨rfl, g1⟩
  go_wp2_with fail
  refine (vsize_ok w1 n hn).mono ?_
  rintro e w1' ⟨rfl, rfl⟩
  go_wp2_with fail
  refine (vsize_ok w1 m hm).mono ?_
  rintro e w1' ⟨rfl, rfl⟩
  have a1 := vsize_pos n
  have a2 := vsize_ten hn
  have a3 := vsize_lt n
  have a4 := vsize_ge n
  have a5 : n ≤ m → vsize n ≤ vsize m := vsize_mono
  have b2 := vsize_ten hm
  generalize vsize n = p at *
  generalize vsize m = q at *
  have key : (n ≤ m ∧ p ≤ q) ∨ m < n := by omega
  clear a5
  by_cases h10 : p = 10
  · subst h10
    have hB : (9223372036854775808 : Int) ≤ n := by have := a4 (by decide); omega
    clear a3 a4
    rcases key with ⟨k1, k2⟩ | k1
    all_goals go_wp2
    all_goals go_ret
    all_goals refine ⟨congrArg Ending.returned (congrArg Value.bool ?_), g1⟩
    all_goals first
      | rfl
      | (simp; omega)
      | simp [h3]
  have h64 : (128 : Nat) ^ p < 2 ^ 64 := by
    have h3 : 128 ^ p ≤ 128 ^ 9 := Nat.pow_le_pow_right (by decide) (by omega)
    omega
  have hA : (n : Int) < IntKind.u64.wrap (2 ^ (7 * p)) := by
    rw [pow128, wraps_u64 _ (by omega) (by omega)]
    omega
  by_cases h1 : p = 1
  · subst h1
    have hA1 : (n : Int) < 128 := by omega
    clear hA a3 a4
    rcases key with ⟨k1, k2⟩ | k1
    all_goals go_wp2
    all_goals go_ret
    all_goals refine ⟨congrArg Ending.returned (congrArg Value.bool ?_), g1⟩
    all_goals first
      | rfl
      | (simp; omega)
      | simp [h3]
  have hB : IntKind.u64.wrap (2 ^ (7 * (p - 1))) ≤ (n : Int) := by
    have := a4 (by omega)
    have h3 : 128 ^ (p - 1) ≤ 128 ^ 9 := Nat.pow_le_pow_right (by decide) (by omega)
    have h4 := Int.natCast_nonneg (128 ^ (p - 1))
    rw [pow128, wraps_u64 _ (by omega) (by omega)]
    omega
  have e1 : (1 : Int) ≤ p := by omega
  have e2 : (p : Int) ≤ 10 := by omega
  clear a3 a4 h64
  rcases key with ⟨k1, k2⟩ | k1
  all_goals go_wp2
  all_goals first
    | (go_ret; exact ⟨rfl, g1⟩)
    | (exfalso; omega)
    | (go_ret; refine ⟨congrArg Ending.returned (congrArg Value.bool ?_), g1⟩; simp; omega)
    | trace_state
end Go.Proofs.Ytllidfhdklfkmaa
