/-
  Package sha: the turns of a word.
-/
import Derived.Test.YtgepfmofignmfaaProg
import Derived.Test.YtgepfmofignmfaaWord
namespace Go.Proofs.Ytgepfmofignmfaa
set_option linter.unusedSimpArgs false
set_option linter.unusedVariables false
open Go.RowKit

theorem rot_count (n : Nat) (h0 : 0 < n) (h : n < 32) : bits .and .u64 (IntKind.u64.wrap (-(n : Int))) 31 = ((32 - n : Nat) : Int) := by
  have h1 : ∀ n : Fin 32, 0 < n.val → bits .and .u64 (IntKind.u64.wrap (-(n.val : Int))) 31 = ((32 - n.val : Nat) : Int) := by decide +kernel
  exact h1 ⟨n, h⟩ h0

theorem rot_ok (w : World) (x : W32) (n : Nat) (h0 : 0 < n) (h : n < 32) :
    Calls Try.prog 70 #[wv x, .int .i64 (-(n : Int))] w fun e w' => e = .returned (wv (rr x n)) ∧ w = w' := by
  have hx := iw_lt x
  have hs := rot_count n h0 h
  unfold wv
  go_enter Try.func70, Try.ntmps70
  go_wp2
  go_ret
  have e : 32 - (32 - n) = n := by omega
  refine ⟨?_, rfl⟩
  show Ending.returned (Value.int .u32 (bits .or .u32 (iw x * 2 ^ (32 - n) % 4294967296) (iw x / 2 ^ (32 - (32 - n))))) = _
  rw [e, iw_shl, iw_shr, iw_or, or_comm32]; rfl

theorem rot_q (w : World) (x : W32) (n : Nat) (h0 : 0 < n) (h : n < 32) (m : Int) (hm : m = -(n : Int)) :
    Calls Try.prog 70 #[.int .u32 (iw x), .int .i64 m] w fun e w' => e = .returned (.int .u32 (iw (rr x n))) ∧ w' = w := by
  subst hm
  exact (rot_ok w x n h0 h).mono fun _ _ ⟨h1, h2⟩ => ⟨h1, h2.symm⟩

/-- A word turned in three ways. -/
def turned3 (x : W32) (a b c : Nat) : W32 := rr x a ^^^ rr x b ^^^ rr x c
theorem turned_ok (w : World) (x : W32) (a b c : Nat) (ha : 0 < a) (ha' : a < 32) (hb : 0 < b) (hb' : b < 32) (hc : 0 < c) (hc' : c < 32) :
    Calls Try.prog 64 #[.int .u32 (iw x), .int .i64 a, .int .i64 b, .int .i64 c] w fun e w' => e = .returned (.int .u32 (iw (turned3 x a b c))) ∧ w = w' := by
  go_enter Try.func64, Try.ntmps64
  go_wp2_with fail
  refine (rot_q w x a ha ha' _ rfl).mono ?_
  rintro e w' ⟨rfl, rfl⟩
  go_wp2_with fail
  refine (rot_q w' x b hb hb' _ rfl).mono ?_
  rintro e w1 ⟨rfl, rfl⟩
  have e1 := iw_xor (rr x a) (rr x b)
  go_wp2_with fail
  refine (rot_q w1 x c hc hc' _ rfl).mono ?_
  rintro e w2 ⟨rfl, rfl⟩
  have e2 := iw_xor (rr x a ^^^ rr x b) (rr x c)
  go_wp2
  go_ret
  exact ⟨rfl, rfl⟩

/-- A word turned in two ways, and shifted. -/
def mixed3 (x : W32) (a b c : Nat) : W32 := rr x a ^^^ rr x b ^^^ (x >>> c)
theorem mixed_ok (w : World) (x : W32) (a b c : Nat) (ha : 0 < a) (ha' : a < 32) (hb : 0 < b) (hb' : b < 32) (hc' : c < 32) :
    Calls Try.prog 71 #[.int .u32 (iw x), .int .i64 a, .int .i64 b, .int .i64 c] w fun e w' => e = .returned (.int .u32 (iw (mixed3 x a b c))) ∧ ∃ m, w' = w.drewN m := by
  have e1 := iw_xor (rr x a) (rr x b)
  have e2 := iw_xor (rr x a ^^^ rr x b) (x >>> c)
  have e3 := iw_shr x c
  have hx := iw_lt x
  have wa : IntKind.i64.wrap (-(a : Int)) = -(a : Int) := IntWalk.i64_in _ (by omega)
  have wb : IntKind.i64.wrap (-(b : Int)) = -(b : Int) := IntWalk.i64_in _ (by omega)
  go_enter Try.func71, Try.ntmps71
  go_wp2_with fail
  go_quiet ((first | (go_at_call 70; exact Calls.quiet_of_same (rot_q _ x a ha ha' _ rfl)) | (go_at_call 70; exact Calls.quiet_of_same (rot_q _ x b hb hb' _ rfl))))
  go_wp2
  go_ret
  exact ⟨rfl, _, rfl⟩

end Go.Proofs.Ytgepfmofignmfaa
