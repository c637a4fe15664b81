/-
  Package sha: a schedule's next word.
-/
import Derived.Test.YtgepfmofignmfaaProg
import Derived.Test.YtgepfmofignmfaaSha2
import Derived.Test.YtgepfmofignmfaaQuietTail
namespace Go.Proofs.Ytgepfmofignmfaa
set_option linter.unusedSimpArgs false
set_option linter.unusedVariables false
open Go.RowKit

/-- The ring of words behind the t-th, and the t-th. -/
def nextL (l : List W32) (t : Nat) : List W32 :=
  if 16 ≤ t then l.set (t % 16) (l.getD (t % 16) 0#32 + (mixed3 (l.getD ((t + 1) % 16) 0#32) 7 18 3 + l.getD ((t + 9) % 16) 0#32 + mixed3 (l.getD ((t + 14) % 16) 0#32) 17 19 10)) else l
def nextW (l : List W32) (t : Nat) : W32 := (nextL l t).getD (t % 16) 0#32
theorem nextL_length (l : List W32) (t : Nat) : (nextL l t).length = l.length := by unfold nextL; split <;> simp

theorem mixed_q7 (w : World) (n : Nat) (x : W32) :
    Calls Try.prog 71 #[.int .u32 (iw x), .int .i64 7, .int .i64 18, .int .i64 3] (w.drewN n) fun e w'' => e = .returned (.int .u32 (iw (mixed3 x 7 18 3))) ∧ ∃ m, w'' = w.drewN m :=
  Calls.quiet_of (mixed_ok _ x 7 18 3 (by omega) (by omega) (by omega) (by omega) (by omega))
theorem mixed_q17 (w : World) (n : Nat) (x : W32) :
    Calls Try.prog 71 #[.int .u32 (iw x), .int .i64 17, .int .i64 19, .int .i64 10] (w.drewN n) fun e w'' => e = .returned (.int .u32 (iw (mixed3 x 17 19 10))) ∧ ∃ m, w'' = w.drewN m :=
  Calls.quiet_of (mixed_ok _ x 17 19 10 (by omega) (by omega) (by omega) (by omega) (by omega))

theorem next_ok (w : World) (p : Nat) (l : List W32) (hw : Wat w p l) (hl : l.length = 16) (t : Nat) (ht : t < 64) :
    Calls Try.prog 66 #[.pointer (some ⟨p, 0, none⟩), .int .i64 (t : Int)] w fun e w' => e = .returned (.int .u32 (iw (nextW l t))) ∧ Wat w' p (nextL l t) ∧ Chg [p] w w' := by
  have m0 : ∀ x : Nat, ((x : Int)).tmod 16 = ((x % 16 : Nat) : Int) := fun x => by rw [Int.tmod_eq_emod_of_nonneg (by omega)]; omega
  obtain ⟨i0, e0, g0, b0⟩ : ∃ i : Nat, i = t % 16 ∧ (t : Int).tmod 16 = (i : Int) ∧ i < 16 := ⟨_, rfl, m0 _, by omega⟩
  have q0 : (i0 : Int) < 16 := by omega
  by_cases h : 16 ≤ t
  · obtain ⟨i1, e1, g1, b1⟩ : ∃ i : Nat, i = (t + 1) % 16 ∧ ((t : Int) + 1).tmod 16 = (i : Int) ∧ i < 16 := ⟨_, rfl, m0 (t + 1), by omega⟩
    obtain ⟨i9, e9, g9, b9⟩ : ∃ i : Nat, i = (t + 9) % 16 ∧ ((t : Int) + 9).tmod 16 = (i : Int) ∧ i < 16 := ⟨_, rfl, m0 (t + 9), by omega⟩
    obtain ⟨i14, e14, g14, b14⟩ : ∃ i : Nat, i = (t + 14) % 16 ∧ ((t : Int) + 14).tmod 16 = (i : Int) ∧ i < 16 := ⟨_, rfl, m0 (t + 14), by omega⟩
    have q1 : (i1 : Int) < 16 := by omega
    have q9 : (i9 : Int) < 16 := by omega
    have q14 : (i14 : Int) < 16 := by omega
    have hL : Hid (nextL l t = l.set i0 (l.getD i0 0#32 + (mixed3 (l.getD i1 0#32) 7 18 3 + l.getD i9 0#32 + mixed3 (l.getD i14 0#32) 17 19 10))) := by unfold Hid nextL; rw [if_pos h, ← e0, ← e1, ← e9, ← e14]
    have hW : Hid (nextW l t = l.getD i0 0#32 + (mixed3 (l.getD i1 0#32) 7 18 3 + l.getD i9 0#32 + mixed3 (l.getD i14 0#32) 17 19 10)) := by unfold Hid nextW; rw [hL.out, ← e0]; simp [List.getD, hl, b0]
    clear e0 e1 e9 e14 m0
    have c0 := hw.cell i0 (by omega)
    have c1 := hw.cell i1 (by omega)
    have c9 := hw.cell i9 (by omega)
    have c14 := hw.cell i14 (by omega)
    have f0 := hw.frozen i0
    generalize l.getD i0 0#32 = x0 at *
    generalize l.getD i1 0#32 = x1 at *
    generalize l.getD i9 0#32 = x9 at *
    generalize l.getD i14 0#32 = x14 at *
    have a1 := iw_addw (mixed3 x1 7 18 3) x9
    have a2 := iw_addw (mixed3 x1 7 18 3 + x9) (mixed3 x14 17 19 10)
    have a3 := iw_addw x0 (mixed3 x1 7 18 3 + x9 + mixed3 x14 17 19 10)
    have w1 : IntKind.i64.wrap ((t : Int) + 1) = (t : Int) + 1 := IntWalk.i64_in _ (by omega)
    have w9 : IntKind.i64.wrap ((t : Int) + 9) = (t : Int) + 9 := IntWalk.i64_in _ (by omega)
    have w14 : IntKind.i64.wrap ((t : Int) + 14) = (t : Int) + 14 := IntWalk.i64_in _ (by omega)
    have hW' : ∀ v, Wat (w.setCell ⟨p, i0, none⟩ (.int .u32 (iw v))) p (l.set i0 v) := fun v => hw.set i0 v
    have c0' : ∀ (m : Nat) v, ((w.drewN m).setCell ⟨p, i0, none⟩ (.int .u32 (iw v))).cell? ⟨p, i0, none⟩ = some (.int .u32 (iw v)) := by
      intro m v
      rw [((hw.drewN m).set i0 v).cell i0 (by simp [hl, b0])]
      simp [List.getD, hl, b0]
    go_enter Try.func66, Try.ntmps66
    go_wp2_with fail
    refine region_quiet_tail 34 (by kernel_rfl) (by kernel_rfl) ?_
    simp only [List.take_succ_cons, List.take_zero, List.drop_succ_cons, List.drop_zero]
    repeat (quiet_step (first | (go_at_call 71; with_reducible exact mixed_q7 _ _ _) | (go_at_call 71; with_reducible exact mixed_q17 _ _ _)))
    refine wpQuiet_nil ?_
    intro m
    have hWm := (hw.drewN m).set i0 (x0 + (mixed3 x1 7 18 3 + x9 + mixed3 x14 17 19 10))
    have cm := c0' m (x0 + (mixed3 x1 7 18 3 + x9 + mixed3 x14 17 19 10))
    go_wp2_with fail
    go_ret
    refine ⟨by rw [hW.out]; rfl, by rw [hL.out]; exact hWm, (Chg.drewN _ w m).t1 (Chg.setCellS _ _ _ (by simp))⟩
  · have hL : nextL l t = l := by unfold nextL; rw [if_neg h]
    have hW : nextW l t = l.getD i0 0#32 := by unfold nextW; rw [hL, e0]
    rw [hW, hL]
    have hn : ¬ (16 : Int) ≤ (t : Int) := by omega
    clear e0 m0 hW hL
    have c0 := hw.cell i0 (by omega)
    generalize l.getD i0 0#32 = x0 at *
    go_enter Try.func66, Try.ntmps66
    go_wp2_with fail
    go_ret
    exact ⟨rfl, hw, Chg.refl _ _⟩

end Go.Proofs.Ytgepfmofignmfaa
