/-
  TreeSplits: the walk.
-/
import Derived.Test.YtgepfmofignmfaaTreeSmall
namespace Go.Proofs.Ytgepfmofignmfaa
set_option linter.unusedSimpArgs false
set_option linter.unusedVariables false
open Go.RowKit

set_option maxHeartbeats 8000000 in
set_option maxRecDepth 100000 in
theorem treeSplits_run (w : World) (n : Int) (wf : (Lit.int .i64 n).wf = true) :
    Calls Try.prog 4 #[.int .i64 n] w fun e w' => e = .returned (.bool true) ∧ Chg [] w w' := by
  have hn := i64_wf wf
  clear wf
  by_cases hb : 1099511627776 < n
  · go_enter Try.func4, Try.ntmps4
    go_wp2_with fail
    refine (small21_ok w).mono ?_
    rintro e w1 ⟨rfl, g1⟩
    go_wp2
    go_ret
    exact ⟨rfl, g1⟩
  · have k1 := fun w => split_ok w n hn
    have k2 := fun w => rsplit_ok w n hn
    have k3 := fun w => depth_ok w n hn
    have k4 := fun w => rdepthI_ok w n (by omega) hn
    generalize splitV n.toNat = s at *
    generalize depthV n.toNat = d at *
    go_enter Try.func4, Try.ntmps4
    go_wp2_with fail
    refine (small21_ok w).mono ?_
    rintro e w1 ⟨rfl, g1⟩
    go_wp2_with fail
    refine (k1 _).mono ?_
    rintro e w2 ⟨rfl, rfl⟩
    go_wp2_with fail
    refine (k2 _).mono ?_
    rintro e w2 ⟨rfl, rfl⟩
    go_wp2_with fail
    refine (k3 _).mono ?_
    rintro e w2 ⟨rfl, rfl⟩
    go_wp2_with fail
    refine (k4 _).mono ?_
    rintro e w2 ⟨rfl, rfl⟩
    go_wp2
    go_ret
    exact ⟨by simp, g1⟩
end Go.Proofs.Ytgepfmofignmfaa
