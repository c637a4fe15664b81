/-
  Numbers' bytes: the contracts of cursor.U64 and of the document's own (hypostyleref03.Low), for a seat that has no cursor.
-/
import Derived.Test.YtgepfmofignmfaaBytes
import Derived.Test.YtgepfmofignmfaaCurPure
namespace Go.Proofs.Ytgepfmofignmfaa
set_option linter.unusedSimpArgs false
set_option linter.unusedVariables false
open Go.RowKit

theorem lay64_ok (w : World) (v : Value) (l : List UInt8) (N k : Nat) (hk : k ≤ 8) (hs : Sl w v l.length (bcs l)) (hb : l.length + 8 ≤ big) :
    Calls Try.prog 67 #[v, .int .u64 N, .int .i64 k] w fun e w' =>
      ∃ v', e = .returned v' ∧ w'.ownsRow w.heap.size 5 1 v' (l.length + k) (bcs (l ++ lowb N k)) ∧ Chg [] w w' := by
  obtain ⟨i0, z0, hi, hz, hz1, hz2, hz3⟩ := el_b.info
  have hs0 := hs
  obtain ⟨a, c, rfl, q1, q2, q3, q4, q6, q5⟩ := hs
  clear q1 q2 q3 q4 q5 q6
  have hbig : l.length ≤ 140737488355320 := by unfold big at hb; omega
  go_enter Try.func67, Try.ntmps67
  go_wp2_with (at_make; refine wpList_make_own _ rfl _ _ 22 rfl w.heap.size 5 i0 z0 1 Try.underlying22 hi hz hz1 _ _ _ (l.length + k) rfl rfl (by push_cast; rfl) (by rw [hz2]; omega) (by unfold maxLen; omega) (Nat.le_refl _) ?_)
  intro w1 hown1 hg1
  have hc1 := Chg.grown0 hg1
  go_wp2_with (at_builtin; refine wpList_append_sl _ rfl (.tmp 13) (.tmp 14) 22 5 1 1 rfl el_b w.heap.size _ 0 [] rfl hown1 _ l.length (bcs l) rfl (hs0.tr0 hc1) (by simp [bcs]) (bcs_one l) (by unfold big; omega) hg1.size ?_)
  intro v2 w2 hown2 hg2
  have hc2 := hc1.grownOwn hg2 hown1 (Nat.le_refl _)
  clear hown1 hg1 hc1 hg2 hs0
  go_wp2_with fail
  go_loopw [1, 7, 17] (fun nv out iv wr => ∃ j : Nat, j ≤ k ∧ iv = .int .i64 j ∧ nv = .int .u64 (N / 256 ^ j : Nat) ∧ wr.ownsRow w.heap.size 5 1 out (l.length + j) (bcs (l ++ lowb N j)) ∧ Chg [] w wr) (fun _ _ iv _ => k - (intOf iv).toNat)
  case atStart => exact ⟨0, Nat.zero_le _, rfl, by simp, by simpa [lowb_zero] using hown2, hc2⟩
  case round =>
    obtain ⟨j, hj, rfl, rfl, hown, hc⟩ := hrel
    clear hown2 hc2
    by_cases hlt : j < k
    · go_wp2_with (at_builtin; refine wpList_append_sl _ rfl (.tmp 19) (.tmp 22) 22 5 1 1 rfl el_b w.heap.size _ _ _ rfl (hown.alloc _) _ 1 (bcs [UInt8.ofNat (N / 256 ^ j)]) rfl (Sl.lit _ _ _ 1 (by decide)) (by simp [bcs]) (bcs_one _) (by unfold big; omega) (by have := hc.size; simp; omega) ?_)
      intro v' w' hown' hg'
      have hc' : Chg [] w w' := (hc.t0 (Chg.alloc [] wr _)).grownOwn hg' (hown.alloc _) (Nat.le_refl _)
      have hown2 : w'.ownsRow w.heap.size 5 1 v' (l.length + (j + 1)) (bcs (l ++ lowb N (j + 1))) := by
        rw [lowb_snoc, ← List.append_assoc, bcs_append (l ++ lowb N j)]; exact hown'
      clear hown' hg' hc hown
      go_wp2
      go_roundw
      case rel => exact ⟨j + 1, by omega, by go_num, by rw [low_cast], hown2, hc'⟩
      case measure => simp [intOf]; omega
    · go_wp2
      go_ret
      obtain rfl : j = k := by omega
      exact ⟨_, rfl, hown, hc⟩

theorem putU64_ok (w : World) (v : Value) (l : List UInt8) (N : Nat) (hs : Sl w v l.length (bcs l)) (hb : l.length + 8 ≤ big) :
    Calls Try.prog 59 #[v, .int .u64 N] w fun e w' =>
      ∃ v', e = .returned v' ∧ w'.ownsRow w.heap.size 5 1 v' (l.length + 8) (bcs (l ++ lowb N 8)) ∧ Chg [] w w' := by
  go_enter Try.func59, Try.ntmps59
  go_wp2_with fail
  refine (lay64_ok w v l N 8 (by decide) hs hb).mono ?_
  rintro e w1 ⟨v', rfl, hown, hg⟩
  go_wp2
  go_ret
  exact ⟨_, rfl, hown, hg⟩

theorem low_tdiv (N j : Nat) (hN : N < 2 ^ 64) : IntKind.u64.wrap (((N : Int) / 256 ^ j).tdiv 256) = (N : Int) / 256 ^ j / 256 := by
  have e : (N : Int) / 256 ^ j = ((N / 256 ^ j : Nat) : Int) := by rw [Int.natCast_ediv, Int.natCast_pow]; rfl
  have h := Nat.div_le_self N (256 ^ j)
  rw [e]
  generalize N / 256 ^ j = M at h
  exact IntWalk.u64_quo _ _ (by omega)

theorem low_ok (w : World) (v : Value) (l : List UInt8) (N k : Nat) (hN : N < 2 ^ 64) (hk : k ≤ 8) (hs : Sl w v l.length (bcs l)) (hb : l.length + 8 ≤ big) :
    Calls Try.prog 39 #[v, .int .u64 N, .int .i64 k] w fun e w' =>
      ∃ v', e = .returned v' ∧ w'.ownsRow w.heap.size 5 1 v' (l.length + k) (bcs (l ++ lowb N k)) ∧ Chg [] w w' := by
  have hbig : l.length ≤ 140737488355320 := by unfold big at hb; omega
  go_enter Try.func39, Try.ntmps39
  go_wp2_with (at_builtin; refine wpList_append_sl _ rfl (.tmp 9) (.tmp 10) 22 5 1 1 rfl el_b w.heap.size _ 0 [] rfl (own_lit w #[] 5 0 1 _ (Nat.le_refl _) (Nat.zero_le _) rfl) _ l.length (bcs l) rfl (hs.tr0 (Chg.alloc _ _ _)) (by simp [bcs]) (bcs_one l) (by unfold big; omega) (by simp) ?_)
  intro v2 w2 hown2 hg2
  have hc2 : Chg [] w w2 := (Chg.alloc [] w _).trans (Chg.grown hg2) (by simp [Value.ownBlock])
  clear hg2 hs
  go_wp2_with fail
  go_loopw [1, 7, 8] (fun nv out iv wr => ∃ j : Nat, j ≤ k ∧ iv = .int .i64 j ∧ nv = .int .u64 (N / 256 ^ j : Nat) ∧ wr.ownsRow w.heap.size 5 1 out (l.length + j) (bcs (l ++ lowb N j)) ∧ Chg [] w wr) (fun _ _ iv _ => k - (intOf iv).toNat)
  case atStart => exact ⟨0, Nat.zero_le _, rfl, by simp, by simpa [lowb_zero] using hown2, hc2⟩
  case round =>
    obtain ⟨j, hj, rfl, rfl, hown, hc⟩ := hrel
    clear hown2 hc2
    by_cases hlt : j < k
    · go_wp2_with (at_builtin; refine wpList_append_sl _ rfl (.tmp 17) (.tmp 20) 22 5 1 1 rfl el_b w.heap.size _ _ _ rfl (hown.alloc _) _ 1 (bcs [UInt8.ofNat (N / 256 ^ j)]) rfl (Sl.lit _ _ _ 1 (by decide)) (by simp [bcs]) (bcs_one _) (by unfold big; omega) (by have := hc.size; simp; omega) ?_)
      intro v' w' hown' hg'
      have hc' : Chg [] w w' := (hc.t0 (Chg.alloc [] wr _)).grownOwn hg' (hown.alloc _) (Nat.le_refl _)
      have hown2 : w'.ownsRow w.heap.size 5 1 v' (l.length + (j + 1)) (bcs (l ++ lowb N (j + 1))) := by
        rw [lowb_snoc, ← List.append_assoc, bcs_append (l ++ lowb N j)]; exact hown'
      have hNj : N / 256 ^ j ≤ N := Nat.div_le_self _ _
      clear hown' hg' hc hown
      go_wp2
      go_roundw
      case rel => exact ⟨j + 1, by omega, by go_num, by rw [low_cast]; exact congrArg _ (low_tdiv N j hN), hown2, hc'⟩
      case measure => simp [intOf]; omega
    · go_wp2
      go_ret
      obtain rfl : j = k := by omega
      exact ⟨_, rfl, hown, hc⟩

theorem low4_ok (w : World) (v : Value) (l : List UInt8) (N : Nat) (hN : N < 2 ^ 64) (hs : Sl w v l.length (bcs l)) (hb : l.length + 8 ≤ big) :
    Calls Try.prog 39 #[v, .int .u64 N, .int .i64 4] w fun e w' =>
      ∃ v', e = .returned v' ∧ w'.ownsRow w.heap.size 5 1 v' (l.length + 4) (bcs (l ++ lowb N 4)) ∧ Chg [] w w' := low_ok w v l N 4 hN (by decide) hs hb
theorem low8_ok (w : World) (v : Value) (l : List UInt8) (N : Nat) (hN : N < 2 ^ 64) (hs : Sl w v l.length (bcs l)) (hb : l.length + 8 ≤ big) :
    Calls Try.prog 39 #[v, .int .u64 N, .int .i64 8] w fun e w' =>
      ∃ v', e = .returned v' ∧ w'.ownsRow w.heap.size 5 1 v' (l.length + 8) (bcs (l ++ lowb N 8)) ∧ Chg [] w w' := low_ok w v l N 8 hN (by decide) hs hb

end Go.Proofs.Ytgepfmofignmfaa
