/-
  TreeCounts: the walk.
-/
import Derived.Test.YtgepfmofignmfaaLaw21Halves
namespace Go.Proofs.Ytgepfmofignmfaa
set_option linter.unusedSimpArgs false
set_option linter.unusedVariables false
open Go.RowKit

theorem node_str : bstr nodeS = { data := #[110, 111, 100, 101] } := rfl
theorem none_str : bstr noneS = { data := #[110, 111, 110, 101] } := rfl
set_option maxHeartbeats 8000000 in
set_option maxRecDepth 100000 in
theorem treeCounts_run (w : World) (v : Value) (L : List Bytes) (hs : Sl w v L.length (L.flatMap bcs)) (ok : ∀ x ∈ L, x.length = 32) (_bd : L.length * 32 ≤ 140737488351232) :
    Calls Try.prog 12 #[v] w fun e w' => e = .returned (.bool true) ∧ Chg [] w w' := by
  have hv : Dg w v L := ⟨hs, ok⟩
  have hle := hs.le
  unfold maxLen at hle
  obtain ⟨a0, c0, rfl⟩ := hs.shape
  clear hs
  go_enter Try.func12, Try.ntmps12
  go_wp2_with fail
  refine (small21_ok w).mono ?_
  rintro e w1 ⟨rfl, g1⟩
  go_wp2_with fail
  refine (lognew_ok w1 w1.heap.size).mono ?_
  rintro e w2 ⟨rfl, l2, g2⟩
  have c2 := g1.t0 g2
  have zp := g1.size
  generalize w1.heap.size = p at *
  clear g1 g2
  by_cases h60 : 60 < L.length
  · have h3' : (60 : Int) < L.length := by omega
    go_wp2
    go_ret
    exact ⟨rfl, c2⟩
  have h60i : (L.length : Int) ≤ 60 := by omega
  have kR := root_new _ w2 p _ _ l2 c2 zp Short.nil L (by simp; omega) _ hv
  have n0 := treeV_count L
  have hlog := treeV_log ok
  generalize treeV L = R at *
  obtain ⟨x0, f0⟩ := R
  dsimp only at *
  replace n0 := Lib.hid n0
  replace hlog := Lib.hid hlog
  clear hv ok
  go_wp2_with fail
  refine kR.mono ?_
  rintro e w4 ⟨rfl, v4, F4, l4, hF4, g4, c4, S4⟩
  clear kR l2 c2 g4
  have m4 := len_log hF4
  simp only [List.map_nil, List.nil_append] at hF4
  replace S4 := Lib.hid S4
  replace hF4 := Lib.hid hF4
  go_wp2_with fail
  refine (frames_ok w4 p p v4 F4 l4 (by have := n0.out; simp at m4; split at this <;> omega) S4.out.rows).mono ?_
  rintro e w5 ⟨v5, rfl, D, oD, hD, g5⟩
  have c5 := c4.t0 g5
  rw [hF4.out] at hD
  have hDl : D.length = f0.length := by have := congrArg List.length hD; simpa using this
  have sD := oD.sl
  obtain ⟨aD, cD, rfl⟩ := sD.1.shape
  have hmem : ∀ k (h : k < D.length), D[k].2 ∈ f0 := fun k h => by rw [← hD]; exact List.mem_map.2 ⟨D[k], List.getElem_mem h, rfl⟩
  have hDi : (D.length : Int) = if L.length = 0 then 1 else (L.length : Int) - 1 := by rw [hDl, n0.out]; split <;> omega
  have hD60 : D.length ≤ 60 := by rw [hDl, n0.out]; split <;> omega
  clear l4 c4 g5 oD hD hDl m4
  replace hDi := Lib.hid hDi
  go_wp2_with fail
  go_loopw [6] (fun iv wr => ∃ (k : Nat), k ≤ D.length ∧ iv = .int .i64 k ∧ Chg [] w5 wr) (fun iv _ => D.length - (intOf iv).toNat)
  case atStart => exact ⟨0, Nat.zero_le _, rfl, Chg.refl _ _⟩
  case round =>
    obtain ⟨k, hk, rfl, hc⟩ := hrel
    by_cases hlt : k < D.length
    · obtain ⟨b, off, c, e, hbl, x1, sx⟩ := (sD.tr0 hc).cell k hlt
      cases e
      have hkd : (k : Int) < D.length := by omega
      have hm := hmem k hlt
      obtain ⟨ax, cx, ex⟩ := sx.shape
      rw [ex] at x1 sx
      generalize D[k].2 = f at *
      rcases hlog.out f hm with ⟨rfl, rfl⟩ | ⟨hne, a, b2, ha, hb, rfl⟩
      · have kP := parse_ok wr _ _ sx (Nat.le_trans short_none (by decide))
        rw [parse_none, none_str] at kP
        clear sx hm
        generalize frameB noneS [] = fr at *
        simp only [List.length_nil] at *
        go_wp2_with fail
        refine kP.mono ?_
        rintro e w6 ⟨v6, rfl, D6, o6, hD6, g6⟩
        obtain rfl : D6 = [] := by simpa using hD6
        obtain ⟨a6, c6, rfl⟩ := o6.shape
        simp only [List.length_nil]
        clear o6 hD6 kP
        have hc6 := hc.t0 g6
        go_wp2
        go_roundw
        case rel => exact ⟨k + 1, by omega, by go_num, hc6⟩
        case measure => simp [intOf]; omega
      · have kP := parse_ok wr _ _ sx (by rw [node_len ha hb]; decide)
        rw [parse_node ha hb, node_str] at kP
        clear sx hm
        have hL0 : (0 : Int) < L.length := by have := List.length_pos_iff.2 hne; omega
        generalize frameB nodeS [a, b2] = fr at *
        go_wp2_with fail
        refine kP.mono ?_
        rintro e w6 ⟨v6, rfl, D6, o6, hD6, g6⟩
        have h6l : D6.length = 2 := by have := congrArg List.length hD6; simpa using this
        obtain ⟨a6, c6, rfl⟩ := o6.shape
        rw [h6l]
        clear o6 hD6 kP h6l
        have hc6 := hc.t0 g6
        go_wp2
        go_roundw
        case rel => exact ⟨k + 1, by omega, by go_num, hc6⟩
        case measure => simp [intOf]; omega
    · obtain rfl : k = D.length := by omega
      have hDi := hDi.out
      have cw := c5.t0 hc
      by_cases hL0 : L.length = 0
      · rw [if_pos hL0] at hDi
        have hDn : D.length = 1 := by omega
        rw [hL0, hDn]
        go_wp2
        go_ret
        exact ⟨by simp, cw⟩
      · rw [if_neg hL0] at hDi
        have hL0i : (L.length : Int) ≠ 0 := by omega
        go_wp2
        go_ret
        exact ⟨by simp [hL0i], cw⟩
end Go.Proofs.Ytgepfmofignmfaa
