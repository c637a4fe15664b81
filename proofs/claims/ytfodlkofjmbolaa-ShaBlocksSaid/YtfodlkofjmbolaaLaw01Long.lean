/-
  ShaLong: the walk.
-/
import Derived.Test.YtfodlkofjmbolaaLaw01Sums
import Derived.Test.YtfodlkofjmbolaaLaw01Pads
import Derived.Test.YtfodlkofjmbolaaOpen
namespace Go.Proofs.Ytfodlkofjmbolaa
open Go.RowKit

def fillB (c : UInt8) (k j : Nat) : List UInt8 := List.replicate j c ++ List.replicate (k - j) 0
theorem fillB_length (c : UInt8) (k j : Nat) (h : j ≤ k) : (fillB c k j).length = k := by simp [fillB]; omega
theorem fillB_set (c : UInt8) (k j : Nat) (h : j < k) : (fillB c k j).set j c = fillB c k (j + 1) := by
  unfold fillB
  rw [List.set_append_right _ _ (by simp)]
  simp only [List.length_replicate, Nat.sub_self]
  obtain ⟨m, hm⟩ : ∃ m, k - j = m + 1 := ⟨k - j - 1, by omega⟩
  rw [hm, List.replicate_succ, List.set_cons_zero, List.replicate_succ', List.append_assoc, show k - (j + 1) = m by omega]
  rfl

set_option maxHeartbeats 1000000 in
theorem long_in (w : World) (k : Nat) (c : UInt8) (hk : k ≤ 400) :
    Calls Try.prog 7 #[.int .i64 (k : Int), .int .u8 (c.toNat : Int)] w fun e w' => e = .returned (.bool true) ∧ Chg [] w w' := by
  go_enter Try.func7, Try.ntmps7
  go_wp2_with (first
    | (go_at_call 14; refine (small_ok _).mono ?_; rintro e w1 ⟨rfl, g1⟩)
    | (at_make; refine wpList_make_lc _ rfl _ _ 22 5 1 rfl el_u8 (.int .u8 0) (by kernel_rfl) rfl .i64 .i64 k k rfl rfl (Nat.le_refl _) (by omega) (by omega) w1.heap.size (Nat.le_refl _) ?_; intro w2 o2 g2 z2; replace z2 := Lib.hid z2))
  obtain ⟨ho1, ⟨h, _⟩ | ⟨g, cap, cur, h, hb, hg, hnc, hcm, hcs, htk⟩⟩ := o2
  · cases h
  · cases h
    have hcur : cur = (bcs (fillB c k 0)).toArray := by
      apply Array.ext'
      have : cur.toList.length = k := by simpa using hcs
      rw [List.take_of_length_le (by omega)] at htk
      simp [htk, bcs, fillB]
    subst hcur
    have G2 := g1.t0 g2
    have hgw : w.heap.size ≤ w1.heap.size := g1.size
    clear ho1 htk hcs hb hcm hnc g1 g2 z2
    generalize w1.heap.size = g at *
    go_loopw [7] (fun i wr => ∃ (j : Nat), j ≤ k ∧ i = .int .i64 j ∧ Chg [] w wr ∧ wr.heap[g]? = some (.cells (bcs (fillB c k j)).toArray 5 (0, 0))) (fun i _ => k - (intOf i).toNat)
    case atStart => exact ⟨0, Nat.zero_le _, rfl, G2, hg⟩
    case round =>
      clear hg G2
      obtain ⟨j, hj, rfl, G, hg⟩ := hrel
      have hlen := fillB_length c k j hj
      by_cases hlt : j < k
      · have hc0 : wr.cell? ⟨g, j, none⟩ = some (.int .u8 (((fillB c k j)[j]'(by omega)).toNat : Int)) := by rw [cell_of_row _ _ _ _ _ _ hg, List.getElem?_toArray]; exact bcs_get _ _ _
        have hf0 : wr.frozen? ⟨g, j, none⟩ = false := frozen_of_row wr g j _ _ hg
        have hS := heap_setCell_same wr g j _ _ (.int .u8 (c.toNat : Int)) hg
        have hC := Chg.setCell wr ⟨g, j, none⟩ (.int .u8 (c.toNat : Int))
        have hS' : (wr.setCell ⟨g, j, none⟩ (.int .u8 (c.toNat : Int))).heap[g]? = some (.cells (bcs (fillB c k (j + 1))).toArray 5 (0, 0)) := by
          rw [hS, ← fillB_set c k j hlt]; simp [bcs, List.map_set]
        replace hlen := Lib.hid hlen
        clear hg hS
        go_wp2
        go_roundw
        case rel => exact ⟨j + 1, by omega, by go_num, G.tn hC hgw, hS'⟩
        case measure => simp [intOf]; omega
      · have hjk : j = k := by omega
        subst hjk
        have hs := Sl.ofBlock (n := j) j hg (Nat.le_refl _) (by unfold maxLen; omega) (by intro h; subst h; rfl)
        generalize fillB c j j = B at *
        have L := sumB_length B
        have E := fun w => eql_dv (P := Try.prog) w 25 5 32 Try.underlying25 Try.underlying5 (fun w => by go_simp) _ _ (sumB_length B) (sumB_length B)
        have EG := fun w x y => eqg_dv (P := Try.prog) w .eql 25 x y (sumB B) (sumB B) (by kernel_rfl)
        have k1 := fun w hs => sum_ok w (.slice (some ⟨g, 0, none⟩) j j) B hs (by omega)
        have k2 := fun w hs => ref01_sum_ok w (.slice (some ⟨g, 0, none⟩) j j) B hs (by omega)
        rw [← hlen] at hs
        unfold dv at E EG
        generalize sumB B = D at *
        simp only [beq_self_eq_true] at E
        replace hlen := Lib.hid hlen
        rw [hlen.out] at hs k1 k2
        clear L hg
        go_wp2_with (first
          | (go_at_call 15; refine (k1 _ hs).mono ?_; rintro e w3 ⟨rfl, g3⟩)
          | (go_at_call 16; refine (k2 _ (hs.tr0 g3)).mono ?_; rintro e w4 ⟨rfl, g4⟩))
        go_ret
        exact ⟨rfl, (G.t0 g3).t0 g4⟩

theorem long_out (w : World) (n : Int) (c : UInt8) (hn : n < 0 ∨ 400 < n) :
    Calls Try.prog 7 #[.int .i64 n, .int .u8 (c.toNat : Int)] w fun e w' => e = .returned (.bool true) ∧ Chg [] w w' := by
  rcases hn with hn | hn
  · go_enter Try.func7, Try.ntmps7
    go_wp2_with (go_at_call 14; refine (small_ok _).mono ?_; rintro e w1 ⟨rfl, g1⟩)
    go_ret
    exact ⟨rfl, g1⟩
  · have h0 : ¬ n < 0 := by omega
    go_enter Try.func7, Try.ntmps7
    go_wp2_with (go_at_call 14; refine (small_ok _).mono ?_; rintro e w1 ⟨rfl, g1⟩)
    go_ret
    exact ⟨rfl, g1⟩
theorem shaLong_run (w : World) (n c : Int) (_ : (Lit.int .i64 n).wf = true) (hc : (Lit.int .u8 c).wf = true) :
    Calls Try.prog 7 #[.int .i64 n, .int .u8 c] w fun e w' => e = .returned (.bool true) ∧ Chg [] w w' := by
  obtain ⟨x, rfl⟩ := u8_wf hc
  by_cases h : n < 0 ∨ 400 < n
  · exact long_out w n x h
  · obtain ⟨k, rfl⟩ : ∃ k : Nat, n = k := ⟨n.toNat, by omega⟩
    exact long_in w k x (by omega)
end Go.Proofs.Ytfodlkofjmbolaa
