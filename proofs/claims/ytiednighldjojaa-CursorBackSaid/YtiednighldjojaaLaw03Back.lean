/-
  CursorBack: what was laid is read as it was.
-/
import Derived.Test.YtiednighldjojaaRef03
import Derived.Test.YtiednighldjojaaOpen
import Derived.RegionCalls
import Derived.Deep.RegionWith
namespace Go.Proofs.Ytiednighldjojaa
open Go.RowKit

/-- Numbers of eight bytes, one behind the other. -/
def rows8 (L : List Nat) : List UInt8 := L.flatMap fun n => lowb n 8
theorem rows8_length (L : List Nat) : (rows8 L).length = 8 * L.length := by
  induction L with
  | nil => rfl
  | cons x r ih => simp [rows8, lowb_length] at ih ⊢; omega
theorem rows8_take (L : List Nat) (k : Nat) (h : k < L.length) : rows8 (L.take (k + 1)) = rows8 (L.take k) ++ lowb L[k] 8 := by
  unfold rows8; rw [take_snoc L k h, List.flatMap_append]; simp only [List.flatMap_cons, List.flatMap_nil, List.append_nil]
theorem rows8_drop (L : List Nat) (k : Nat) (h : k < L.length) : rows8 (L.drop k) = lowb L[k] 8 ++ rows8 (L.drop (k + 1)) := by
  unfold rows8; rw [List.drop_eq_getElem_cons h]; simp only [List.flatMap_cons]

set_option maxRecDepth 100000 in
set_option maxHeartbeats 2000000 in
theorem back_walk (w : World) (v0 v2 : Value) (l : List UInt8) (N : Nat) (L : List Nat) (hN : N < 2 ^ 32) (hL : ∀ x ∈ L, x < 2 ^ 64) (h0 : Sl w v0 l.length (bcs l)) (h2 : Sl w v2 L.length (ncs .u64 L)) :
    Calls Try.prog 5 #[v0, .int .u32 N, v2] w fun e w' => e = .returned (.bool true) ∧ Chg [] w w' := by
  have s0 := h0
  have s2 := h2
  obtain ⟨a0, c0, rfl⟩ := h0.shape
  obtain ⟨a2, c2, rfl⟩ := h2.shape
  have p5 := h2.cellsOf
  clear h0 h2
  by_cases hl : 500 < l.length
  · go_enter Try.func5, Try.ntmps5
    go_wp2_with fail
    refine (small_ok w).mono ?_
    rintro e w1 ⟨rfl, g1⟩
    go_wp2
    go_ret
    exact ⟨rfl, g1⟩
  by_cases hm : 30 < L.length
  · go_enter Try.func5, Try.ntmps5
    go_wp2_with fail
    refine (small_ok w).mono ?_
    rintro e w1 ⟨rfl, g1⟩
    go_wp2
    go_ret
    exact ⟨rfl, g1⟩
  go_enter Try.func5, Try.ntmps5
  go_wp2_with fail
  refine (small_ok w).mono ?_
  rintro e w1 ⟨rfl, g1⟩
  go_wp2_with fail
  refine (putU32_ok w1 _ l N (s0.tr0 g1) (by unfold big; omega)).mono ?_
  rintro e w2 ⟨x2, rfl, o2, g2⟩
  have g12 := g1.t0 g2
  have o2' := own_lower o2 g1.size
  clear o2 g2
  go_wp2_with fail
  go_loopw [8, 9] (fun x iv wr => ∃ j : Nat, j ≤ L.length ∧ iv = .int .i64 j ∧ wr.ownsRow w.heap.size 5 1 x (l ++ lowb N 4 ++ rows8 (L.take j)).length (bcs (l ++ lowb N 4 ++ rows8 (L.take j))) ∧ Chg [] w wr) (fun _ iv _ => L.length - (intOf iv).toNat)
  case atStart => exact ⟨0, Nat.zero_le _, rfl, by simpa [rows8, lowb_length] using o2', g12⟩
  case round =>
    obtain ⟨j, hj, rfl, ho, hc⟩ := hrel
    clear o2'
    by_cases hlt : j < L.length
    · obtain ⟨y, rfl, hcell⟩ := p5 j _ (ncs_get .u64 L j hlt)
      obtain ⟨_, e, hcell2⟩ := (s2.tr0 hc).cellsOf j _ (ncs_get .u64 L j hlt)
      cases e
      clear hcell
      go_wp2_with fail
      have hlen : (rows8 (L.take j)).length = 8 * j := by rw [rows8_length, List.length_take, Nat.min_eq_left hj]
      refine (putU64_ok wr _ _ L[j] (Sl.ofOwns ho) (by simp [lowb_length, hlen]; unfold big; omega)).mono ?_
      rintro e w3 ⟨x3, rfl, o3, g3⟩
      have hc3 := hc.t0 g3
      have o3' := own_lower o3 hc.size
      clear o3 g3 hlen
      go_wp2
      go_roundw
      case rel => exact ⟨j + 1, by omega, by go_num, by rw [rows8_take L j hlt, ← List.append_assoc]; simpa [lowb_length, Nat.add_assoc] using o3', hc3⟩
      case measure => simp [intOf]; omega
    · obtain rfl : j = L.length := by omega
      rw [List.take_length] at ho
      have hbigl : (l ++ lowb N 4 ++ rows8 L).length ≤ big := by simp [lowb_length, rows8_length]; unfold big; omega
      go_wp2_with fail
      refine (over_ok wr _ _ (Sl.ofOwns ho) hbigl).mono ?_
      rintro e w3 ⟨p, rfl, hp, c3, g3⟩
      have hc3 := hc.t0 g3
      clear ho g3 hbigl
      have hp' : w.heap.size ≤ p := Nat.le_trans hc.size hp
      go_wp2_with fail
      refine (take_ok w3 p _ l.length c3).mono ?_
      rintro e w4 ⟨v4, rfl, o4, c4, g4⟩
      rw [List.append_assoc, CS.took_app] at o4
      rw [List.append_assoc, CS.then_app] at c4
      have hc4 := hc3.tn g4 hp'
      have st4 := run_str (dst := 9) Try.underlying22 Try.underlying5 Try.underlying9 (Sl.ofOwns o4) rfl
      go_wp2_with fail
      refine (u32_ok w4 p _ c4).mono ?_
      rintro e w5 ⟨he, c5, g5⟩
      have e5 : CS.num ⟨lowb N 4 ++ rows8 L, false⟩ 4 = N := CS.num_lowb (by omega)
      have e6 : CS.then ⟨lowb N 4 ++ rows8 L, false⟩ 4 = ⟨rows8 L, false⟩ := CS.then_lowb
      rw [e5] at he
      rw [e6] at c5
      subst he
      have hc5 := hc4.tn g5 hp'
      have st5 := run_str (dst := 9) Try.underlying22 Try.underlying5 Try.underlying9 ((Sl.ofOwns o4).tr1 g5 (own_ne o4 c3.lt)) rfl
      have st6 := run_str (dst := 9) Try.underlying22 Try.underlying5 Try.underlying9 (s0.tr0 hc5) rfl
      clear st4 e5 e6
      go_wp2_with fail
      clear st5 st6 o4 c4 g4 c3 g5 hc3 hc4
      go_loopw [13] (fun iv wq => ∃ j : Nat, j ≤ L.length ∧ iv = .int .i64 j ∧ Cur wq p ⟨rows8 (L.drop j), false⟩ ∧ Chg [] w wq) (fun iv _ => L.length - (intOf iv).toNat)
      case atStart => exact ⟨0, Nat.zero_le _, rfl, by simpa using c5, hc5⟩
      case round =>
        clear c5 hc5 hc
        rename_i wq
        obtain ⟨j, hj, rfl, hcur, hc⟩ := hrel
        by_cases hlt : j < L.length
        · obtain ⟨y, rfl, _⟩ := p5 j _ (ncs_get .u64 L j hlt)
          obtain ⟨_, e, hcell2⟩ := (s2.tr0 hc).cellsOf j _ (ncs_get .u64 L j hlt)
          cases e
          rw [rows8_drop L j hlt] at hcur
          have hd : CS.done ⟨lowb L[j] 8 ++ rows8 (L.drop (j + 1)), false⟩ = false := by
            have : (lowb L[j] 8 ++ rows8 (L.drop (j + 1))) ≠ [] := by
              intro h; have := congrArg List.length h; simp [lowb_length] at this
            simp [CS.done, this]
          have e5 : CS.num ⟨lowb L[j] 8 ++ rows8 (L.drop (j + 1)), false⟩ 8 = L[j] := CS.num_lowb (by have := hL _ (List.getElem_mem hlt); omega)
          have e6 : CS.then ⟨lowb L[j] 8 ++ rows8 (L.drop (j + 1)), false⟩ 8 = ⟨rows8 (L.drop (j + 1)), false⟩ := CS.then_lowb
          have hy : (y.add j).block ≠ p := by
            have h := World.block_lt_of_cell? _ _ ‹w.cell? (y.add j) = _›
            omega
          have hcur' := hcur.drew
          have hcell3 : wr.drew.cell? (y.add j) = some (.int .u64 (L[j] : Int)) := hcell2
          go_wp2_with fail
          go_region_with (first
            | (go_at_call 21; refine (end_ok _ _ _ hcur').mono ?_; rintro e w7 ⟨he, rfl⟩; rw [hd] at he; subst he)
            | (go_at_call 14; refine (u64_ok _ _ _ hcur').mono ?_; rintro e w7 ⟨he, c7, g7⟩; rw [e5] at he; rw [e6] at c7; subst he; have hcell7 := g7.cellv hcell3 (by simpa using hy)))
          all_goals
            go_wp2
            go_roundw
            case rel => exact ⟨j + 1, by omega, by go_num, c7, (hc.t0 (Chg.drew [] wr)).tn g7 hp'⟩
            case measure => simp [intOf]; omega
        · obtain rfl : j = L.length := by omega
          rw [List.drop_length] at hcur
          go_wp2_with fail
          refine (end_ok _ _ _ hcur).mono ?_
          rintro e w7' ⟨he, rfl⟩
          obtain rfl : e = .returned (.bool true) := he
          go_wp2
          go_ret
          exact ⟨rfl, hc⟩

theorem cursorBack_run (w : World) (v0 : Value) (l : List UInt8) (a : Int) (v2 : Value) (L : List Nat) (h0 : Sl w v0 l.length (bcs l)) (_ : l.length * 1 ≤ 140737488351232) (ha : (Lit.int .u32 a).wf = true) (h2 : Sl w v2 L.length (ncs .u64 L)) (hL : ∀ x ∈ L, x < 2 ^ 64) (_ : L.length * 8 ≤ 140737488351232) :
    Calls Try.prog 5 #[v0, .int .u32 a, v2] w fun e w' => e = .returned (.bool true) ∧ Chg [] w w' := by
  obtain ⟨N, rfl, hN⟩ := u32_wf ha
  exact back_walk w v0 v2 l N L hN hL h0 h2

end Go.Proofs.Ytiednighldjojaa
