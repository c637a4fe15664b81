/-
  VarintBack: the walk.
-/
import Derived.Test.YtllidfhdklfkmaaLaw04Small
import Derived.Test.YtllidfhdklfkmaaOpen
import Derived.RegionCalls
import Derived.Deep.RegionWith
namespace Go.Proofs.Ytllidfhdklfkmaa
open Go.RowKit

/-- Numbers' bytes, one behind the other. -/
def vrows (L : List Nat) : List UInt8 := L.flatMap vput
theorem vrows_take (L : List Nat) (k : Nat) (h : k < L.length) : vrows (L.take (k + 1)) = vrows (L.take k) ++ vput L[k] := by
  unfold vrows; rw [take_snoc L k h, List.flatMap_append]; simp only [List.flatMap_cons, List.flatMap_nil, List.append_nil]
theorem vrows_drop (L : List Nat) (k : Nat) (h : k < L.length) : vrows (L.drop k) = vput L[k] ++ vrows (L.drop (k + 1)) := by
  unfold vrows; rw [List.drop_eq_getElem_cons h]; simp only [List.flatMap_cons]
theorem vrows_length (L : List Nat) (hL : ∀ x ∈ L, x < 2 ^ 64) : (vrows L).length ≤ 10 * L.length := by
  induction L with
  | nil => simp [vrows]
  | cons x r ih =>
    have h1 := ih (fun y hy => hL y (List.mem_cons_of_mem _ hy))
    have h2 := vsize_ten (hL x (List.mem_cons_self ..))
    simp only [vrows, List.flatMap_cons, List.length_append, List.length_cons] at h1 ⊢
    unfold vsize at h2
    omega

set_option maxRecDepth 100000 in
set_option maxHeartbeats 4000000 in
theorem vback_walk (w : World) (v2 : Value) (L : List Nat) (hL : ∀ x ∈ L, x < 2 ^ 64) (h2 : Sl w v2 L.length (ncs .u64 L)) :
    Calls Try.prog 4 #[v2] w fun e w' => e = .returned (.bool true) ∧ Chg [] w w' := by
  have s2 := h2
  obtain ⟨a2, c2, rfl⟩ := h2.shape
  have p5 := h2.cellsOf
  clear h2
  go_enter Try.func4, Try.ntmps4
  go_wp2_with fail
  refine (small04_ok w).mono ?_
  rintro e w1 ⟨rfl, g1⟩
  by_cases hm : 60 < L.length
  · go_wp2
    go_ret
    exact ⟨rfl, g1⟩
  go_wp2_with fail
  go_loopw [4, 5, 6] (fun x nv iv wr => ∃ j : Nat, j ≤ L.length ∧ iv = .int .i64 j ∧ nv = .int .i64 (vrows (L.take j)).length ∧ wr.ownsRow w.heap.size 5 1 x (vrows (L.take j)).length (bcs (vrows (L.take j))) ∧ Chg [] w wr) (fun _ _ iv _ => L.length - (intOf iv).toNat)
  case atStart => exact ⟨0, Nat.zero_le _, rfl, rfl, World.ownsRow_nil _ _ _ _, g1⟩
  case round =>
    obtain ⟨j, hj, rfl, rfl, ho, hc⟩ := hrel
    have hlen : (vrows (L.take j)).length ≤ 600 := by
      have := vrows_length (L.take j) (fun x hx => hL x (List.mem_of_mem_take hx))
      rw [List.length_take] at this
      omega
    by_cases hlt : j < L.length
    · obtain ⟨y, rfl, hcell⟩ := p5 j _ (ncs_get .u64 L j hlt)
      obtain ⟨_, e, hcell2⟩ := (s2.tr0 hc).cellsOf j _ (ncs_get .u64 L j hlt)
      cases e
      clear hcell
      have hNj := hL _ (List.getElem_mem hlt)
      have hten := vsize_ten hNj
      have hvt := vrows_take L j hlt
      replace hvt := Lib.hid hvt
      go_wp2_with fail
      refine (vput_ok wr _ _ L[j] hNj (Sl.ofOwns ho) (by unfold big; omega)).mono ?_
      rintro e w3 ⟨x3, rfl, o3, g3⟩
      have hc3 := hc.t0 g3
      have o3' := own_lower o3 hc.size
      have hcell3 := g3.cellv hcell2 (by simp)
      clear o3 g3 hcell2
      go_wp2_with fail
      refine (vsize_ok w3 L[j] hNj).mono ?_
      rintro e w3' ⟨rfl, rfl⟩
      have hl2 : (vrows (L.take (j + 1))).length = (vrows (L.take j)).length + vsize L[j] := by rw [hvt.out, List.length_append]; rfl
      rw [← hvt.out, ← hl2] at o3'
      replace hl2 := Lib.hid hl2
      go_wp2
      go_roundw
      case rel => exact ⟨j + 1, by omega, by go_num, by rw [hl2.out]; exact congrArg _ (by first | omega | (unfold wrap64; omega)), o3', hc3⟩
      case measure => simp [intOf]; omega
    · obtain rfl : j = L.length := by omega
      rw [List.take_length] at ho hlen
      rw [List.take_length]
      go_wp2_with fail
      refine (over_ok wr _ _ (Sl.ofOwns ho) (by unfold big; omega)).mono ?_
      rintro e w3 ⟨p, rfl, hp, c3, g3⟩
      have hc3 := hc.t0 g3
      obtain ⟨ax, kx, rfl⟩ := own_shape ho
      clear ho g3
      have hp' : w.heap.size ≤ p := Nat.le_trans hc.size hp
      go_wp2_with fail
      go_loopw [8] (fun iv wq => ∃ j : Nat, j ≤ L.length ∧ iv = .int .i64 j ∧ Cur wq p ⟨vrows (L.drop j), false⟩ ∧ Chg [] w wq) (fun iv _ => L.length - (intOf iv).toNat)
      case atStart => exact ⟨0, Nat.zero_le _, rfl, by simpa using c3, hc3⟩
      case round =>
        clear c3 hc3 hc
        rename_i wq
        obtain ⟨j, hj, rfl, hcur, hc⟩ := hrel
        by_cases hlt : j < L.length
        · obtain ⟨y, rfl, _⟩ := p5 j _ (ncs_get .u64 L j hlt)
          obtain ⟨_, e, hcell2⟩ := (s2.tr0 hc).cellsOf j _ (ncs_get .u64 L j hlt)
          cases e
          rw [vrows_drop L j hlt] at hcur
          have e5 : CS.vget ⟨vput L[j] ++ vrows (L.drop (j + 1)), false⟩ = (L[j], ⟨vrows (L.drop (j + 1)), false⟩) := CS.vget_vput (hL _ (List.getElem_mem hlt))
          have hy : (y.add j).block ≠ p := by
            have h := World.block_lt_of_cell? _ _ ‹w.cell? (y.add j) = _›
            omega
          have hcur' := hcur.drew
          have hcell3 : wr.drew.cell? (y.add j) = some (.int .u64 (L[j] : Int)) := hcell2
          go_wp2_with fail
          go_region_with (first
            | (go_at_call 24; refine (vget_ok _ _ _ hcur').mono ?_; rintro e w7 ⟨he, c7, g7⟩; rw [e5] at he c7; subst he; have hcell7 := g7.cellv hcell3 (by simpa using hy)))
          all_goals
            go_wp2
            go_roundw
            case rel => exact ⟨j + 1, by omega, by go_num, c7, (hc.t0 (Chg.drew [] wr)).tn g7 hp'⟩
            case measure => simp [intOf]; omega
        · obtain rfl : j = L.length := by omega
          rw [List.drop_length] at hcur
          go_wp2_with fail
          refine (end_ok _ _ _ hcur).mono ?_
          rintro e w7' ⟨he, rfl⟩
          obtain rfl : e = .returned (.bool true) := he
          go_wp2
          go_ret
          exact ⟨rfl, hc⟩

theorem varintBack_run (W : World) (v : Value) (L : List Nat) (h2 : Sl W v L.length (ncs .u64 L)) (hL : ∀ x ∈ L, x < 2 ^ 64) (_ : L.length * 8 ≤ 140737488351232) :
    Calls Try.prog 4 #[v] W fun e w' => e = .returned (.bool true) ∧ Chg [] W w' := vback_walk W v L hL h2
end Go.Proofs.Ytllidfhdklfkmaa
