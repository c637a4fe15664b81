/-
  hypostylelaw07.Few: it returns.
-/
import Derived.Test.YtfnfcioofkeanaaTab
namespace Go.Proofs.Ytfnfcioofkeanaa
set_option linter.unusedSimpArgs false
set_option linter.unusedVariables false
open Go.RowKit

def IsB (e : Ending) : Prop := ∃ b : Bool, e = .returned (.bool b)
set_option maxHeartbeats 8000000 in
set_option maxRecDepth 100000 in
theorem few_ok (w : World) (vc vd : Value) (L : List Col) (rows : Int) (D : Rows2) (hc : Sl w vc L.length (L.flatMap colc)) (hd : Sl2 w vd D) (hcl : L.length ≤ maxLen) (hdl : D.length ≤ maxLen) (hrl : ∀ x ∈ D, x.2.length ≤ maxLen) :
    Calls Try.prog 23 #[.agg #[vc, .int .i64 rows, vd]] w fun e w' => IsB e ∧ Chg [] w w' := by
  obtain ⟨a0, c0, rfl⟩ := hc.shape
  obtain ⟨a1, c1, rfl⟩ := hd.1.shape
  unfold maxLen at hcl hdl hrl
  go_enter Try.func23, Try.ntmps23
  have g0 := Chg.alloc [] w (.cells #[.slice a0 L.length c0, .int .i64 rows, .slice a1 D.length c1] 42)
  have ba := heap_alloc_new w (.cells #[.slice a0 L.length c0, .int .i64 rows, .slice a1 D.length c1] 42)
  replace hc := hc.tr0 g0
  replace hd := hd.tr0 g0
  go_wp2_with fail
  generalize w.alloc (.cells #[.slice a0 L.length c0, .int .i64 rows, .slice a1 D.length c1] 42) = w1 at *
  obtain ⟨k0, k1, k2⟩ := cells3'' ba
  clear k1
  go_loop [3, 4] (fun nv iv => ∃ (z : Int) (k : Nat), k ≤ L.length ∧ nv = .int .i64 z ∧ iv = .int .i64 k) (fun nv iv => L.length - (intOf iv).toNat)
  case atStart => exact ⟨0, 0, Nat.zero_le _, rfl, rfl⟩
  case round =>
    obtain ⟨z, k, hk, rfl, rfl⟩ := hrel
    by_cases hlt : k < L.length
    · obtain ⟨b, off, c', e, hbl, y1, y2, y3⟩ := cols_cells hc k hlt
      cases e
      have hkd : (k : Int) < L.length := by omega
      go_wp2
      go_round
      case rel => exact ⟨_, k + 1, by omega, rfl, by go_num⟩
      case measure => simp [intOf]; omega
    · obtain rfl : k = L.length := by omega
      go_wp2_with fail
      clear hc hk
      go_loop [3, 5, 6] (fun nv iv _ => ∃ (z : Int) (k : Nat), k ≤ D.length ∧ nv = .int .i64 z ∧ iv = .int .i64 k) (fun nv iv _ => D.length - (intOf iv).toNat)
      case atStart => exact ⟨_, 0, Nat.zero_le _, rfl, rfl⟩
      case round =>
        obtain ⟨z2, j, hj, rfl, rfl⟩ := hrel
        by_cases hlt2 : j < D.length
        · obtain ⟨b, off, c', e, hbl, x1, sD⟩ := hd.cell j hlt2
          cases e
          have hjd : (j : Int) < D.length := by omega
          have hrr := hrl _ (List.getElem_mem hlt2)
          obtain ⟨ax, cx, ex⟩ := sD.shape
          rw [ex] at x1 sD
          generalize D[j].2 = l at *
          go_wp2_with fail
          go_loop [3, 6] (fun nv iv => ∃ (z : Int) (k : Nat), k ≤ l.length ∧ nv = .int .i64 z ∧ iv = .int .i64 k) (fun nv iv => l.length - (intOf iv).toNat)
          case atStart => exact ⟨_, 0, Nat.zero_le _, rfl, rfl⟩
          case round =>
            obtain ⟨z3, m, hm, rfl, rfl⟩ := hrel
            by_cases hlt3 : m < l.length
            · obtain ⟨b3, off3, c3, e3, hbl3, rC⟩ := cell_cells sD m hlt3
              cases e3
              have hmd : (m : Int) < l.length := by omega
              have r2 := rC 2 _ rfl
              go_wp2
              go_round
              case rel => exact ⟨_, m + 1, by omega, rfl, by go_num⟩
              case measure => simp [intOf]; omega
            · obtain rfl : m = l.length := by omega
              go_wp2
              go_round
              case rel => exact ⟨_, j + 1, by omega, rfl, by go_num⟩
              case measure => simp [intOf]; omega
        · obtain rfl : j = D.length := by omega
          by_cases h1 : L.length ≤ 70
          · by_cases h2 : D.length ≤ 70
            · go_wp2
              all_goals
                go_ret
                first
                  | exact ⟨⟨_, rfl⟩, g0⟩
                  | exact ⟨⟨_, by simp; rfl⟩, g0⟩
            · go_wp2
              all_goals
                go_ret
                first
                  | exact ⟨⟨_, rfl⟩, g0⟩
                  | exact ⟨⟨_, by simp; rfl⟩, g0⟩
          · go_wp2
            all_goals
              go_ret
              first
                | exact ⟨⟨_, rfl⟩, g0⟩
                | exact ⟨⟨_, by simp; rfl⟩, g0⟩
end Go.Proofs.Ytfnfcioofkeanaa
