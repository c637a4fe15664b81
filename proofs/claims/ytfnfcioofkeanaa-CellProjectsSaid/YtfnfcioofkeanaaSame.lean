/-
  hypostyleref07.Cells and .Same of what is alike.
-/
import Derived.Test.YtfnfcioofkeanaaProj2
import Derived.Test.YtfnfcioofkeanaaCols2
namespace Go.Proofs.Ytfnfcioofkeanaa
set_option linter.unusedSimpArgs false
set_option linter.unusedVariables false
open Go.RowKit

set_option maxHeartbeats 2000000 in
set_option maxRecDepth 100000 in
theorem rcells_same (w : World) (v1 v2 : Value) (L : List Cell) (h1 : Sl w v1 L.length (L.flatMap cellc)) (h2 : Sl w v2 L.length (L.flatMap cellc)) (hb : L.length ≤ maxLen) :
    Calls Try.prog 54 #[v1, v2] w fun e w' => e = .returned (.bool true) ∧ Chg [] w w' := by
  obtain ⟨a1, c1, rfl⟩ := h1.shape
  obtain ⟨a2, c2, rfl⟩ := h2.shape
  unfold maxLen at hb
  go_enter Try.func54, Try.ntmps54
  go_wp2_with fail
  go_loopw [5] (fun iv wr => ∃ (k : Nat), k ≤ L.length ∧ iv = .int .i64 k ∧ Chg [] w wr) (fun iv _ => L.length - (intOf iv).toNat)
  case atStart => exact ⟨0, Nat.zero_le _, rfl, Chg.refl _ _⟩
  case round =>
    obtain ⟨k, hk, rfl, hch⟩ := hrel
    by_cases hlt : k < L.length
    · obtain ⟨b, off, c, e, hbl, r1⟩ := cell_cells (h1.tr0 hch) k hlt
      cases e
      obtain ⟨b2, off2, c, e, hbl2, r2⟩ := cell_cells (h2.tr0 hch) k hlt
      cases e
      have hkl : (k : Int) < L.length := by omega
      have hk0 : (0 : Int) ≤ k := by omega
      have EQ := fun w => neq_cell w L[k] L[k]
      have hB : decide (L[k] ≠ L[k]) = false := by simp
      rw [hB] at EQ
      clear hB
      have EG := fun w x y => run_eqGuard_agg (P := Try.prog) w .neq 54 x y (cellc L[k]).toArray (cellc L[k]).toArray (by kernel_rfl)
      generalize L[k] = x at *
      go_wp2_with fail
      refine region_quietC (by kernel_rfl) (by kernel_rfl) ?_
      repeat (first
        | (refine quiet_loadC rfl _ _ rfl _ _ rfl _ _ r1 Try.underlying54 rfl (by kernel_rfl) ?_)
        | (refine quiet_loadC rfl _ _ rfl _ _ rfl _ _ r2 Try.underlying54 rfl (by kernel_rfl) ?_)
        | quiet_step ((intro hx; first | rfl)))
      refine wpQuiet_nil ?_
      intro w' g
      go_wp2
      go_roundw
      case rel => exact ⟨k + 1, by omega, by go_num, hch.t0 g⟩
      case measure => simp [intOf]; omega
    · have hkl : k = L.length := by omega
      subst hkl
      clear h1 h2
      go_wp2
      go_ret
      exact ⟨rfl, hch⟩
set_option maxHeartbeats 4000000 in
set_option maxRecDepth 100000 in
theorem rsame_same (w : World) (vc vd uc ud : Value) (L : List Col) (rows : Int) (D E : Rows2) (h1 : Sl w vc L.length (L.flatMap colc)) (h2 : Sl w uc L.length (L.flatMap colc)) (hL : L.length ≤ maxLen)
    (hd : Sl2 w vd D) (he : Sl2 w ud E) (hDE : D.map (·.2) = E.map (·.2)) (hdl : D.length ≤ maxLen) (hin : ∀ x ∈ D, x.2.length ≤ maxLen) :
    Calls Try.prog 30 #[.agg #[vc, .int .i64 rows, vd], .agg #[uc, .int .i64 rows, ud]] w fun e w' => e = .returned (.bool true) ∧ Chg [] w w' := by
  obtain ⟨a1, c1, rfl⟩ := h1.shape
  obtain ⟨a2, c2, rfl⟩ := h2.shape
  obtain ⟨a3, c3, rfl⟩ := hd.1.shape
  obtain ⟨a4, c4, rfl⟩ := he.1.shape
  have hlen : E.length = D.length := by have := congrArg List.length hDE; simpa using this.symm
  rw [hlen]
  unfold maxLen at hdl
  replace hlen := Lib.hid hlen
  replace hin := Lib.hid hin
  have kS := fun wx (g : Chg [] w wx) => rschema_ok wx _ _ L L (h1.tr0 g) (h2.tr0 g) hL
  simp only [decide_true] at kS
  go_enter Try.func30, Try.ntmps30
  go_wp2_with fail
  have g0 : Chg [] w ((w.alloc (.cells #[.slice a1 L.length c1, .int .i64 rows, .slice a3 D.length c3] 42)).alloc (.cells #[.slice a2 L.length c2, .int .i64 rows, .slice a4 D.length c4] 42)) := (Chg.alloc _ _ _).t0 (Chg.alloc _ _ _)
  have b1 := (Chg.alloc [] (w.alloc (.cells #[.slice a1 L.length c1, .int .i64 rows, .slice a3 D.length c3] 42)) (.cells #[.slice a2 L.length c2, .int .i64 rows, .slice a4 D.length c4] 42)).heap (heap_alloc_new w (.cells #[.slice a1 L.length c1, .int .i64 rows, .slice a3 D.length c3] 42)) (by simp)
  have b2 := heap_new1 w (.cells #[.slice a1 L.length c1, .int .i64 rows, .slice a3 D.length c3] 42) (.cells #[.slice a2 L.length c2, .int .i64 rows, .slice a4 D.length c4] 42)
  generalize (w.alloc (.cells #[.slice a1 L.length c1, .int .i64 rows, .slice a3 D.length c3] 42)).alloc (.cells #[.slice a2 L.length c2, .int .i64 rows, .slice a4 D.length c4] 42) = w1 at *
  refine (kS w1 g0).mono ?_
  rintro e w2 ⟨rfl, g2⟩
  replace b1 := g2.heap b1 (by simp)
  replace b2 := g2.heap b2 (by simp)
  replace g0 := g0.t0 g2
  clear g2 kS
  go_wp2_with fail
  go_loopw [5] (fun iv wr => ∃ (k : Nat), k ≤ D.length ∧ iv = .int .i64 k ∧ Chg [] w2 wr) (fun iv _ => D.length - (intOf iv).toNat)
  case atStart => exact ⟨0, Nat.zero_le _, rfl, Chg.refl _ _⟩
  case round =>
    obtain ⟨k, hk, rfl, hch⟩ := hrel
    obtain ⟨p0, p1, p2⟩ := cells3'' (hch.heap b1 (by simp))
    obtain ⟨q0, q1, q2⟩ := cells3'' (hch.heap b2 (by simp))
    have gg := g0.t0 hch
    by_cases hlt : k < D.length
    · have hltE : k < E.length := by have := hlen.out; omega
      obtain ⟨b, off, c, e, hbl, x1, s1⟩ := (hd.tr0 gg).cell k hlt
      cases e
      have he2 := he.tr0 gg
      obtain ⟨b', off', c, e, hbl', x1', s1'⟩ := he2.cell k hltE
      cases e
      have hkl : (k : Int) < D.length := by omega
      have hk0 : (0 : Int) ≤ k := by omega
      have hx : D[k].2 = E[k].2 := by
        have := congrArg (fun l => l[k]?) hDE
        simpa [hlt, hltE] using this
      have hbd := hin.out _ (List.getElem_mem hlt)
      rw [← hx] at s1'
      generalize D[k] = y at *
      generalize E[k] = y' at *
      obtain ⟨y0, y1⟩ := y
      obtain ⟨z0, z1⟩ := y'
      dsimp only at *
      clear hx
      have kC := fun wx (g : Chg [] wr wx) => rcells_same wx y0 z0 y1 (s1.tr0 g) (s1'.tr0 g) hbd
      clear s1 s1' hin
      go_wp2_with fail
      refine region_quietC (by kernel_rfl) (by kernel_rfl) ?_
      repeat (first
        | (refine quiet_cellC rfl _ _ rfl _ rfl _ _ p2 Try.underlying40 rfl ?_)
        | (refine quiet_cellC rfl _ _ rfl _ rfl _ _ q2 Try.underlying40 rfl ?_)
        | (refine quiet_cellC rfl _ _ rfl _ rfl _ _ x1 Try.underlying50 rfl ?_)
        | (refine quiet_cellC rfl _ _ rfl _ rfl _ _ x1' Try.underlying50 rfl ?_)
        | quiet_step ((intro hx; first | rfl | with_reducible exact Calls.quietC hx (kC _ hx))))
      refine wpQuiet_nil ?_
      intro w3 g3
      go_wp2
      go_roundw
      case rel => exact ⟨k + 1, by omega, by go_num, hch.t0 g3⟩
      case measure => simp [intOf]; omega
    · have hkl : k = D.length := by omega
      subst hkl
      go_wp2
      go_ret
      exact ⟨rfl, gg⟩
end Go.Proofs.Ytfnfcioofkeanaa
