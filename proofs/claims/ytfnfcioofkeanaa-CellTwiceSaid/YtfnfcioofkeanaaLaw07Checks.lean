/-
  CellChecks: the walk.
-/
import Derived.Test.YtfnfcioofkeanaaFew
import Derived.Test.YtfnfcioofkeanaaTab3
import Derived.Test.YtfnfcioofkeanaaOpenT
import Derived.Test.YtfnfcioofkeanaaSmall7
namespace Go.Proofs.Ytfnfcioofkeanaa
set_option linter.unusedSimpArgs false
set_option linter.unusedVariables false
open Go.RowKit

theorem okT.small {w : World} {x : Value × List Col × Int × Value × Rows2} (h : okT w x) : x.2.1.length ≤ maxLen ∧ x.2.2.2.2.length ≤ maxLen ∧ ∀ r ∈ x.2.2.2.2, r.2.length ≤ maxLen := by
  obtain ⟨_, _, h1, _, _, h2, h3⟩ := h
  unfold maxLen
  exact ⟨by omega, by omega, fun r hr => by have := (h2 r hr).2; omega⟩
set_option maxHeartbeats 8000000 in
set_option maxRecDepth 100000 in
theorem checks7_run (w : World) (vc vd : Value) (L : List Col) (rows : Int) (D : Rows2) (hok : okT w (vc, L, rows, vd, D)) :
    Calls Try.prog 8 #[.agg #[vc, .int .i64 rows, vd]] w fun e w' => e = .returned (.bool true) ∧ Chg [] w w' := by
  obtain ⟨l1, l2, l3⟩ := hok.small
  obtain ⟨hc, hL, _, _, hd, _, _⟩ := hok
  dsimp only at *
  replace hL := okCol.wide hL
  have kF := fun w' (g : Chg [] w w') => few_ok w' vc vd L rows D (hc.tr0 g) (hd.tr0 g) l1 l2 l3
  have kC := fun w' (g : Chg [] w w') => check_ok w' vc vd ⟨L, rows, D.map (·.2)⟩ D (hc.tr0 g) (hd.tr0 g) rfl hL l1 l2
  have kR := fun w' (g : Chg [] w w') => rcheck_ok w' vc vd ⟨L, rows, D.map (·.2)⟩ D (hc.tr0 g) (hd.tr0 g) rfl hL l1 l2
  have kO := fun w' (g : Chg [] w w') => cols_ok w' vc L hL (hc.tr0 g) l1
  have kP := fun w' (g : Chg [] w w') => rcols_ok w' vc L hL (hc.tr0 g) l1
  obtain ⟨a0, c0, rfl⟩ := hc.shape
  obtain ⟨a1, c1, rfl⟩ := hd.1.shape
  dsimp only at *
  generalize checkV ⟨L, rows, D.map (·.2)⟩ = A at *
  generalize colsV L = B at *
  clear hc hd hL l1 l2 l3
  have g0 := Chg.alloc [] w (.cells #[.slice a0 L.length c0, .int .i64 rows, .slice a1 D.length c1] 42)
  have ba := heap_alloc_new w (.cells #[.slice a0 L.length c0, .int .i64 rows, .slice a1 D.length c1] 42)
  go_enter Try.func8, Try.ntmps8
  go_wp2_with fail
  generalize w.alloc (.cells #[.slice a0 L.length c0, .int .i64 rows, .slice a1 D.length c1] 42) = w1 at *
  refine (small07_ok _).mono ?_
  rintro e w2 ⟨rfl, g⟩
  replace ba := g.heap ba (by simp)
  replace g0 := g0.t0 g
  clear g
  obtain ⟨k0, k1, k2⟩ := cells3'' ba
  go_wp2_with fail
  refine (kF _ g0).mono ?_
  rintro e w3 ⟨⟨b, rfl⟩, g⟩
  replace ba := g.heap ba (by simp)
  replace g0 := g0.t0 g
  clear g k0 k1 k2 kF
  obtain ⟨k0, k1, k2⟩ := cells3'' ba
  have ra := ra_block ba
  cases b
  · go_wp2
    go_ret
    exact ⟨rfl, g0⟩
  · go_wp2_with fail
    have kC' := fun w' (g : Chg [] w3 w') => kC w' (g0.t0 g)
    have kR' := fun w' (g : Chg [] w3 w') => kR w' (g0.t0 g)
    have kO' := fun w' (g : Chg [] w3 w') => kO w' (g0.t0 g)
    have kP' := fun w' (g : Chg [] w3 w') => kP w' (g0.t0 g)
    clear kC kR kO kP
    refine region_quietC (by kernel_rfl) (by kernel_rfl) ?_
    repeat (first
      | (refine quiet_loadC rfl _ _ rfl _ _ rfl _ _ ra Try.underlying42 rfl (by kernel_rfl) ?_; dsimp only [Act.put]; simp only [List.setIfInBounds_toArray, List.set_cons_succ, List.set_cons_zero])
      | (refine quiet_cellC rfl _ _ rfl _ rfl _ _ k0 Try.underlying25 rfl ?_; dsimp only [Act.put]; simp only [List.setIfInBounds_toArray, List.set_cons_succ, List.set_cons_zero])
      | quiet_step ((intro hx; first | rfl | with_reducible exact Calls.quietC hx (kC' _ hx) | with_reducible exact Calls.quietC hx (kR' _ hx) | with_reducible exact Calls.quietC hx (kO' _ hx) | with_reducible exact Calls.quietC hx (kP' _ hx))))
    refine wpQuiet_nil ?_
    intro w4 g
    go_wp2
    go_ret
    exact ⟨by simp, g0.t0 g⟩
theorem cellChecks_run (w : World) (x : Value × List Col × Int × Value × Rows2) (hok : okT w x) :
    Calls Try.prog 8 #[.agg [x.1, .int .i64 x.2.2.1, x.2.2.2.1].toArray] w fun e w' => e = .returned (.bool true) ∧ Chg [] w w' :=
  checks7_run w x.1 x.2.2.2.1 x.2.1 x.2.2.1 x.2.2.2.2 hok
end Go.Proofs.Ytfnfcioofkeanaa
