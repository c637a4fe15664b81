/-
  SchemaGets: the walk.
-/
import Derived.Test.YtllidfhdklfkmaaLaw16Small
import Derived.Test.YtllidfhdklfkmaaSoft
import Derived.Test.YtllidfhdklfkmaaOpen
namespace Go.Proofs.Ytllidfhdklfkmaa
open Go.RowKit

set_option maxRecDepth 100000 in
set_option maxHeartbeats 8000000 in
theorem schemaGets_run (w : World) (v0 : Value) (l : List UInt8) (h0 : Sl w v0 l.length (bcs l)) (hb : l.length * 1 ≤ 140737488351232) :
    Calls Try.prog 11 #[v0] w fun e w' => e = .returned (.bool true) ∧ Chg [] w w' := by
  obtain ⟨a0, c0, rfl⟩ := h0.shape
  go_enter Try.func11, Try.ntmps11
  go_wp2_with fail
  refine (small16_ok w).mono ?_
  rintro e w1 ⟨rfl, g1⟩
  go_wp2_with fail
  refine (over_ok w1 _ l (h0.tr0 g1) (by unfold big; omega)).mono ?_
  rintro e w3 ⟨p, rfl, hp, c3, g3⟩
  have g13 := g1.t0 g3
  have hp' : w.heap.size ≤ p := Nat.le_trans g1.size hp
  clear g3 g1
  by_cases hl : 1500 < l.length
  · go_wp2
    go_ret
    exact ⟨rfl, g13⟩
  go_wp2_with fail
  have hal : Chg [] w3 (w3.alloc (.cells #[.slice a0 l.length c0, .bool false] 40)) := Chg.alloc [] w3 _
  have hd := RCur.mk0 h0 g13 (by unfold big; omega)
  have hpq : p < w3.heap.size := c3.lt
  have hq' : w.heap.size ≤ w3.heap.size := g13.size
  have g14 := g13.t0 hal
  have c4 := c3.tr0 hal
  clear hal g13 c3 h0
  have hql := hd.lt
  generalize w3.alloc (.cells #[.slice a0 l.length c0, .bool false] 40) = w4 at *
  generalize w3.heap.size = q at *
  clear hp
  refine (sget_ok w4 p _ c4).mono ?_
  rintro e w5 ⟨vx, rfl, ox, c5, g5⟩
  have d5 := hd.tr g5 (by simp; omega) (by simpa using hp')
  have g15 := g14.tn g5 hp'
  have hw5 := g5.size
  clear c4 hd g5 g14
  have e5 : ∃ n, n = w5.heap.size := ⟨_, rfl⟩
  have hq5 := d5.lt
  go_wp2_with fail
  refine (rsget_ok _ w5 q _ d5).mono ?_
  rintro e w6 ⟨vy, rfl, oy, d6, g6⟩
  have c6 := c5.trR g6 d5
  have g16 := g15.tn g6 hq'
  have sx := (Sl.ofOwns ox).tr1 g6 (own_ne ox hql)
  have sy := Sl.ofOwns oy
  obtain ⟨ax, kx, rfl⟩ := sx.shape
  obtain ⟨ay, ky, rfl⟩ := sy.shape
  have hx := sx.le
  clear c5 d5 g15 ox oy g6
  generalize CS.gcols ⟨l, false⟩ = R at *
  obtain ⟨L, s⟩ := R
  dsimp only at *
  obtain ⟨aD, cD, k0, k1⟩ := reads_tail d6
  have kS : ∀ w, Chg [] w6 w → Calls Try.prog 38 #[.slice ax L.length kx, .slice ay L.length ky] w fun e w' => e = .returned (.bool true) ∧ Chg [] w w' := fun w g =>
    (rschema_ok w _ _ L L (sx.tr0 g) (sy.tr0 g) hx).mono fun e w' ⟨h1, h2⟩ => ⟨by rw [h1]; simp, h2⟩
  have kL := left_C c6
  have kB := bad_C c6
  go_wp2_with fail
  refine region_quietC (by kernel_rfl) (by kernel_rfl) ?_
  repeat (first
    | (refine quiet_cellC rfl _ _ rfl _ rfl _ _ k0 Try.underlying22 rfl ?_)
    | (refine quiet_cellC rfl _ _ rfl _ rfl _ _ k1 Try.underlying4 rfl ?_)
    | quiet_step ((intro hx; first | rfl | with_reducible exact Calls.quietC hx (kS _ hx) | with_reducible exact Calls.quietC hx (kL _ hx) | with_reducible exact Calls.quietC hx (kB _ hx))))
  refine wpQuiet_nil ?_
  intro w7 g7
  go_wp2
  go_ret
  exact ⟨rfl, g16.t0 g7⟩
end Go.Proofs.Ytllidfhdklfkmaa
