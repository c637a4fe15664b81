/-
  PointReckons: the walk.
-/
import Derived.Test.YtdfjpdgamahicaaPoint7
import Derived.Test.YtdfjpdgamahicaaOpenP
namespace Go.Proofs.Ytdfjpdgamahicaa
open Go.RowKit

set_option maxHeartbeats 4000000 in
theorem reckons_run (w : World) (x y u v n : Int) (hn : -9223372036854775808 ≤ n ∧ n ≤ 9223372036854775807) (a b : Bool) (h1 : nearB x y = a) (h2 : nearB u v = b) :
    Calls Try.prog 3 #[pt x y, pt u v, .int .i64 n] w fun e w' => e = .returned (.bool true) ∧ Chg [] w w' := by
  have kn1 : ∀ w, Calls Try.prog 7 #[.agg #[.int .i64 x, .int .i64 y]] w fun e w' => e = .returned (.bool a) ∧ Chg [] w w' := fun w => h1 ▸ near_ok w x y
  have kn2 : ∀ w, Calls Try.prog 7 #[.agg #[.int .i64 u, .int .i64 v]] w fun e w' => e = .returned (.bool b) ∧ Chg [] w w' := fun w => h2 ▸ near_ok w u v
  have kr1 := fun w => right_ok w x y
  have kr2 := fun w => rright_ok w x y
  generalize rightB x y = R at *
  have hRR : (R != R) = false := by simp
  have P0 : ((w.alloc (.cells #[.int .i64 x, .int .i64 y] 23)).alloc (.cells #[.int .i64 u, .int .i64 v] 23)).heap[w.heap.size]? = some (.cells #[.int .i64 x, .int .i64 y] 23) := heap_lit_old (heap_alloc_new w _)
  have Q0 : ((w.alloc (.cells #[.int .i64 x, .int .i64 y] 23)).alloc (.cells #[.int .i64 u, .int .i64 v] 23)).heap[w.heap.size + 1]? = some (.cells #[.int .i64 u, .int .i64 v] 23) := heap_lit_new _ _ _ (by simp)
  have G0 : Chg [] w ((w.alloc (.cells #[.int .i64 x, .int .i64 y] 23)).alloc (.cells #[.int .i64 u, .int .i64 v] 23)) := (Chg.alloc _ _ _).t0 (Chg.alloc _ _ _)
  replace P0 := Lib.hid P0
  replace Q0 := Lib.hid Q0
  have H1 := Lib.hid h1
  have H2 := Lib.hid h2
  obtain ⟨hn1, hn2⟩ := hn
  clear h1 h2
  unfold pt at *
  go_enter Try.func3, Try.ntmps3
  go_wp2_with (first
    | (go_at_call 6; refine (small_ok _).mono ?_; rintro e w1 ⟨rfl, g1⟩; have P1 := g1.heap P0.out (by simp); have Q1 := g1.heap Q0.out (by simp); obtain ⟨_, _, _, _⟩ := cells2 P1; replace P1 := Lib.hid P1; replace Q1 := Lib.hid Q1)
    | (go_at_call 7; (with_reducible refine (kn1 _).mono ?_); rintro e w2 ⟨rfl, g2⟩; have P2 := g2.heap P1.out (by simp); have Q2 := g2.heap Q1.out (by simp); obtain ⟨_, _, _, _⟩ := cells2 Q2; replace P2 := Lib.hid P2; replace Q2 := Lib.hid Q2)
    | (go_at_call 7; (with_reducible refine (kn2 _).mono ?_); rintro e w3 ⟨rfl, g3⟩; have P3 := g3.heap P2.out (by simp); have Q3 := g3.heap Q2.out (by simp); replace P3 := Lib.hid P3; replace Q3 := Lib.hid Q3))
  have c0 := ra_block P3.out
  have c1 := ra_block Q3.out
  refine region_quietC (by kernel_rfl) (by kernel_rfl) ?_
  repeat (first
    | (refine quiet_loadC rfl _ _ rfl _ _ rfl _ _ c0 Try.underlying23 rfl (by kernel_rfl) ?_)
    | (refine quiet_loadC rfl _ _ rfl _ _ rfl _ _ c1 Try.underlying23 rfl (by kernel_rfl) ?_)
    | quiet_step ((intro hx; first | rfl | with_reducible exact Calls.quietC hx (kr1 _) | with_reducible exact Calls.quietC hx (kr2 _))))
  refine wpQuiet_nil ?_
  intro w4 g4
  have c0 := g4.range c0 (by simp)
  have c1 := g4.range c1 (by simp)
  have GG : Chg [] w w4 := (((G0.t0 g1).t0 g2).t0 g3).t0 g4
  cases a
  · go_wp2
    go_ret
    exact ⟨rfl, GG⟩
  cases b
  · go_wp2
    go_ret
    exact ⟨rfl, GG⟩
  obtain ⟨nx, ny⟩ := nearB_near H1.out
  obtain ⟨nu, nv⟩ := nearB_near H2.out
  go_wp2
  have ka1 := fun w => add_ok w x y u v nx ny nu nv
  have ka2 := fun w => radd_ok w x y u v nx ny nu nv
  have ks1 := fun w => sub_ok w x y u v nx ny nu nv
  have ks2 := fun w => rsub_ok w x y u v nx ny nu nv
  have km1 := fun w => mul_ok w x y u v nx ny nu nv
  have km2 := fun w => rmul_ok w x y u v nx ny nu nv
  have kt1 := fun w => turn_ok w x y n nx ny hn1 hn2
  have kt2 := fun w => rturn_ok w x y n nx ny hn1 hn2
  have ko1 := fun w => norm_ok w x y nx ny
  have ko2 := fun w => rnorm_ok w x y nx ny
  have kc1 := fun w => compare_ok w x y u v nx ny nu nv
  have kc2 := fun w => rcompare_ok w x y u v nx ny nu nv
  generalize x + u = A1 at *
  generalize y + v = A2 at *
  generalize x - u = A3 at *
  generalize y - v = A4 at *
  generalize x * u - y * v = A5 at *
  generalize x * v + y * u = A6 at *
  generalize (rot (quarters n) (x, y)).1 = A7 at *
  generalize (rot (quarters n) (x, y)).2 = A8 at *
  generalize normP x y = A9 at *
  generalize cmpP x y u v = A10 at *
  unfold pt at *
  refine region_quietC (by kernel_rfl) (by kernel_rfl) ?_
  repeat (first
    | (refine quiet_loadC rfl _ _ rfl _ _ rfl _ _ c0 Try.underlying23 rfl (by kernel_rfl) ?_)
    | (refine quiet_loadC rfl _ _ rfl _ _ rfl _ _ c1 Try.underlying23 rfl (by kernel_rfl) ?_)
    | quiet_step ((intro hx; first | rfl | with_reducible exact Calls.quietC hx (ka1 _) | with_reducible exact Calls.quietC hx (ka2 _) | with_reducible exact Calls.quietC hx (ks1 _) | with_reducible exact Calls.quietC hx (ks2 _) | with_reducible exact Calls.quietC hx (km1 _) | with_reducible exact Calls.quietC hx (km2 _) | with_reducible exact Calls.quietC hx (kt1 _) | with_reducible exact Calls.quietC hx (kt2 _) | with_reducible exact Calls.quietC hx (ko1 _) | with_reducible exact Calls.quietC hx (ko2 _) | with_reducible exact Calls.quietC hx (kc1 _) | with_reducible exact Calls.quietC hx (kc2 _))))
  refine wpQuiet_nil ?_
  intro w5 g5
  go_wp2
  go_ret
  exact ⟨rfl, GG.t0 g5⟩
theorem pointReckons_run (w : World) (p q : Int × Int) (n : Int) (_ : I64 p.1 ∧ I64 p.2) (_ : I64 q.1 ∧ I64 q.2) (hn : (Lit.int .i64 n).wf = true) :
    Calls Try.prog 3 #[pt p.1 p.2, pt q.1 q.2, .int .i64 n] w fun e w' => e = .returned (.bool true) ∧ Chg [] w w' :=
  reckons_run w p.1 p.2 q.1 q.2 n (i64_wf hn) _ _ rfl rfl
end Go.Proofs.Ytdfjpdgamahicaa
