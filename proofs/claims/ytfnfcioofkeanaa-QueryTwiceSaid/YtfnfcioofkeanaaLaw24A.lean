/-
  QueryEncodes, QueryDecodes, QueryBack, QueryApart: the walks.
-/
import Derived.Test.YtfnfcioofkeanaaLaw24Small
import Derived.Test.YtfnfcioofkeanaaOpenQ
namespace Go.Proofs.Ytfnfcioofkeanaa
open Go.RowKit

theorem encR_len (q : Qu) : (encR q).length ≤ 1000 := by
  unfold encR
  split
  · rename_i h
    have h1 := mayQ_bounds h
    have h2 := nputs_len (q.cols ++ [q.lo, q.hi]) (fun n hn => (all_small h n hn).2)
    have h3 : (vput q.cols.length).length ≤ 10 := vsize_ten (by omega)
    unfold encB
    rw [List.length_append]
    simp only [List.length_append, List.length_cons, List.length_nil] at h2
    omega
  · simp

set_option maxRecDepth 100000 in
set_option maxHeartbeats 8000000 in
theorem queryEncodes_run (w : World) (x : Value × Qu) (y : Value × Int × Value) (hx : okQ w x) (hy : (∃ a n c, y.1 = .slice a n c) ∧ I64 y.2.1 ∧ ∃ a n c, y.2.2 = .slice a n c) :
    Calls Try.prog 3 #[.agg #[x.1, .int .i64 x.2.lo, .int .i64 x.2.hi], .agg #[y.1, .int .i64 y.2.1, y.2.2]] w fun e w' => e = .returned (.bool true) ∧ Chg [] w w' := by
  obtain ⟨v, q⟩ := x
  obtain ⟨yv, rows, yg⟩ := y
  obtain ⟨hs, _, hb, _, _⟩ := hx
  obtain ⟨⟨fa, fn, fc, hfv⟩, _, ⟨ga, gn, gc, hgv⟩⟩ := hy
  dsimp only at *
  subst hfv hgv
  obtain ⟨a0, c0, rfl⟩ := hs.shape
  have hbm : q.cols.length ≤ maxLen := by unfold maxLen; omega
  go_enter Try.func3, Try.ntmps3
  go_wp2_with fail
  have bq := heap_alloc_new w (.cells #[.slice a0 q.cols.length c0, .int .i64 q.lo, .int .i64 q.hi] 24)
  have gq := Chg.alloc [] w (.cells #[.slice a0 q.cols.length c0, .int .i64 q.lo, .int .i64 q.hi] 24)
  have bf := heap_alloc_new (w.alloc (.cells #[.slice a0 q.cols.length c0, .int .i64 q.lo, .int .i64 q.hi] 24)) (.cells #[.slice fa fn fc, .int .i64 rows, .slice ga gn gc] 28)
  have gf := Chg.alloc [] (w.alloc (.cells #[.slice a0 q.cols.length c0, .int .i64 q.lo, .int .i64 q.hi] 24)) (.cells #[.slice fa fn fc, .int .i64 rows, .slice ga gn gc] 28)
  rw [World.size_alloc1] at bf
  replace bq := gf.heap bq (by simp)
  have g0 := gq.t0 gf
  clear gq gf
  generalize (w.alloc (.cells #[.slice a0 q.cols.length c0, .int .i64 q.lo, .int .i64 q.hi] 24)).alloc (.cells #[.slice fa fn fc, .int .i64 rows, .slice ga gn gc] 28) = w0 at *
  generalize w.heap.size + 1 = fb at *
  refine (small24_ok w0).mono ?_
  rintro e w1 ⟨rfl, g1⟩
  replace bq := g1.heap bq (by simp)
  replace bf := g1.heap bf (by simp)
  replace g0 := g0.t0 g1
  replace hs := hs.tr0 g0
  clear g1
  obtain ⟨q0, q1, q2, _, _, _⟩ := cells3' bq
  obtain ⟨f0, f1, f2, _, _, _⟩ := cells3' bf
  by_cases hl : 100 < q.cols.length
  · go_wp2
    go_ret
    exact ⟨rfl, g0⟩
  by_cases hl2 : 100 < fn
  · go_wp2
    go_ret
    exact ⟨rfl, g0⟩
  go_wp2_with fail
  refine (enc_ok w1 _ q hs hbm).mono ?_
  rintro e w2 ⟨va, rfl, o2, g2⟩
  replace bq := g2.heap bq (by simp)
  replace bf := g2.heap bf (by simp)
  replace g0 := g0.t0 g2
  replace hs := hs.tr0 g2
  have sa := Sl.ofOwns o2
  clear g2 o2 q0 q1 q2 f0 f1 f2
  obtain ⟨q0, q1, q2, _, _, _⟩ := cells3' bq
  go_wp2_with fail
  refine (renc_ok w2 _ q hs hbm).mono ?_
  rintro e w3 ⟨vb, rfl, o3, g3⟩
  replace bq := g3.heap bq (by simp)
  replace bf := g3.heap bf (by simp)
  replace g0 := g0.t0 g3
  replace hs := hs.tr0 g3
  replace sa := sa.tr0 g3
  have sb := Sl.ofOwns o3
  clear g3 o3 q0 q1 q2
  have rq := ra_block bq
  have rf := ra_block bf
  have kF : ∀ w', Chg [] w3 w' → Calls Try.prog 17 #[.agg #[.slice a0 q.cols.length c0, .int .i64 q.lo, .int .i64 q.hi], .agg #[.slice fa fn fc, .int .i64 rows, .slice ga gn gc]] w' fun e w'' => e = .returned (.bool (fitQ q fn rows)) ∧ Chg [] w' w'' := fun w' g => fitQ_ok w' (.slice a0 q.cols.length c0) q fa fn fc rows ga gn gc (hs.tr0 g) hbm
  have kR : ∀ w', Chg [] w3 w' → Calls Try.prog 18 #[.agg #[.slice a0 q.cols.length c0, .int .i64 q.lo, .int .i64 q.hi], .agg #[.slice fa fn fc, .int .i64 rows, .slice ga gn gc]] w' fun e w'' => e = .returned (.bool (fitQ q fn rows)) ∧ Chg [] w' w'' := fun w' g => rfitQ_ok w' (.slice a0 q.cols.length c0) q fa fn fc rows ga gn gc (hs.tr0 g) hbm
  generalize fitQ q fn rows = FQ at *
  generalize mayQ q = MQ at *
  generalize encR q = RQ at *
  clear bq bf
  go_wp2_with fail
  refine region_quietC (by kernel_rfl) (by kernel_rfl) ?_
  repeat (first
    | (refine quiet_loadC rfl _ _ rfl _ _ rfl _ _ rq Try.underlying24 rfl (by kernel_rfl) ?_)
    | (refine quiet_loadC rfl _ _ rfl _ _ rfl _ _ rf Try.underlying28 rfl (by kernel_rfl) ?_)
    | (refine quiet_strC rfl _ _ _ rfl _ rfl _ Try.underlying30 Try.underlying5 Try.underlying9 _ _ sa rfl ?_)
    | (refine quiet_strC rfl _ _ _ rfl _ rfl _ Try.underlying30 Try.underlying5 Try.underlying9 _ _ sb rfl ?_)
    | quiet_step ((intro hx; first | rfl | with_reducible exact Calls.quietC hx (kF _ hx) | with_reducible exact Calls.quietC hx (kR _ hx))))
  refine wpQuiet_nil ?_
  intro w4 g4
  go_wp2
  go_ret
  exact ⟨rfl, g0.t0 g4⟩

set_option maxRecDepth 100000 in
set_option maxHeartbeats 8000000 in
theorem queryDecodes_run (w : World) (v : Value) (b : List UInt8) (hs : Sl w v b.length (bcs b)) (hb : b.length * 1 ≤ 140737488351232) :
    Calls Try.prog 4 #[v] w fun e w' => e = .returned (.bool true) ∧ Chg [] w w' := by
  obtain ⟨a0, c0, rfl⟩ := hs.shape
  go_enter Try.func4, Try.ntmps4
  go_wp2_with fail
  refine (small24_ok w).mono ?_
  rintro e w1 ⟨rfl, g1⟩
  by_cases hl : 500 < b.length
  · go_wp2
    go_ret
    exact ⟨rfl, g1⟩
  go_wp2_with fail
  refine (dec_ok w1 _ b (hs.tr0 g1) (by unfold big; omega)).mono ?_
  rintro e w2 ⟨vx, rfl, sx, g2⟩
  have g02 := g1.t0 g2
  obtain ⟨ax, cx, rfl⟩ := sx.shape
  have hxl := sx.le
  clear g1 g2
  unfold qv
  go_wp2_with fail
  have bx := heap_alloc_new w2 (.cells #[.slice ax (decQ b).1.cols.length cx, .int .i64 (decQ b).1.lo, .int .i64 (decQ b).1.hi] 24)
  have gx := Chg.alloc [] w2 (.cells #[.slice ax (decQ b).1.cols.length cx, .int .i64 (decQ b).1.lo, .int .i64 (decQ b).1.hi] 24)
  have g03 := g02.t0 gx
  replace sx := sx.tr0 gx
  clear g02 gx
  generalize w2.alloc (.cells #[.slice ax (decQ b).1.cols.length cx, .int .i64 (decQ b).1.lo, .int .i64 (decQ b).1.hi] 24) = w3 at *
  generalize w2.heap.size = xb at *
  refine (rdec_ok w3 _ b (hs.tr0 g03) (by unfold big; omega)).mono ?_
  rintro e w4 ⟨vy, rfl, sy, g4⟩
  replace bx := g4.heap bx (by simp)
  replace sx := sx.tr0 g4
  have g04 := g03.t0 g4
  obtain ⟨ay, cy, rfl⟩ := sy.shape
  clear g4 g03
  generalize decQ b = D at *
  obtain ⟨q, B⟩ := D
  dsimp only at *
  unfold qv
  have by1 := heap_alloc_new w4 (.cells #[.slice ay q.cols.length cy, .int .i64 q.lo, .int .i64 q.hi] 24)
  have gy := Chg.alloc [] w4 (.cells #[.slice ay q.cols.length cy, .int .i64 q.lo, .int .i64 q.hi] 24)
  replace bx := gy.heap bx (by simp)
  obtain ⟨x0, x1, x2, _, _, _⟩ := cells3' bx
  go_wp2_with fail
  refine (rsame_ok _ (.slice ax q.cols.length cx) (.slice ay q.cols.length cy) q q (sx.tr0 gy) (sy.tr0 gy) hxl).mono ?_
  rw [decide_eq_true rfl]
  rintro e w5 ⟨rfl, g5⟩
  go_wp2
  go_ret
  exact ⟨rfl, (g04.t0 gy).t0 g5⟩
end Go.Proofs.Ytfnfcioofkeanaa
