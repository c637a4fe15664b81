/-
  QueryFits: the statement, out of its walk.
-/
import Derived.Test.YtfnfcioofkeanaaFew
import Derived.Test.YtfnfcioofkeanaaTab3
import Derived.Test.YtfnfcioofkeanaaOpenT
import Derived.Test.YtfnfcioofkeanaaSmall7
import Derived.Test.YtfnfcioofkeanaaLaw24Small
import Derived.Test.YtfnfcioofkeanaaProj2
import Derived.Test.YtfnfcioofkeanaaRows
import Derived.Test.YtfnfcioofkeanaaOpen
import Derived.Test.YtfnfcioofkeanaaOpenQ
namespace Go.Proofs.Ytfnfcioofkeanaa
set_option linter.unusedSimpArgs false
set_option linter.unusedVariables false
open Go.RowKit

theorem okT.small {w : World} {x : Value × List Col × Int × Value × Rows2} (h : okT w x) : x.2.1.length ≤ maxLen ∧ x.2.2.2.2.length ≤ maxLen ∧ ∀ r ∈ x.2.2.2.2, r.2.length ≤ maxLen := by
  obtain ⟨_, _, h1, _, _, h2, h3⟩ := h
  unfold maxLen
  exact ⟨by omega, by omega, fun r hr => by have := (h2 r hr).2; omega⟩
set_option maxHeartbeats 8000000 in
set_option maxRecDepth 100000 in
theorem checks7_run (w : World) (vc vd : Value) (L : List Col) (rows : Int) (D : Rows2) (hok : okT w (vc, L, rows, vd, D)) :
    Calls Try.prog 8 #[.agg #[vc, .int .i64 rows, vd]] w fun e w' => e = .returned (.bool true) ∧ Chg [] w w' := by
  obtain ⟨l1, l2, l3⟩ := hok.small
  obtain ⟨hc, hL, _, _, hd, _, _⟩ := hok
  dsimp only at *
  replace hL := okCol.wide hL
  have kF := fun w' (g : Chg [] w w') => few_ok w' vc vd L rows D (hc.tr0 g) (hd.tr0 g) l1 l2 l3
  have kC := fun w' (g : Chg [] w w') => check_ok w' vc vd ⟨L, rows, D.map (·.2)⟩ D (hc.tr0 g) (hd.tr0 g) rfl hL l1 l2
  have kR := fun w' (g : Chg [] w w') => rcheck_ok w' vc vd ⟨L, rows, D.map (·.2)⟩ D (hc.tr0 g) (hd.tr0 g) rfl hL l1 l2
  have kO := fun w' (g : Chg [] w w') => cols_ok w' vc L hL (hc.tr0 g) l1
  have kP := fun w' (g : Chg [] w w') => rcols_ok w' vc L hL (hc.tr0 g) l1
  obtain ⟨a0, c0, rfl⟩ := hc.shape
  obtain ⟨a1, c1, rfl⟩ := hd.1.shape
  dsimp only at *
  generalize checkV ⟨L, rows, D.map (·.2)⟩ = A at *
  generalize colsV L = B at *
  clear hc hd hL l1 l2 l3
  have g0 := Chg.alloc [] w (.cells #[.slice a0 L.length c0, .int .i64 rows, .slice a1 D.length c1] 42)
  have ba := heap_alloc_new w (.cells #[.slice a0 L.length c0, .int .i64 rows, .slice a1 D.length c1] 42)
  go_enter Try.func8, Try.ntmps8
  go_wp2_with fail
  generalize w.alloc (.cells #[.slice a0 L.length c0, .int .i64 rows, .slice a1 D.length c1] 42) = w1 at *
  refine (small07_ok _).mono ?_
  rintro e w2 ⟨rfl, g⟩
  replace ba := g.heap ba (by simp)
  replace g0 := g0.t0 g
  clear g
  obtain ⟨k0, k1, k2⟩ := cells3'' ba
  go_wp2_with fail
  refine (kF _ g0).mono ?_
  rintro e w3 ⟨⟨b, rfl⟩, g⟩
  replace ba := g.heap ba (by simp)
  replace g0 := g0.t0 g
  clear g k0 k1 k2 kF
  obtain ⟨k0, k1, k2⟩ := cells3'' ba
  have ra := ra_block ba
  cases b
  · go_wp2
    go_ret
    exact ⟨rfl, g0⟩
  · go_wp2_with fail
    have kC' := fun w' (g : Chg [] w3 w') => kC w' (g0.t0 g)
    have kR' := fun w' (g : Chg [] w3 w') => kR w' (g0.t0 g)
    have kO' := fun w' (g : Chg [] w3 w') => kO w' (g0.t0 g)
    have kP' := fun w' (g : Chg [] w3 w') => kP w' (g0.t0 g)
    clear kC kR kO kP
    refine region_quietC (by kernel_rfl) (by kernel_rfl) ?_
    repeat (first
      | (refine quiet_loadC rfl _ _ rfl _ _ rfl _ _ ra Try.underlying42 rfl (by kernel_rfl) ?_; dsimp only [Act.put]; simp only [List.setIfInBounds_toArray, List.set_cons_succ, List.set_cons_zero])
      | (refine quiet_cellC rfl _ _ rfl _ rfl _ _ k0 Try.underlying25 rfl ?_; dsimp only [Act.put]; simp only [List.setIfInBounds_toArray, List.set_cons_succ, List.set_cons_zero])
      | quiet_step ((intro hx; first | rfl | with_reducible exact Calls.quietC hx (kC' _ hx) | with_reducible exact Calls.quietC hx (kR' _ hx) | with_reducible exact Calls.quietC hx (kO' _ hx) | with_reducible exact Calls.quietC hx (kP' _ hx))))
    refine wpQuiet_nil ?_
    intro w4 g
    go_wp2
    go_ret
    exact ⟨by simp, g0.t0 g⟩
theorem cellChecks_run (w : World) (x : Value × List Col × Int × Value × Rows2) (hok : okT w x) :
    Calls Try.prog 8 #[.agg [x.1, .int .i64 x.2.2.1, x.2.2.2.1].toArray] w fun e w' => e = .returned (.bool true) ∧ Chg [] w w' :=
  checks7_run w x.1 x.2.2.2.1 x.2.1 x.2.2.1 x.2.2.2.2 hok
end Go.Proofs.Ytfnfcioofkeanaa
namespace Go.Proofs.Ytfnfcioofkeanaa
set_option linter.unusedSimpArgs false
set_option linter.unusedVariables false
open Go.RowKit

theorem fitQ_proj (t : Tab) (q : Qu) (h : checkV t = 0) : fitQ q t.cols.length t.rows = decide ((projV t q.cols q.lo q.hi).2 = 0) := by
  obtain ⟨z1, z2, z3, _, _, _⟩ := checkV_zero h
  have hl := colsV_len z1
  unfold projV
  rw [if_neg (by simp [h])]
  have e : fitQ q t.cols.length t.rows = fitsV q.cols q.lo q.hi t.cols.length t.rows := by
    unfold fitQ
    by_cases hf : fitsV q.cols q.lo q.hi t.cols.length t.rows = true
    · have hm : mayQ q = true := by
        unfold mayQ fitsV at *
        simp only [decide_eq_true_eq] at *
        obtain ⟨h1, h2, h3, h4, h5⟩ := hf
        exact ⟨h1, fun c hc => ⟨(h2 c hc).1, by have := (h2 c hc).2; omega⟩, h3, h4, by omega⟩
      rw [hm, Bool.true_and]
    · simp [hf]
  rw [e]
  by_cases hf : fitsV q.cols q.lo q.hi t.cols.length t.rows = true
  · rw [if_pos hf, hf]; rfl
  · rw [if_neg hf]
    simp [hf]
set_option maxHeartbeats 8000000 in
set_option maxRecDepth 100000 in
theorem fits7_run (w : World) (vq : Value) (q : Qu) (vc vd : Value) (L : List Col) (rows : Int) (D : Rows2) (hq : okQ w (vq, q)) (hok : okT w (vc, L, rows, vd, D)) :
    Calls Try.prog 13 #[.agg #[vq, .int .i64 q.lo, .int .i64 q.hi], .agg #[vc, .int .i64 rows, vd]] w fun e w' => e = .returned (.bool true) ∧ Chg [] w w' := by
  obtain ⟨l1, l2, l3⟩ := hok.small
  obtain ⟨hc, hL, _, _, hd, _, _⟩ := hok
  obtain ⟨hk, hkI, hkl, hlo, hhi⟩ := hq
  dsimp only at *
  replace hL := okCol.wide hL
  have hkl' : q.cols.length ≤ maxLen := by unfold maxLen; omega
  have kF := fun w' (g : Chg [] w w') => few_ok w' vc vd L rows D (hc.tr0 g) (hd.tr0 g) l1 l2 l3
  have kC := fun w' (g : Chg [] w w') => check_ok w' vc vd ⟨L, rows, D.map (·.2)⟩ D (hc.tr0 g) (hd.tr0 g) rfl hL l1 l2
  have kP := fun w' (g : Chg [] w w') => project_ok w' vc vd vq ⟨L, rows, D.map (·.2)⟩ D q.cols q.lo q.hi (hc.tr0 g) (hd.tr0 g) rfl hL l1 l2 (hk.tr0 g) hkI hkl' hlo hhi
  have hpr := fitQ_proj ⟨L, rows, D.map (·.2)⟩ q
  obtain ⟨a0, c0, rfl⟩ := hc.shape
  obtain ⟨a1, c1, rfl⟩ := hd.1.shape
  have kQ := fun w' (g : Chg [] w w') => fitQ_ok w' vq q a0 L.length c0 rows none 0 0 (hk.tr0 g) hkl'
  obtain ⟨a2, c2, rfl⟩ := hk.shape
  unfold qv fv at kQ
  dsimp only at *
  generalize checkV ⟨L, rows, D.map (·.2)⟩ = A at *
  generalize fitQ q L.length rows = FQ at *
  generalize projV ⟨L, rows, D.map (·.2)⟩ q.cols q.lo q.hi = PR at *
  obtain ⟨l, lo, hi⟩ := q
  obtain ⟨RT, RE⟩ := PR
  dsimp only at *
  clear hc hd hL l1 l2 l3 hk hkI hkl hkl' hlo hhi
  have g0 := (Chg.alloc [] w (.cells #[.slice a2 l.length c2, .int .i64 lo, .int .i64 hi] 24)).t0 (Chg.alloc [] _ (.cells #[.slice a0 L.length c0, .int .i64 rows, .slice a1 D.length c1] 42))
  have bq := heap_old (o := .cells #[.slice a0 L.length c0, .int .i64 rows, .slice a1 D.length c1] 42) (heap_alloc_new w (.cells #[.slice a2 l.length c2, .int .i64 lo, .int .i64 hi] 24))
  have ba := heap_new1 w (.cells #[.slice a2 l.length c2, .int .i64 lo, .int .i64 hi] 24) (.cells #[.slice a0 L.length c0, .int .i64 rows, .slice a1 D.length c1] 42)
  go_enter Try.func13, Try.ntmps13
  go_wp2_with fail
  generalize (w.alloc (.cells #[.slice a2 l.length c2, .int .i64 lo, .int .i64 hi] 24)).alloc (.cells #[.slice a0 L.length c0, .int .i64 rows, .slice a1 D.length c1] 42) = w1 at *
  refine (small24_ok _).mono ?_
  rintro e w2 ⟨rfl, g⟩
  replace ba := g.heap ba (by simp)
  replace bq := g.heap bq (by simp)
  replace g0 := g0.t0 g
  clear g
  obtain ⟨k0, k1, k2⟩ := cells3'' ba
  go_wp2_with fail
  refine (kF _ g0).mono ?_
  rintro e w3 ⟨⟨b, rfl⟩, g⟩
  replace ba := g.heap ba (by simp)
  replace bq := g.heap bq (by simp)
  replace g0 := g0.t0 g
  clear g k0 k1 k2 kF
  obtain ⟨k0, k1, k2⟩ := cells3'' ba
  obtain ⟨q0, q1, q2⟩ := cells3'' bq
  cases b
  · go_wp2
    go_ret
    exact ⟨rfl, g0⟩
  by_cases h1 : 100 < l.length
  · go_wp2
    go_ret
    exact ⟨rfl, g0⟩
  go_wp2_with fail
  refine (kC _ g0).mono ?_
  rintro e w4 ⟨rfl, g⟩
  replace ba := g.heap ba (by simp)
  replace bq := g.heap bq (by simp)
  replace g0 := g0.t0 g
  clear g k0 k1 k2 q0 q1 q2 kC
  obtain ⟨k0, k1, k2⟩ := cells3'' ba
  obtain ⟨q0, q1, q2⟩ := cells3'' bq
  by_cases hA : A = 0
  · subst hA
    replace hpr := hpr rfl
    subst hpr
    go_wp2_with fail
    refine (kP _ g0).mono ?_
    rintro e w5 ⟨vc', vd', rfl, hc', ⟨D', hD', _⟩, g⟩
    dsimp only
    obtain ⟨a5, c5, rfl⟩ := hc'.shape
    obtain ⟨a6, c6, rfl⟩ := hD'.1.shape
    clear hc' hD'
    replace g := g.t0 (Chg.alloc [] w5 (.cells #[.slice a5 RT.cols.length c5, .int .i64 RT.rows, .slice a6 D'.length c6] 42))
    replace ba := g.heap ba (by simp)
    replace bq := g.heap bq (by simp)
    clear k0 k1 k2 q0 q1 q2
    obtain ⟨k0, k1, k2⟩ := cells3'' ba
    obtain ⟨q0, q1, q2⟩ := cells3'' bq
    have kQ' := kQ _ (g0.t0 g)
    by_cases hE : RE = 0
    · subst hE
      go_wp2_with fail
      refine kQ'.mono ?_
      rintro e w6 ⟨rfl, g6⟩
      go_wp2
      go_ret
      exact ⟨by simp, (g0.t0 g).t0 g6⟩
    · have hE1 : decide (RE = 0) = false := by simpa using hE
      have hE2 : (RE == 0) = false := by simpa using hE
      rw [hE1] at kQ'
      go_wp2_with fail
      refine kQ'.mono ?_
      rintro e w6 ⟨rfl, g6⟩
      go_wp2
      go_ret
      exact ⟨by simp [hE], (g0.t0 g).t0 g6⟩
  · have hA' : (A != 0) = true := by simpa using hA
    go_wp2
    go_ret
    exact ⟨rfl, g0⟩
theorem queryFits_run (w : World) (x : Value × Qu) (y : Value × List Col × Int × Value × Rows2) (hq : okQ w x) (hok : okT w y) :
    Calls Try.prog 13 #[.agg [x.1, .int .i64 x.2.lo, .int .i64 x.2.hi].toArray, .agg [y.1, .int .i64 y.2.2.1, y.2.2.2.1].toArray] w fun e w' => e = .returned (.bool true) ∧ Chg [] w w' :=
  fits7_run w x.1 x.2 y.1 y.2.2.2.1 y.2.1 y.2.2.1 y.2.2.2.2 hq hok
end Go.Proofs.Ytfnfcioofkeanaa
namespace Go.Proofs.Ytfnfcioofkeanaa
set_option linter.unusedSimpArgs false
set_option linter.unusedVariables false
open Go.ChangeShapes Go.WideShapes Go.ChangeAt Go.RowKit
open Go.ChangeMaps (open_string shut_string)
set_option linter.unusedVariables false

theorem ownQueryFits : ownKnob Try.prog.godebug = none := by kernel_rfl
theorem laidOutQueryFits : laidOutB Try.prog = true := by kernel_rfl

set_option maxRecDepth 100000 in
set_option maxHeartbeats 4000000 in
theorem queryFits_lifted (os : Os) (started : os.Started) (H : Type) (enc : TypeId × Value → H) :
    ReturnsInHanded {} Try.checked os 13 .any (Rows.queryFitsSpec.pre6 enc Try.prog Try.f13 Rows.queryFitsRow.domain false) (Rows.queryFitsSpec.post enc Try.prog Try.f13 false true false false) := by
  refine returnsInHanded_of_change_sized (C := Try.checked) ownQueryFits started (by kernel_rfl) Try.func13
    (ChangeSpec.witness6 (enc := enc) (C := Try.checked) false ⟨#[], #[.agg #[.slice none 0 0, .int .i64 0, .int .i64 0], .agg #[.slice none 0 0, .int .i64 0, .slice none 0 0]], []⟩ 8 (by kernel_rfl) (by kernel_rfl) (by kernel_rfl) (by kernel_rfl)) ?_
  intro W base args ds gs before hval0 hW hcnd hsz0 _
  have hval : ∀ (j : Nat) t v, Try.f13.params[j]? = some t → args[j]? = some v → Value.okWide Try.prog W .any base t v := hval0
  have hsz : (DataW.weightsEach Try.prog (Try.f13.params.toList ++ Rows.queryFitsSpec.plain.varTypes Try.prog) (ds ++ gs)).all (· ≤ reachBytes) = true := hsz0
  have hW' := hW
  obtain ⟨p, q, hA0, hV, rfl, hfz, hnd⟩ := hW
  have hA : DataW.TrodAll enc Try.prog W 0 (fun _ => true) true Try.f13.params.toList args.toList ds p := hA0
  rw [Try.params13] at hA hval hsz
  obtain ⟨v0, vs0, d0, ds0, p0, q0, hargs, rfl, rfl, h0, r0⟩ := trodAll_cons hA
  obtain ⟨v1, vs1, d1, ds1, p1, q1, rfl, rfl, rfl, h1, r1⟩ := trodAll_cons r0
  obtain ⟨rfl, rfl, rfl⟩ := trodAll_nil r1
  obtain rfl : args = #[v0, v1] := by cases args; simp_all
  obtain ⟨rfl, rfl⟩ := trodVars_none hV
  have k0 := h0
  have lt0 : ∀ x ∈ p0, x.block < W.heap.size := by obtain ⟨m, hm⟩ := k0; exact DataW.trod_lt m _ _ _ hm
  obtain ⟨b0, rfl, ok0⟩ := open_st dec_query Try.underlying24 (by kernel_rfl) (hval 0 24 v0 rfl rfl) h0 (small_of hsz (j := 0) (t := 24) rfl rfl)
  have k1 := h1
  have lt1 : ∀ x ∈ p1, x.block < W.heap.size := by obtain ⟨m, hm⟩ := k1; exact DataW.trod_lt m _ _ _ hm
  obtain ⟨b1, rfl, ok1⟩ := open_st dec_table Try.underlying42 (by kernel_rfl) (hval 1 42 v1 rfl rfl) h1 (small_of hsz (j := 1) (t := 42) rfl rfl)
  clear hA0 hval0 hsz0 hsz
  refine (queryFits_run W b0 b1 ok0 ok1).mono fun e W' ⟨he, chg⟩ => ?_
  have bel := chg.below
  subst he
  exact ⟨_, rfl, _, _, _, [], _, [], hW', trodAll_mk1 (shut_bool Try.underlying4 _), (trodAll_cons_mk (Below.trod laidOutQueryFits (by kernel_rfl) (of_decide_eq_true (by kernel_rfl)) k0 bel lt0) (trodAll_cons_mk (Below.trod laidOutQueryFits (by kernel_rfl) (of_decide_eq_true (by kernel_rfl)) k1 bel lt1) trodAll_mk0)), rfl, bel.frame _, fun h => by cases h⟩

set_option maxHeartbeats 4000000 in
theorem queryFits_closed : joinedFacts Try.checked.prog 13 Try.f13 Rows.queryFitsSpec Rows.queryFitsRow = true := by
  unfold joinedFacts
  simp only [Bool.and_eq_true]
  repeat' apply And.intro
  all_goals (as_aux_lemma => kernel_rfl)

theorem queryFits_over : Rows.queryFitsRow.holds Try.pinned (OpenSpec.ofChange Rows.queryFitsSpec) :=
  OpenClaim.holds_of_wide 13 Try.f13 rfl rfl rfl rfl rfl rfl rfl ⟨rfl, rfl, rfl, rfl, rfl⟩ rfl rfl rfl rfl rfl (by kernel_rfl) Try.func13 queryFits_closed
    (of_decide_eq_true (by kernel_rfl)) (by unfold Func.isWrapper; first | (rw [if_pos (by decide +kernel)]; kernel_rfl) | (rw [if_neg (by decide +kernel)]; exact ⟨rfl, rfl⟩))
    (fun os started H enc _ => queryFits_lifted os started H enc)

theorem queryFits_proved : Rows.QueryFitsSaid := queryFits_over
#print axioms queryFits_proved
end Go.Proofs.Ytfnfcioofkeanaa
