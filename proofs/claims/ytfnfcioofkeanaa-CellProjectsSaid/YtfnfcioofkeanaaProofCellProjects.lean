/-
  CellProjects: the statement, out of its walk.
-/
import Derived.Test.YtfnfcioofkeanaaFew
import Derived.Test.YtfnfcioofkeanaaTab3
import Derived.Test.YtfnfcioofkeanaaOpenT
import Derived.Test.YtfnfcioofkeanaaSmall7
import Derived.Test.YtfnfcioofkeanaaSame
import Derived.Test.YtfnfcioofkeanaaProjPure
import Derived.Test.YtfnfcioofkeanaaQuery2
import Derived.Test.YtfnfcioofkeanaaRProj
import Derived.Deep.MidRow
import Derived.Deep.Upon
import Derived.Test.YtfnfcioofkeanaaRows
import Derived.Test.YtfnfcioofkeanaaOpen
namespace Go.Proofs.Ytfnfcioofkeanaa
set_option linter.unusedSimpArgs false
set_option linter.unusedVariables false
open Go.RowKit

theorem okT.small {w : World} {x : Value × List Col × Int × Value × Rows2} (h : okT w x) : x.2.1.length ≤ maxLen ∧ x.2.2.2.2.length ≤ maxLen ∧ ∀ r ∈ x.2.2.2.2, r.2.length ≤ maxLen := by
  obtain ⟨_, _, h1, _, _, h2, h3⟩ := h
  unfold maxLen
  exact ⟨by omega, by omega, fun r hr => by have := (h2 r hr).2; omega⟩
set_option maxHeartbeats 8000000 in
set_option maxRecDepth 100000 in
theorem checks7_run (w : World) (vc vd : Value) (L : List Col) (rows : Int) (D : Rows2) (hok : okT w (vc, L, rows, vd, D)) :
    Calls Try.prog 8 #[.agg #[vc, .int .i64 rows, vd]] w fun e w' => e = .returned (.bool true) ∧ Chg [] w w' := by
  obtain ⟨l1, l2, l3⟩ := hok.small
  obtain ⟨hc, hL, _, _, hd, _, _⟩ := hok
  dsimp only at *
  replace hL := okCol.wide hL
  have kF := fun w' (g : Chg [] w w') => few_ok w' vc vd L rows D (hc.tr0 g) (hd.tr0 g) l1 l2 l3
  have kC := fun w' (g : Chg [] w w') => check_ok w' vc vd ⟨L, rows, D.map (·.2)⟩ D (hc.tr0 g) (hd.tr0 g) rfl hL l1 l2
  have kR := fun w' (g : Chg [] w w') => rcheck_ok w' vc vd ⟨L, rows, D.map (·.2)⟩ D (hc.tr0 g) (hd.tr0 g) rfl hL l1 l2
  have kO := fun w' (g : Chg [] w w') => cols_ok w' vc L hL (hc.tr0 g) l1
  have kP := fun w' (g : Chg [] w w') => rcols_ok w' vc L hL (hc.tr0 g) l1
  obtain ⟨a0, c0, rfl⟩ := hc.shape
  obtain ⟨a1, c1, rfl⟩ := hd.1.shape
  dsimp only at *
  generalize checkV ⟨L, rows, D.map (·.2)⟩ = A at *
  generalize colsV L = B at *
  clear hc hd hL l1 l2 l3
  have g0 := Chg.alloc [] w (.cells #[.slice a0 L.length c0, .int .i64 rows, .slice a1 D.length c1] 42)
  have ba := heap_alloc_new w (.cells #[.slice a0 L.length c0, .int .i64 rows, .slice a1 D.length c1] 42)
  go_enter Try.func8, Try.ntmps8
  go_wp2_with fail
  generalize w.alloc (.cells #[.slice a0 L.length c0, .int .i64 rows, .slice a1 D.length c1] 42) = w1 at *
  refine (small07_ok _).mono ?_
  rintro e w2 ⟨rfl, g⟩
  replace ba := g.heap ba (by simp)
  replace g0 := g0.t0 g
  clear g
  obtain ⟨k0, k1, k2⟩ := cells3'' ba
  go_wp2_with fail
  refine (kF _ g0).mono ?_
  rintro e w3 ⟨⟨b, rfl⟩, g⟩
  replace ba := g.heap ba (by simp)
  replace g0 := g0.t0 g
  clear g k0 k1 k2 kF
  obtain ⟨k0, k1, k2⟩ := cells3'' ba
  have ra := ra_block ba
  cases b
  · go_wp2
    go_ret
    exact ⟨rfl, g0⟩
  · go_wp2_with fail
    have kC' := fun w' (g : Chg [] w3 w') => kC w' (g0.t0 g)
    have kR' := fun w' (g : Chg [] w3 w') => kR w' (g0.t0 g)
    have kO' := fun w' (g : Chg [] w3 w') => kO w' (g0.t0 g)
    have kP' := fun w' (g : Chg [] w3 w') => kP w' (g0.t0 g)
    clear kC kR kO kP
    refine region_quietC (by kernel_rfl) (by kernel_rfl) ?_
    repeat (first
      | (refine quiet_loadC rfl _ _ rfl _ _ rfl _ _ ra Try.underlying42 rfl (by kernel_rfl) ?_; dsimp only [Act.put]; simp only [List.setIfInBounds_toArray, List.set_cons_succ, List.set_cons_zero])
      | (refine quiet_cellC rfl _ _ rfl _ rfl _ _ k0 Try.underlying25 rfl ?_; dsimp only [Act.put]; simp only [List.setIfInBounds_toArray, List.set_cons_succ, List.set_cons_zero])
      | quiet_step ((intro hx; first | rfl | with_reducible exact Calls.quietC hx (kC' _ hx) | with_reducible exact Calls.quietC hx (kR' _ hx) | with_reducible exact Calls.quietC hx (kO' _ hx) | with_reducible exact Calls.quietC hx (kP' _ hx))))
    refine wpQuiet_nil ?_
    intro w4 g
    go_wp2
    go_ret
    exact ⟨by simp, g0.t0 g⟩
theorem cellChecks_run (w : World) (x : Value × List Col × Int × Value × Rows2) (hok : okT w x) :
    Calls Try.prog 8 #[.agg [x.1, .int .i64 x.2.2.1, x.2.2.2.1].toArray] w fun e w' => e = .returned (.bool true) ∧ Chg [] w w' :=
  checks7_run w x.1 x.2.2.2.1 x.2.1 x.2.2.1 x.2.2.2.2 hok
end Go.Proofs.Ytfnfcioofkeanaa
namespace Go.Proofs.Ytfnfcioofkeanaa
set_option linter.unusedSimpArgs false
set_option linter.unusedVariables false
open Go.RowKit

theorem proj_cases (t : Tab) (cols : List Int) (lo hi : Int) : (∃ e, e ≠ 0 ∧ projV t cols lo hi = (noT, e) ∧ (checkV t = 0 → e = 7)) ∨ (checkV t = 0 ∧ fitsV cols lo hi t.cols.length t.rows = true ∧ projV t cols lo hi = (pickT t cols lo hi, 0)) := by
  unfold projV
  by_cases h : checkV t = 0
  · rw [if_neg (by simpa using h)]
    by_cases h2 : fitsV cols lo hi t.cols.length t.rows = true
    · rw [if_pos h2]; exact .inr ⟨h, h2, rfl⟩
    · rw [if_neg h2]; exact .inl ⟨7, by decide, rfl, fun _ => rfl⟩
  · rw [if_pos h]; exact .inl ⟨_, h, rfl, fun h2 => absurd h2 h⟩
theorem Sl.ints {w : World} {v : Value} {l : List Int} (h : Sl w v l.length (l.flatMap fun n : Int => [.int .i64 n])) : Sl w v l.length (ics .i64 l) := by
  have e : (l.flatMap fun n : Int => [Value.int .i64 n]) = ics .i64 l := by
    unfold ics
    clear h
    induction l with
    | nil => rfl
    | cons a l ih => rw [List.flatMap_cons, List.map_cons, ih]; rfl
  rw [← e]; exact h
set_option maxHeartbeats 16000000 in
set_option maxRecDepth 100000 in
theorem twice7_run (w : World) (vc vd : Value) (L : List Col) (rows : Int) (D : Rows2) (hok : okT w (vc, L, rows, vd, D)) (vk : Value) (cols : List Int) (lo hi : Int) (vs : Value) (sm : List Int) (a b : Int)
    (hk : Sl w vk cols.length (ics .i64 cols)) (hkI : ∀ x ∈ cols, I64 x) (hs : Sl w vs sm.length (ics .i64 sm)) (hsI : ∀ x ∈ sm, I64 x) (hlo : I64 lo) (hhi : I64 hi) (ha : I64 a) (hb : I64 b) :
    Calls Try.prog 10 #[.agg #[vc, .int .i64 rows, vd], vk, .int .i64 lo, .int .i64 hi, vs, .int .i64 a, .int .i64 b] w fun e w' => e = .returned (.bool true) ∧ Chg [] w w' := by
  obtain ⟨l1, l2, l3⟩ := hok.small
  obtain ⟨hc, hL, _, _, hd, _, _⟩ := hok
  dsimp only at *
  replace hL := okCol.wide hL
  have hkl := hk.le
  have hsl := hs.le
  obtain ⟨t, ht⟩ : ∃ t : Tab, t = ⟨L, rows, D.map (·.2)⟩ := ⟨_, rfl⟩
  have kF := fun w' (g : Chg [] w w') => few_ok w' vc vd L rows D (hc.tr0 g) (hd.tr0 g) l1 l2 l3
  have kP := fun w' (g : Chg [] w w') => project_own w' vc vd vk t D cols lo hi (by rw [ht]; exact hc.tr0 g) (hd.tr0 g) (by rw [ht]) (by rw [ht]; exact hL) (by rw [ht]; exact l1) l2 (hk.tr0 g) hkI hkl hlo hhi
  have kQ := fun w' (g : Chg [] w w') vB both (h1 : Sl w' vB both.length (ics .i64 both)) (h2 : ∀ x ∈ both, I64 x) lo2 hi2 (h3 : I64 lo2) (h4 : I64 hi2) => project_own w' vc vd vB t D both lo2 hi2 (by rw [ht]; exact hc.tr0 g) (hd.tr0 g) (by rw [ht]) (by rw [ht]; exact hL) (by rw [ht]; exact l1) l2 h1 h2 h1.le h3 h4
  have htr : t.rows = rows := by rw [ht]
  rw [htr] at kP kQ
  replace hkI := Lib.hid hkI
  replace hsI := Lib.hid hsI
  replace hL := Lib.hid hL
  replace l3 := Lib.hid l3
  replace ht := Lib.hid ht
  replace htr := Lib.hid htr
  replace kQ := Lib.hid kQ
  replace hlo := Lib.hid hlo
  replace hhi := Lib.hid hhi
  replace ha := Lib.hid ha
  replace hb := Lib.hid hb
  unfold maxLen at hkl hsl
  obtain ⟨a0, c0, rfl⟩ := hc.shape
  obtain ⟨a1, c1, rfl⟩ := hd.1.shape
  obtain ⟨a2, c2, rfl⟩ := hk.shape
  obtain ⟨a3, c3, rfl⟩ := hs.shape
  have g0 := Chg.alloc [] w (.cells #[.slice a0 L.length c0, .int .i64 rows, .slice a1 D.length c1] 42)
  have ba := heap_alloc_new w (.cells #[.slice a0 L.length c0, .int .i64 rows, .slice a1 D.length c1] 42)
  go_enter Try.func10, Try.ntmps10
  go_wp2_with fail
  generalize w.alloc (.cells #[.slice a0 L.length c0, .int .i64 rows, .slice a1 D.length c1] 42) = w1 at *
  refine (small07_ok _).mono ?_
  rintro e w2 ⟨rfl, g⟩
  replace ba := g.heap ba (by simp)
  replace g0 := g0.t0 g
  clear g
  obtain ⟨k0, k1, k2⟩ := cells3'' ba
  go_wp2_with fail
  refine (kF _ g0).mono ?_
  rintro e w3 ⟨⟨b, rfl⟩, g⟩
  replace ba := g.heap ba (by simp)
  replace g0 := g0.t0 g
  clear g k0 k1 k2 kF
  obtain ⟨k0, k1, k2⟩ := cells3'' ba
  cases b
  · go_wp2
    go_ret
    exact ⟨rfl, g0⟩
  by_cases h80 : 80 < cols.length
  · have h8 : (80 : Int) < cols.length := by omega
    go_wp2
    go_ret
    exact ⟨rfl, g0⟩
  have h80i : (cols.length : Int) ≤ 80 := by omega
  by_cases h81 : 80 < sm.length
  · have h8 : (80 : Int) < sm.length := by omega
    go_wp2
    go_ret
    exact ⟨rfl, g0⟩
  have h81i : (sm.length : Int) ≤ 80 := by omega
  go_wp2_with fail
  refine (kP _ g0).mono ?_
  clear kP
  rintro e w4 ⟨vx, vy, rfl, sX, dX, g4⟩
  replace ba := g4.heap ba (by simp)
  replace g0 := g0.t0 g4
  clear g4 k0 k1 k2
  have kc := proj_cases t cols lo hi
  rcases kc with ⟨e, he, hp, _⟩ | ⟨hz, hfit, hp⟩
  · rw [hp] at sX dX ⊢
    simp only [noT, List.length_nil, List.flatMap_nil] at sX dX ⊢
    obtain ⟨a4, c4, rfl⟩ := sX.shape
    obtain ⟨D1, o1, o2, o3⟩ := dX
    obtain ⟨a5, c5, rfl⟩ := own_shape o1
    have hen : (e != 0) = true := by simpa using he
    clear hp kQ sX o1 o2 o3
    go_wp2
    go_ret
    exact ⟨rfl, g0.t0 (Chg.alloc [] w4 _)⟩
  rw [hp] at sX dX ⊢
  have hg := pick_good hz hfit
  obtain ⟨T, hT⟩ : ∃ T, T = pickT t cols lo hi := ⟨_, rfl⟩
  rw [← hT] at hg
  have hTr : T.rows = hi - lo := by rw [hT]; rfl
  have hTc : T.cols.length = cols.length := by rw [hT]; simp [pickT]
  simp only [← hT] at sX dX ⊢
  obtain ⟨D1, o1, o2, o3⟩ := dX
  have sY : Sl2 w4 vy D1 := ⟨Sl.ofOwns o1, fun x hx => Sl.ofOwns (o2 x hx)⟩
  have hD1 : D1.length ≤ maxLen := sY.1.le
  have hTL : ∀ c ∈ T.cols, c.name.length ≤ maxLen ∧ -9223372036854775808 ≤ c.typ ∧ c.typ ≤ 9223372036854775807 := fun c hc => by
    have := (colsV_zeroP.1 (checkV_zero hg).1).2.1 c hc
    unfold maxLen
    omega
  have kK := fun w' (g : Chg [] w4 w') => check_ok w' vx vy T D1 (sX.tr0 g) (sY.tr0 g) o3 hTL sX.le hD1
  have kY := fun w' (g : Chg [] w4 w') => project_own w' vx vy (.slice a3 sm.length c3) T D1 sm a b (sX.tr0 g) (sY.tr0 g) o3 hTL sX.le hD1 (hs.tr0 (g0.t0 g)) hsI.out hsl ha.out hb.out
  rw [hg] at kK
  obtain ⟨a4, c4, rfl⟩ := sX.shape
  obtain ⟨a5, c5, rfl⟩ := own_shape o1
  have hfi := fitsV_iff.1 hfit
  obtain ⟨f1, f2, f3, f4, f5⟩ := hfi
  have hrow := (checkV_zero hz).2.2.1
  rw [hTr, hTc] at kK kY
  have hw : wrap64 (hi - lo) = hi - lo := by unfold wrap64; omega
  have bX := heap_alloc_new w4 (.cells #[.slice a4 cols.length c4, .int .i64 (hi - lo), .slice a5 D1.length c5] 42)
  have gX := Chg.alloc [] w4 (.cells #[.slice a4 cols.length c4, .int .i64 (hi - lo), .slice a5 D1.length c5] 42)
  replace ba := gX.heap ba (by simp)
  rw [hTr, hTc]
  replace f2 := Lib.hid f2
  replace hTL := Lib.hid hTL
  replace kY := Lib.hid kY
  clear hTr hTc
  go_wp2_with fail
  generalize w4.alloc (.cells #[.slice a4 cols.length c4, .int .i64 (hi - lo), .slice a5 D1.length c5] 42) = w5 at *
  refine (kK w5 gX).mono ?_
  rintro e w6 ⟨rfl, g6⟩
  replace ba := g6.heap ba (by simp)
  replace bX := g6.heap bX (by simp)
  replace gX := gX.t0 g6
  clear g6 kK
  obtain ⟨x0, x1, x2⟩ := cells3'' bX
  go_wp2_with fail
  refine (kY.out w6 gX).mono ?_
  clear kY x0 x1 x2
  rintro e w7 ⟨ux, uy, rfl, sU, dU, g7⟩
  replace ba := g7.heap ba (by simp)
  replace bX := g7.heap bX (by simp)
  replace gX := gX.t0 g7
  clear g7
  have g07 := g0.t0 gX
  rcases proj_cases T sm a b with ⟨e, he, hp2, h7⟩ | ⟨_, hfit2, hp2⟩
  · obtain rfl := h7 hg
    rw [hp2] at sU dU ⊢
    simp only [noT, List.length_nil, List.flatMap_nil] at sU dU ⊢
    obtain ⟨a6, c6, rfl⟩ := sU.shape
    obtain ⟨D2, o4, o5, o6⟩ := dU
    obtain ⟨a7, c7, rfl⟩ := own_shape o4
    clear kQ sU o4 o5 o6 o2 o3 hp2 hp h7
    go_wp2
    go_ret
    exact ⟨rfl, g07.t0 (Chg.alloc [] w7 _)⟩
  rw [hp2] at sU dU ⊢
  have hfit3 := hfit2
  rw [show T.cols.length = cols.length by rw [hT]; simp [pickT], show T.rows = hi - lo by rw [hT]; rfl] at hfit3
  obtain ⟨hq1, hq2⟩ := pick_pick hfit hfit3
  rw [← hT] at hq2
  obtain ⟨U, hU⟩ : ∃ U, U = pickT T sm a b := ⟨_, rfl⟩
  have hUr : U.rows = b - a := by rw [hU]; rfl
  rw [← hU] at hq2
  simp only [← hU] at sU dU ⊢
  obtain ⟨q1, q2, q3, q4, q5⟩ := fitsV_iff.1 hfit3
  obtain ⟨D2, o4, o5, o6⟩ := dU
  have sV : Sl2 w7 uy D2 := ⟨Sl.ofOwns o4, fun x hx => Sl.ofOwns (o5 x hx)⟩
  obtain ⟨a6, c6, rfl⟩ := sU.shape
  obtain ⟨a7, c7, rfl⟩ := own_shape o4
  rw [hUr]
  have bU := heap_alloc_new w7 (.cells #[.slice a6 U.cols.length c6, .int .i64 (b - a), .slice a7 D2.length c7] 42)
  have gU := Chg.alloc [] w7 (.cells #[.slice a6 U.cols.length c6, .int .i64 (b - a), .slice a7 D2.length c7] 42)
  replace ba := gU.heap ba (by simp)
  replace q2 := Lib.hid q2
  replace hU := Lib.hid hU
  replace hT := Lib.hid hT
  replace hUr := Lib.hid hUr
  replace hq1 := Lib.hid hq1
  replace hq2 := Lib.hid hq2
  clear hp2 hp hfit2 hfit3 o4 o5 o2
  go_wp2_with fail
  generalize w7.alloc (.cells #[.slice a6 U.cols.length c6, .int .i64 (b - a), .slice a7 D2.length c7] 42) = w8 at *
  have g08 := g07.t0 gU
  go_loopw [21, 22] (fun bv iv wr => ∃ k : Nat, k ≤ sm.length ∧ iv = .int .i64 k ∧ wr.ownsRow w8.heap.size 3 1 bv k (ics .i64 ((sm.take k).map fun k => cols.getD k.toNat 0)) ∧ Chg [] w8 wr) (fun _ iv _ => sm.length - (intOf iv).toNat)
  case atStart => exact ⟨0, Nat.zero_le _, rfl, World.ownsRow_nil _ _ _ _, Chg.refl _ _⟩
  case round =>
    obtain ⟨k, hkk, rfl, hown, hch⟩ := hrel
    have gg := g08.t0 hch
    by_cases hlt : k < sm.length
    · obtain ⟨b1, off1, cc1, e1, hb1, x1⟩ := int_cells (hs.tr0 gg) k hlt
      cases e1
      have hx := q2.out _ (List.getElem_mem hlt)
      have htk : sm.take (k + 1) = sm.take k ++ [sm[k]] := List.take_succ_eq_append_getElem hlt
      have hkd : (k : Int) < sm.length := by omega
      replace htk := Lib.hid htk
      generalize sm[k] = X at *
      obtain ⟨x, rfl⟩ : ∃ x : Nat, X = x := ⟨X.toNat, by omega⟩
      have hxc : x < cols.length := by omega
      have hxi : (x : Int) < cols.length := by omega
      obtain ⟨b2, off2, cc2, e2, hb2, x2⟩ := int_cells (hk.tr0 gg) x hxc
      cases e2
      have hgd : cols.getD ((x : Int).toNat) 0 = cols[x] := by simp [List.getD, hxc]
      replace hgd := Lib.hid hgd
      generalize cols[x] = Y at *
      clear hx
      go_wp2_with (at_builtin; refine wpList_append_sl _ rfl (.tmp 117) (.tmp 125) 22 3 1 8 rfl el_int w8.heap.size _ _ _ rfl (hown.alloc _) _ 1 (ics .i64 [Y]) rfl (Sl.lit _ _ _ 1 (by decide)) (by simp [ics]) (ics_one _ _) (by unfold big; omega) (by have := hch.size; simp; omega) ?_)
      intro v' w9 hown9 hg9
      have g9 : Chg [] w8 w9 := (hch.t0 (Chg.alloc [] wr _)).grownOwn hg9 (hown.alloc _) (Nat.le_refl _)
      have hown' : w9.ownsRow w8.heap.size 3 1 v' (k + 1) (ics .i64 ((sm.take (k + 1)).map fun k => cols.getD k.toNat 0)) := by
        rw [htk.out, List.map_append, ics_append, List.map_singleton, hgd.out, List.map_take]
        simpa [List.getD] using hown9
      clear hown9 hown hg9
      go_wp2
      go_roundw
      case rel => exact ⟨k + 1, by omega, by go_num, hown', g9⟩
      case measure => simp [intOf]; omega
    · obtain rfl : k = sm.length := by omega
      rw [List.take_length] at hown
      obtain ⟨av, cv, rfl⟩ := own_shape hown
      obtain ⟨both, hbo⟩ : ∃ l, l = sm.map fun k => cols.getD k.toNat 0 := ⟨_, rfl⟩
      rw [← hbo] at hown
      rw [← hbo] at hq1 hq2
      have hbl : both.length = sm.length := by rw [hbo]; simp
      have hbI : ∀ x ∈ both, I64 x := fun x hx => by
        rw [hbo] at hx
        obtain ⟨y, hy, rfl⟩ := List.mem_map.1 hx
        have hyy := q2.out y hy
        exact hkI.out _ (getD_memP _ (by omega))
      have sB := Sl.ofOwns hown
      rw [← hbl] at sB
      have kZ := kQ.out wr gg _ both (by rw [hbl] at sB ⊢; exact sB) hbI (lo + a) (lo + b) (by unfold I64; omega) (by unfold I64; omega)
      have hpz : projV t both (lo + a) (lo + b) = (U, 0) := by
        rw [hq2.out]
        unfold projV
        rw [if_neg (by simpa using hz), if_pos hq1.out]
      rw [hpz] at kZ
      dsimp only at kZ
      replace kZ := Lib.hid kZ
      clear hpz hbI kQ hq1 hq2
      have hwa : wrap64 (lo + a) = lo + a := by unfold wrap64; omega
      have hwb : wrap64 (lo + b) = lo + b := by unfold wrap64; omega
      obtain ⟨k0, k1, k2⟩ := cells3'' (hch.heap ba (by simp))
      replace bU := hch.heap bU (by simp)
      clear hown sB hbl
      go_wp2_with fail
      refine kZ.out.mono ?_
      rintro e w10 ⟨vp, vq, rfl, sP, dP, g10⟩
      replace bU := g10.heap bU (by simp)
      have g010 := gg.t0 g10
      obtain ⟨D3, p1, p2, p3⟩ := dP
      have sW : Sl2 w10 vq D3 := ⟨Sl.ofOwns p1, fun x hx => Sl.ofOwns (p2 x hx)⟩
      obtain ⟨a8, c8, rfl⟩ := sP.shape
      obtain ⟨a9, c9, rfl⟩ := own_shape p1
      rw [hUr.out]
      have hDD : D2.map (·.2) = D3.map (·.2) := by rw [← o6, ← p3]
      have gV := hch.t0 g10
      have kS := fun wx (g : Chg [] w10 wx) => rsame_same wx _ _ _ _ U.cols (b - a) D2 D3 (((sU.tr0 gU).tr0 gV).tr0 g) (sP.tr0 g) sU.le (((sV.tr0 gU).tr0 gV).tr0 g) (sW.tr0 g) hDD sV.1.le (fun x hx => (sV.2 x hx).le)
      replace hDD := Lib.hid hDD
      have bZ := heap_alloc_new w10 (.cells #[.slice a8 U.cols.length c8, .int .i64 (b - a), .slice a9 D3.length c9] 42)
      have gZ := Chg.alloc [] w10 (.cells #[.slice a8 U.cols.length c8, .int .i64 (b - a), .slice a9 D3.length c9] 42)
      replace bU := gZ.heap bU (by simp)
      clear kZ k0 k1 k2 ba bX p1 p2 p3 o6
      obtain ⟨m0, m1, m2⟩ := cells3'' bU
      obtain ⟨n0, n1, n2⟩ := cells3'' bZ
      go_wp2_with fail
      refine (kS _ gZ).mono ?_
      rintro e w11 ⟨rfl, g11⟩
      go_wp2
      go_ret
      exact ⟨by simp, (g010.t0 gZ).t0 g11⟩
theorem cellTwice_run (w : World) (x : Value × List Col × Int × Value × Rows2) (vk : Value) (cols : List Int) (lo hi : Int) (vs : Value) (sm : List Int) (a b : Int) (hok : okT w x)
    (hk : Sl w vk cols.length (cols.flatMap fun n : Int => [.int .i64 n])) (hkI : ∀ x ∈ cols, I64 x) (_b1 : cols.length * 8 ≤ 140737488351232) (w1 : (Lit.int .i64 lo).wf = true) (w2 : (Lit.int .i64 hi).wf = true)
    (hs : Sl w vs sm.length (sm.flatMap fun n : Int => [.int .i64 n])) (hsI : ∀ x ∈ sm, I64 x) (_b2 : sm.length * 8 ≤ 140737488351232) (w3 : (Lit.int .i64 a).wf = true) (w4 : (Lit.int .i64 b).wf = true) :
    Calls Try.prog 10 #[.agg [x.1, .int .i64 x.2.2.1, x.2.2.2.1].toArray, vk, .int .i64 lo, .int .i64 hi, vs, .int .i64 a, .int .i64 b] w fun e w' => e = .returned (.bool true) ∧ Chg [] w w' :=
  twice7_run w x.1 x.2.2.2.1 x.2.1 x.2.2.1 x.2.2.2.2 hok vk cols lo hi vs sm a b hk.ints hkI hs.ints hsI (i64_wf w1) (i64_wf w2) (i64_wf w3) (i64_wf w4)
end Go.Proofs.Ytfnfcioofkeanaa
namespace Go.Proofs.Ytfnfcioofkeanaa
set_option linter.unusedSimpArgs false
set_option linter.unusedVariables false
open Go.RowKit

theorem own_there {w : World} {base e size n : Nat} {v : Value} {xs : List Value} (h : w.ownsRow base e size v n xs) : ∀ g m c, v = .slice (some ⟨g, 0, none⟩) m c → w.there g 0 (n * size) := by
  rintro g m c rfl
  obtain ⟨_, ⟨h1, h2⟩ | ⟨g', cap, cur, h2, hb, hg, h3, h4, h5, _⟩⟩ := h
  · cases h1
  · cases h2
    intro j hj
    have : n * size ≤ c * size := Nat.mul_le_mul_right _ h3
    have hjs : j < cur.size := by omega
    exact ⟨by rw [Nat.zero_add, cell_of_row w g j _ _ _ hg]; simp [hjs], frozen_of_row w g (0 + j) _ _ hg⟩
/-- The blocks in which the inner rows lie. -/
def blks (E : Rows2) : List Nat := E.filterMap (·.1.ownBlock)
theorem mem_blks {E : Rows2} {j : Nat} (h : j ∈ blks E) : ∃ x ∈ E, x.1.ownBlock = some j := by
  unfold blks at h
  simpa [List.mem_filterMap] using h
theorem setCells_chg (g : Nat) : ∀ (vs : List Value) (w : World) (o : Nat), Chg [g] w (w.setCells g o vs)
  | [], _, _ => Chg.refl _ _
  | v :: r, w, o => (Chg.setCell w ⟨g, o, none⟩ v).t1 (setCells_chg g r _ _)

set_option maxHeartbeats 16000000 in
set_option maxRecDepth 100000 in
theorem projs7_run (w : World) (vc vd : Value) (L : List Col) (rows : Int) (D : Rows2) (hok : okT w (vc, L, rows, vd, D)) (vk : Value) (cols : List Int) (lo hi : Int)
    (hk : Sl w vk cols.length (ics .i64 cols)) (hkI : ∀ x ∈ cols, I64 x) (hlo : I64 lo) (hhi : I64 hi) :
    Calls Try.prog 9 #[.agg #[vc, .int .i64 rows, vd], vk, .int .i64 lo, .int .i64 hi] w fun e w' => e = .returned (.bool true) ∧ Chg [] w w' := by
  obtain ⟨l1, l2, l3⟩ := hok.small
  obtain ⟨hc, hL, _, _, hd, _, _⟩ := hok
  dsimp only at *
  replace hL := okCol.wide hL
  have hkl := hk.le
  obtain ⟨t, ht⟩ : ∃ t : Tab, t = ⟨L, rows, D.map (·.2)⟩ := ⟨_, rfl⟩
  have kF := fun w' (g : Chg [] w w') => few_ok w' vc vd L rows D (hc.tr0 g) (hd.tr0 g) l1 l2 l3
  have kP := fun w' (g : Chg [] w w') => project_own w' vc vd vk t D cols lo hi (by rw [ht]; exact hc.tr0 g) (hd.tr0 g) (by rw [ht]) (by rw [ht]; exact hL) (by rw [ht]; exact l1) l2 (hk.tr0 g) hkI hkl hlo hhi
  have kR := fun w' (g : Chg [] w w') => rproject_ok w' vc vd vk t D cols lo hi (by rw [ht]; exact hc.tr0 g) (hd.tr0 g) (by rw [ht]) (by rw [ht]; exact hL) (by rw [ht]; exact l1) l2 (hk.tr0 g) hkI hkl hlo hhi
  have htr : t.rows = rows := by rw [ht]
  rw [htr] at kP kR
  clear ht htr hkI hL hlo hhi
  replace l3 := Lib.hid l3
  obtain ⟨T, hT⟩ : ∃ T, T = projV t cols lo hi := ⟨_, rfl⟩
  simp only [← hT] at kP kR
  clear hT
  obtain ⟨⟨C, r, DD⟩, er⟩ := T
  dsimp only at kP kR
  have kP2 := Lib.hid kP
  unfold maxLen at hkl
  obtain ⟨a0, c0, rfl⟩ := hc.shape
  obtain ⟨a1, c1, rfl⟩ := hd.1.shape
  obtain ⟨a2, c2, rfl⟩ := hk.shape
  have g0 := Chg.alloc [] w (.cells #[.slice a0 L.length c0, .int .i64 rows, .slice a1 D.length c1] 42)
  have ba := heap_alloc_new w (.cells #[.slice a0 L.length c0, .int .i64 rows, .slice a1 D.length c1] 42)
  go_enter Try.func9, Try.ntmps9
  go_wp2_with fail
  generalize w.alloc (.cells #[.slice a0 L.length c0, .int .i64 rows, .slice a1 D.length c1] 42) = w1 at *
  refine (small07_ok _).mono ?_
  rintro e w2 ⟨rfl, g⟩
  replace ba := g.heap ba (by simp)
  replace g0 := g0.t0 g
  clear g
  obtain ⟨k0, k1, k2⟩ := cells3'' ba
  go_wp2_with fail
  refine (kF _ g0).mono ?_
  rintro e w3 ⟨⟨b, rfl⟩, g⟩
  replace ba := g.heap ba (by simp)
  replace g0 := g0.t0 g
  clear g k0 k1 k2 kF
  obtain ⟨k0, k1, k2⟩ := cells3'' ba
  cases b
  · go_wp2
    go_ret
    exact ⟨rfl, g0⟩
  by_cases h80 : 80 < cols.length
  · have h8 : (80 : Int) < cols.length := by omega
    go_wp2
    go_ret
    exact ⟨rfl, g0⟩
  have h80i : (cols.length : Int) ≤ 80 := by omega
  go_wp2_with fail
  refine (kP _ g0).mono ?_
  clear kP
  rintro e w4 ⟨vx, vy, rfl, sX, dX, g4⟩
  replace ba := g4.heap ba (by simp)
  have hbw : w.heap.size ≤ w3.heap.size := g0.size
  replace g0 := g0.t0 g4
  have g05 := g4
  clear g4 k0 k1 k2
  obtain ⟨D1, o1, o2, o3⟩ := dX
  obtain ⟨a4, c4, rfl⟩ := sX.shape
  obtain ⟨a5, c5, rfl⟩ := own_shape o1
  have gX := Chg.alloc [] w4 (.cells #[.slice a4 C.length c4, .int .i64 r, .slice a5 D1.length c5] 42)
  have bX := heap_alloc_new w4 (.cells #[.slice a4 C.length c4, .int .i64 r, .slice a5 D1.length c5] 42)
  replace ba := gX.heap ba (by simp)
  replace o2 := Lib.hid o2
  replace o3 := Lib.hid o3
  obtain ⟨k0, k1, k2⟩ := cells3'' ba
  go_wp2_with fail
  obtain ⟨w5, hw5⟩ : ∃ w5, w5 = w4.alloc (.cells #[.slice a4 C.length c4, .int .i64 r, .slice a5 D1.length c5] 42) := ⟨_, rfl⟩
  simp only [← hw5] at *
  clear hw5 k0 k1 k2
  have g5 := g0.t0 gX
  refine (kR _ g5).mono ?_
  clear kR
  rintro e w6 ⟨ux, uy, rfl, oU, dU, g6⟩
  replace ba := g6.heap ba (by simp)
  replace bX := g6.heap bX (by simp)
  replace g5 := g5.t0 g6
  obtain ⟨D2, o4, o5, o6⟩ := dU
  obtain ⟨a6, c6, rfl⟩ := own_shape oU
  obtain ⟨a7, c7, rfl⟩ := own_shape o4
  have gY := Chg.alloc [] w6 (.cells #[.slice a6 C.length c6, .int .i64 r, .slice a7 D2.length c7] 42)
  have bY := heap_alloc_new w6 (.cells #[.slice a6 C.length c6, .int .i64 r, .slice a7 D2.length c7] 42)
  replace ba := gY.heap ba (by simp)
  replace bX := gY.heap bX (by simp)
  have sU := Sl.ofOwns oU
  have sV : Sl2 w6 (.slice a7 D2.length c7) D2 := ⟨Sl.ofOwns o4, fun x hx => Sl.ofOwns (o5 x hx)⟩
  have sY : Sl2 w4 (.slice a5 D1.length c5) D1 := ⟨Sl.ofOwns o1, fun x hx => Sl.ofOwns (o2.out x hx)⟩
  have hDD : D1.map (·.2) = D2.map (·.2) := by rw [← o3.out, ← o6]
  have g46 := gX.t0 g6
  have kS := fun wx (g : Chg [] w6 wx) => rsame_same wx _ _ _ _ C r D1 D2 ((sX.tr0 g46).tr0 g) (sU.tr0 g) sU.le ((sY.tr0 g46).tr0 g) (sV.tr0 g) hDD sY.1.le (fun x hx => (sY.2 x hx).le)
  replace hDD := Lib.hid hDD
  replace o5 := Lib.hid o5
  replace o6 := Lib.hid o6
  obtain ⟨x0, x1, x2⟩ := cells3'' bX
  obtain ⟨y0, y1, y2⟩ := cells3'' bY
  go_wp2_with fail
  obtain ⟨w7, hw7⟩ : ∃ w7, w7 = w6.alloc (.cells #[.slice a6 C.length c6, .int .i64 r, .slice a7 D2.length c7] 42) := ⟨_, rfl⟩
  simp only [← hw7] at *
  clear hw7
  refine (kS w7 gY).mono ?_
  clear kS
  rintro e w8 ⟨rfl, g8⟩
  replace ba := g8.heap ba (by simp)
  replace bX := g8.heap bX (by simp)
  replace bY := g8.heap bY (by simp)
  have g08 := (g5.t0 gY).t0 g8
  have g68 := gY.t0 g8
  have g48 := g46.t0 g68
  clear x0 x1 x2 y0 y1 y2
  -- the inner rows' blocks
  have hS1 : ∀ j ∈ blks D1, w3.heap.size ≤ j ∧ j < w4.heap.size ∧ ∃ cs f, w4.heap[j]? = some (.cells cs 54 f) := fun j hj => by
    obtain ⟨x, hx, e⟩ := mem_blks hj
    exact ⟨own_from (o2.out x hx) j e, ((o2.out x hx).lt j e).2, own_type (o2.out x hx) j e⟩
  have hTh : ∀ x ∈ D1, ∀ g m c, x.1 = .slice (some ⟨g, 0, none⟩) m c → w8.there g 0 (x.2.length * 5) ∧ m = x.2.length := fun x hx g m c e => by
    have ho := own_tr (o2.out x hx) g48 (by simp)
    refine ⟨own_there ho g m c e, ?_⟩
    obtain ⟨a', c', e'⟩ := own_shape ho
    rw [e'] at e
    cases e; rfl
  have hSh : ∀ x ∈ D1, 0 < x.2.length → ∃ g c, x.1 = .slice (some ⟨g, 0, none⟩) x.2.length c ∧ g ∈ blks D1 := fun x hx hp => by
    have ho := o2.out x hx
    obtain ⟨_, ⟨h1, _⟩ | ⟨g, cap, cur, h1, _⟩⟩ := id ho
    · rw [h1] at ho
      obtain ⟨hh, _⟩ := ho
      omega
    · exact ⟨g, cap, h1, List.mem_filterMap.2 ⟨x, hx, by rw [h1]; rfl⟩⟩
  have hD1 : D1.length ≤ 9223372036854775807 := by have := sY.1.le; unfold maxLen at this; omega
  replace hS1 := Lib.hid hS1
  replace hTh := Lib.hid hTh
  replace hSh := Lib.hid hSh
  have o18 := own_tr o1 g48 (by simp)
  have hb8 : w3.heap.size ≤ w8.heap.size := Nat.le_trans g05.size (Nat.le_trans gX.size (Nat.le_trans g6.size g68.size))
  have hout : ∀ j ∈ blks D1, (Value.slice a5 D1.length c5).ownBlock ≠ some j := fun j hj e => by
    obtain ⟨_, _, cs, f, ht⟩ := hS1.out j hj
    exact own_not o1 ht (by decide) e
  have hnx : ∀ p (cs : Array Value) e f, w8.heap[p]? = some (.cells cs e f) → e ≠ 54 → p ∉ blks D1 := fun p cs e f hp he hm => by
    obtain ⟨_, h1, cs', f', ht⟩ := hS1.out p hm
    rw [g48.heap ht (by simp)] at hp
    simp at hp
    exact he hp.2.1.symm
  replace hout := Lib.hid hout
  have nA := hnx _ _ _ _ ba (by decide)
  have nX := hnx _ _ _ _ bX (by decide)
  have nY := hnx _ _ _ _ bY (by decide)
  clear hnx
  go_wp2_with fail
  go_loopw [16] (fun iv wr => ∃ k : Nat, k ≤ D1.length ∧ iv = .int .i64 k ∧ Chg (blks D1) w8 wr ∧ (∀ x ∈ D1, ∀ g m c, x.1 = .slice (some ⟨g, 0, none⟩) m c → wr.there g 0 (x.2.length * 5))) (fun iv _ => D1.length - (intOf iv).toNat)
  case atStart => exact ⟨0, Nat.zero_le _, rfl, Chg.refl _ _, fun x hx g m c e => (hTh.out x hx g m c e).1⟩
  case round =>
    obtain ⟨k, hkk, rfl, hch, hth⟩ := hrel
    replace hth := Lib.hid hth
    by_cases hlt : k < D1.length
    · have hkd : (k : Int) < D1.length := by omega
      have hmem := List.getElem_mem hlt
      have sO : Sl wr (.slice a5 D1.length c5) D1.length (D1.map (·.1)) := (Sl.ofOwns o18).tr hch (fun j hj hm => hout.out j hm (vblk_own hj))
      obtain ⟨b, off, c, e, _, _, hb, hcell⟩ := sO.at (by simp; omega)
      cases e
      obtain ⟨ai, ci, ei⟩ := own_shape (o2.out D1[k] hmem)
      obtain ⟨n, hn⟩ : ∃ n, n = D1[k].2.length := ⟨_, rfl⟩
      have hnl : n ≤ 9223372036854775807 := by have := (sY.2 _ hmem).le; unfold maxLen at this; omega
      have hsh := hSh.out D1[k] hmem
      have hthk : ∀ wx : World, (∀ x ∈ D1, ∀ g m c, x.1 = .slice (some ⟨g, 0, none⟩) m c → wx.there g 0 (x.2.length * 5)) → ∀ g m c, D1[k].1 = .slice (some ⟨g, 0, none⟩) m c → wx.there g 0 (n * 5) := fun wx h g m c e => by rw [hn]; exact h _ hmem g m c e
      rw [← hn] at ei hsh
      rw [ei] at hsh hthk
      replace hsh := Lib.hid hsh
      replace hthk := Lib.hid hthk
      clear hcell sO hb hn
      obtain ⟨wo, hwo⟩ : ∃ wo : World, wo = wr := ⟨_, rfl⟩
      rw [← hwo]
      rw [← hwo] at hch hth
      clear hwo
      obtain ⟨x0, x1, x2⟩ := cells3'' (hch.heap bX nX)
      go_wp2_with fail
      go_loopw [17] (fun iv wr => ∃ j : Nat, j ≤ n ∧ iv = .int .i64 j ∧ Chg (blks D1) w8 wr ∧ (∀ x ∈ D1, ∀ g m c, x.1 = .slice (some ⟨g, 0, none⟩) m c → wr.there g 0 (x.2.length * 5))) (fun iv _ => n - (intOf iv).toNat)
      case atStart => exact ⟨0, Nat.zero_le _, rfl, hch, hth.out⟩
      case round =>
        clear hch hth
        obtain ⟨j, hj, rfl, hch, hth⟩ := hrel
        replace hth := Lib.hid hth
        obtain ⟨x0, x1, x2⟩ := cells3'' (hch.heap bX nX)
        have sO : Sl wr (.slice (some ⟨b, off, none⟩) D1.length c5) D1.length (D1.map (·.1)) := (Sl.ofOwns o18).tr hch (fun j hj hm => hout.out j hm (vblk_own hj))
        obtain ⟨b', off', c', e, _, _, hb, hcell⟩ := sO.at (by simp; omega)
        cases e
        have u1 := hcell k D1[k].1 (by simp [hlt])
        rw [ei] at u1
        clear hcell sO hb
        by_cases hjn : j < n
        · obtain ⟨g, cg, e, hg⟩ := hsh.out (by omega)
          cases e
          have hjd : (j : Int) < n := by omega
          have tj : wr.there g (j * 5) 5 := fun i hi => by
            have := hthk.out wr hth.out g n ci rfl (j * 5 + i) (by omega)
            simpa using this
          have arm := fun (ops : Array Oper) (rest : List Oper) (op : Oper) (a : Act) (Q : Exit → Act → World → Prop) h1 h2 h3 h4 => wpList_store_mid (P := Try.prog) (ops := ops) (rest := rest) (op := op) (a := a) (w := wr) (Q := Q) h1 54 (.tmp 74) (.tmp 73) h2 g (j * 5) #[.bool false, .int .i64 (-7), .string { data := #[] }, .int .i64 0, .int .i64 0] h3 h4 tj (by kernel_rfl) (by kernel_rfl)
          clear tj
          replace arm := Lib.hid arm
          go_wp2_with (refine arm.out _ _ _ _ _ rfl rfl rfl rfl ?_)
          have gS := setCells_chg g [.bool false, .int .i64 (-7), .string { data := #[] }, .int .i64 0, .int .i64 0] wr (j * 5)
          refine ⟨⟨j + 1, by omega, by go_num, hch.trans gS (fun x hx => .inl (by rw [List.mem_singleton.1 hx]; exact hg)), fun x hx g' m c e => World.there_setCells (hth.out x hx g' m c e) _ _ _⟩, by simp [intOf]; omega⟩
        · obtain rfl : j = n := by omega
          go_wp2
          go_roundw
          case rel => exact ⟨k + 1, by omega, by go_num, hch, hth.out⟩
          case measure => simp [intOf]; omega
    · obtain rfl : k = D1.length := by omega
      have g08' : Chg [] w wr := g08.trans hch (fun x hx => .inr (by have := (hS1.out x hx).1; omega))
      have k2' := kP2.out wr g08'
      obtain ⟨k0, k1, k2⟩ := cells3'' (hch.heap ba nA)
      have bY' := hch.heap bY nY
      obtain ⟨x0, x1, x2⟩ := cells3'' (hch.heap bX nX)
      replace k2' := Lib.hid k2'
      go_wp2_with fail
      refine k2'.out.mono ?_
      rintro e w10 ⟨vp, vq, rfl, sP, dP, g10⟩
      replace bY' := g10.heap bY' (by simp)
      obtain ⟨D3, p1, p2, p3⟩ := dP
      have sW : Sl2 w10 vq D3 := ⟨Sl.ofOwns p1, fun x hx => Sl.ofOwns (p2 x hx)⟩
      obtain ⟨a8, c8, rfl⟩ := sP.shape
      obtain ⟨a9, c9, rfl⟩ := own_shape p1
      have hD32 : D3.map (·.2) = D2.map (·.2) := by rw [← p3, ← o6.out]
      have hlow : ∀ j ∈ blks D1, j < w5.heap.size := fun j hj => Nat.lt_of_lt_of_le (hS1.out j hj).2.1 gX.size
      have sU2 := Sl.ofOwns (own_tr (own_tr (own_tr oU g68 (by simp)) hch hlow) g10 (by simp))
      have sV2 : Sl2 w10 (.slice a7 D2.length c7) D2 := ⟨Sl.ofOwns (own_tr (own_tr (own_tr o4 g68 (by simp)) hch hlow) g10 (by simp)), fun x hx => Sl.ofOwns (own_tr (own_tr (own_tr (o5.out x hx) g68 (by simp)) hch hlow) g10 (by simp))⟩
      have bZ := heap_alloc_new w10 (.cells #[.slice a8 C.length c8, .int .i64 r, .slice a9 D3.length c9] 42)
      have gZ := Chg.alloc [] w10 (.cells #[.slice a8 C.length c8, .int .i64 r, .slice a9 D3.length c9] 42)
      replace bY' := gZ.heap bY' (by simp)
      have kS := fun wx (g : Chg [] w10 wx) => rsame_same wx _ _ _ _ C r D3 D2 (sP.tr0 g) (sU2.tr0 g) sU2.le (sW.tr0 g) (sV2.tr0 g) hD32 sW.1.le (fun x hx => (sW.2 x hx).le)
      replace hD32 := Lib.hid hD32
      replace p2 := Lib.hid p2
      replace p3 := Lib.hid p3
      clear k0 k1 k2 x0 x1 x2 k2' kP2 hth
      obtain ⟨m0, m1, m2⟩ := cells3'' bY'
      obtain ⟨n0, n1, n2⟩ := cells3'' bZ
      go_wp2_with fail
      refine (kS _ gZ).mono ?_
      rintro e w11 ⟨rfl, g11⟩
      go_wp2
      go_ret
      exact ⟨by simp, ((g08'.t0 g10).t0 gZ).t0 g11⟩
theorem cellProjects_run (w : World) (x : Value × List Col × Int × Value × Rows2) (vk : Value) (cols : List Int) (lo hi : Int) (hok : okT w x)
    (hk : Sl w vk cols.length (cols.flatMap fun n : Int => [.int .i64 n])) (hkI : ∀ x ∈ cols, I64 x) (_b1 : cols.length * 8 ≤ 140737488351232) (w1 : (Lit.int .i64 lo).wf = true) (w2 : (Lit.int .i64 hi).wf = true) :
    Calls Try.prog 9 #[.agg [x.1, .int .i64 x.2.2.1, x.2.2.2.1].toArray, vk, .int .i64 lo, .int .i64 hi] w fun e w' => e = .returned (.bool true) ∧ Chg [] w w' :=
  projs7_run w x.1 x.2.2.2.1 x.2.1 x.2.2.1 x.2.2.2.2 hok vk cols lo hi hk.ints hkI (i64_wf w1) (i64_wf w2)
end Go.Proofs.Ytfnfcioofkeanaa
namespace Go.Proofs.Ytfnfcioofkeanaa
set_option linter.unusedSimpArgs false
set_option linter.unusedVariables false
open Go.ChangeShapes Go.WideShapes Go.ChangeAt Go.RowKit
open Go.ChangeMaps (open_string shut_string)
set_option linter.unusedVariables false

theorem ownCellProjects : ownKnob Try.prog.godebug = none := by kernel_rfl
theorem laidOutCellProjects : laidOutB Try.prog = true := by kernel_rfl

set_option maxRecDepth 100000 in
set_option maxHeartbeats 4000000 in
theorem cellProjects_lifted (os : Os) (started : os.Started) (H : Type) (enc : TypeId × Value → H) :
    ReturnsInHanded {} Try.checked os 9 .any (Rows.cellProjectsSpec.pre6 enc Try.prog Try.f9 Rows.cellProjectsRow.domain false) (Rows.cellProjectsSpec.post enc Try.prog Try.f9 false true false false) := by
  refine returnsInHanded_of_change_sized (C := Try.checked) ownCellProjects started (by kernel_rfl) Try.func9
    (ChangeSpec.witness6 (enc := enc) (C := Try.checked) false ⟨#[], #[.agg #[.slice none 0 0, .int .i64 0, .slice none 0 0], .slice none 0 0, .int .i64 0, .int .i64 0], []⟩ 8 (by kernel_rfl) (by kernel_rfl) (by kernel_rfl) (by kernel_rfl)) ?_
  intro W base args ds gs before hval0 hW hcnd hsz0 _
  have hval : ∀ (j : Nat) t v, Try.f9.params[j]? = some t → args[j]? = some v → Value.okWide Try.prog W .any base t v := hval0
  have hsz : (DataW.weightsEach Try.prog (Try.f9.params.toList ++ Rows.cellProjectsSpec.plain.varTypes Try.prog) (ds ++ gs)).all (· ≤ reachBytes) = true := hsz0
  have hW' := hW
  obtain ⟨p, q, hA0, hV, rfl, hfz, hnd⟩ := hW
  have hA : DataW.TrodAll enc Try.prog W 0 (fun _ => true) true Try.f9.params.toList args.toList ds p := hA0
  rw [Try.params9] at hA hval hsz
  obtain ⟨v0, vs0, d0, ds0, p0, q0, hargs, rfl, rfl, h0, r0⟩ := trodAll_cons hA
  obtain ⟨v1, vs1, d1, ds1, p1, q1, rfl, rfl, rfl, h1, r1⟩ := trodAll_cons r0
  obtain ⟨v2, vs2, d2, ds2, p2, q2, rfl, rfl, rfl, h2, r2⟩ := trodAll_cons r1
  obtain ⟨v3, vs3, d3, ds3, p3, q3, rfl, rfl, rfl, h3, r3⟩ := trodAll_cons r2
  obtain ⟨rfl, rfl, rfl⟩ := trodAll_nil r3
  obtain rfl : args = #[v0, v1, v2, v3] := by cases args; simp_all
  obtain ⟨rfl, rfl⟩ := trodVars_none hV
  have k0 := h0
  have lt0 : ∀ x ∈ p0, x.block < W.heap.size := by obtain ⟨m, hm⟩ := k0; exact DataW.trod_lt m _ _ _ hm
  obtain ⟨b0, rfl, ok0⟩ := open_st dec_table Try.underlying42 (by kernel_rfl) (hval 0 42 v0 rfl rfl) h0 (small_of hsz (j := 0) (t := 42) rfl rfl)
  have k1 := h1
  have lt1 : ∀ x ∈ p1, x.block < W.heap.size := by obtain ⟨m, hm⟩ := k1; exact DataW.trod_lt m _ _ _ hm
  obtain ⟨l1, sl1, ok1, bd1⟩ := open_sl (bytes := 8) (dec_int Try.underlying3) Try.underlying22 (by kernel_rfl) (by kernel_rfl) (by decide) (hval 1 22 v1 rfl rfl) h1 (small_of hsz (j := 1) (t := 22) rfl rfl)
  obtain ⟨a2, rfl, rfl, rfl, w2⟩ := open_int Try.underlying3 (hval 2 3 v2 rfl rfl) h2
  obtain ⟨a3, rfl, rfl, rfl, w3⟩ := open_int Try.underlying3 (hval 3 3 v3 rfl rfl) h3
  clear hA0 hval0 hsz0 hsz
  refine (cellProjects_run W b0 v1 l1 a2 a3 ok0 sl1 ok1 bd1 w2 w3).mono fun e W' ⟨he, chg⟩ => ?_
  have bel := chg.below
  subst he
  exact ⟨_, rfl, _, _, _, [], _, [], hW', trodAll_mk1 (shut_bool Try.underlying4 _), (trodAll_cons_mk (Below.trod laidOutCellProjects (by kernel_rfl) (of_decide_eq_true (by kernel_rfl)) k0 bel lt0) (trodAll_cons_mk (Below.trod laidOutCellProjects (by kernel_rfl) (of_decide_eq_true (by kernel_rfl)) k1 bel lt1) (trodAll_cons_mk (shut_int Try.underlying3 w2) (trodAll_cons_mk (shut_int Try.underlying3 w3) trodAll_mk0)))), rfl, bel.frame _, fun h => by cases h⟩

set_option maxHeartbeats 4000000 in
theorem cellProjects_closed : joinedFacts Try.checked.prog 9 Try.f9 Rows.cellProjectsSpec Rows.cellProjectsRow = true := by
  unfold joinedFacts
  simp only [Bool.and_eq_true]
  repeat' apply And.intro
  all_goals (as_aux_lemma => kernel_rfl)

theorem cellProjects_over : Rows.cellProjectsRow.holds Try.pinned (OpenSpec.ofChange Rows.cellProjectsSpec) :=
  OpenClaim.holds_of_wide 9 Try.f9 rfl rfl rfl rfl rfl rfl rfl ⟨rfl, rfl, rfl, rfl, rfl⟩ rfl rfl rfl rfl rfl (by kernel_rfl) Try.func9 cellProjects_closed
    (of_decide_eq_true (by kernel_rfl)) (by unfold Func.isWrapper; first | (rw [if_pos (by decide +kernel)]; kernel_rfl) | (rw [if_neg (by decide +kernel)]; exact ⟨rfl, rfl⟩))
    (fun os started H enc _ => cellProjects_lifted os started H enc)

theorem cellProjects_proved : Rows.CellProjectsSaid := cellProjects_over
#print axioms cellProjects_proved
end Go.Proofs.Ytfnfcioofkeanaa
