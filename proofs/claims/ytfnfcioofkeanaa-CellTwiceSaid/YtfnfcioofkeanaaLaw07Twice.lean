/-
  CellTwice: the walk.
-/
import Derived.Test.YtfnfcioofkeanaaSame
import Derived.Test.YtfnfcioofkeanaaProjPure
import Derived.Test.YtfnfcioofkeanaaLaw07Checks
import Derived.Test.YtfnfcioofkeanaaQuery2
namespace Go.Proofs.Ytfnfcioofkeanaa
set_option linter.unusedSimpArgs false
set_option linter.unusedVariables false
open Go.RowKit

theorem proj_cases (t : Tab) (cols : List Int) (lo hi : Int) : (∃ e, e ≠ 0 ∧ projV t cols lo hi = (noT, e) ∧ (checkV t = 0 → e = 7)) ∨ (checkV t = 0 ∧ fitsV cols lo hi t.cols.length t.rows = true ∧ projV t cols lo hi = (pickT t cols lo hi, 0)) := by
  unfold projV
  by_cases h : checkV t = 0
  · rw [if_neg (by simpa using h)]
    by_cases h2 : fitsV cols lo hi t.cols.length t.rows = true
    · rw [if_pos h2]; exact .inr ⟨h, h2, rfl⟩
    · rw [if_neg h2]; exact .inl ⟨7, by decide, rfl, fun _ => rfl⟩
  · rw [if_pos h]; exact .inl ⟨_, h, rfl, fun h2 => absurd h2 h⟩
theorem Sl.ints {w : World} {v : Value} {l : List Int} (h : Sl w v l.length (l.flatMap fun n : Int => [.int .i64 n])) : Sl w v l.length (ics .i64 l) := by
  have e : (l.flatMap fun n : Int => [Value.int .i64 n]) = ics .i64 l := by
    unfold ics
    clear h
    induction l with
    | nil => rfl
    | cons a l ih => rw [List.flatMap_cons, List.map_cons, ih]; rfl
  rw [← e]; exact h
set_option maxHeartbeats 16000000 in
set_option maxRecDepth 100000 in
theorem twice7_run (w : World) (vc vd : Value) (L : List Col) (rows : Int) (D : Rows2) (hok : okT w (vc, L, rows, vd, D)) (vk : Value) (cols : List Int) (lo hi : Int) (vs : Value) (sm : List Int) (a b : Int)
    (hk : Sl w vk cols.length (ics .i64 cols)) (hkI : ∀ x ∈ cols, I64 x) (hs : Sl w vs sm.length (ics .i64 sm)) (hsI : ∀ x ∈ sm, I64 x) (hlo : I64 lo) (hhi : I64 hi) (ha : I64 a) (hb : I64 b) :
    Calls Try.prog 10 #[.agg #[vc, .int .i64 rows, vd], vk, .int .i64 lo, .int .i64 hi, vs, .int .i64 a, .int .i64 b] w fun e w' => e = .returned (.bool true) ∧ Chg [] w w' := by
  obtain ⟨l1, l2, l3⟩ := hok.small
  obtain ⟨hc, hL, _, _, hd, _, _⟩ := hok
  dsimp only at *
  replace hL := okCol.wide hL
  have hkl := hk.le
  have hsl := hs.le
  obtain ⟨t, ht⟩ : ∃ t : Tab, t = ⟨L, rows, D.map (·.2)⟩ := ⟨_, rfl⟩
  have kF := fun w' (g : Chg [] w w') => few_ok w' vc vd L rows D (hc.tr0 g) (hd.tr0 g) l1 l2 l3
  have kP := fun w' (g : Chg [] w w') => project_own w' vc vd vk t D cols lo hi (by rw [ht]; exact hc.tr0 g) (hd.tr0 g) (by rw [ht]) (by rw [ht]; exact hL) (by rw [ht]; exact l1) l2 (hk.tr0 g) hkI hkl hlo hhi
  have kQ := fun w' (g : Chg [] w w') vB both (h1 : Sl w' vB both.length (ics .i64 both)) (h2 : ∀ x ∈ both, I64 x) lo2 hi2 (h3 : I64 lo2) (h4 : I64 hi2) => project_own w' vc vd vB t D both lo2 hi2 (by rw [ht]; exact hc.tr0 g) (hd.tr0 g) (by rw [ht]) (by rw [ht]; exact hL) (by rw [ht]; exact l1) l2 h1 h2 h1.le h3 h4
  have htr : t.rows = rows := by rw [ht]
  rw [htr] at kP kQ
  replace hkI := Lib.hid hkI
  replace hsI := Lib.hid hsI
  replace hL := Lib.hid hL
  replace l3 := Lib.hid l3
  replace ht := Lib.hid ht
  replace htr := Lib.hid htr
  replace kQ := Lib.hid kQ
  replace hlo := Lib.hid hlo
  replace hhi := Lib.hid hhi
  replace ha := Lib.hid ha
  replace hb := Lib.hid hb
  unfold maxLen at hkl hsl
  obtain ⟨a0, c0, rfl⟩ := hc.shape
  obtain ⟨a1, c1, rfl⟩ := hd.1.shape
  obtain ⟨a2, c2, rfl⟩ := hk.shape
  obtain ⟨a3, c3, rfl⟩ := hs.shape
  have g0 := Chg.alloc [] w (.cells #[.slice a0 L.length c0, .int .i64 rows, .slice a1 D.length c1] 42)
  have ba := heap_alloc_new w (.cells #[.slice a0 L.length c0, .int .i64 rows, .slice a1 D.length c1] 42)
  go_enter Try.func10, Try.ntmps10
  go_wp2_with fail
  generalize w.alloc (.cells #[.slice a0 L.length c0, .int .i64 rows, .slice a1 D.length c1] 42) = w1 at *
  refine (small07_ok _).mono ?_
  rintro e w2 ⟨rfl, g⟩
  replace ba := g.heap ba (by simp)
  replace g0 := g0.t0 g
  clear g
  obtain ⟨k0, k1, k2⟩ := cells3'' ba
  go_wp2_with fail
  refine (kF _ g0).mono ?_
  rintro e w3 ⟨⟨b, rfl⟩, g⟩
  replace ba := g.heap ba (by simp)
  replace g0 := g0.t0 g
  clear g k0 k1 k2 kF
  obtain ⟨k0, k1, k2⟩ := cells3'' ba
  cases b
  · go_wp2
    go_ret
    exact ⟨rfl, g0⟩
  by_cases h80 : 80 < cols.length
  · have h8 : (80 : Int) < cols.length := by omega
    go_wp2
    go_ret
    exact ⟨rfl, g0⟩
  have h80i : (cols.length : Int) ≤ 80 := by omega
  by_cases h81 : 80 < sm.length
  · have h8 : (80 : Int) < sm.length := by omega
    go_wp2
    go_ret
    exact ⟨rfl, g0⟩
  have h81i : (sm.length : Int) ≤ 80 := by omega
  go_wp2_with fail
  refine (kP _ g0).mono ?_
  clear kP
  rintro e w4 ⟨vx, vy, rfl, sX, dX, g4⟩
  replace ba := g4.heap ba (by simp)
  replace g0 := g0.t0 g4
  clear g4 k0 k1 k2
  have kc := proj_cases t cols lo hi
  rcases kc with ⟨e, he, hp, _⟩ | ⟨hz, hfit, hp⟩
  · rw [hp] at sX dX ⊢
    simp only [noT, List.length_nil, List.flatMap_nil] at sX dX ⊢
    obtain ⟨a4, c4, rfl⟩ := sX.shape
    obtain ⟨D1, o1, o2, o3⟩ := dX
    obtain ⟨a5, c5, rfl⟩ := own_shape o1
    have hen : (e != 0) = true := by simpa using he
    clear hp kQ sX o1 o2 o3
    go_wp2
    go_ret
    exact ⟨rfl, g0.t0 (Chg.alloc [] w4 _)⟩
  rw [hp] at sX dX ⊢
  have hg := pick_good hz hfit
  obtain ⟨T, hT⟩ : ∃ T, T = pickT t cols lo hi := ⟨_, rfl⟩
  rw [← hT] at hg
  have hTr : T.rows = hi - lo := by rw [hT]; rfl
  have hTc : T.cols.length = cols.length := by rw [hT]; simp [pickT]
  simp only [← hT] at sX dX ⊢
  obtain ⟨D1, o1, o2, o3⟩ := dX
  have sY : Sl2 w4 vy D1 := ⟨Sl.ofOwns o1, fun x hx => Sl.ofOwns (o2 x hx)⟩
  have hD1 : D1.length ≤ maxLen := sY.1.le
  have hTL : ∀ c ∈ T.cols, c.name.length ≤ maxLen ∧ -9223372036854775808 ≤ c.typ ∧ c.typ ≤ 9223372036854775807 := fun c hc => by
    have := (colsV_zeroP.1 (checkV_zero hg).1).2.1 c hc
    unfold maxLen
    omega
  have kK := fun w' (g : Chg [] w4 w') => check_ok w' vx vy T D1 (sX.tr0 g) (sY.tr0 g) o3 hTL sX.le hD1
  have kY := fun w' (g : Chg [] w4 w') => project_own w' vx vy (.slice a3 sm.length c3) T D1 sm a b (sX.tr0 g) (sY.tr0 g) o3 hTL sX.le hD1 (hs.tr0 (g0.t0 g)) hsI.out hsl ha.out hb.out
  rw [hg] at kK
  obtain ⟨a4, c4, rfl⟩ := sX.shape
  obtain ⟨a5, c5, rfl⟩ := own_shape o1
  have hfi := fitsV_iff.1 hfit
  obtain ⟨f1, f2, f3, f4, f5⟩ := hfi
  have hrow := (checkV_zero hz).2.2.1
  rw [hTr, hTc] at kK kY
  have hw : wrap64 (hi - lo) = hi - lo := by unfold wrap64; omega
  have bX := heap_alloc_new w4 (.cells #[.slice a4 cols.length c4, .int .i64 (hi - lo), .slice a5 D1.length c5] 42)
  have gX := Chg.alloc [] w4 (.cells #[.slice a4 cols.length c4, .int .i64 (hi - lo), .slice a5 D1.length c5] 42)
  replace ba := gX.heap ba (by simp)
  rw [hTr, hTc]
  replace f2 := Lib.hid f2
  replace hTL := Lib.hid hTL
  replace kY := Lib.hid kY
  clear hTr hTc
  go_wp2_with fail
  generalize w4.alloc (.cells #[.slice a4 cols.length c4, .int .i64 (hi - lo), .slice a5 D1.length c5] 42) = w5 at *
  refine (kK w5 gX).mono ?_
  rintro e w6 ⟨rfl, g6⟩
  replace ba := g6.heap ba (by simp)
  replace bX := g6.heap bX (by simp)
  replace gX := gX.t0 g6
  clear g6 kK
  obtain ⟨x0, x1, x2⟩ := cells3'' bX
  go_wp2_with fail
  refine (kY.out w6 gX).mono ?_
  clear kY x0 x1 x2
  rintro e w7 ⟨ux, uy, rfl, sU, dU, g7⟩
  replace ba := g7.heap ba (by simp)
  replace bX := g7.heap bX (by simp)
  replace gX := gX.t0 g7
  clear g7
  have g07 := g0.t0 gX
  rcases proj_cases T sm a b with ⟨e, he, hp2, h7⟩ | ⟨_, hfit2, hp2⟩
  · obtain rfl := h7 hg
    rw [hp2] at sU dU ⊢
    simp only [noT, List.length_nil, List.flatMap_nil] at sU dU ⊢
    obtain ⟨a6, c6, rfl⟩ := sU.shape
    obtain ⟨D2, o4, o5, o6⟩ := dU
    obtain ⟨a7, c7, rfl⟩ := own_shape o4
    clear kQ sU o4 o5 o6 o2 o3 hp2 hp h7
    go_wp2
    go_ret
    exact ⟨rfl, g07.t0 (Chg.alloc [] w7 _)⟩
  rw [hp2] at sU dU ⊢
  have hfit3 := hfit2
  rw [show T.cols.length = cols.length by rw [hT]; simp [pickT], show T.rows = hi - lo by rw [hT]; rfl] at hfit3
  obtain ⟨hq1, hq2⟩ := pick_pick hfit hfit3
  rw [← hT] at hq2
  obtain ⟨U, hU⟩ : ∃ U, U = pickT T sm a b := ⟨_, rfl⟩
  have hUr : U.rows = b - a := by rw [hU]; rfl
  rw [← hU] at hq2
  simp only [← hU] at sU dU ⊢
  obtain ⟨q1, q2, q3, q4, q5⟩ := fitsV_iff.1 hfit3
  obtain ⟨D2, o4, o5, o6⟩ := dU
  have sV : Sl2 w7 uy D2 := ⟨Sl.ofOwns o4, fun x hx => Sl.ofOwns (o5 x hx)⟩
  obtain ⟨a6, c6, rfl⟩ := sU.shape
  obtain ⟨a7, c7, rfl⟩ := own_shape o4
  rw [hUr]
  have bU := heap_alloc_new w7 (.cells #[.slice a6 U.cols.length c6, .int .i64 (b - a), .slice a7 D2.length c7] 42)
  have gU := Chg.alloc [] w7 (.cells #[.slice a6 U.cols.length c6, .int .i64 (b - a), .slice a7 D2.length c7] 42)
  replace ba := gU.heap ba (by simp)
  replace q2 := Lib.hid q2
  replace hU := Lib.hid hU
  replace hT := Lib.hid hT
  replace hUr := Lib.hid hUr
  replace hq1 := Lib.hid hq1
  replace hq2 := Lib.hid hq2
  clear hp2 hp hfit2 hfit3 o4 o5 o2
  go_wp2_with fail
  generalize w7.alloc (.cells #[.slice a6 U.cols.length c6, .int .i64 (b - a), .slice a7 D2.length c7] 42) = w8 at *
  have g08 := g07.t0 gU
  go_loopw [21, 22] (fun bv iv wr => ∃ k : Nat, k ≤ sm.length ∧ iv = .int .i64 k ∧ wr.ownsRow w8.heap.size 3 1 bv k (ics .i64 ((sm.take k).map fun k => cols.getD k.toNat 0)) ∧ Chg [] w8 wr) (fun _ iv _ => sm.length - (intOf iv).toNat)
  case atStart => exact ⟨0, Nat.zero_le _, rfl, World.ownsRow_nil _ _ _ _, Chg.refl _ _⟩
  case round =>
    obtain ⟨k, hkk, rfl, hown, hch⟩ := hrel
    have gg := g08.t0 hch
    by_cases hlt : k < sm.length
    · obtain ⟨b1, off1, cc1, e1, hb1, x1⟩ := int_cells (hs.tr0 gg) k hlt
      cases e1
      have hx := q2.out _ (List.getElem_mem hlt)
      have htk : sm.take (k + 1) = sm.take k ++ [sm[k]] := List.take_succ_eq_append_getElem hlt
      have hkd : (k : Int) < sm.length := by omega
      replace htk := Lib.hid htk
      generalize sm[k] = X at *
      obtain ⟨x, rfl⟩ : ∃ x : Nat, X = x := ⟨X.toNat, by omega⟩
      have hxc : x < cols.length := by omega
      have hxi : (x : Int) < cols.length := by omega
      obtain ⟨b2, off2, cc2, e2, hb2, x2⟩ := int_cells (hk.tr0 gg) x hxc
      cases e2
      have hgd : cols.getD ((x : Int).toNat) 0 = cols[x] := by simp [List.getD, hxc]
      replace hgd := Lib.hid hgd
      generalize cols[x] = Y at *
      clear hx
      go_wp2_with (at_builtin; refine wpList_append_sl _ rfl (.tmp 117) (.tmp 125) 22 3 1 8 rfl el_int w8.heap.size _ _ _ rfl (hown.alloc _) _ 1 (ics .i64 [Y]) rfl (Sl.lit _ _ _ 1 (by decide)) (by simp [ics]) (ics_one _ _) (by unfold big; omega) (by have := hch.size; simp; omega) ?_)
      intro v' w9 hown9 hg9
      have g9 : Chg [] w8 w9 := (hch.t0 (Chg.alloc [] wr _)).grownOwn hg9 (hown.alloc _) (Nat.le_refl _)
      have hown' : w9.ownsRow w8.heap.size 3 1 v' (k + 1) (ics .i64 ((sm.take (k + 1)).map fun k => cols.getD k.toNat 0)) := by
        rw [htk.out, List.map_append, ics_append, List.map_singleton, hgd.out, List.map_take]
        simpa [List.getD] using hown9
      clear hown9 hown hg9
      go_wp2
      go_roundw
      case rel => exact ⟨k + 1, by omega, by go_num, hown', g9⟩
      case measure => simp [intOf]; omega
    · obtain rfl : k = sm.length := by omega
      rw [List.take_length] at hown
      obtain ⟨av, cv, rfl⟩ := own_shape hown
      obtain ⟨both, hbo⟩ : ∃ l, l = sm.map fun k => cols.getD k.toNat 0 := ⟨_, rfl⟩
      rw [← hbo] at hown
      rw [← hbo] at hq1 hq2
      have hbl : both.length = sm.length := by rw [hbo]; simp
      have hbI : ∀ x ∈ both, I64 x := fun x hx => by
        rw [hbo] at hx
        obtain ⟨y, hy, rfl⟩ := List.mem_map.1 hx
        have hyy := q2.out y hy
        exact hkI.out _ (getD_memP _ (by omega))
      have sB := Sl.ofOwns hown
      rw [← hbl] at sB
      have kZ := kQ.out wr gg _ both (by rw [hbl] at sB ⊢; exact sB) hbI (lo + a) (lo + b) (by unfold I64; omega) (by unfold I64; omega)
      have hpz : projV t both (lo + a) (lo + b) = (U, 0) := by
        rw [hq2.out]
        unfold projV
        rw [if_neg (by simpa using hz), if_pos hq1.out]
      rw [hpz] at kZ
      dsimp only at kZ
      replace kZ := Lib.hid kZ
      clear hpz hbI kQ hq1 hq2
      have hwa : wrap64 (lo + a) = lo + a := by unfold wrap64; omega
      have hwb : wrap64 (lo + b) = lo + b := by unfold wrap64; omega
      obtain ⟨k0, k1, k2⟩ := cells3'' (hch.heap ba (by simp))
      replace bU := hch.heap bU (by simp)
      clear hown sB hbl
      go_wp2_with fail
      refine kZ.out.mono ?_
      rintro e w10 ⟨vp, vq, rfl, sP, dP, g10⟩
      replace bU := g10.heap bU (by simp)
      have g010 := gg.t0 g10
      obtain ⟨D3, p1, p2, p3⟩ := dP
      have sW : Sl2 w10 vq D3 := ⟨Sl.ofOwns p1, fun x hx => Sl.ofOwns (p2 x hx)⟩
      obtain ⟨a8, c8, rfl⟩ := sP.shape
      obtain ⟨a9, c9, rfl⟩ := own_shape p1
      rw [hUr.out]
      have hDD : D2.map (·.2) = D3.map (·.2) := by rw [← o6, ← p3]
      have gV := hch.t0 g10
      have kS := fun wx (g : Chg [] w10 wx) => rsame_same wx _ _ _ _ U.cols (b - a) D2 D3 (((sU.tr0 gU).tr0 gV).tr0 g) (sP.tr0 g) sU.le (((sV.tr0 gU).tr0 gV).tr0 g) (sW.tr0 g) hDD sV.1.le (fun x hx => (sV.2 x hx).le)
      replace hDD := Lib.hid hDD
      have bZ := heap_alloc_new w10 (.cells #[.slice a8 U.cols.length c8, .int .i64 (b - a), .slice a9 D3.length c9] 42)
      have gZ := Chg.alloc [] w10 (.cells #[.slice a8 U.cols.length c8, .int .i64 (b - a), .slice a9 D3.length c9] 42)
      replace bU := gZ.heap bU (by simp)
      clear kZ k0 k1 k2 ba bX p1 p2 p3 o6
      obtain ⟨m0, m1, m2⟩ := cells3'' bU
      obtain ⟨n0, n1, n2⟩ := cells3'' bZ
      go_wp2_with fail
      refine (kS _ gZ).mono ?_
      rintro e w11 ⟨rfl, g11⟩
      go_wp2
      go_ret
      exact ⟨by simp, (g010.t0 gZ).t0 g11⟩
theorem cellTwice_run (w : World) (x : Value × List Col × Int × Value × Rows2) (vk : Value) (cols : List Int) (lo hi : Int) (vs : Value) (sm : List Int) (a b : Int) (hok : okT w x)
    (hk : Sl w vk cols.length (cols.flatMap fun n : Int => [.int .i64 n])) (hkI : ∀ x ∈ cols, I64 x) (_b1 : cols.length * 8 ≤ 140737488351232) (w1 : (Lit.int .i64 lo).wf = true) (w2 : (Lit.int .i64 hi).wf = true)
    (hs : Sl w vs sm.length (sm.flatMap fun n : Int => [.int .i64 n])) (hsI : ∀ x ∈ sm, I64 x) (_b2 : sm.length * 8 ≤ 140737488351232) (w3 : (Lit.int .i64 a).wf = true) (w4 : (Lit.int .i64 b).wf = true) :
    Calls Try.prog 10 #[.agg [x.1, .int .i64 x.2.2.1, x.2.2.2.1].toArray, vk, .int .i64 lo, .int .i64 hi, vs, .int .i64 a, .int .i64 b] w fun e w' => e = .returned (.bool true) ∧ Chg [] w w' :=
  twice7_run w x.1 x.2.2.2.1 x.2.1 x.2.2.1 x.2.2.2.2 hok vk cols lo hi vs sm a b hk.ints hkI hs.ints hsI (i64_wf w1) (i64_wf w2) (i64_wf w3) (i64_wf w4)
end Go.Proofs.Ytfnfcioofkeanaa
