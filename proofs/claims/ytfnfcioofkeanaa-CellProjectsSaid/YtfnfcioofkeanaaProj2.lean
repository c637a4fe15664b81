/-
  The contract of cell.Project.
-/
import Derived.Test.YtfnfcioofkeanaaProj
import Derived.Maps.Own
import Derived.Maps.OwnOps
import Derived.Maps.Views
namespace Go.Proofs.Ytfnfcioofkeanaa
set_option linter.unusedSimpArgs false
set_option linter.unusedVariables false
open Go.RowKit Go.WideMaps Go.Maps

theorem lawI : Keyed Try.prog 3 := int_keyed Try.underlying3
theorem wf64 {x : Int} (h : I64 x) : (Lit.int .i64 x).wf = true := by
  obtain ⟨h1, h2⟩ := h
  simp [Lit.wf, IntKind.min, IntKind.max, IntKind.bits, IntKind.signed]
  omega
theorem colsV_len {L : List Col} (h : colsV L = 0) : L.length ≤ 64 := by
  unfold colsV at h
  split at h
  · cases h
  · omega
/-- A row of rows of cells, of the call's own or not. -/
def DataAt (w : World) (v : Value) (data : List (List Cell)) : Prop := ∃ D : Rows2, Sl2 w v D ∧ data = D.map (·.2)
/-- The same, all of it the call's own. -/
def DataOwn (w : World) (base : Nat) (v : Value) (data : List (List Cell)) : Prop := ∃ D : Rows2, w.ownsRow base 50 1 v D.length (D.map (·.1)) ∧ (∀ x ∈ D, w.ownsRow base 54 5 x.1 x.2.length (x.2.flatMap cellc)) ∧ data = D.map (·.2)
theorem DataOwn.at {w : World} {base : Nat} {v : Value} {data : List (List Cell)} (h : DataOwn w base v data) : DataAt w v data := by
  obtain ⟨D, h1, h2, h3⟩ := h
  exact ⟨D, ⟨Sl.ofOwns h1, fun x hx => Sl.ofOwns (h2 x hx)⟩, h3⟩
def CountsI (D : DataW Unit) (seen : List Int) : Prop := ∀ s : Int, D.atKey (.int .i64 s) (.lit (.int .i64 0)) = .lit (.int .i64 (if s ∈ seen then 1 else 0))

set_option maxHeartbeats 8000000 in
set_option maxRecDepth 100000 in
theorem project_own (w : World) (vc vd vk : Value) (t : Tab) (D : Rows2) (cols : List Int) (lo hi : Int) (hc : Sl w vc t.cols.length (t.cols.flatMap colc)) (hd : Sl2 w vd D) (hD : t.data = D.map (·.2))
    (hL : ∀ c ∈ t.cols, c.name.length ≤ maxLen ∧ -9223372036854775808 ≤ c.typ ∧ c.typ ≤ 9223372036854775807) (hcl : t.cols.length ≤ maxLen) (hdl : D.length ≤ maxLen)
    (hk : Sl w vk cols.length (ics .i64 cols)) (hkI : ∀ x ∈ cols, I64 x) (hkl : cols.length ≤ maxLen) (hlo : I64 lo) (hhi : I64 hi) :
    Calls Try.prog 28 #[.agg #[vc, .int .i64 t.rows, vd], vk, .int .i64 lo, .int .i64 hi] w fun e w' => ∃ vc' vd', e = .returned (.tuple #[.agg #[vc', .int .i64 (projV t cols lo hi).1.rows, vd'], .int .i64 (projV t cols lo hi).2]) ∧
      Sl w' vc' (projV t cols lo hi).1.cols.length ((projV t cols lo hi).1.cols.flatMap colc) ∧ DataOwn w' w.heap.size vd' (projV t cols lo hi).1.data ∧ Chg [] w w' := by
  obtain ⟨R, hR⟩ : ∃ R, R = projV t cols lo hi := ⟨_, rfl⟩
  rw [← hR]
  unfold projV at hR
  have hcz := @checkV_zero t
  have kCh := fun w' (g : Chg [] w w') => check_ok w' vc vd t D (hc.tr0 g) (hd.tr0 g) hD hL hcl hdl
  obtain ⟨V, hV⟩ : ∃ V, V = checkV t := ⟨_, rfl⟩
  rw [← hV] at hR hcz
  simp only [← hV] at kCh
  clear hV
  obtain ⟨L, rows, data⟩ := t
  dsimp only at *
  subst hD
  obtain ⟨a0, c0, rfl⟩ := hc.shape
  obtain ⟨a1, c1, rfl⟩ := hd.1.shape
  obtain ⟨a2, c2, rfl⟩ := hk.shape
  have hmm := @run_makeMap Try.prog
  unfold maxLen at hcl hdl hkl
  replace hR := Lib.hid hR
  go_enter Try.func28, Try.ntmps28
  go_wp2_with fail
  have ba := (Chg.alloc [] (w.alloc (.cells #[.slice a0 L.length c0, .int .i64 rows, .slice a1 D.length c1] 42)) (.cells #[.slice none 0 0, .int .i64 0, .slice none 0 0] 42)).heap (heap_alloc_new w (.cells #[.slice a0 L.length c0, .int .i64 rows, .slice a1 D.length c1] 42)) (by simp)
  have br := heap_new1 w (.cells #[.slice a0 L.length c0, .int .i64 rows, .slice a1 D.length c1] 42) (.cells #[.slice none 0 0, .int .i64 0, .slice none 0 0] 42)
  have g0 : Chg [] w ((w.alloc (.cells #[.slice a0 L.length c0, .int .i64 rows, .slice a1 D.length c1] 42)).alloc (.cells #[.slice none 0 0, .int .i64 0, .slice none 0 0] 42)) := (Chg.alloc _ _ _).t0 (Chg.alloc _ _ _)
  generalize (w.alloc (.cells #[.slice a0 L.length c0, .int .i64 rows, .slice a1 D.length c1] 42)).alloc (.cells #[.slice none 0 0, .int .i64 0, .slice none 0 0] 42) = w1 at *
  refine (kCh w1 g0).mono ?_
  rintro e w2 ⟨rfl, g2⟩
  replace ba := g2.heap ba (by simp)
  replace br := g2.heap br (by simp)
  replace g0 := g0.t0 g2
  clear g2 kCh
  obtain ⟨k0, k1, k2⟩ := cells3'' ba
  by_cases hv : V = 0
  · subst hv
    obtain ⟨z1, z2, z3, z4, z5, z6⟩ := hcz rfl
    have hR1 := hR.out
    rw [if_neg (by simp)] at hR1
    rw [List.length_map] at z4
    clear hR hcz z6
    replace z4 := Lib.hid z4
    have hcolL : colsV L = 0 := z1
    have hL64 := colsV_len z1
    clear z1 hcolL
    replace hR1 := Lib.hid hR1
    have hbz : w.heap.size + 1 < w2.heap.size := lt_of_heap br
    go_wp2_with fail
    obtain ⟨RES, hRES⟩ : ∃ B, B = colsOk L.length cols [] := ⟨_, rfl⟩
    have hbad : RES = false → R = (noT, 7) := fun h => by
      have := hR1.out
      rw [fitsV_eq, ← hRES, h] at this
      simpa using this
    go_loopw [26] (fun iv wr => ∃ (k : Nat) (M : DataW Unit), k ≤ cols.length ∧ iv = .int .i64 k ∧ wr.ownsMap Try.prog 3 (plainElem Try.prog 3) w2.heap.size k M ∧ CountsI M (cols.take k) ∧ RES = colsOk L.length (cols.drop k) (cols.take k) ∧ Chg [] w2 wr) (fun iv _ => cols.length - (intOf iv).toNat)
    case atStart => exact ⟨0, .map [], Nat.zero_le _, rfl, World.ownsMap_made _ _ _ _, fun s => by simp; rfl, by simpa using hRES, Chg.alloc [] w2 _⟩
    case round =>
      obtain ⟨k, M, hkk, rfl, hown, hM, hgo, hch⟩ := hrel
      have kk0 := hch.cellv k0 (by simp)
      have kk1 := hch.cellv k1 (by simp)
      have kk2 := hch.cellv k2 (by simp)
      have gg := g0.t0 hch
      by_cases hlt : k < cols.length
      · obtain ⟨b, off, c, e, hbl, hc1⟩ := int_cells (hk.tr0 gg) k hlt
        cases e
        have hxI := hkI _ (List.getElem_mem hlt)
        have htk : cols.take (k + 1) = cols.take k ++ [cols[k]] := List.take_succ_eq_append_getElem hlt
        rw [List.drop_eq_getElem_cons hlt, colsOk] at hgo
        replace hgo := Lib.hid hgo
        replace htk := Lib.hid htk
        have hkd : (k : Int) < cols.length := by omega
        generalize cols[k] = x at *
        have hkey : keyOf Try.prog 3 (.int .i64 x) = some (.int .i64 x) := keyOf_int_mk Try.underlying3 (wf64 hxI)
        have hD1 := hM x
        have hmap : IsMap M := by obtain ⟨_, _, _, _, _, e⟩ := id hown; exact ⟨_, e⟩
        have hcnt : x ∉ cols.take k → CountsI (M.put (.int .i64 x) (.lit (.int .i64 1))) (cols.take (k + 1)) := by
          intro hn s
          rw [htk.out]
          by_cases e : s = x
          · subst e
            rw [atKey_put_same hmap (by trivial)]
            simp
          · rw [atKey_put_other (by simpa using e), hM s]
            simp [e]
        generalize hse : cols.take k = seen at *
        have hst : (RES = false ∧ x < 0) ∨ (RES = false ∧ 0 ≤ x ∧ (L.length : Int) ≤ x) ∨ (RES = false ∧ 0 ≤ x ∧ x < (L.length : Int) ∧ x ∈ seen) ∨ (RES = colsOk L.length (cols.drop (k + 1)) (seen ++ [x]) ∧ 0 ≤ x ∧ x < (L.length : Int) ∧ x ∉ seen) := by
          have hgo := hgo.out
          by_cases e1 : x < 0
          · left; rw [if_pos (.inl e1)] at hgo; exact ⟨hgo, e1⟩
          right
          by_cases e2 : (L.length : Int) ≤ x
          · left; rw [if_pos (.inr (.inl e2))] at hgo; exact ⟨hgo, by omega, e2⟩
          right
          by_cases e3 : x ∈ seen
          · left; rw [if_pos (.inr (.inr e3))] at hgo; exact ⟨hgo, by omega, by omega, e3⟩
          right
          rw [if_neg (by simp only [not_or]; exact ⟨e1, e2, e3⟩)] at hgo
          exact ⟨hgo, by omega, by omega, e3⟩
        clear hgo hM hse
        have brr := hch.heap br (by simp)
        have hMne : w2.heap.size ≠ w.heap.size + 1 := by omega
        rcases hst with ⟨hV, y1⟩ | ⟨hV, y1, y2⟩ | ⟨hV, y1, y2, y3⟩ | ⟨hV, y1, y2, y3⟩
        all_goals replace hV := Lib.hid hV
        all_goals
          go_wp2_with (first
            | (at_lookup; refine wpList_lookup_own_int _ rfl _ _ 84 rfl 3 3 .i64 lawI Try.underlying84 Try.underlying3 (zeroI _) w2.heap.size k M rfl hown _ _ rfl hkey ?_; intro c hat hwc; rw [hD1] at hat)
            | (at_mapUpdate; refine wpList_mapUpdate_own _ rfl _ _ _ 84 rfl 3 3 lawI Try.underlying84 _ w2.heap.size k M rfl hown (by unfold maxLen; omega) _ _ _ rfl rfl hkey _ [] (plainElem_int Try.underlying3 (wrap64_wf _)) ?_
               intro w3 hown1 hgrow1
               have hch1 : Chg [] w2 w3 := hch.tn (Chg.grown hgrow1) (Nat.le_refl _)
               have m0 := hch1.cellv k0 (by simp)
               have m1 := hch1.cellv k1 (by simp)
               have m2 := hch1.cellv k2 (by simp)
               have br3 := hch1.heap br (by simp)
               obtain ⟨c2, hrun2, hat2, _⟩ := hown1.lookup_int lawI Try.underlying84 Try.underlying3 (zeroI _) hkey
               rw [atKey_put_same hmap (by trivial)] at hat2
               simp only [DataW.lit.injEq, Lit.int.injEq, true_and] at hat hat2
               have hcv : c2 = if x ∈ seen then 2 else 1 := by
                 rw [← hat2, ← hat]; split <;> (unfold wrap64; omega)
               rw [hat2] at hown1
               clear hat hat2
               first
                 | (rw [if_pos y3] at hcv; subst hcv)
                 | (rw [if_neg y3] at hcv; subst hcv)
                 | clear hcv)
            | (refine store_rowC rfl _ _ _ rfl (w.heap.size + 1) _ rfl [.slice none 0 0, .int .i64 0, .slice none 0 0] rfl _ br3 (by kernel_rfl) rfl rfl ?_
               intro w4 t4 g4 z4))
        all_goals first
          | (have hRR := hbad hV.out
             subst hRR
             exact ret_row2 8 9 42 rfl _ Try.underlying42 rfl [.slice none 0 0, .int .i64 0, .slice none 0 0] (by kernel_rfl) rfl _ rfl (ra_block t4) ⟨_, _, rfl, Sl.nil _, ⟨[], World.ownsRow_nil _ _ _ _, by simp, rfl⟩, (g0.t0 hch1).tn g4 (by omega)⟩)
          | skip
        go_roundw
        case rel => exact ⟨k + 1, _, by omega, by go_num, hown1, hcnt y3, by rw [htk.out]; exact hV.out, hch1⟩
        case measure => simp [intOf]; omega
      · obtain rfl : k = cols.length := by omega
        rw [List.drop_length] at hgo
        have hRT : RES = true := hgo
        have brr := hch.heap br (by simp)
        have baa := hch.heap ba (by simp)
        have hmem : fitsV cols lo hi L.length rows = (decide (0 ≤ lo) && decide (lo ≤ hi) && decide (hi ≤ rows)) := by rw [fitsV_eq, ← hRES, hRT, Bool.true_and]
        have hok := (colsOk_nil (L.length : Int) cols).1 (by rw [← hRES]; exact hRT)
        clear hgo hown hM hbad hRES hRT k0 k1 k2
        replace hmem := Lib.hid hmem
        by_cases hin : 0 ≤ lo ∧ lo ≤ hi ∧ hi ≤ rows
        · obtain ⟨n1, n2, n3⟩ := hin
          have hRR : R = (pickT ⟨L, rows, D.map (·.2)⟩ cols lo hi, 0) := by
            rw [hR1.out, if_pos]
            rw [hmem.out, decide_eq_true n1, decide_eq_true n2, decide_eq_true n3]; rfl
          clear hR1 hmem
          replace hRR := Lib.hid hRR
          obtain ⟨k0, k1, k2⟩ := cells3'' baa
          obtain ⟨lo', rfl⟩ : ∃ n : Nat, lo = (n : Int) := ⟨lo.toNat, by omega⟩
          obtain ⟨hi', rfl⟩ : ∃ n : Nat, hi = (n : Int) := ⟨hi.toNat, by omega⟩
          have hw : wrap64 ((hi' : Int) - lo') = (hi' : Int) - lo' := by unfold wrap64; omega
          have hc64 : cols.length ≤ 64 := by have := nodup_length cols L.length hok.1 hok.2; omega
          have hbT : w.heap.size + 1 < wr.heap.size := lt_of_heap brr
          go_wp2_with fail
          have e1 : ((lo' : Int) < 0) = False := eq_false (by omega)
          have e2 : (hi' < lo') = False := eq_false (by omega)
          have e3 : (rows < (hi' : Int)) = False := eq_false (by omega)
          simp only [e1, e2, e3, decide_false, Bool.or_self, Bool.false_or, Bool.or_false]
          clear e1 e2 e3
          have gP := Chg.alloc [] wr (.cells #[.slice none 0 0, .int .i64 ((hi' : Int) - lo'), .slice none 0 0] 42)
          have bP := heap_alloc_new wr (.cells #[.slice none 0 0, .int .i64 ((hi' : Int) - lo'), .slice none 0 0] 42)
          replace baa := gP.heap baa (by simp)
          replace brr := gP.heap brr (by simp)
          have g1 := gg.t0 gP
          have hPb : wr.heap.size < (wr.alloc (.cells #[.slice none 0 0, .int .i64 ((hi' : Int) - lo'), .slice none 0 0] 42)).heap.size := by simp
          clear gP k0 k1 k2 gg hch ba br
          generalize wr.alloc (.cells #[.slice none 0 0, .int .i64 ((hi' : Int) - lo'), .slice none 0 0] 42) = w5 at *
          generalize wr.heap.size = P at *
          obtain ⟨b0, hb0⟩ : ∃ b0, b0 = w5.heap.size := ⟨_, rfl⟩
          replace hb0 := Lib.hid hb0
          go_loopw [71] (fun iv wq => ∃ (k : Nat) (vA vB : Value) (E : Rows2), k ≤ cols.length ∧ iv = .int .i64 k ∧ wq.heap[w.heap.size]? = some (.cells #[.slice a0 L.length c0, .int .i64 rows, .slice a1 D.length c1] 42 (0, 0)) ∧ wq.heap[w.heap.size + 1]? = some (.cells #[.slice none 0 0, .int .i64 0, .slice none 0 0] 42 (0, 0)) ∧ wq.heap[P]? = some (.cells #[vA, .int .i64 ((hi' : Int) - lo'), vB] 42 (0, 0)) ∧
            wq.ownsRow b0 58 3 vA k (((cols.take k).map fun k => L.getD k.toNat ⟨[], 0, false⟩).flatMap colc) ∧ wq.ownsRow b0 50 1 vB k (E.map (·.1)) ∧ E.map (·.2) = (cols.take k).map (fun k => (((D.map (·.2)).getD k.toNat []).take (hi' : Int).toNat).drop (lo' : Int).toNat) ∧ (∀ x ∈ E, wq.ownsRow b0 54 5 x.1 x.2.length (x.2.flatMap cellc)) ∧ b0 ≤ wq.heap.size ∧ Chg [] w wq) (fun iv _ => cols.length - (intOf iv).toNat)
          case atStart => exact ⟨0, _, _, [], Nat.zero_le _, rfl, baa, brr, bP, World.ownsRow_nil _ _ _ _, World.ownsRow_nil _ _ _ _, rfl, by simp, by rw [hb0.out]; exact Nat.le_refl _, g1⟩
          case round =>
            clear baa brr bP g1
            obtain ⟨k, vA, vB, E, hkk, rfl, baa, brr, bP, oA, oB, hE, hEo, hbz, gq⟩ := hrel
            by_cases hlt : k < cols.length
            · obtain ⟨b, off, cc, e, hbl, x1⟩ := int_cells (hk.tr0 gq) k hlt
              cases e
              obtain ⟨hx0, hx1⟩ := hok.2 _ (List.getElem_mem hlt)
              have htk : cols.take (k + 1) = cols.take k ++ [cols[k]] := List.take_succ_eq_append_getElem hlt
              replace htk := Lib.hid htk
              have hkd : (k : Int) < cols.length := by omega
              generalize cols[k] = x at *
              obtain ⟨X, rfl⟩ : ∃ X : Nat, x = (X : Int) := ⟨x.toNat, by omega⟩
              have hXL : X < L.length := by omega
              have hXD : X < D.length := by rw [z4.out]; exact hXL
              have hXDi : (X : Int) < D.length := by omega
              have hX0 : (0 : Int) ≤ X := by omega
              obtain ⟨av, cv, rfl⟩ := own_shape oA
              obtain ⟨bv, dv, rfl⟩ := own_shape oB
              obtain ⟨p0, p1, p2⟩ := cells3'' bP
              obtain ⟨t0, t1, t2⟩ := cells3'' baa
              obtain ⟨bL, offL, cL, eL, hblL, y1, y2, y3⟩ := cols_cells hc X hXL
              cases eL
              have rcW := ra3 y1 y2 y3
              obtain ⟨bD, offD, cD, eD, hblD, w1', sD⟩ := hd.cell X hXD
              cases eD
              have hlenD : (D[X].2.length : Int) = rows := z5 _ (List.mem_map.2 ⟨D[X], List.getElem_mem hXD, rfl⟩)
              have hn2 : lo' ≤ hi' := by omega
              have hn3 : hi' ≤ D[X].2.length := by omega
              obtain ⟨CC, hCC⟩ : ∃ CC, CC = (D[X].2.take hi').drop lo' := ⟨_, rfl⟩
              have hCl : CC.length = hi' - lo' := by rw [hCC]; simp; omega
              have hdlt := (hd.2 _ (List.getElem_mem hXD)).lt
              obtain ⟨ax, cx, ex⟩ := sD.shape
              rw [ex] at w1' sD hdlt
              have hcx : D[X].2.length ≤ cx ∧ cx ≤ 9223372036854775807 := by obtain ⟨_, _, e, q1, q2, _⟩ := id sD; cases e; unfold maxLen at q2; omega
              have sT := sD.take hn3 (hi' * 5)
              rw [← flat_takeN cellc 5 (fun _ => rfl)] at sT
              have hTl : ((D[X].2.take hi').flatMap cellc).length = hi' * 5 := by rw [cellc_length, List.length_take]; omega
              obtain ⟨H, hH⟩ : ∃ H, H = wr.heap.size := ⟨_, rfl⟩
              replace hH := Lib.hid hH
              replace hCC := Lib.hid hCC
              replace hCl := Lib.hid hCl
              have hobA := own_from oA
              have hobB := own_from oB
              have hltA := fun j hj => (oA.lt j hj).2
              have hltB := fun j hj => (oB.lt j hj).2
              have hPlt : P < wr.heap.size := lt_of_heap bP
              have hbW : w.heap.size + 1 < P := by omega
              generalize D[X].2.length = nX at *
              have hPb0 : P < b0 := by rw [hb0.out]; exact hPb
              have hSm := SmP_lt (A := (Value.slice av k cv).ownBlock.toList) (B := (Value.slice bv k dv).ownBlock.toList) (P := P) (H := H) (fun j hj => by rw [hH.out]; exact hltA j (by simpa using hj)) (fun j hj => by rw [hH.out]; exact hltB j (by simpa using hj)) (by rw [hH.out]; exact hPlt)
              have hcat : ((cols.take (k + 1)).map fun k => L.getD k.toNat ⟨[], 0, false⟩).flatMap colc = ((cols.take k).map fun k => L.getD k.toNat ⟨[], 0, false⟩).flatMap colc ++ colc L[X] := by
                rw [htk.out, List.map_append, List.flatMap_append]
                simp [List.getD, hXL]
              replace hcat := Lib.hid hcat
              have hSf := SmP_from (A := (Value.slice av k cv).ownBlock.toList) (B := (Value.slice bv k dv).ownBlock.toList) (P := P) (b := P) (fun j hj => by have := hobA j (by simpa using hj); omega) (fun j hj => by have := hobB j (by simpa using hj); omega) (Nat.le_refl _)
              have sE : cx = lo' → Sl w (.slice ax (hi' - lo') 0) CC.length (CC.flatMap cellc) := fun hcc => by
                have h := sT.dropE hn2 hcc 5 hTl
                rw [← flat_dropN cellc 5 (fun _ => rfl), ← hCC.out] at h
                rw [hCl.out]; exact h
              have sN : ¬ cx = lo' → Sl w (.slice (ax.map fun x => x.add (lo' * 5)) (hi' - lo') (cx - lo')) CC.length (CC.flatMap cellc) := fun hcc => by
                have h := sT.dropN hn2 hcc 5
                rw [← flat_dropN cellc 5 (fun _ => rfl), ← hCC.out] at h
                rw [hCl.out]; exact h
              go_wp2_with fail
              refine' region_softW (SmP (Value.slice av k cv).ownBlock.toList (Value.slice bv k dv).ownBlock.toList P) (fun m wx => wx.heap[w.heap.size]? = some (.cells #[.slice (some ⟨bL, offL, none⟩) L.length c0, .int .i64 rows, .slice (some ⟨bD, offD, none⟩) D.length c1] 42 (0, 0)) ∧ wx.heap[w.heap.size + 1]? = some (.cells #[.slice none 0 0, .int .i64 0, .slice none 0 0] 42 (0, 0)) ∧ (∀ x ∈ E, wx.ownsRow b0 54 5 x.1 x.2.length (x.2.flatMap cellc)) ∧ H ≤ wx.heap.size ∧ Chg [] w wx ∧ (m = 0 → wx.ownsRow b0 58 3 (.slice av k cv) k (((cols.take k).map fun k => L.getD k.toNat ⟨[], 0, false⟩).flatMap colc)) ∧ (m ≤ 2 → wx.ownsRow b0 50 1 (.slice bv k dv) k (E.map (·.1))) ∧ (m ≤ 3 → wx.heap[P]? = some (.cells #[.slice av k cv, .int .i64 ((hi' : Int) - lo'), .slice bv k dv] 42 (0, 0))) ∧ (m = 4 → ∃ pa, wx.heap[P]? = some (.cells #[pa, .int .i64 ((hi' : Int) - lo'), .slice bv k dv] 42 (0, 0)) ∧ wx.ownsRow b0 58 3 pa (k + 1) (((cols.take (k + 1)).map fun k => L.getD k.toNat ⟨[], 0, false⟩).flatMap colc)) ∧ (m = 5 → ∃ pa pb u, wx.heap[P]? = some (.cells #[pa, .int .i64 ((hi' : Int) - lo'), pb] 42 (0, 0)) ∧ wx.ownsRow b0 58 3 pa (k + 1) (((cols.take (k + 1)).map fun k => L.getD k.toNat ⟨[], 0, false⟩).flatMap colc) ∧ wx.ownsRow b0 50 1 pb (k + 1) ((E ++ [(u, CC)]).map (·.1)) ∧ wx.ownsRow H 54 5 u CC.length (CC.flatMap cellc))) 26 [cst _, cst (.slice av k cv), cst _, cst (.slice (some ⟨bL, offL, none⟩) L.length c0), cst _, cst _, cst (.agg #[.string (bstr L[X].name), .int .i64 L[X].typ, .bool L[X].null]), fun v w => Sl w v 1 (colc L[X]) ∧ ∀ j, vblk v = some j → H ≤ j, fun v w => w.ownsRow b0 58 3 v (k + 1) (((cols.take (k + 1)).map fun k => L.getD k.toNat ⟨[], 0, false⟩).flatMap colc) ∧ ∀ j, v.ownBlock = some j → j ∉ (Value.slice bv k dv).ownBlock.toList ∧ j ≠ P, cst _, cst (.slice bv k dv), cst _, cst (.slice (some ⟨bD, offD, none⟩) D.length c1), cst _, cst _, cst (.slice ax nX cx), cst _, cst _, fun v w' => Sl w' v CC.length (CC.flatMap cellc) ∧ ∀ j, vblk v = some j → j < w.heap.size, fun v w => w.ownsRow H 54 5 v CC.length (CC.flatMap cellc), fun v w => ∃ u, Sl w v 1 [u] ∧ (∀ j, vblk v = some j → H ≤ j) ∧ w.ownsRow H 54 5 u CC.length (CC.flatMap cellc), fun v w => ∃ u, w.ownsRow b0 50 1 v (k + 1) ((E ++ [(u, CC)]).map (·.1)) ∧ (∀ j, v.ownBlock = some j → j ≠ P) ∧ w.ownsRow H 54 5 u CC.length (CC.flatMap cellc), cst _, cst undef, cst _, cst undef] [false, false, false, false, false, false, false, false, true, false, false, false, false, false, false, false, false, false, false, true, false, true, false, true, false, true] [99, 0, 99, 99, 99, 99, 99, 99, 99, 99, 2, 99, 99, 99, 99, 99, 99, 99, 99, 99, 99, 99, 99, 99, 99, 99] rfl rfl rfl (by kernel_rfl) (by kernel_rfl) (by kernel_rfl) (by kernel_rfl) (by intro j wx wy ⟨h1, h2, h3, h4, h5, h6, h7, h8, h9, h10⟩ g; exact ⟨g.heap h1 (by simp), g.heap h2 (by simp), fun x hx => own_tr (h3 x hx) g (by simp), Nat.le_trans h4 g.size, h5.t0 g, fun h => own_tr (h6 h) g (by simp), fun h => own_tr (h7 h) g (by simp), fun h => g.heap (h8 h) (by simp), fun h => by obtain ⟨pa, u1, u2⟩ := h9 h; exact ⟨pa, g.heap u1 (by simp), own_tr u2 g (by simp)⟩, fun h => by obtain ⟨pa, pb, u, u1, u2, u3, u4⟩ := h10 h; exact ⟨pa, pb, u, g.heap u1 (by simp), own_tr u2 g (by simp), own_tr u3 g (by simp), own_tr u4 g (by simp)⟩⟩) (⟨baa, brr, hEo, Nat.le_of_eq hH.out, gq, fun _ => oA, fun _ => oB, fun _ => bP, fun h => absurd h (by decide), fun h => absurd h (by decide)⟩) ⟨staysW_cst _ _, ⟨staysW_cst _ _, ⟨staysW_cst _ _, ⟨staysW_cst _ _, ⟨staysW_cst _ _, ⟨staysW_cst _ _, ⟨staysW_cst _ _, ⟨⟨fun _ _ _ h g => ⟨h.1.tr0 g, h.2⟩, fun m v w w' h g => ⟨h.1.tr g (fun j hj hm => by have := h.2 j hj; have := hSm m j hm; omega), h.2⟩⟩, ⟨⟨fun _ _ _ h g => ⟨own_tr h.1 g (by simp), h.2⟩, fun m hm v w w' h g => ⟨own_trD h.1 g (fun j hj e => by rcases SmP_0 hm j hj with h1 | h1; exact (h.2 j e).1 h1; exact (h.2 j e).2 h1), h.2⟩⟩, ⟨staysW_cst _ _, ⟨staysW_cst _ _, ⟨staysW_cst _ _, ⟨staysW_cst _ _, ⟨staysW_cst _ _, ⟨staysW_cst _ _, ⟨staysW_cst _ _, ⟨staysW_cst _ _, ⟨staysW_cst _ _, ⟨⟨fun _ _ _ h g => ⟨h.1.tr0 g, h.2⟩, fun m v w1 w2 h g => ⟨h.1.tr g (fun j hj hm => by have := h.2 j hj; have := hSf m j hm; omega), h.2⟩⟩, ⟨⟨fun _ _ _ h g => own_tr h g (by simp), fun m hm v w w' h g => own_tr h g (fun j hj => hSm m j hj)⟩, ⟨⟨fun _ _ _ ⟨u, h1, h2, h3⟩ g => ⟨u, h1.tr0 g, h2, own_tr h3 g (by simp)⟩, fun m v w w' ⟨u, h1, h2, h3⟩ g => ⟨u, h1.tr g (fun j hj hm => by have := h2 j hj; have := hSm m j hm; omega), h2, own_tr h3 g (fun j hj => hSm m j hj)⟩⟩, ⟨⟨fun _ _ _ ⟨u, h1, h2, h3⟩ g => ⟨u, own_tr h1 g (by simp), h2, own_tr h3 g (by simp)⟩, fun m hm v w w' ⟨u, h1, h2, h3⟩ g => ⟨u, own_trD h1 g (fun j hj e => h2 j e (SmP_2 hm j hj)), h2, own_tr h3 g (fun j hj => hSm m j hj)⟩⟩, ⟨staysW_cst _ _, ⟨staysW_cstW _ _ _, ⟨staysW_cst _ _, ⟨staysW_cstW _ _ _, trivial⟩⟩⟩⟩⟩⟩⟩⟩⟩⟩⟩⟩⟩⟩⟩⟩⟩⟩⟩⟩⟩⟩⟩⟩⟩⟩ _ (fun V => by simp only [putAll, Act.put, List.take_succ_cons, List.take_zero, List.setIfInBounds_toArray, List.set_cons_zero, List.set_cons_succ, Nat.reduceAdd]; exact rfl) ?hs1 ?ht1
              case hs1 =>
                simp only [List.take_succ_cons, List.take_zero, softsW]
                refine ⟨?_, ?_, ?_, ?_, ?_, ?_, ?_, ?_, ?_, ?_, ?_, ?_, ?_, ?_, ?_, ?_, ?_, ?_, ?_, ?_, ?_, ?_, ?_, ?_, ?_, ?_, trivial⟩
                · intro V wx hi hd
                  simp [phi, Region.binds, cst] at hd
                  try simp only [hd]
                  first
                    | (refine soft_const rfl ?_; go_simp; done)
                    | (refine soft_const rfl ?_; go_simp; exact rfl)
                    | (exact soft_cellN rfl _ _ rfl _ rfl _ _ ((by obtain ⟨j, _, hi⟩ := hi; exact (cells3'' hi.1).1)) Try.underlying25 rfl)
                    | (exact soft_cellN rfl _ _ rfl _ rfl _ _ ((by obtain ⟨j, _, hi⟩ := hi; exact (cells3'' hi.1).2.2)) Try.underlying40 rfl)
                    | (exact soft_cellN rfl _ _ rfl _ rfl _ _ ((by obtain ⟨j, hj, hi⟩ := hi; exact (cells3'' (hi.2.2.2.2.2.2.2.1 (by omega))).1)) Try.underlying25 rfl)
                    | (exact soft_cellN rfl _ _ rfl _ rfl _ _ ((by obtain ⟨j, hj, hi⟩ := hi; exact (cells3'' (hi.2.2.2.2.2.2.2.1 (by omega))).2.2)) Try.underlying40 rfl)
                    | (exact soft_cellN rfl _ _ rfl _ rfl _ _ ((by obtain ⟨j, _, hi⟩ := hi; exact hi.2.2.2.2.1.cellv w1' (by simp))) Try.underlying50 rfl)
                    | (exact soft_load rfl (Chg.refl [] _) _ _ rfl _ _ rfl _ _ ((by obtain ⟨j, _, hi⟩ := hi; exact hi.2.2.2.2.1.range rcW (by simp))) Try.underlying58 rfl (by kernel_rfl))
                    | (exact soft_skip rfl)
                · intro V wx hi hd
                  simp [phi, Region.binds, cst] at hd
                  try simp only [hd]
                  first
                    | (refine soft_const rfl ?_; go_simp; done)
                    | (refine soft_const rfl ?_; go_simp; exact rfl)
                    | (exact soft_cellN rfl _ _ rfl _ rfl _ _ ((by obtain ⟨j, _, hi⟩ := hi; exact (cells3'' hi.1).1)) Try.underlying25 rfl)
                    | (exact soft_cellN rfl _ _ rfl _ rfl _ _ ((by obtain ⟨j, _, hi⟩ := hi; exact (cells3'' hi.1).2.2)) Try.underlying40 rfl)
                    | (exact soft_cellN rfl _ _ rfl _ rfl _ _ ((by obtain ⟨j, hj, hi⟩ := hi; exact (cells3'' (hi.2.2.2.2.2.2.2.1 (by omega))).1)) Try.underlying25 rfl)
                    | (exact soft_cellN rfl _ _ rfl _ rfl _ _ ((by obtain ⟨j, hj, hi⟩ := hi; exact (cells3'' (hi.2.2.2.2.2.2.2.1 (by omega))).2.2)) Try.underlying40 rfl)
                    | (exact soft_cellN rfl _ _ rfl _ rfl _ _ ((by obtain ⟨j, _, hi⟩ := hi; exact hi.2.2.2.2.1.cellv w1' (by simp))) Try.underlying50 rfl)
                    | (exact soft_load rfl (Chg.refl [] _) _ _ rfl _ _ rfl _ _ ((by obtain ⟨j, _, hi⟩ := hi; exact hi.2.2.2.2.1.range rcW (by simp))) Try.underlying58 rfl (by kernel_rfl))
                    | (exact soft_skip rfl)
                · intro V wx hi hd
                  simp [phi, Region.binds, cst] at hd
                  try simp only [hd]
                  first
                    | (refine soft_const rfl ?_; go_simp; done)
                    | (refine soft_const rfl ?_; go_simp; exact rfl)
                    | (exact soft_cellN rfl _ _ rfl _ rfl _ _ ((by obtain ⟨j, _, hi⟩ := hi; exact (cells3'' hi.1).1)) Try.underlying25 rfl)
                    | (exact soft_cellN rfl _ _ rfl _ rfl _ _ ((by obtain ⟨j, _, hi⟩ := hi; exact (cells3'' hi.1).2.2)) Try.underlying40 rfl)
                    | (exact soft_cellN rfl _ _ rfl _ rfl _ _ ((by obtain ⟨j, hj, hi⟩ := hi; exact (cells3'' (hi.2.2.2.2.2.2.2.1 (by omega))).1)) Try.underlying25 rfl)
                    | (exact soft_cellN rfl _ _ rfl _ rfl _ _ ((by obtain ⟨j, hj, hi⟩ := hi; exact (cells3'' (hi.2.2.2.2.2.2.2.1 (by omega))).2.2)) Try.underlying40 rfl)
                    | (exact soft_cellN rfl _ _ rfl _ rfl _ _ ((by obtain ⟨j, _, hi⟩ := hi; exact hi.2.2.2.2.1.cellv w1' (by simp))) Try.underlying50 rfl)
                    | (exact soft_load rfl (Chg.refl [] _) _ _ rfl _ _ rfl _ _ ((by obtain ⟨j, _, hi⟩ := hi; exact hi.2.2.2.2.1.range rcW (by simp))) Try.underlying58 rfl (by kernel_rfl))
                    | (exact soft_skip rfl)
                · intro V wx hi hd
                  simp [phi, Region.binds, cst] at hd
                  try simp only [hd]
                  first
                    | (refine soft_const rfl ?_; go_simp; done)
                    | (refine soft_const rfl ?_; go_simp; exact rfl)
                    | (exact soft_cellN rfl _ _ rfl _ rfl _ _ ((by obtain ⟨j, _, hi⟩ := hi; exact (cells3'' hi.1).1)) Try.underlying25 rfl)
                    | (exact soft_cellN rfl _ _ rfl _ rfl _ _ ((by obtain ⟨j, _, hi⟩ := hi; exact (cells3'' hi.1).2.2)) Try.underlying40 rfl)
                    | (exact soft_cellN rfl _ _ rfl _ rfl _ _ ((by obtain ⟨j, hj, hi⟩ := hi; exact (cells3'' (hi.2.2.2.2.2.2.2.1 (by omega))).1)) Try.underlying25 rfl)
                    | (exact soft_cellN rfl _ _ rfl _ rfl _ _ ((by obtain ⟨j, hj, hi⟩ := hi; exact (cells3'' (hi.2.2.2.2.2.2.2.1 (by omega))).2.2)) Try.underlying40 rfl)
                    | (exact soft_cellN rfl _ _ rfl _ rfl _ _ ((by obtain ⟨j, _, hi⟩ := hi; exact hi.2.2.2.2.1.cellv w1' (by simp))) Try.underlying50 rfl)
                    | (exact soft_load rfl (Chg.refl [] _) _ _ rfl _ _ rfl _ _ ((by obtain ⟨j, _, hi⟩ := hi; exact hi.2.2.2.2.1.range rcW (by simp))) Try.underlying58 rfl (by kernel_rfl))
                    | (exact soft_skip rfl)
                · intro V wx hi hd
                  simp [phi, Region.binds, cst] at hd
                  try simp only [hd]
                  first
                    | (refine soft_const rfl ?_; go_simp; done)
                    | (refine soft_const rfl ?_; go_simp; exact rfl)
                    | (exact soft_cellN rfl _ _ rfl _ rfl _ _ ((by obtain ⟨j, _, hi⟩ := hi; exact (cells3'' hi.1).1)) Try.underlying25 rfl)
                    | (exact soft_cellN rfl _ _ rfl _ rfl _ _ ((by obtain ⟨j, _, hi⟩ := hi; exact (cells3'' hi.1).2.2)) Try.underlying40 rfl)
                    | (exact soft_cellN rfl _ _ rfl _ rfl _ _ ((by obtain ⟨j, hj, hi⟩ := hi; exact (cells3'' (hi.2.2.2.2.2.2.2.1 (by omega))).1)) Try.underlying25 rfl)
                    | (exact soft_cellN rfl _ _ rfl _ rfl _ _ ((by obtain ⟨j, hj, hi⟩ := hi; exact (cells3'' (hi.2.2.2.2.2.2.2.1 (by omega))).2.2)) Try.underlying40 rfl)
                    | (exact soft_cellN rfl _ _ rfl _ rfl _ _ ((by obtain ⟨j, _, hi⟩ := hi; exact hi.2.2.2.2.1.cellv w1' (by simp))) Try.underlying50 rfl)
                    | (exact soft_load rfl (Chg.refl [] _) _ _ rfl _ _ rfl _ _ ((by obtain ⟨j, _, hi⟩ := hi; exact hi.2.2.2.2.1.range rcW (by simp))) Try.underlying58 rfl (by kernel_rfl))
                    | (exact soft_skip rfl)
                · intro V wx hi hd
                  simp [phi, Region.binds, cst] at hd
                  try simp only [hd]
                  first
                    | (refine soft_const rfl ?_; go_simp; done)
                    | (refine soft_const rfl ?_; go_simp; exact rfl)
                    | (exact soft_cellN rfl _ _ rfl _ rfl _ _ ((by obtain ⟨j, _, hi⟩ := hi; exact (cells3'' hi.1).1)) Try.underlying25 rfl)
                    | (exact soft_cellN rfl _ _ rfl _ rfl _ _ ((by obtain ⟨j, _, hi⟩ := hi; exact (cells3'' hi.1).2.2)) Try.underlying40 rfl)
                    | (exact soft_cellN rfl _ _ rfl _ rfl _ _ ((by obtain ⟨j, hj, hi⟩ := hi; exact (cells3'' (hi.2.2.2.2.2.2.2.1 (by omega))).1)) Try.underlying25 rfl)
                    | (exact soft_cellN rfl _ _ rfl _ rfl _ _ ((by obtain ⟨j, hj, hi⟩ := hi; exact (cells3'' (hi.2.2.2.2.2.2.2.1 (by omega))).2.2)) Try.underlying40 rfl)
                    | (exact soft_cellN rfl _ _ rfl _ rfl _ _ ((by obtain ⟨j, _, hi⟩ := hi; exact hi.2.2.2.2.1.cellv w1' (by simp))) Try.underlying50 rfl)
                    | (exact soft_load rfl (Chg.refl [] _) _ _ rfl _ _ rfl _ _ ((by obtain ⟨j, _, hi⟩ := hi; exact hi.2.2.2.2.1.range rcW (by simp))) Try.underlying58 rfl (by kernel_rfl))
                    | (exact soft_skip rfl)
                · intro V wx hi hd
                  simp [phi, Region.binds, cst] at hd
                  try simp only [hd]
                  first
                    | (refine soft_const rfl ?_; go_simp; done)
                    | (refine soft_const rfl ?_; go_simp; exact rfl)
                    | (exact soft_cellN rfl _ _ rfl _ rfl _ _ ((by obtain ⟨j, _, hi⟩ := hi; exact (cells3'' hi.1).1)) Try.underlying25 rfl)
                    | (exact soft_cellN rfl _ _ rfl _ rfl _ _ ((by obtain ⟨j, _, hi⟩ := hi; exact (cells3'' hi.1).2.2)) Try.underlying40 rfl)
                    | (exact soft_cellN rfl _ _ rfl _ rfl _ _ ((by obtain ⟨j, hj, hi⟩ := hi; exact (cells3'' (hi.2.2.2.2.2.2.2.1 (by omega))).1)) Try.underlying25 rfl)
                    | (exact soft_cellN rfl _ _ rfl _ rfl _ _ ((by obtain ⟨j, hj, hi⟩ := hi; exact (cells3'' (hi.2.2.2.2.2.2.2.1 (by omega))).2.2)) Try.underlying40 rfl)
                    | (exact soft_cellN rfl _ _ rfl _ rfl _ _ ((by obtain ⟨j, _, hi⟩ := hi; exact hi.2.2.2.2.1.cellv w1' (by simp))) Try.underlying50 rfl)
                    | (exact soft_load rfl (Chg.refl [] _) _ _ rfl _ _ rfl _ _ ((by obtain ⟨j, _, hi⟩ := hi; exact hi.2.2.2.2.1.range rcW (by simp))) Try.underlying58 rfl (by kernel_rfl))
                    | (exact soft_skip rfl)
                · intro V wx hi hd
                  simp [phi, Region.binds, cst] at hd
                  try simp only [hd]
                  obtain ⟨j0, _, hi⟩ := hi
                  refine soft_made (w' := wx.alloc (.cells #[.string (bstr L[X].name), .int .i64 L[X].typ, .bool L[X].null] 58)) (v := .slice (some ⟨wx.heap.size, 0, none⟩) 1 1) rfl (by go_simp) (Chg.alloc _ _ _) ⟨Sl.lit wx #[.string (bstr L[X].name), .int .i64 L[X].typ, .bool L[X].null] 58 1 (by decide), fun j hj => ?_⟩
                  have h2 := (vblk_slice.1 hj).2
                  have h3 := hi.2.2.2.1
                  simp at h2
                  omega
                · intro V wx hi hd
                  simp [phi, Region.binds, cst] at hd
                  try simp only [hd]
                  have hA := hi.2.2.2.2.2.1 (by first | trivial | decide)
                  have hB := hi.2.2.2.2.2.2.1 (by first | trivial | decide)
                  obtain ⟨_, hsl, _⟩ := hd
                  refine wstep_list rfl (wpList_append_sl _ rfl (.tmp 76) (.tmp 82) 25 58 3 32 rfl el_colP b0 (.slice av k cv) k _ rfl hA _ 1 (colc L[X]) rfl hsl rfl (by intro u hu; exact colc_oneP [L[X]] u (by simpa using hu)) (by unfold big; omega) (by have := hH.out; have := hi.2.2.2.1; omega) (fun v' w' h1 h2 => ?_))
                  have g := Chg.grown h2
                  have hap := own_apart h1 (own_trD hB g (fun j hj => own_apart hA hB (by decide) j (by simpa using hj))) (by decide)
                  exact ⟨v', rfl, g, ⟨g.heap hi.1 (fun hm => by have := hobA _ (by simpa using hm); omega), g.heap hi.2.1 (fun hm => by have := hobA _ (by simpa using hm); omega), fun x hx => own_trD (hi.2.2.1 x hx) g (fun j hj e => own_apart (hi.2.2.1 x hx) hA (by decide) j e (by simpa using hj)), Nat.le_trans hi.2.2.2.1 g.size, hi.2.2.2.2.1.grownOwn h2 hA (by omega), fun h => absurd h (by decide), fun _ => own_trD hB g (fun j hj => own_apart hA hB (by decide) j (by simpa using hj)), fun _ => g.heap (hi.2.2.2.2.2.2.2.1 (by decide)) (fun hm => by have := hobA _ (by simpa using hm); omega), fun h => absurd h (by decide), fun h => absurd h (by decide)⟩, ⟨by rw [hcat.out]; exact h1, fun j hj => ⟨fun hm => hap j hj (by simpa using hm), by have := own_from h1 j hj; omega⟩⟩⟩
                · intro V wx hi hd
                  simp [phi, Region.binds, cst] at hd
                  try simp only [hd]
                  first
                    | (refine soft_const rfl ?_; go_simp; done)
                    | (refine soft_const rfl ?_; go_simp; exact rfl)
                    | (exact soft_cellN rfl _ _ rfl _ rfl _ _ ((by obtain ⟨j, _, hi⟩ := hi; exact (cells3'' hi.1).1)) Try.underlying25 rfl)
                    | (exact soft_cellN rfl _ _ rfl _ rfl _ _ ((by obtain ⟨j, _, hi⟩ := hi; exact (cells3'' hi.1).2.2)) Try.underlying40 rfl)
                    | (exact soft_cellN rfl _ _ rfl _ rfl _ _ ((by obtain ⟨j, hj, hi⟩ := hi; exact (cells3'' (hi.2.2.2.2.2.2.2.1 (by omega))).1)) Try.underlying25 rfl)
                    | (exact soft_cellN rfl _ _ rfl _ rfl _ _ ((by obtain ⟨j, hj, hi⟩ := hi; exact (cells3'' (hi.2.2.2.2.2.2.2.1 (by omega))).2.2)) Try.underlying40 rfl)
                    | (exact soft_cellN rfl _ _ rfl _ rfl _ _ ((by obtain ⟨j, _, hi⟩ := hi; exact hi.2.2.2.2.1.cellv w1' (by simp))) Try.underlying50 rfl)
                    | (exact soft_load rfl (Chg.refl [] _) _ _ rfl _ _ rfl _ _ ((by obtain ⟨j, _, hi⟩ := hi; exact hi.2.2.2.2.1.range rcW (by simp))) Try.underlying58 rfl (by kernel_rfl))
                    | (exact soft_skip rfl)
                · intro V wx hi hd
                  simp [phi, Region.binds, cst] at hd
                  try simp only [hd]
                  first
                    | (refine soft_const rfl ?_; go_simp; done)
                    | (refine soft_const rfl ?_; go_simp; exact rfl)
                    | (exact soft_cellN rfl _ _ rfl _ rfl _ _ ((by obtain ⟨j, _, hi⟩ := hi; exact (cells3'' hi.1).1)) Try.underlying25 rfl)
                    | (exact soft_cellN rfl _ _ rfl _ rfl _ _ ((by obtain ⟨j, _, hi⟩ := hi; exact (cells3'' hi.1).2.2)) Try.underlying40 rfl)
                    | (exact soft_cellN rfl _ _ rfl _ rfl _ _ ((by obtain ⟨j, hj, hi⟩ := hi; exact (cells3'' (hi.2.2.2.2.2.2.2.1 (by omega))).1)) Try.underlying25 rfl)
                    | (exact soft_cellN rfl _ _ rfl _ rfl _ _ ((by obtain ⟨j, hj, hi⟩ := hi; exact (cells3'' (hi.2.2.2.2.2.2.2.1 (by omega))).2.2)) Try.underlying40 rfl)
                    | (exact soft_cellN rfl _ _ rfl _ rfl _ _ ((by obtain ⟨j, _, hi⟩ := hi; exact hi.2.2.2.2.1.cellv w1' (by simp))) Try.underlying50 rfl)
                    | (exact soft_load rfl (Chg.refl [] _) _ _ rfl _ _ rfl _ _ ((by obtain ⟨j, _, hi⟩ := hi; exact hi.2.2.2.2.1.range rcW (by simp))) Try.underlying58 rfl (by kernel_rfl))
                    | (exact soft_skip rfl)
                · intro V wx hi hd
                  simp [phi, Region.binds, cst] at hd
                  try simp only [hd]
                  first
                    | (refine soft_const rfl ?_; go_simp; done)
                    | (refine soft_const rfl ?_; go_simp; exact rfl)
                    | (exact soft_cellN rfl _ _ rfl _ rfl _ _ ((by obtain ⟨j, _, hi⟩ := hi; exact (cells3'' hi.1).1)) Try.underlying25 rfl)
                    | (exact soft_cellN rfl _ _ rfl _ rfl _ _ ((by obtain ⟨j, _, hi⟩ := hi; exact (cells3'' hi.1).2.2)) Try.underlying40 rfl)
                    | (exact soft_cellN rfl _ _ rfl _ rfl _ _ ((by obtain ⟨j, hj, hi⟩ := hi; exact (cells3'' (hi.2.2.2.2.2.2.2.1 (by omega))).1)) Try.underlying25 rfl)
                    | (exact soft_cellN rfl _ _ rfl _ rfl _ _ ((by obtain ⟨j, hj, hi⟩ := hi; exact (cells3'' (hi.2.2.2.2.2.2.2.1 (by omega))).2.2)) Try.underlying40 rfl)
                    | (exact soft_cellN rfl _ _ rfl _ rfl _ _ ((by obtain ⟨j, _, hi⟩ := hi; exact hi.2.2.2.2.1.cellv w1' (by simp))) Try.underlying50 rfl)
                    | (exact soft_load rfl (Chg.refl [] _) _ _ rfl _ _ rfl _ _ ((by obtain ⟨j, _, hi⟩ := hi; exact hi.2.2.2.2.1.range rcW (by simp))) Try.underlying58 rfl (by kernel_rfl))
                    | (exact soft_skip rfl)
                · intro V wx hi hd
                  simp [phi, Region.binds, cst] at hd
                  try simp only [hd]
                  first
                    | (refine soft_const rfl ?_; go_simp; done)
                    | (refine soft_const rfl ?_; go_simp; exact rfl)
                    | (exact soft_cellN rfl _ _ rfl _ rfl _ _ ((by obtain ⟨j, _, hi⟩ := hi; exact (cells3'' hi.1).1)) Try.underlying25 rfl)
                    | (exact soft_cellN rfl _ _ rfl _ rfl _ _ ((by obtain ⟨j, _, hi⟩ := hi; exact (cells3'' hi.1).2.2)) Try.underlying40 rfl)
                    | (exact soft_cellN rfl _ _ rfl _ rfl _ _ ((by obtain ⟨j, hj, hi⟩ := hi; exact (cells3'' (hi.2.2.2.2.2.2.2.1 (by omega))).1)) Try.underlying25 rfl)
                    | (exact soft_cellN rfl _ _ rfl _ rfl _ _ ((by obtain ⟨j, hj, hi⟩ := hi; exact (cells3'' (hi.2.2.2.2.2.2.2.1 (by omega))).2.2)) Try.underlying40 rfl)
                    | (exact soft_cellN rfl _ _ rfl _ rfl _ _ ((by obtain ⟨j, _, hi⟩ := hi; exact hi.2.2.2.2.1.cellv w1' (by simp))) Try.underlying50 rfl)
                    | (exact soft_load rfl (Chg.refl [] _) _ _ rfl _ _ rfl _ _ ((by obtain ⟨j, _, hi⟩ := hi; exact hi.2.2.2.2.1.range rcW (by simp))) Try.underlying58 rfl (by kernel_rfl))
                    | (exact soft_skip rfl)
                · intro V wx hi hd
                  simp [phi, Region.binds, cst] at hd
                  try simp only [hd]
                  first
                    | (refine soft_const rfl ?_; go_simp; done)
                    | (refine soft_const rfl ?_; go_simp; exact rfl)
                    | (exact soft_cellN rfl _ _ rfl _ rfl _ _ ((by obtain ⟨j, _, hi⟩ := hi; exact (cells3'' hi.1).1)) Try.underlying25 rfl)
                    | (exact soft_cellN rfl _ _ rfl _ rfl _ _ ((by obtain ⟨j, _, hi⟩ := hi; exact (cells3'' hi.1).2.2)) Try.underlying40 rfl)
                    | (exact soft_cellN rfl _ _ rfl _ rfl _ _ ((by obtain ⟨j, hj, hi⟩ := hi; exact (cells3'' (hi.2.2.2.2.2.2.2.1 (by omega))).1)) Try.underlying25 rfl)
                    | (exact soft_cellN rfl _ _ rfl _ rfl _ _ ((by obtain ⟨j, hj, hi⟩ := hi; exact (cells3'' (hi.2.2.2.2.2.2.2.1 (by omega))).2.2)) Try.underlying40 rfl)
                    | (exact soft_cellN rfl _ _ rfl _ rfl _ _ ((by obtain ⟨j, _, hi⟩ := hi; exact hi.2.2.2.2.1.cellv w1' (by simp))) Try.underlying50 rfl)
                    | (exact soft_load rfl (Chg.refl [] _) _ _ rfl _ _ rfl _ _ ((by obtain ⟨j, _, hi⟩ := hi; exact hi.2.2.2.2.1.range rcW (by simp))) Try.underlying58 rfl (by kernel_rfl))
                    | (exact soft_skip rfl)
                · intro V wx hi hd
                  simp [phi, Region.binds, cst] at hd
                  try simp only [hd]
                  first
                    | (refine soft_const rfl ?_; go_simp; done)
                    | (refine soft_const rfl ?_; go_simp; exact rfl)
                    | (exact soft_cellN rfl _ _ rfl _ rfl _ _ ((by obtain ⟨j, _, hi⟩ := hi; exact (cells3'' hi.1).1)) Try.underlying25 rfl)
                    | (exact soft_cellN rfl _ _ rfl _ rfl _ _ ((by obtain ⟨j, _, hi⟩ := hi; exact (cells3'' hi.1).2.2)) Try.underlying40 rfl)
                    | (exact soft_cellN rfl _ _ rfl _ rfl _ _ ((by obtain ⟨j, hj, hi⟩ := hi; exact (cells3'' (hi.2.2.2.2.2.2.2.1 (by omega))).1)) Try.underlying25 rfl)
                    | (exact soft_cellN rfl _ _ rfl _ rfl _ _ ((by obtain ⟨j, hj, hi⟩ := hi; exact (cells3'' (hi.2.2.2.2.2.2.2.1 (by omega))).2.2)) Try.underlying40 rfl)
                    | (exact soft_cellN rfl _ _ rfl _ rfl _ _ ((by obtain ⟨j, _, hi⟩ := hi; exact hi.2.2.2.2.1.cellv w1' (by simp))) Try.underlying50 rfl)
                    | (exact soft_load rfl (Chg.refl [] _) _ _ rfl _ _ rfl _ _ ((by obtain ⟨j, _, hi⟩ := hi; exact hi.2.2.2.2.1.range rcW (by simp))) Try.underlying58 rfl (by kernel_rfl))
                    | (exact soft_skip rfl)
                · intro V wx hi hd
                  simp [phi, Region.binds, cst] at hd
                  try simp only [hd]
                  first
                    | (refine soft_const rfl ?_; go_simp; done)
                    | (refine soft_const rfl ?_; go_simp; exact rfl)
                    | (exact soft_cellN rfl _ _ rfl _ rfl _ _ ((by obtain ⟨j, _, hi⟩ := hi; exact (cells3'' hi.1).1)) Try.underlying25 rfl)
                    | (exact soft_cellN rfl _ _ rfl _ rfl _ _ ((by obtain ⟨j, _, hi⟩ := hi; exact (cells3'' hi.1).2.2)) Try.underlying40 rfl)
                    | (exact soft_cellN rfl _ _ rfl _ rfl _ _ ((by obtain ⟨j, hj, hi⟩ := hi; exact (cells3'' (hi.2.2.2.2.2.2.2.1 (by omega))).1)) Try.underlying25 rfl)
                    | (exact soft_cellN rfl _ _ rfl _ rfl _ _ ((by obtain ⟨j, hj, hi⟩ := hi; exact (cells3'' (hi.2.2.2.2.2.2.2.1 (by omega))).2.2)) Try.underlying40 rfl)
                    | (exact soft_cellN rfl _ _ rfl _ rfl _ _ ((by obtain ⟨j, _, hi⟩ := hi; exact hi.2.2.2.2.1.cellv w1' (by simp))) Try.underlying50 rfl)
                    | (exact soft_load rfl (Chg.refl [] _) _ _ rfl _ _ rfl _ _ ((by obtain ⟨j, _, hi⟩ := hi; exact hi.2.2.2.2.1.range rcW (by simp))) Try.underlying58 rfl (by kernel_rfl))
                    | (exact soft_skip rfl)
                · intro V wx hi hd
                  simp [phi, Region.binds, cst] at hd
                  try simp only [hd]
                  first
                    | (refine soft_const rfl ?_; go_simp; done)
                    | (refine soft_const rfl ?_; go_simp; exact rfl)
                    | (exact soft_cellN rfl _ _ rfl _ rfl _ _ ((by obtain ⟨j, _, hi⟩ := hi; exact (cells3'' hi.1).1)) Try.underlying25 rfl)
                    | (exact soft_cellN rfl _ _ rfl _ rfl _ _ ((by obtain ⟨j, _, hi⟩ := hi; exact (cells3'' hi.1).2.2)) Try.underlying40 rfl)
                    | (exact soft_cellN rfl _ _ rfl _ rfl _ _ ((by obtain ⟨j, hj, hi⟩ := hi; exact (cells3'' (hi.2.2.2.2.2.2.2.1 (by omega))).1)) Try.underlying25 rfl)
                    | (exact soft_cellN rfl _ _ rfl _ rfl _ _ ((by obtain ⟨j, hj, hi⟩ := hi; exact (cells3'' (hi.2.2.2.2.2.2.2.1 (by omega))).2.2)) Try.underlying40 rfl)
                    | (exact soft_cellN rfl _ _ rfl _ rfl _ _ ((by obtain ⟨j, _, hi⟩ := hi; exact hi.2.2.2.2.1.cellv w1' (by simp))) Try.underlying50 rfl)
                    | (exact soft_load rfl (Chg.refl [] _) _ _ rfl _ _ rfl _ _ ((by obtain ⟨j, _, hi⟩ := hi; exact hi.2.2.2.2.1.range rcW (by simp))) Try.underlying58 rfl (by kernel_rfl))
                    | (exact soft_skip rfl)
                · intro V wx hi hd
                  simp [phi, Region.binds, cst] at hd
                  try simp only [hd]
                  first
                    | (refine soft_const rfl ?_; go_simp; done)
                    | (refine soft_const rfl ?_; go_simp; exact rfl)
                    | (exact soft_cellN rfl _ _ rfl _ rfl _ _ ((by obtain ⟨j, _, hi⟩ := hi; exact (cells3'' hi.1).1)) Try.underlying25 rfl)
                    | (exact soft_cellN rfl _ _ rfl _ rfl _ _ ((by obtain ⟨j, _, hi⟩ := hi; exact (cells3'' hi.1).2.2)) Try.underlying40 rfl)
                    | (exact soft_cellN rfl _ _ rfl _ rfl _ _ ((by obtain ⟨j, hj, hi⟩ := hi; exact (cells3'' (hi.2.2.2.2.2.2.2.1 (by omega))).1)) Try.underlying25 rfl)
                    | (exact soft_cellN rfl _ _ rfl _ rfl _ _ ((by obtain ⟨j, hj, hi⟩ := hi; exact (cells3'' (hi.2.2.2.2.2.2.2.1 (by omega))).2.2)) Try.underlying40 rfl)
                    | (exact soft_cellN rfl _ _ rfl _ rfl _ _ ((by obtain ⟨j, _, hi⟩ := hi; exact hi.2.2.2.2.1.cellv w1' (by simp))) Try.underlying50 rfl)
                    | (exact soft_load rfl (Chg.refl [] _) _ _ rfl _ _ rfl _ _ ((by obtain ⟨j, _, hi⟩ := hi; exact hi.2.2.2.2.1.range rcW (by simp))) Try.underlying58 rfl (by kernel_rfl))
                    | (exact soft_skip rfl)
                · intro V wx hi hd
                  simp [phi, Region.binds, cst] at hd
                  try simp only [hd]
                  obtain ⟨j0, _, hi⟩ := hi
                  have hch := hi.2.2.2.2.1
                  by_cases hcc : cx = lo'
                  · refine soft_made (w' := wx) (v := .slice ax (hi' - lo') 0) rfl ?_ (Chg.refl _ _) ⟨(sE hcc).tr0 hch, fun j hj => ?_⟩
                    · go_simp
                      intro hx
                      omega
                    · simp [vblk_slice] at hj
                  · refine soft_made (w' := wx) (v := .slice (ax.map fun x => x.add (lo' * 5)) (hi' - lo') (cx - lo')) rfl ?_ (Chg.refl _ _) ⟨(sN hcc).tr0 hch, fun j hj => hdlt j (vblk_drop (by omega) hj)⟩
                    go_simp
                    intro hx
                    omega
                · intro V wx hi hd
                  simp [phi, Region.binds, cst] at hd
                  try simp only [hd]
                  obtain ⟨⟨hsl, _⟩, _⟩ := hd
                  refine wstep_call rfl _ _ (by go_simp; try exact ⟨rfl, rfl⟩) ((clonec_ok wx _ CC hsl (by have := hCl.out; unfold big; omega)).mono ?_)
                  rintro e w' ⟨v', he, ho, g⟩
                  exact ⟨v', he, g, ⟨g.heap hi.1 (by simp), g.heap hi.2.1 (by simp), fun x hx => own_tr (hi.2.2.1 x hx) g (by simp), Nat.le_trans hi.2.2.2.1 g.size, hi.2.2.2.2.1.t0 g, fun h => absurd h (by decide), fun _ => own_tr (hi.2.2.2.2.2.2.1 (by decide)) g (by simp), fun _ => g.heap (hi.2.2.2.2.2.2.2.1 (by decide)) (by simp), fun h => absurd h (by decide), fun h => absurd h (by decide)⟩, own_lower ho hi.2.2.2.1⟩
                · intro V wx hi hd
                  simp [phi, Region.binds, cst] at hd
                  try simp only [hd]
                  obtain ⟨j0, _, hi⟩ := hi
                  have hd19 : wx.ownsRow H 54 5 (V 19) CC.length (CC.flatMap cellc) := hd
                  obtain ⟨au, cu, e19⟩ := own_shape hd19
                  rw [e19] at hd19 ⊢
                  refine soft_made (w' := wx.alloc (.cells #[.slice au CC.length cu] 50)) (v := .slice (some ⟨wx.heap.size, 0, none⟩) 1 1) rfl (by go_simp) (Chg.alloc _ _ _) ⟨.slice au CC.length cu, Sl.lit wx #[.slice au CC.length cu] 50 1 (by decide), fun j hj => ?_, own_tr hd19 (Chg.alloc [] _ _) (by simp)⟩
                  have h2 := (vblk_slice.1 hj).2
                  have h3 := hi.2.2.2.1
                  simp at h2
                  omega
                · intro V wx hi hd
                  simp [phi, Region.binds, cst] at hd
                  try simp only [hd]
                  obtain ⟨_, ⟨u, hsl, hub, hu⟩, _⟩ := hd
                  have hB := hi.2.2.2.2.2.2.1 (by first | trivial | decide)
                  refine wstep_list rfl (wpList_append_sl _ rfl (.tmp 85) (.tmp 95) 40 50 1 24 rfl el_cells b0 (.slice bv k dv) k _ rfl hB _ 1 [u] rfl hsl rfl (fun x hx => by obtain ⟨_, _, e⟩ := own_shape hu; rw [List.mem_singleton.1 hx, e]; rfl) (by unfold big; omega) (by have := hH.out; have := hi.2.2.2.1; omega) (fun v' w' h1 h2 => ?_))
                  have g := Chg.grown h2
                  exact ⟨v', rfl, g, ⟨g.heap hi.1 (fun hm => by have := hobB _ (by simpa using hm); omega), g.heap hi.2.1 (fun hm => by have := hobB _ (by simpa using hm); omega), fun x hx => own_trD (hi.2.2.1 x hx) g (fun j hj e => own_apart (hi.2.2.1 x hx) hB (by decide) j e (by simpa using hj)), Nat.le_trans hi.2.2.2.1 g.size, hi.2.2.2.2.1.grownOwn h2 hB (by omega), fun h => absurd h (by decide), fun h => absurd h (by decide), fun _ => g.heap (hi.2.2.2.2.2.2.2.1 (by first | trivial | decide)) (fun hm => by have := hobB _ (by simpa using hm); omega), fun h => absurd h (by decide), fun h => absurd h (by decide)⟩, u, by rw [List.map_append]; exact h1, fun j hj => (by have := own_from h1 j hj; omega), own_trD hu g (fun j hj e => own_apart hu hB (by decide) j e (by simpa using hj))⟩
                · intro V wx hi hd
                  simp [phi, Region.binds, cst] at hd
                  try simp only [hd]
                  first
                    | (refine soft_const rfl ?_; go_simp; done)
                    | (refine soft_const rfl ?_; go_simp; exact rfl)
                    | (exact soft_cellN rfl _ _ rfl _ rfl _ _ ((by obtain ⟨j, _, hi⟩ := hi; exact (cells3'' hi.1).1)) Try.underlying25 rfl)
                    | (exact soft_cellN rfl _ _ rfl _ rfl _ _ ((by obtain ⟨j, _, hi⟩ := hi; exact (cells3'' hi.1).2.2)) Try.underlying40 rfl)
                    | (exact soft_cellN rfl _ _ rfl _ rfl _ _ ((by obtain ⟨j, hj, hi⟩ := hi; exact (cells3'' (hi.2.2.2.2.2.2.2.1 (by omega))).1)) Try.underlying25 rfl)
                    | (exact soft_cellN rfl _ _ rfl _ rfl _ _ ((by obtain ⟨j, hj, hi⟩ := hi; exact (cells3'' (hi.2.2.2.2.2.2.2.1 (by omega))).2.2)) Try.underlying40 rfl)
                    | (exact soft_cellN rfl _ _ rfl _ rfl _ _ ((by obtain ⟨j, _, hi⟩ := hi; exact hi.2.2.2.2.1.cellv w1' (by simp))) Try.underlying50 rfl)
                    | (exact soft_load rfl (Chg.refl [] _) _ _ rfl _ _ rfl _ _ ((by obtain ⟨j, _, hi⟩ := hi; exact hi.2.2.2.2.1.range rcW (by simp))) Try.underlying58 rfl (by kernel_rfl))
                    | (exact soft_skip rfl)
                · intro V wx hi hd
                  simp [phi, Region.binds, cst] at hd
                  try simp only [hd]
                  obtain ⟨_, ⟨hA0, _⟩, _⟩ := hd
                  have hA : wx.ownsRow b0 58 3 (V 8) (k + 1) (((cols.take (k + 1)).map fun k => L.getD k.toNat ⟨[], 0, false⟩).flatMap colc) := by simpa using hA0
                  clear hA0
                  have h3 := hi.2.2.2.2.2.2.2.1 (by first | trivial | decide)
                  obtain ⟨q0, q1, q2, f0, f1, f2⟩ := cells3f h3
                  obtain ⟨a8, c8, e8⟩ := own_shape hA
                  rw [e8] at hA
                  have gS : Chg [P] wx (wx.setCell ⟨P, 0, none⟩ (.slice a8 (k + 1) c8)) := Chg.setCell wx ⟨P, 0, none⟩ (.slice a8 (k + 1) c8)
                  refine wstep_skip (w' := wx.setCell ⟨P, 0, none⟩ (.slice a8 (k + 1) c8)) rfl ?_ ⟨gS, ⟨gS.heap hi.1 (by simp; omega), gS.heap hi.2.1 (by simp; omega), fun x hx => own_tr (hi.2.2.1 x hx) gS (by simpa using hPb0), Nat.le_trans hi.2.2.2.1 gS.size, hi.2.2.2.2.1.tn gS (by omega), fun h => absurd h (by decide), fun h => absurd h (by decide), fun h => absurd h (by decide), fun _ => ⟨_, by rw [heap_setCell_same _ P 0 _ _ _ h3]; rfl, own_tr hA gS (by simpa using hPb0)⟩, fun h => absurd h (by decide)⟩, rfl⟩
                  simp only [e8]
                  go_simp
                · intro V wx hi hd
                  simp [phi, Region.binds, cst] at hd
                  try simp only [hd]
                  first
                    | (refine soft_const rfl ?_; go_simp; done)
                    | (refine soft_const rfl ?_; go_simp; exact rfl)
                    | (exact soft_cellN rfl _ _ rfl _ rfl _ _ ((by obtain ⟨j, _, hi⟩ := hi; exact (cells3'' hi.1).1)) Try.underlying25 rfl)
                    | (exact soft_cellN rfl _ _ rfl _ rfl _ _ ((by obtain ⟨j, _, hi⟩ := hi; exact (cells3'' hi.1).2.2)) Try.underlying40 rfl)
                    | (exact soft_cellN rfl _ _ rfl _ rfl _ _ ((by obtain ⟨j, hj, hi⟩ := hi; exact (cells3'' (hi.2.2.2.2.2.2.2.1 (by omega))).1)) Try.underlying25 rfl)
                    | (exact soft_cellN rfl _ _ rfl _ rfl _ _ ((by obtain ⟨j, hj, hi⟩ := hi; exact (cells3'' (hi.2.2.2.2.2.2.2.1 (by omega))).2.2)) Try.underlying40 rfl)
                    | (exact soft_cellN rfl _ _ rfl _ rfl _ _ ((by obtain ⟨j, _, hi⟩ := hi; exact hi.2.2.2.2.1.cellv w1' (by simp))) Try.underlying50 rfl)
                    | (exact soft_load rfl (Chg.refl [] _) _ _ rfl _ _ rfl _ _ ((by obtain ⟨j, _, hi⟩ := hi; exact hi.2.2.2.2.1.range rcW (by simp))) Try.underlying58 rfl (by kernel_rfl))
                    | (exact soft_skip rfl)
                · intro V wx hi hd
                  simp [phi, Region.binds, cst] at hd
                  try simp only [hd]
                  obtain ⟨_, ⟨u, hB0, hBp, hu⟩, _⟩ := hd
                  have hB : wx.ownsRow b0 50 1 (V 21) (k + 1) ((E ++ [(u, CC)]).map (·.1)) := by simpa using hB0
                  clear hB0
                  obtain ⟨pa, h3, hA⟩ := hi.2.2.2.2.2.2.2.2.1 (by first | trivial | decide)
                  obtain ⟨q0, q1, q2, f0, f1, f2⟩ := cells3f h3
                  obtain ⟨a8, c8, e8⟩ := own_shape hB
                  rw [e8] at hB
                  have gS : Chg [P] wx (wx.setCell ⟨P, 2, none⟩ (.slice a8 (k + 1) c8)) := Chg.setCell wx ⟨P, 2, none⟩ (.slice a8 (k + 1) c8)
                  refine wstep_skip (w' := wx.setCell ⟨P, 2, none⟩ (.slice a8 (k + 1) c8)) rfl ?_ ⟨gS, ⟨gS.heap hi.1 (by simp; omega), gS.heap hi.2.1 (by simp; omega), fun x hx => own_tr (hi.2.2.1 x hx) gS (by simpa using hPb0), Nat.le_trans hi.2.2.2.1 gS.size, hi.2.2.2.2.1.tn gS (by omega), fun h => absurd h (by decide), fun h => absurd h (by decide), fun h => absurd h (by decide), fun h => absurd h (by decide), fun _ => ⟨_, _, u, by rw [heap_setCell_same _ P 2 _ _ _ h3]; rfl, own_tr hA gS (by simpa using hPb0), own_tr hB gS (by simpa using hPb0), own_tr hu gS (by have := hH.out; simpa using (show P < H by omega))⟩⟩, rfl⟩
                  simp only [e8]
                  go_simp
              intro V w' hi hk
              obtain ⟨A5, R5, E5, z5, ch5, _, _, _, _, hfin⟩ := hi
              obtain ⟨pa, pb, u, P5, oA5, oB5, hu5⟩ := hfin (by first | trivial | decide)
              simp only [List.drop_succ_cons, List.drop_zero]
              generalize V 0 = q0
              generalize V 1 = q1
              generalize V 2 = q2
              generalize V 3 = q3
              generalize V 4 = q4
              generalize V 5 = q5
              generalize V 6 = q6
              generalize V 7 = q7
              generalize V 8 = q8
              generalize V 9 = q9
              generalize V 10 = q10
              generalize V 11 = q11
              generalize V 12 = q12
              generalize V 13 = q13
              generalize V 14 = q14
              generalize V 15 = q15
              generalize V 16 = q16
              generalize V 17 = q17
              generalize V 18 = q18
              generalize V 19 = q19
              generalize V 20 = q20
              generalize V 21 = q21
              generalize V 22 = q22
              generalize V 23 = q23
              generalize V 24 = q24
              generalize V 25 = q25
              clear hk V
              go_wp2
              go_roundw
              case rel =>
                refine ⟨k + 1, pa, pb, E ++ [(u, CC)], by omega, by go_num, A5, R5, P5, oA5, oB5, ?_, ?_, by have := hH.out; omega, ch5⟩
                · rw [htk.out, List.map_append, List.map_append, hE, hCC.out]
                  simp [List.getD, hXD]
                · intro x hx
                  rcases List.mem_append.1 hx with h | h
                  · exact E5 x h
                  · rw [List.mem_singleton.1 h]
                    exact own_lower hu5 (by have := hH.out; omega)
              case measure => simp [intOf]; omega
            · obtain rfl : k = cols.length := by omega
              rw [List.take_length] at oA hE
              obtain ⟨av, cv, rfl⟩ := own_shape oA
              obtain ⟨bv, dv, rfl⟩ := own_shape oB
              obtain ⟨p0, p1, p2⟩ := cells3'' bP
              have hEl : E.length = cols.length := by have := congrArg List.length hE; simpa using this
              have hbT2 : w.heap.size + 1 < b0 := by have := hb0.out; omega
              go_wp2_with (refine store_rowC rfl _ _ _ rfl (w.heap.size + 1) _ rfl [.slice av cols.length cv, .int .i64 ((hi' : Int) - lo'), .slice bv cols.length dv] rfl _ brr (by kernel_rfl) rfl rfl ?_)
              intro w8 t8 g8 z8
              have oA8 := own_tr oA g8 (by simpa using hbT2)
              have oB8 := own_tr oB g8 (by simpa using hbT2)
              have hE8 : ∀ x ∈ E, w8.ownsRow b0 54 5 x.1 x.2.length (x.2.flatMap cellc) := fun x hx => own_tr (hEo x hx) g8 (by simpa using hbT2)
              have hR := hRR.out
              subst hR
              go_wp2
              refine ret_row2 8 9 42 rfl _ Try.underlying42 rfl [.slice av cols.length cv, .int .i64 ((hi' : Int) - lo'), .slice bv cols.length dv] (by kernel_rfl) rfl _ rfl (ra_block t8) ⟨_, _, rfl, ?_, ⟨E, ?_, fun x hx => own_lower (hE8 x hx) (by omega), hE.symm⟩, gq.tn g8 (by omega)⟩
              · have := Sl.ofOwns oA8
                simpa [pickT] using this
              · rw [hEl]; exact own_lower oB8 (by omega)
        · have hRR : R = (noT, 7) := by
            rw [hR1.out, if_neg]
            rw [hmem.out]
            simp only [Bool.and_eq_true, decide_eq_true_eq]
            exact fun h => hin ⟨h.1.1, h.1.2, h.2⟩
          subst hRR
          have hst : (lo < 0) ∨ (0 ≤ lo ∧ hi < lo) ∨ (0 ≤ lo ∧ lo ≤ hi ∧ rows < hi) := by omega
          clear hin hR1 hmem
          rcases hst with y1 | ⟨y1, y2⟩ | ⟨y1, y2, y3⟩
          all_goals
            go_wp2_with (refine store_rowC rfl _ _ _ rfl (w.heap.size + 1) _ rfl [.slice none 0 0, .int .i64 0, .slice none 0 0] rfl _ brr (by kernel_rfl) rfl rfl ?_)
            intro w4 t4 g4 z4'
            go_wp2
            exact ret_row2 8 9 42 rfl _ Try.underlying42 rfl [.slice none 0 0, .int .i64 0, .slice none 0 0] (by kernel_rfl) rfl _ rfl (ra_block t4) ⟨_, _, rfl, Sl.nil _, ⟨[], World.ownsRow_nil _ _ _ _, by simp, rfl⟩, gg.tn g4 (by omega)⟩
  · have hv' : (V != 0) = true := by simpa using hv
    have hR1 := hR.out
    rw [if_pos (by simpa using hv)] at hR1
    subst hR1
    clear hR hcz hv
    go_wp2_with (refine store_rowC rfl _ _ _ rfl (w.heap.size + 1) _ rfl [.slice none 0 0, .int .i64 0, .slice none 0 0] rfl _ br (by kernel_rfl) rfl rfl ?_)
    intro w3 t3 g3 z3
    go_wp2
    exact ret_row2 8 9 42 rfl _ Try.underlying42 rfl [.slice none 0 0, .int .i64 0, .slice none 0 0] (by kernel_rfl) rfl _ rfl (ra_block t3) ⟨_, _, rfl, Sl.nil _, ⟨[], World.ownsRow_nil _ _ _ _, by simp, rfl⟩, g0.tn g3 (by omega)⟩
theorem project_ok (w : World) (vc vd vk : Value) (t : Tab) (D : Rows2) (cols : List Int) (lo hi : Int) (hc : Sl w vc t.cols.length (t.cols.flatMap colc)) (hd : Sl2 w vd D) (hD : t.data = D.map (·.2))
    (hL : ∀ c ∈ t.cols, c.name.length ≤ maxLen ∧ -9223372036854775808 ≤ c.typ ∧ c.typ ≤ 9223372036854775807) (hcl : t.cols.length ≤ maxLen) (hdl : D.length ≤ maxLen)
    (hk : Sl w vk cols.length (ics .i64 cols)) (hkI : ∀ x ∈ cols, I64 x) (hkl : cols.length ≤ maxLen) (hlo : I64 lo) (hhi : I64 hi) :
    Calls Try.prog 28 #[.agg #[vc, .int .i64 t.rows, vd], vk, .int .i64 lo, .int .i64 hi] w fun e w' => ∃ vc' vd', e = .returned (.tuple #[.agg #[vc', .int .i64 (projV t cols lo hi).1.rows, vd'], .int .i64 (projV t cols lo hi).2]) ∧
      Sl w' vc' (projV t cols lo hi).1.cols.length ((projV t cols lo hi).1.cols.flatMap colc) ∧ DataAt w' vd' (projV t cols lo hi).1.data ∧ Chg [] w w' :=
  (project_own w vc vd vk t D cols lo hi hc hd hD hL hcl hdl hk hkI hkl hlo hhi).mono fun e w' ⟨vc', vd', h1, h2, h3, h4⟩ => ⟨vc', vd', h1, h2, h3.at, h4⟩
end Go.Proofs.Ytfnfcioofkeanaa
