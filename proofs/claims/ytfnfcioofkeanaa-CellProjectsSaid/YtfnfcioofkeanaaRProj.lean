/-
  The contract of the document's Project (hypostyleref07).
-/
import Derived.Test.YtfnfcioofkeanaaProj2
import Derived.Test.YtfnfcioofkeanaaTab3
import Derived.Test.YtfnfcioofkeanaaQuery
import Derived.Test.YtfnfcioofkeanaaFresh
namespace Go.Proofs.Ytfnfcioofkeanaa
set_option linter.unusedSimpArgs false
set_option linter.unusedVariables false
open Go.RowKit

set_option maxHeartbeats 16000000 in
set_option maxRecDepth 100000 in
theorem rproject_ok (w : World) (vc vd vk : Value) (t : Tab) (D : Rows2) (cols : List Int) (lo hi : Int) (hc : Sl w vc t.cols.length (t.cols.flatMap colc)) (hd : Sl2 w vd D) (hD : t.data = D.map (·.2))
    (hL : ∀ c ∈ t.cols, c.name.length ≤ maxLen ∧ -9223372036854775808 ≤ c.typ ∧ c.typ ≤ 9223372036854775807) (hcl : t.cols.length ≤ maxLen) (hdl : D.length ≤ maxLen)
    (hk : Sl w vk cols.length (ics .i64 cols)) (hkI : ∀ x ∈ cols, I64 x) (hkl : cols.length ≤ maxLen) (hlo : I64 lo) (hhi : I64 hi) :
    Calls Try.prog 29 #[.agg #[vc, .int .i64 t.rows, vd], vk, .int .i64 lo, .int .i64 hi] w fun e w' => ∃ vc' vd', e = .returned (.tuple #[.agg #[vc', .int .i64 (projV t cols lo hi).1.rows, vd'], .int .i64 (projV t cols lo hi).2]) ∧
      w'.ownsRow w.heap.size 58 3 vc' (projV t cols lo hi).1.cols.length ((projV t cols lo hi).1.cols.flatMap colc) ∧ DataOwn w' w.heap.size vd' (projV t cols lo hi).1.data ∧ Chg [] w w' := by
  obtain ⟨R, hR⟩ : ∃ R, R = projV t cols lo hi := ⟨_, rfl⟩
  rw [← hR]
  unfold projV at hR
  have hcz := @checkV_zero t
  have kCh := fun w' (g : Chg [] w w') => rcheck_ok w' vc vd t D (hc.tr0 g) (hd.tr0 g) hD hL hcl hdl
  have kF := fun w' (g : Chg [] w w') => rfits_ok w' vk cols lo hi t.cols.length t.rows (hk.tr0 g) hkl
  obtain ⟨V, hV⟩ : ∃ V, V = checkV t := ⟨_, rfl⟩
  rw [← hV] at hR hcz
  simp only [← hV] at kCh
  clear hV
  obtain ⟨L, rows, data⟩ := t
  dsimp only at *
  subst hD
  obtain ⟨a0, c0, rfl⟩ := hc.shape
  obtain ⟨a1, c1, rfl⟩ := hd.1.shape
  obtain ⟨a2, c2, rfl⟩ := hk.shape
  unfold maxLen at hcl hdl hkl
  replace hR := Lib.hid hR
  go_enter Try.func29, Try.ntmps29
  go_wp2_with fail
  have ba := (Chg.alloc [] (w.alloc (.cells #[.slice a0 L.length c0, .int .i64 rows, .slice a1 D.length c1] 42)) (.cells #[.slice none 0 0, .int .i64 0, .slice none 0 0] 42)).heap (heap_alloc_new w (.cells #[.slice a0 L.length c0, .int .i64 rows, .slice a1 D.length c1] 42)) (by simp)
  have br := heap_new1 w (.cells #[.slice a0 L.length c0, .int .i64 rows, .slice a1 D.length c1] 42) (.cells #[.slice none 0 0, .int .i64 0, .slice none 0 0] 42)
  have g0 : Chg [] w ((w.alloc (.cells #[.slice a0 L.length c0, .int .i64 rows, .slice a1 D.length c1] 42)).alloc (.cells #[.slice none 0 0, .int .i64 0, .slice none 0 0] 42)) := (Chg.alloc _ _ _).t0 (Chg.alloc _ _ _)
  generalize (w.alloc (.cells #[.slice a0 L.length c0, .int .i64 rows, .slice a1 D.length c1] 42)).alloc (.cells #[.slice none 0 0, .int .i64 0, .slice none 0 0] 42) = w1 at *
  refine (kCh w1 g0).mono ?_
  rintro e w2 ⟨rfl, g2⟩
  replace ba := g2.heap ba (by simp)
  replace br := g2.heap br (by simp)
  replace g0 := g0.t0 g2
  clear g2 kCh
  obtain ⟨k0, k1, k2⟩ := cells3'' ba
  by_cases hv : V = 0
  · subst hv
    obtain ⟨z1, z2, z3, z4, z5, z6⟩ := hcz rfl
    have hR1 := hR.out
    rw [if_neg (by simp)] at hR1
    rw [List.length_map] at z4
    clear hR hcz z6
    replace z4 := Lib.hid z4
    have hcolL : colsV L = 0 := z1
    have hL64 := colsV_len z1
    clear z1 hcolL
    replace hR1 := Lib.hid hR1
    replace z5 := Lib.hid z5
    go_wp2_with fail
    refine (kF _ g0).mono ?_
    rintro e w3 ⟨rfl, g3⟩
    replace ba := g3.heap ba (by simp)
    replace br := g3.heap br (by simp)
    replace g0 := g0.t0 g3
    clear g3 kF k0 k1 k2
    have hbz : w.heap.size + 1 < w3.heap.size := lt_of_heap br
    cases hfit : fitsV cols lo hi L.length rows with
    | false =>
      have hRR := hR1.out
      rw [if_neg (by rw [hfit]; simp)] at hRR
      subst hRR
      clear hfit hR1
      go_wp2_with (refine store_rowC rfl _ _ _ rfl (w.heap.size + 1) _ rfl [.slice none 0 0, .int .i64 0, .slice none 0 0] rfl _ br (by kernel_rfl) rfl rfl ?_)
      intro w4 t4 g4 z4'
      go_wp2
      exact ret_row2 8 9 42 rfl _ Try.underlying42 rfl [.slice none 0 0, .int .i64 0, .slice none 0 0] (by kernel_rfl) rfl _ rfl (ra_block t4) ⟨_, _, rfl, World.ownsRow_nil _ _ _ _, ⟨[], World.ownsRow_nil _ _ _ _, by simp, rfl⟩, g0.tn g4 (by omega)⟩
    | true =>
      have hRR := hR1.out
      rw [if_pos hfit] at hRR
      have hok := hfit
      obtain ⟨f1, f2, n1, n2, n3⟩ := (by unfold fitsV at hok; simpa only [decide_eq_true_eq] using hok : cols.Nodup ∧ (∀ c ∈ cols, 0 ≤ c ∧ c < (L.length : Int)) ∧ 0 ≤ lo ∧ lo ≤ hi ∧ hi ≤ rows)
      clear hfit hR1 hok
      replace hRR := Lib.hid hRR
      have hc64 : cols.length ≤ 64 := by have := nodup_length cols L.length f1 f2; omega
      replace f2 := Lib.hid f2
      clear f1
      obtain ⟨lo', rfl⟩ : ∃ n : Nat, lo = (n : Int) := ⟨lo.toNat, by omega⟩
      obtain ⟨hi', rfl⟩ : ∃ n : Nat, hi = (n : Int) := ⟨hi.toNat, by omega⟩
      have hw : wrap64 ((hi' : Int) - lo') = (hi' : Int) - lo' := by unfold wrap64; omega
      go_wp2_with fail
      have gP := Chg.alloc [] w3 (.cells #[.slice none 0 0, .int .i64 ((hi' : Int) - lo'), .slice none 0 0] 42)
      have bP := heap_alloc_new w3 (.cells #[.slice none 0 0, .int .i64 ((hi' : Int) - lo'), .slice none 0 0] 42)
      replace ba := gP.heap ba (by simp)
      replace br := gP.heap br (by simp)
      have g1 := g0.t0 gP
      have hPb : w3.heap.size < (w3.alloc (.cells #[.slice none 0 0, .int .i64 ((hi' : Int) - lo'), .slice none 0 0] 42)).heap.size := by simp
      clear gP g0
      generalize w3.alloc (.cells #[.slice none 0 0, .int .i64 ((hi' : Int) - lo'), .slice none 0 0] 42) = w5 at *
      generalize w3.heap.size = P at *
      obtain ⟨b0, hb0⟩ : ∃ b0, b0 = w5.heap.size := ⟨_, rfl⟩
      replace hb0 := Lib.hid hb0
      go_loopw [13] (fun iv wq => ∃ (k : Nat) (vA vB : Value) (E : Rows2), k ≤ cols.length ∧ iv = .int .i64 k ∧ wq.heap[w.heap.size]? = some (.cells #[.slice a0 L.length c0, .int .i64 rows, .slice a1 D.length c1] 42 (0, 0)) ∧ wq.heap[w.heap.size + 1]? = some (.cells #[.slice none 0 0, .int .i64 0, .slice none 0 0] 42 (0, 0)) ∧ wq.heap[P]? = some (.cells #[vA, .int .i64 ((hi' : Int) - lo'), vB] 42 (0, 0)) ∧
        wq.ownsRow b0 58 3 vA k (((cols.take k).map fun k => L.getD k.toNat ⟨[], 0, false⟩).flatMap colc) ∧ wq.ownsRow b0 50 1 vB k (E.map (·.1)) ∧ E.map (·.2) = (cols.take k).map (fun k => (((D.map (·.2)).getD k.toNat []).take (hi' : Int).toNat).drop (lo' : Int).toNat) ∧ (∀ x ∈ E, wq.ownsRow b0 54 5 x.1 x.2.length (x.2.flatMap cellc)) ∧ b0 ≤ wq.heap.size ∧ Chg [] w wq) (fun iv _ => cols.length - (intOf iv).toNat)
      case atStart => exact ⟨0, _, _, [], Nat.zero_le _, rfl, ba, br, bP, World.ownsRow_nil _ _ _ _, World.ownsRow_nil _ _ _ _, rfl, by simp, by rw [hb0.out]; exact Nat.le_refl _, g1⟩
      case round =>
        clear ba br bP g1
        obtain ⟨k, vA, vB, E, hkk, rfl, baa, brr, bP, oA, oB, hE, hEo, hbz', gq⟩ := hrel
        by_cases hlt : k < cols.length
        · obtain ⟨b, off, cc, e, hbl, x1w⟩ := int_cells hk k hlt
          cases e
          obtain ⟨hx0, hx1⟩ := f2.out _ (List.getElem_mem hlt)
          have htk : cols.take (k + 1) = cols.take k ++ [cols[k]] := List.take_succ_eq_append_getElem hlt
          replace htk := Lib.hid htk
          have hkd : (k : Int) < cols.length := by omega
          generalize cols[k] = x at *
          obtain ⟨X, rfl⟩ : ∃ X : Nat, x = (X : Int) := ⟨x.toNat, by omega⟩
          have hXL : X < L.length := by omega
          have hXD : X < D.length := by rw [z4.out]; exact hXL
          have hXDi : (X : Int) < D.length := by omega
          have hX0 : (0 : Int) ≤ X := by omega
          obtain ⟨av, cv, rfl⟩ := own_shape oA
          obtain ⟨bv, dv, rfl⟩ := own_shape oB
          obtain ⟨p0, p1, p2⟩ := cells3'' bP
          obtain ⟨t0, t1, t2⟩ := cells3'' baa
          obtain ⟨bL, offL, cL, eL, hblL, y1, y2, y3⟩ := cols_cells hc X hXL
          cases eL
          have rcW := ra3 y1 y2 y3
          obtain ⟨bD, offD, cD, eD, hblD, w1', sD⟩ := hd.cell X hXD
          cases eD
          have hlenD : (D[X].2.length : Int) = rows := z5.out _ (List.mem_map.2 ⟨D[X], List.getElem_mem hXD, rfl⟩)
          have hn2 : lo' ≤ hi' := by omega
          have hn3 : hi' ≤ D[X].2.length := by omega
          obtain ⟨CC, hCC⟩ : ∃ CC, CC = (D[X].2.take hi').drop lo' := ⟨_, rfl⟩
          have hCl : CC.length = hi' - lo' := by rw [hCC]; simp; omega
          have hdlt := (hd.2 _ (List.getElem_mem hXD)).lt
          obtain ⟨ax, cx, ex⟩ := sD.shape
          rw [ex] at w1' sD hdlt
          have hcx : D[X].2.length ≤ cx ∧ cx ≤ 9223372036854775807 := by obtain ⟨_, _, e, q1, q2, _⟩ := id sD; cases e; unfold maxLen at q2; omega
          have sT := sD.take hn3 (hi' * 5)
          rw [← flat_takeN cellc 5 (fun _ => rfl)] at sT
          have hTl : ((D[X].2.take hi').flatMap cellc).length = hi' * 5 := by rw [cellc_length, List.length_take]; omega
          obtain ⟨H, hH⟩ : ∃ H, H = wr.heap.size := ⟨_, rfl⟩
          replace hH := Lib.hid hH
          replace hCC := Lib.hid hCC
          replace hCl := Lib.hid hCl
          have hobA := own_from oA
          have hobB := own_from oB
          have hltA := fun j hj => (oA.lt j hj).2
          have hltB := fun j hj => (oB.lt j hj).2
          have hPlt : P < wr.heap.size := lt_of_heap bP
          generalize D[X].2.length = nX at *
          have hPb0 : P < b0 := by rw [hb0.out]; exact hPb
          have hcat : ((cols.take (k + 1)).map fun k => L.getD k.toNat ⟨[], 0, false⟩).flatMap colc = ((cols.take k).map fun k => L.getD k.toNat ⟨[], 0, false⟩).flatMap colc ++ colc L[X] := by
            rw [htk.out, List.map_append, List.flatMap_append]
            simp [List.getD, hXL]
          replace hcat := Lib.hid hcat
          have sE : cx = lo' → Sl w (.slice ax (hi' - lo') 0) CC.length (CC.flatMap cellc) := fun hcc => by
            have h := sT.dropE hn2 hcc 5 hTl
            rw [← flat_dropN cellc 5 (fun _ => rfl), ← hCC.out] at h
            rw [hCl.out]; exact h
          have sN : ¬ cx = lo' → Sl w (.slice (ax.map fun x => x.add (lo' * 5)) (hi' - lo') (cx - lo')) CC.length (CC.flatMap cellc) := fun hcc => by
            have h := sT.dropN hn2 hcc 5
            rw [← flat_dropN cellc 5 (fun _ => rfl), ← hCC.out] at h
            rw [hCl.out]; exact h
          clear sD sT hTl
          go_wp2_with fail
          refine' region_softW (fun m => match m with | 0 => (Value.slice av k cv).ownBlock.toList | _ => []) (fun m wx => wx.heap[w.heap.size]? = some (.cells #[.slice (some ⟨bL, offL, none⟩) L.length c0, .int .i64 rows, .slice (some ⟨bD, offD, none⟩) D.length c1] 42 (0, 0)) ∧ wx.heap[w.heap.size + 1]? = some (.cells #[.slice none 0 0, .int .i64 0, .slice none 0 0] 42 (0, 0)) ∧ wx.heap[P]? = some (.cells #[.slice av k cv, .int .i64 ((hi' : Int) - lo'), .slice bv k dv] 42 (0, 0)) ∧ (∀ x ∈ E, wx.ownsRow b0 54 5 x.1 x.2.length (x.2.flatMap cellc)) ∧ H ≤ wx.heap.size ∧ Chg [] w wx ∧ wx.ownsRow b0 50 1 (.slice bv k dv) k (E.map (·.1)) ∧ (m = 0 → wx.ownsRow b0 58 3 (.slice av k cv) k (((cols.take k).map fun k => L.getD k.toNat ⟨[], 0, false⟩).flatMap colc))) 13 [cst _, cst (.slice av k cv), cst _, cst (.slice (some ⟨bL, offL, none⟩) L.length c0), cst _, cst _, cst _, cst (.int .i64 X), cst _, cst (.agg #[.string (bstr L[X].name), .int .i64 L[X].typ, .bool L[X].null]), fun v w => Sl w v 1 (colc L[X]) ∧ ∀ j, vblk v = some j → H ≤ j, fun v w => w.ownsRow b0 58 3 v (k + 1) (((cols.take (k + 1)).map fun k => L.getD k.toNat ⟨[], 0, false⟩).flatMap colc), cst _] [false, false, false, false, false, false, false, false, false, false, false, true, false] [99, 99, 99, 99, 99, 99, 99, 99, 99, 99, 99, 99, 99] rfl rfl rfl (by kernel_rfl) (by kernel_rfl) (by kernel_rfl) (by kernel_rfl) (by intro j wx wy ⟨h1, h2, h3, h4, h5, h6, h7, h8⟩ g; exact ⟨g.heap h1 (by simp), g.heap h2 (by simp), g.heap h3 (by simp), fun x hx => own_tr (h4 x hx) g (by simp), Nat.le_trans h5 g.size, h6.t0 g, own_tr h7 g (by simp), fun h => own_tr (h8 h) g (by simp)⟩) (⟨baa, brr, bP, hEo, Nat.le_of_eq hH.out, gq, oB, fun _ => oA⟩) ⟨staysW_cst _ _, ⟨staysW_cst _ _, ⟨staysW_cst _ _, ⟨staysW_cst _ _, ⟨staysW_cst _ _, ⟨staysW_cst _ _, ⟨staysW_cst _ _, ⟨staysW_cst _ _, ⟨staysW_cst _ _, ⟨staysW_cst _ _, ⟨⟨fun _ _ _ h g => ⟨h.1.tr0 g, h.2⟩, fun m v w w' h g => ⟨h.1.tr g (fun j hj hm => by have := h.2 j hj; have := hH.out; match m, hm with | 0, hm => exact absurd (hltA j (by simpa using hm)) (by omega)), h.2⟩⟩, ⟨⟨fun _ _ _ h g => own_tr h g (by simp), fun m hm v w w' h g => by match m, hm, g with | m + 1, _, g => exact own_tr h g (by simp)⟩, ⟨staysW_cst _ _, trivial⟩⟩⟩⟩⟩⟩⟩⟩⟩⟩⟩⟩⟩ _ (fun V => by simp only [putAll, Act.put, List.take_succ_cons, List.take_zero, List.setIfInBounds_toArray, List.set_cons_zero, List.set_cons_succ, Nat.reduceAdd]; exact rfl) ?hs1 ?ht1
          case hs1 =>
            simp only [List.take_succ_cons, List.take_zero, softsW]
            refine ⟨?_, ?_, ?_, ?_, ?_, ?_, ?_, ?_, ?_, ?_, ?_, ?_, ?_, trivial⟩
            · intro V wx hi hd
              simp [phi, Region.binds, cst] at hd
              try simp only [hd]
              first
                | (refine soft_const rfl ?_; go_simp; done)
                | (refine soft_const rfl ?_; go_simp; exact rfl)
                | (exact soft_cellN rfl _ _ rfl _ rfl _ _ ((by obtain ⟨j, _, hi⟩ := hi; exact (cells3'' hi.1).1)) Try.underlying25 rfl)
                | (exact soft_cellN rfl _ _ rfl _ rfl _ _ ((by obtain ⟨j, hj, hi⟩ := hi; exact (cells3'' hi.2.2.1).1)) Try.underlying25 rfl)
                | (exact soft_cellN rfl _ _ rfl _ rfl _ _ ((by obtain ⟨j, _, hi⟩ := hi; exact hi.2.2.2.2.2.1.cellv (x1w) (by simp))) Try.underlying3 rfl)
                | (exact soft_load rfl (Chg.refl [] _) _ _ rfl _ _ rfl _ _ ((by obtain ⟨j, _, hi⟩ := hi; exact hi.2.2.2.2.2.1.range rcW (by simp))) Try.underlying58 rfl (by kernel_rfl))
                | (exact soft_skip rfl)
            · intro V wx hi hd
              simp [phi, Region.binds, cst] at hd
              try simp only [hd]
              first
                | (refine soft_const rfl ?_; go_simp; done)
                | (refine soft_const rfl ?_; go_simp; exact rfl)
                | (exact soft_cellN rfl _ _ rfl _ rfl _ _ ((by obtain ⟨j, _, hi⟩ := hi; exact (cells3'' hi.1).1)) Try.underlying25 rfl)
                | (exact soft_cellN rfl _ _ rfl _ rfl _ _ ((by obtain ⟨j, hj, hi⟩ := hi; exact (cells3'' hi.2.2.1).1)) Try.underlying25 rfl)
                | (exact soft_cellN rfl _ _ rfl _ rfl _ _ ((by obtain ⟨j, _, hi⟩ := hi; exact hi.2.2.2.2.2.1.cellv (x1w) (by simp))) Try.underlying3 rfl)
                | (exact soft_load rfl (Chg.refl [] _) _ _ rfl _ _ rfl _ _ ((by obtain ⟨j, _, hi⟩ := hi; exact hi.2.2.2.2.2.1.range rcW (by simp))) Try.underlying58 rfl (by kernel_rfl))
                | (exact soft_skip rfl)
            · intro V wx hi hd
              simp [phi, Region.binds, cst] at hd
              try simp only [hd]
              first
                | (refine soft_const rfl ?_; go_simp; done)
                | (refine soft_const rfl ?_; go_simp; exact rfl)
                | (exact soft_cellN rfl _ _ rfl _ rfl _ _ ((by obtain ⟨j, _, hi⟩ := hi; exact (cells3'' hi.1).1)) Try.underlying25 rfl)
                | (exact soft_cellN rfl _ _ rfl _ rfl _ _ ((by obtain ⟨j, hj, hi⟩ := hi; exact (cells3'' hi.2.2.1).1)) Try.underlying25 rfl)
                | (exact soft_cellN rfl _ _ rfl _ rfl _ _ ((by obtain ⟨j, _, hi⟩ := hi; exact hi.2.2.2.2.2.1.cellv (x1w) (by simp))) Try.underlying3 rfl)
                | (exact soft_load rfl (Chg.refl [] _) _ _ rfl _ _ rfl _ _ ((by obtain ⟨j, _, hi⟩ := hi; exact hi.2.2.2.2.2.1.range rcW (by simp))) Try.underlying58 rfl (by kernel_rfl))
                | (exact soft_skip rfl)
            · intro V wx hi hd
              simp [phi, Region.binds, cst] at hd
              try simp only [hd]
              first
                | (refine soft_const rfl ?_; go_simp; done)
                | (refine soft_const rfl ?_; go_simp; exact rfl)
                | (exact soft_cellN rfl _ _ rfl _ rfl _ _ ((by obtain ⟨j, _, hi⟩ := hi; exact (cells3'' hi.1).1)) Try.underlying25 rfl)
                | (exact soft_cellN rfl _ _ rfl _ rfl _ _ ((by obtain ⟨j, hj, hi⟩ := hi; exact (cells3'' hi.2.2.1).1)) Try.underlying25 rfl)
                | (exact soft_cellN rfl _ _ rfl _ rfl _ _ ((by obtain ⟨j, _, hi⟩ := hi; exact hi.2.2.2.2.2.1.cellv (x1w) (by simp))) Try.underlying3 rfl)
                | (exact soft_load rfl (Chg.refl [] _) _ _ rfl _ _ rfl _ _ ((by obtain ⟨j, _, hi⟩ := hi; exact hi.2.2.2.2.2.1.range rcW (by simp))) Try.underlying58 rfl (by kernel_rfl))
                | (exact soft_skip rfl)
            · intro V wx hi hd
              simp [phi, Region.binds, cst] at hd
              try simp only [hd]
              first
                | (refine soft_const rfl ?_; go_simp; done)
                | (refine soft_const rfl ?_; go_simp; exact rfl)
                | (exact soft_cellN rfl _ _ rfl _ rfl _ _ ((by obtain ⟨j, _, hi⟩ := hi; exact (cells3'' hi.1).1)) Try.underlying25 rfl)
                | (exact soft_cellN rfl _ _ rfl _ rfl _ _ ((by obtain ⟨j, hj, hi⟩ := hi; exact (cells3'' hi.2.2.1).1)) Try.underlying25 rfl)
                | (exact soft_cellN rfl _ _ rfl _ rfl _ _ ((by obtain ⟨j, _, hi⟩ := hi; exact hi.2.2.2.2.2.1.cellv (x1w) (by simp))) Try.underlying3 rfl)
                | (exact soft_load rfl (Chg.refl [] _) _ _ rfl _ _ rfl _ _ ((by obtain ⟨j, _, hi⟩ := hi; exact hi.2.2.2.2.2.1.range rcW (by simp))) Try.underlying58 rfl (by kernel_rfl))
                | (exact soft_skip rfl)
            · intro V wx hi hd
              simp [phi, Region.binds, cst] at hd
              try simp only [hd]
              first
                | (refine soft_const rfl ?_; go_simp; done)
                | (refine soft_const rfl ?_; go_simp; exact rfl)
                | (exact soft_cellN rfl _ _ rfl _ rfl _ _ ((by obtain ⟨j, _, hi⟩ := hi; exact (cells3'' hi.1).1)) Try.underlying25 rfl)
                | (exact soft_cellN rfl _ _ rfl _ rfl _ _ ((by obtain ⟨j, hj, hi⟩ := hi; exact (cells3'' hi.2.2.1).1)) Try.underlying25 rfl)
                | (exact soft_cellN rfl _ _ rfl _ rfl _ _ ((by obtain ⟨j, _, hi⟩ := hi; exact hi.2.2.2.2.2.1.cellv (x1w) (by simp))) Try.underlying3 rfl)
                | (exact soft_load rfl (Chg.refl [] _) _ _ rfl _ _ rfl _ _ ((by obtain ⟨j, _, hi⟩ := hi; exact hi.2.2.2.2.2.1.range rcW (by simp))) Try.underlying58 rfl (by kernel_rfl))
                | (exact soft_skip rfl)
            · intro V wx hi hd
              simp [phi, Region.binds, cst] at hd
              try simp only [hd]
              first
                | (refine soft_const rfl ?_; go_simp; done)
                | (refine soft_const rfl ?_; go_simp; exact rfl)
                | (exact soft_cellN rfl _ _ rfl _ rfl _ _ ((by obtain ⟨j, _, hi⟩ := hi; exact (cells3'' hi.1).1)) Try.underlying25 rfl)
                | (exact soft_cellN rfl _ _ rfl _ rfl _ _ ((by obtain ⟨j, hj, hi⟩ := hi; exact (cells3'' hi.2.2.1).1)) Try.underlying25 rfl)
                | (exact soft_cellN rfl _ _ rfl _ rfl _ _ ((by obtain ⟨j, _, hi⟩ := hi; exact hi.2.2.2.2.2.1.cellv (x1w) (by simp))) Try.underlying3 rfl)
                | (exact soft_load rfl (Chg.refl [] _) _ _ rfl _ _ rfl _ _ ((by obtain ⟨j, _, hi⟩ := hi; exact hi.2.2.2.2.2.1.range rcW (by simp))) Try.underlying58 rfl (by kernel_rfl))
                | (exact soft_skip rfl)
            · intro V wx hi hd
              simp [phi, Region.binds, cst] at hd
              try simp only [hd]
              first
                | (refine soft_const rfl ?_; go_simp; done)
                | (refine soft_const rfl ?_; go_simp; exact rfl)
                | (exact soft_cellN rfl _ _ rfl _ rfl _ _ ((by obtain ⟨j, _, hi⟩ := hi; exact (cells3'' hi.1).1)) Try.underlying25 rfl)
                | (exact soft_cellN rfl _ _ rfl _ rfl _ _ ((by obtain ⟨j, hj, hi⟩ := hi; exact (cells3'' hi.2.2.1).1)) Try.underlying25 rfl)
                | (exact soft_cellN rfl _ _ rfl _ rfl _ _ ((by obtain ⟨j, _, hi⟩ := hi; exact hi.2.2.2.2.2.1.cellv (x1w) (by simp))) Try.underlying3 rfl)
                | (exact soft_load rfl (Chg.refl [] _) _ _ rfl _ _ rfl _ _ ((by obtain ⟨j, _, hi⟩ := hi; exact hi.2.2.2.2.2.1.range rcW (by simp))) Try.underlying58 rfl (by kernel_rfl))
                | (exact soft_skip rfl)
            · intro V wx hi hd
              simp [phi, Region.binds, cst] at hd
              try simp only [hd]
              first
                | (refine soft_const rfl ?_; go_simp; done)
                | (refine soft_const rfl ?_; go_simp; exact rfl)
                | (exact soft_cellN rfl _ _ rfl _ rfl _ _ ((by obtain ⟨j, _, hi⟩ := hi; exact (cells3'' hi.1).1)) Try.underlying25 rfl)
                | (exact soft_cellN rfl _ _ rfl _ rfl _ _ ((by obtain ⟨j, hj, hi⟩ := hi; exact (cells3'' hi.2.2.1).1)) Try.underlying25 rfl)
                | (exact soft_cellN rfl _ _ rfl _ rfl _ _ ((by obtain ⟨j, _, hi⟩ := hi; exact hi.2.2.2.2.2.1.cellv (x1w) (by simp))) Try.underlying3 rfl)
                | (exact soft_load rfl (Chg.refl [] _) _ _ rfl _ _ rfl _ _ ((by obtain ⟨j, _, hi⟩ := hi; exact hi.2.2.2.2.2.1.range rcW (by simp))) Try.underlying58 rfl (by kernel_rfl))
                | (exact soft_skip rfl)
            · intro V wx hi hd
              simp [phi, Region.binds, cst] at hd
              try simp only [hd]
              first
                | (refine soft_const rfl ?_; go_simp; done)
                | (refine soft_const rfl ?_; go_simp; exact rfl)
                | (exact soft_cellN rfl _ _ rfl _ rfl _ _ ((by obtain ⟨j, _, hi⟩ := hi; exact (cells3'' hi.1).1)) Try.underlying25 rfl)
                | (exact soft_cellN rfl _ _ rfl _ rfl _ _ ((by obtain ⟨j, hj, hi⟩ := hi; exact (cells3'' hi.2.2.1).1)) Try.underlying25 rfl)
                | (exact soft_cellN rfl _ _ rfl _ rfl _ _ ((by obtain ⟨j, _, hi⟩ := hi; exact hi.2.2.2.2.2.1.cellv (x1w) (by simp))) Try.underlying3 rfl)
                | (exact soft_load rfl (Chg.refl [] _) _ _ rfl _ _ rfl _ _ ((by obtain ⟨j, _, hi⟩ := hi; exact hi.2.2.2.2.2.1.range rcW (by simp))) Try.underlying58 rfl (by kernel_rfl))
                | (exact soft_skip rfl)
            · intro V wx hi hd
              simp [phi, Region.binds, cst] at hd
              try simp only [hd]
              obtain ⟨j0, _, hi⟩ := hi
              refine soft_made (w' := wx.alloc (.cells #[.string (bstr L[X].name), .int .i64 L[X].typ, .bool L[X].null] 58)) (v := .slice (some ⟨wx.heap.size, 0, none⟩) 1 1) rfl (by go_simp) (Chg.alloc _ _ _) ⟨Sl.lit wx #[.string (bstr L[X].name), .int .i64 L[X].typ, .bool L[X].null] 58 1 (by decide), fun j hj => ?_⟩
              have h2 := (vblk_slice.1 hj).2
              have h3 := hi.2.2.2.2.1
              simp at h2
              omega
            · intro V wx hi hd
              simp [phi, Region.binds, cst] at hd
              try simp only [hd]
              have hA := hi.2.2.2.2.2.2.2 (by first | trivial | decide)
              obtain ⟨_, hsl, _⟩ := hd
              refine wstep_list rfl (wpList_append_sl _ rfl (.tmp 43) (.tmp 52) 25 58 3 32 rfl el_colP b0 (.slice av k cv) k _ rfl hA _ 1 (colc L[X]) rfl hsl rfl (by intro u hu; exact colc_oneP [L[X]] u (by simpa using hu)) (by unfold big; omega) (by have := hH.out; have := hi.2.2.2.2.1; omega) (fun v' w' h1 h2 => ?_))
              have g := Chg.grown h2
              exact ⟨v', rfl, g, ⟨g.heap hi.1 (fun hm => by have := hobA _ (by simpa using hm); omega), g.heap hi.2.1 (fun hm => by have := hobA _ (by simpa using hm); omega), g.heap hi.2.2.1 (fun hm => by have := hobA _ (by simpa using hm); omega), fun x hx => own_trD (hi.2.2.2.1 x hx) g (fun j hj e => own_apart (hi.2.2.2.1 x hx) hA (by decide) j e (by simpa using hj)), Nat.le_trans hi.2.2.2.2.1 g.size, hi.2.2.2.2.2.1.grownOwn h2 hA (by omega), own_trD hi.2.2.2.2.2.2.1 g (fun j hj e => own_apart hi.2.2.2.2.2.2.1 hA (by decide) j e (by simpa using hj)), fun h => absurd h (by decide)⟩, by rw [hcat.out]; exact h1⟩
            · intro V wx hi hd
              simp [phi, Region.binds, cst] at hd
              try simp only [hd]
              first
                | (refine soft_const rfl ?_; go_simp; done)
                | (refine soft_const rfl ?_; go_simp; exact rfl)
                | (exact soft_cellN rfl _ _ rfl _ rfl _ _ ((by obtain ⟨j, _, hi⟩ := hi; exact (cells3'' hi.1).1)) Try.underlying25 rfl)
                | (exact soft_cellN rfl _ _ rfl _ rfl _ _ ((by obtain ⟨j, hj, hi⟩ := hi; exact (cells3'' hi.2.2.1).1)) Try.underlying25 rfl)
                | (exact soft_cellN rfl _ _ rfl _ rfl _ _ ((by obtain ⟨j, _, hi⟩ := hi; exact hi.2.2.2.2.2.1.cellv (x1w) (by simp))) Try.underlying3 rfl)
                | (exact soft_load rfl (Chg.refl [] _) _ _ rfl _ _ rfl _ _ ((by obtain ⟨j, _, hi⟩ := hi; exact hi.2.2.2.2.2.1.range rcW (by simp))) Try.underlying58 rfl (by kernel_rfl))
                | (exact soft_skip rfl)
          intro V w' hi hk'
          obtain ⟨A5, R5, P5, E5, z5, ch5, oB5, _⟩ := hi
          have oA5 : w'.ownsRow b0 58 3 (V 11) (k + 1) (((cols.take (k + 1)).map fun k => L.getD k.toNat ⟨[], 0, false⟩).flatMap colc) := hk' 11 (by decide)
          have h6 := hk' 12 (by decide)
          simp [phi, cst] at h6
          simp only [h6, List.drop_succ_cons, List.drop_zero]
          clear hk' h6 baa brr bP oA oB hEo gq hltA hltB hobA hobB p0 p1 p2 t0 t1 t2 hcat
          generalize V 0 = q0
          generalize V 1 = q1
          generalize V 2 = q2
          generalize V 3 = q3
          generalize V 4 = q4
          generalize V 5 = q5
          generalize V 6 = q6
          generalize V 7 = q7
          generalize V 8 = q8
          generalize V 9 = q9
          generalize V 10 = q10
          generalize V 11 = v11 at *
          clear V
          obtain ⟨a5, q5', rfl⟩ := own_shape oA5
          obtain ⟨k0, k1, k2, f0, f1, f2'⟩ := cells3f P5
          have gS : Chg [P] w' (w'.setCell ⟨P, 0, none⟩ (.slice a5 (k + 1) q5')) := Chg.setCell w' ⟨P, 0, none⟩ (.slice a5 (k + 1) q5')
          have P6 : (w'.setCell ⟨P, 0, none⟩ (.slice a5 (k + 1) q5')).heap[P]? = some (.cells #[.slice a5 (k + 1) q5', .int .i64 ((hi' : Int) - lo'), .slice bv k dv] 42 (0, 0)) := by rw [heap_setCell_same _ P 0 _ _ _ P5]; rfl
          have A6 := gS.heap A5 (by simp; omega)
          have R6 := gS.heap R5 (by simp; omega)
          have oA6 := own_tr oA5 gS (by simpa using hPb0)
          have oB6 := own_tr oB5 gS (by simpa using hPb0)
          have E6 := fun x hx => own_tr (E5 x hx) gS (by simpa using hPb0)
          have ch6 := ch5.tn gS (by omega)
          have z6 := Nat.le_trans z5 gS.size
          clear P5 A5 R5 oA5 oB5 E5 ch5 gS z5
          go_wp2_with fail
          generalize w'.setCell ⟨P, 0, none⟩ (.slice a5 (k + 1) q5') = w6 at *
          clear k0 k1 k2 f0 f1 f2'
          obtain ⟨H2, hH2⟩ : ∃ H2, H2 = w6.heap.size := ⟨_, rfl⟩
          replace hH2 := Lib.hid hH2
          have hobB := own_from oB6
          have hltB := fun j hj => (oB6.lt j hj).2
          have hbH : b0 ≤ H2 := by have := hH2.out; have := hH.out; omega
          have hwH : w.heap.size ≤ H2 := by have := hH2.out; have := ch6.size; omega
          clear hH H z6
          refine' region_softW (fun m => match m with | 0 => (Value.slice bv k dv).ownBlock.toList | _ => []) (fun m wx => wx.heap[w.heap.size]? = some (.cells #[.slice (some ⟨bL, offL, none⟩) L.length c0, .int .i64 rows, .slice (some ⟨bD, offD, none⟩) D.length c1] 42 (0, 0)) ∧ wx.heap[w.heap.size + 1]? = some (.cells #[.slice none 0 0, .int .i64 0, .slice none 0 0] 42 (0, 0)) ∧ wx.heap[P]? = some (.cells #[.slice a5 (k + 1) q5', .int .i64 ((hi' : Int) - lo'), .slice bv k dv] 42 (0, 0)) ∧ (∀ x ∈ E, wx.ownsRow b0 54 5 x.1 x.2.length (x.2.flatMap cellc)) ∧ H2 ≤ wx.heap.size ∧ Chg [] w wx ∧ wx.ownsRow b0 58 3 (.slice a5 (k + 1) q5') (k + 1) (((cols.take (k + 1)).map fun k => L.getD k.toNat ⟨[], 0, false⟩).flatMap colc) ∧ (m = 0 → wx.ownsRow b0 50 1 (.slice bv k dv) k (E.map (·.1)))) 18 [cst _, cst (.slice bv k dv), fun v w => w.ownsRow H2 54 5 v 0 [] ∧ (∀ a k c, v = .slice a k c → c = 0), cst _, cst (.slice (some ⟨bD, offD, none⟩) D.length c1), cst _, cst _, cst _, cst (.int .i64 X), cst _, cst (.slice ax nX cx), cst _, cst _, fun v w' => Sl w' v CC.length (CC.flatMap cellc) ∧ ∀ j, vblk v = some j → j < w.heap.size, fun v w => w.ownsRow H2 54 5 v CC.length (CC.flatMap cellc), fun v w => ∃ u, Sl w v 1 [u] ∧ (∀ j, vblk v = some j → H2 ≤ j) ∧ w.ownsRow H2 54 5 u CC.length (CC.flatMap cellc), fun v w => ∃ u, w.ownsRow b0 50 1 v (k + 1) ((E ++ [(u, CC)]).map (·.1)) ∧ w.ownsRow H2 54 5 u CC.length (CC.flatMap cellc), cst _] [false, false, false, false, false, false, false, false, false, false, false, false, false, false, false, false, true, false] [99, 99, 99, 99, 99, 99, 99, 99, 99, 99, 99, 99, 99, 99, 99, 99, 99, 99] rfl rfl rfl (by kernel_rfl) (by kernel_rfl) (by kernel_rfl) (by kernel_rfl) (by intro j wx wy ⟨h1, h2, h3, h4, h5, h6, h7, h8⟩ g; exact ⟨g.heap h1 (by simp), g.heap h2 (by simp), g.heap h3 (by simp), fun x hx => own_tr (h4 x hx) g (by simp), Nat.le_trans h5 g.size, h6.t0 g, own_tr h7 g (by simp), fun h => own_tr (h8 h) g (by simp)⟩) (⟨A6, R6, P6, E6, Nat.le_of_eq hH2.out, ch6, oA6, fun _ => oB6⟩) ⟨staysW_cst _ _, ⟨staysW_cst _ _, ⟨⟨fun _ _ _ h g => ⟨own_tr h.1 g (by simp), h.2⟩, fun m v w w' h g => ⟨own_tr h.1 g (fun j hm => by have := hH2.out; match m, hm with | 0, hm => have := hltB j (by simpa using hm); omega), h.2⟩⟩, ⟨staysW_cst _ _, ⟨staysW_cst _ _, ⟨staysW_cst _ _, ⟨staysW_cst _ _, ⟨staysW_cst _ _, ⟨staysW_cst _ _, ⟨staysW_cst _ _, ⟨staysW_cst _ _, ⟨staysW_cst _ _, ⟨staysW_cst _ _, ⟨⟨fun _ _ _ h g => ⟨h.1.tr0 g, h.2⟩, fun m v w1 w2 h g => ⟨h.1.tr g (fun j hj hm => by have := h.2 j hj; match m, hm with | 0, hm => have := hobB j (by simpa using hm); omega), h.2⟩⟩, ⟨⟨fun _ _ _ h g => own_tr h g (by simp), fun m v w w' h g => own_tr h g (fun j hm => by have := hH2.out; match m, hm with | 0, hm => have := hltB j (by simpa using hm); omega)⟩, ⟨⟨fun _ _ _ ⟨u, h1, h2, h3⟩ g => ⟨u, h1.tr0 g, h2, own_tr h3 g (by simp)⟩, fun m v w w' ⟨u, h1, h2, h3⟩ g => ⟨u, h1.tr g (fun j hj hm => by have := h2 j hj; have := hH2.out; match m, hm with | 0, hm => have := hltB j (by simpa using hm); omega), h2, own_tr h3 g (fun j hm => by have := hH2.out; match m, hm with | 0, hm => have := hltB j (by simpa using hm); omega)⟩⟩, ⟨⟨fun _ _ _ ⟨u, h1, h3⟩ g => ⟨u, own_tr h1 g (by simp), own_tr h3 g (by simp)⟩, fun m hm v w w' ⟨u, h1, h3⟩ g => by match m, hm, g with | m + 1, _, g => exact ⟨u, own_tr h1 g (by simp), own_tr h3 g (by simp)⟩⟩, ⟨staysW_cst _ _, trivial⟩⟩⟩⟩⟩⟩⟩⟩⟩⟩⟩⟩⟩⟩⟩⟩⟩⟩ _ (fun V => by simp only [putAll, Act.put, List.take_succ_cons, List.take_zero, List.setIfInBounds_toArray, List.set_cons_zero, List.set_cons_succ, Nat.reduceAdd]; exact rfl) ?hs2 ?ht2
          case hs2 =>
            simp only [List.take_succ_cons, List.take_zero, softsW]
            refine ⟨?_, ?_, ?_, ?_, ?_, ?_, ?_, ?_, ?_, ?_, ?_, ?_, ?_, ?_, ?_, ?_, ?_, ?_, trivial⟩
            · intro V wx hi hd
              simp [phi, Region.binds, cst] at hd
              try simp only [hd]
              first
                | (refine soft_const rfl ?_; go_simp; done)
                | (refine soft_const rfl ?_; go_simp; exact rfl)
                | (exact soft_cellN rfl _ _ rfl _ rfl _ _ ((by obtain ⟨j, _, hi⟩ := hi; exact (cells3'' hi.1).2.2)) Try.underlying40 rfl)
                | (exact soft_cellN rfl _ _ rfl _ rfl _ _ ((by obtain ⟨j, hj, hi⟩ := hi; exact (cells3'' hi.2.2.1).2.2)) Try.underlying40 rfl)
                | (exact soft_cellN rfl _ _ rfl _ rfl _ _ ((by obtain ⟨j, _, hi⟩ := hi; exact hi.2.2.2.2.2.1.cellv x1w (by simp))) Try.underlying3 rfl)
                | (exact soft_cellN rfl _ _ rfl _ rfl _ _ ((by obtain ⟨j, _, hi⟩ := hi; exact hi.2.2.2.2.2.1.cellv w1' (by simp))) Try.underlying50 rfl)
                | (exact soft_skip rfl)
            · intro V wx hi hd
              simp [phi, Region.binds, cst] at hd
              try simp only [hd]
              first
                | (refine soft_const rfl ?_; go_simp; done)
                | (refine soft_const rfl ?_; go_simp; exact rfl)
                | (exact soft_cellN rfl _ _ rfl _ rfl _ _ ((by obtain ⟨j, _, hi⟩ := hi; exact (cells3'' hi.1).2.2)) Try.underlying40 rfl)
                | (exact soft_cellN rfl _ _ rfl _ rfl _ _ ((by obtain ⟨j, hj, hi⟩ := hi; exact (cells3'' hi.2.2.1).2.2)) Try.underlying40 rfl)
                | (exact soft_cellN rfl _ _ rfl _ rfl _ _ ((by obtain ⟨j, _, hi⟩ := hi; exact hi.2.2.2.2.2.1.cellv x1w (by simp))) Try.underlying3 rfl)
                | (exact soft_cellN rfl _ _ rfl _ rfl _ _ ((by obtain ⟨j, _, hi⟩ := hi; exact hi.2.2.2.2.2.1.cellv w1' (by simp))) Try.underlying50 rfl)
                | (exact soft_skip rfl)
            · intro V wx hi hd
              simp [phi, Region.binds, cst] at hd
              try simp only [hd]
              obtain ⟨j0, _, hi⟩ := hi
              refine soft_made (w' := wx.alloc (.cells #[] 54)) (v := .slice (some ⟨wx.heap.size, 0, none⟩) 0 0) rfl (by go_simp) (Chg.alloc _ _ _) ⟨own_lit wx #[] 54 0 5 H2 hi.2.2.2.2.1 (Nat.zero_le _) rfl, fun a k c e => by cases e; rfl⟩
            · intro V wx hi hd
              simp [phi, Region.binds, cst] at hd
              try simp only [hd]
              first
                | (refine soft_const rfl ?_; go_simp; done)
                | (refine soft_const rfl ?_; go_simp; exact rfl)
                | (exact soft_cellN rfl _ _ rfl _ rfl _ _ ((by obtain ⟨j, _, hi⟩ := hi; exact (cells3'' hi.1).2.2)) Try.underlying40 rfl)
                | (exact soft_cellN rfl _ _ rfl _ rfl _ _ ((by obtain ⟨j, hj, hi⟩ := hi; exact (cells3'' hi.2.2.1).2.2)) Try.underlying40 rfl)
                | (exact soft_cellN rfl _ _ rfl _ rfl _ _ ((by obtain ⟨j, _, hi⟩ := hi; exact hi.2.2.2.2.2.1.cellv x1w (by simp))) Try.underlying3 rfl)
                | (exact soft_cellN rfl _ _ rfl _ rfl _ _ ((by obtain ⟨j, _, hi⟩ := hi; exact hi.2.2.2.2.2.1.cellv w1' (by simp))) Try.underlying50 rfl)
                | (exact soft_skip rfl)
            · intro V wx hi hd
              simp [phi, Region.binds, cst] at hd
              try simp only [hd]
              first
                | (refine soft_const rfl ?_; go_simp; done)
                | (refine soft_const rfl ?_; go_simp; exact rfl)
                | (exact soft_cellN rfl _ _ rfl _ rfl _ _ ((by obtain ⟨j, _, hi⟩ := hi; exact (cells3'' hi.1).2.2)) Try.underlying40 rfl)
                | (exact soft_cellN rfl _ _ rfl _ rfl _ _ ((by obtain ⟨j, hj, hi⟩ := hi; exact (cells3'' hi.2.2.1).2.2)) Try.underlying40 rfl)
                | (exact soft_cellN rfl _ _ rfl _ rfl _ _ ((by obtain ⟨j, _, hi⟩ := hi; exact hi.2.2.2.2.2.1.cellv x1w (by simp))) Try.underlying3 rfl)
                | (exact soft_cellN rfl _ _ rfl _ rfl _ _ ((by obtain ⟨j, _, hi⟩ := hi; exact hi.2.2.2.2.2.1.cellv w1' (by simp))) Try.underlying50 rfl)
                | (exact soft_skip rfl)
            · intro V wx hi hd
              simp [phi, Region.binds, cst] at hd
              try simp only [hd]
              first
                | (refine soft_const rfl ?_; go_simp; done)
                | (refine soft_const rfl ?_; go_simp; exact rfl)
                | (exact soft_cellN rfl _ _ rfl _ rfl _ _ ((by obtain ⟨j, _, hi⟩ := hi; exact (cells3'' hi.1).2.2)) Try.underlying40 rfl)
                | (exact soft_cellN rfl _ _ rfl _ rfl _ _ ((by obtain ⟨j, hj, hi⟩ := hi; exact (cells3'' hi.2.2.1).2.2)) Try.underlying40 rfl)
                | (exact soft_cellN rfl _ _ rfl _ rfl _ _ ((by obtain ⟨j, _, hi⟩ := hi; exact hi.2.2.2.2.2.1.cellv x1w (by simp))) Try.underlying3 rfl)
                | (exact soft_cellN rfl _ _ rfl _ rfl _ _ ((by obtain ⟨j, _, hi⟩ := hi; exact hi.2.2.2.2.2.1.cellv w1' (by simp))) Try.underlying50 rfl)
                | (exact soft_skip rfl)
            · intro V wx hi hd
              simp [phi, Region.binds, cst] at hd
              try simp only [hd]
              first
                | (refine soft_const rfl ?_; go_simp; done)
                | (refine soft_const rfl ?_; go_simp; exact rfl)
                | (exact soft_cellN rfl _ _ rfl _ rfl _ _ ((by obtain ⟨j, _, hi⟩ := hi; exact (cells3'' hi.1).2.2)) Try.underlying40 rfl)
                | (exact soft_cellN rfl _ _ rfl _ rfl _ _ ((by obtain ⟨j, hj, hi⟩ := hi; exact (cells3'' hi.2.2.1).2.2)) Try.underlying40 rfl)
                | (exact soft_cellN rfl _ _ rfl _ rfl _ _ ((by obtain ⟨j, _, hi⟩ := hi; exact hi.2.2.2.2.2.1.cellv x1w (by simp))) Try.underlying3 rfl)
                | (exact soft_cellN rfl _ _ rfl _ rfl _ _ ((by obtain ⟨j, _, hi⟩ := hi; exact hi.2.2.2.2.2.1.cellv w1' (by simp))) Try.underlying50 rfl)
                | (exact soft_skip rfl)
            · intro V wx hi hd
              simp [phi, Region.binds, cst] at hd
              try simp only [hd]
              first
                | (refine soft_const rfl ?_; go_simp; done)
                | (refine soft_const rfl ?_; go_simp; exact rfl)
                | (exact soft_cellN rfl _ _ rfl _ rfl _ _ ((by obtain ⟨j, _, hi⟩ := hi; exact (cells3'' hi.1).2.2)) Try.underlying40 rfl)
                | (exact soft_cellN rfl _ _ rfl _ rfl _ _ ((by obtain ⟨j, hj, hi⟩ := hi; exact (cells3'' hi.2.2.1).2.2)) Try.underlying40 rfl)
                | (exact soft_cellN rfl _ _ rfl _ rfl _ _ ((by obtain ⟨j, _, hi⟩ := hi; exact hi.2.2.2.2.2.1.cellv x1w (by simp))) Try.underlying3 rfl)
                | (exact soft_cellN rfl _ _ rfl _ rfl _ _ ((by obtain ⟨j, _, hi⟩ := hi; exact hi.2.2.2.2.2.1.cellv w1' (by simp))) Try.underlying50 rfl)
                | (exact soft_skip rfl)
            · intro V wx hi hd
              simp [phi, Region.binds, cst] at hd
              try simp only [hd]
              first
                | (refine soft_const rfl ?_; go_simp; done)
                | (refine soft_const rfl ?_; go_simp; exact rfl)
                | (exact soft_cellN rfl _ _ rfl _ rfl _ _ ((by obtain ⟨j, _, hi⟩ := hi; exact (cells3'' hi.1).2.2)) Try.underlying40 rfl)
                | (exact soft_cellN rfl _ _ rfl _ rfl _ _ ((by obtain ⟨j, hj, hi⟩ := hi; exact (cells3'' hi.2.2.1).2.2)) Try.underlying40 rfl)
                | (exact soft_cellN rfl _ _ rfl _ rfl _ _ ((by obtain ⟨j, _, hi⟩ := hi; exact hi.2.2.2.2.2.1.cellv x1w (by simp))) Try.underlying3 rfl)
                | (exact soft_cellN rfl _ _ rfl _ rfl _ _ ((by obtain ⟨j, _, hi⟩ := hi; exact hi.2.2.2.2.2.1.cellv w1' (by simp))) Try.underlying50 rfl)
                | (exact soft_skip rfl)
            · intro V wx hi hd
              simp [phi, Region.binds, cst] at hd
              try simp only [hd]
              first
                | (refine soft_const rfl ?_; go_simp; done)
                | (refine soft_const rfl ?_; go_simp; exact rfl)
                | (exact soft_cellN rfl _ _ rfl _ rfl _ _ ((by obtain ⟨j, _, hi⟩ := hi; exact (cells3'' hi.1).2.2)) Try.underlying40 rfl)
                | (exact soft_cellN rfl _ _ rfl _ rfl _ _ ((by obtain ⟨j, hj, hi⟩ := hi; exact (cells3'' hi.2.2.1).2.2)) Try.underlying40 rfl)
                | (exact soft_cellN rfl _ _ rfl _ rfl _ _ ((by obtain ⟨j, _, hi⟩ := hi; exact hi.2.2.2.2.2.1.cellv x1w (by simp))) Try.underlying3 rfl)
                | (exact soft_cellN rfl _ _ rfl _ rfl _ _ ((by obtain ⟨j, _, hi⟩ := hi; exact hi.2.2.2.2.2.1.cellv w1' (by simp))) Try.underlying50 rfl)
                | (exact soft_skip rfl)
            · intro V wx hi hd
              simp [phi, Region.binds, cst] at hd
              try simp only [hd]
              first
                | (refine soft_const rfl ?_; go_simp; done)
                | (refine soft_const rfl ?_; go_simp; exact rfl)
                | (exact soft_cellN rfl _ _ rfl _ rfl _ _ ((by obtain ⟨j, _, hi⟩ := hi; exact (cells3'' hi.1).2.2)) Try.underlying40 rfl)
                | (exact soft_cellN rfl _ _ rfl _ rfl _ _ ((by obtain ⟨j, hj, hi⟩ := hi; exact (cells3'' hi.2.2.1).2.2)) Try.underlying40 rfl)
                | (exact soft_cellN rfl _ _ rfl _ rfl _ _ ((by obtain ⟨j, _, hi⟩ := hi; exact hi.2.2.2.2.2.1.cellv x1w (by simp))) Try.underlying3 rfl)
                | (exact soft_cellN rfl _ _ rfl _ rfl _ _ ((by obtain ⟨j, _, hi⟩ := hi; exact hi.2.2.2.2.2.1.cellv w1' (by simp))) Try.underlying50 rfl)
                | (exact soft_skip rfl)
            · intro V wx hi hd
              simp [phi, Region.binds, cst] at hd
              try simp only [hd]
              first
                | (refine soft_const rfl ?_; go_simp; done)
                | (refine soft_const rfl ?_; go_simp; exact rfl)
                | (exact soft_cellN rfl _ _ rfl _ rfl _ _ ((by obtain ⟨j, _, hi⟩ := hi; exact (cells3'' hi.1).2.2)) Try.underlying40 rfl)
                | (exact soft_cellN rfl _ _ rfl _ rfl _ _ ((by obtain ⟨j, hj, hi⟩ := hi; exact (cells3'' hi.2.2.1).2.2)) Try.underlying40 rfl)
                | (exact soft_cellN rfl _ _ rfl _ rfl _ _ ((by obtain ⟨j, _, hi⟩ := hi; exact hi.2.2.2.2.2.1.cellv x1w (by simp))) Try.underlying3 rfl)
                | (exact soft_cellN rfl _ _ rfl _ rfl _ _ ((by obtain ⟨j, _, hi⟩ := hi; exact hi.2.2.2.2.2.1.cellv w1' (by simp))) Try.underlying50 rfl)
                | (exact soft_skip rfl)
            · intro V wx hi hd
              simp [phi, Region.binds, cst] at hd
              try simp only [hd]
              first
                | (refine soft_const rfl ?_; go_simp; done)
                | (refine soft_const rfl ?_; go_simp; exact rfl)
                | (exact soft_cellN rfl _ _ rfl _ rfl _ _ ((by obtain ⟨j, _, hi⟩ := hi; exact (cells3'' hi.1).2.2)) Try.underlying40 rfl)
                | (exact soft_cellN rfl _ _ rfl _ rfl _ _ ((by obtain ⟨j, hj, hi⟩ := hi; exact (cells3'' hi.2.2.1).2.2)) Try.underlying40 rfl)
                | (exact soft_cellN rfl _ _ rfl _ rfl _ _ ((by obtain ⟨j, _, hi⟩ := hi; exact hi.2.2.2.2.2.1.cellv x1w (by simp))) Try.underlying3 rfl)
                | (exact soft_cellN rfl _ _ rfl _ rfl _ _ ((by obtain ⟨j, _, hi⟩ := hi; exact hi.2.2.2.2.2.1.cellv w1' (by simp))) Try.underlying50 rfl)
                | (exact soft_skip rfl)
            · intro V wx hi hd
              simp [phi, Region.binds, cst] at hd
              try simp only [hd]
              obtain ⟨j0, _, hi⟩ := hi
              have hch := hi.2.2.2.2.2.1
              by_cases hcc : cx = lo'
              · refine soft_made (w' := wx) (v := .slice ax (hi' - lo') 0) rfl ?_ (Chg.refl _ _) ⟨(sE hcc).tr0 hch, fun j hj => ?_⟩
                · go_simp
                  intro hx
                  omega
                · simp [vblk_slice] at hj
              · refine soft_made (w' := wx) (v := .slice (ax.map fun x => x.add (lo' * 5)) (hi' - lo') (cx - lo')) rfl ?_ (Chg.refl _ _) ⟨(sN hcc).tr0 hch, fun j hj => hdlt j (vblk_drop (by omega) hj)⟩
                go_simp
                intro hx
                omega
            · intro V wx hi hd
              simp [phi, Region.binds, cst] at hd
              try simp only [hd]
              obtain ⟨j0, _, hi⟩ := hi
              obtain ⟨⟨ho, hz⟩, ⟨hsl, _⟩⟩ := hd
              obtain ⟨v', w', hr, h2, h3, _, h4⟩ := run_append_sl (P := Try.prog) wx 50 _ _ 5 48 el_cell H2 _ 0 [] ho _ CC.length (CC.flatMap cellc) hsl (cellc_length CC) (cellc_one CC) (by have := hCl.out; unfold big; omega) hi.2.2.2.2.1
              refine soft_made rfl (exec_append _ _ _ rfl _ _ _ rfl rfl hr) (h4 hz) (by simpa using h2)
            · intro V wx hi hd
              simp [phi, Region.binds, cst] at hd
              try simp only [hd]
              obtain ⟨j0, _, hi⟩ := hi
              have hd19 : wx.ownsRow H2 54 5 (V 14) CC.length (CC.flatMap cellc) := hd
              obtain ⟨au, cu, e19⟩ := own_shape hd19
              rw [e19] at hd19 ⊢
              refine soft_made (w' := wx.alloc (.cells #[.slice au CC.length cu] 50)) (v := .slice (some ⟨wx.heap.size, 0, none⟩) 1 1) rfl (by go_simp) (Chg.alloc _ _ _) ⟨.slice au CC.length cu, Sl.lit wx #[.slice au CC.length cu] 50 1 (by decide), fun j hj => ?_, own_tr hd19 (Chg.alloc [] _ _) (by simp)⟩
              have h2 := (vblk_slice.1 hj).2
              have h3 := hi.2.2.2.2.1
              simp at h2
              omega
            · intro V wx hi hd
              simp [phi, Region.binds, cst] at hd
              try simp only [hd]
              obtain ⟨_, ⟨u, hsl, hub, hu⟩, _⟩ := hd
              have hB := hi.2.2.2.2.2.2.2 (by first | trivial | decide)
              refine wstep_list rfl (wpList_append_sl _ rfl (.tmp 56) (.tmp 70) 40 50 1 24 rfl el_cells b0 (.slice bv k dv) k _ rfl hB _ 1 [u] rfl hsl rfl (fun x hx => by obtain ⟨_, _, e⟩ := own_shape hu; rw [List.mem_singleton.1 hx, e]; rfl) (by unfold big; omega) (by have := hi.2.2.2.2.1; omega) (fun v' w' h1 h2 => ?_))
              have g := Chg.grown h2
              exact ⟨v', rfl, g, ⟨g.heap hi.1 (fun hm => by have := hobB _ (by simpa using hm); omega), g.heap hi.2.1 (fun hm => by have := hobB _ (by simpa using hm); omega), g.heap hi.2.2.1 (fun hm => by have := hobB _ (by simpa using hm); omega), fun x hx => own_trD (hi.2.2.2.1 x hx) g (fun j hj e => own_apart (hi.2.2.2.1 x hx) hB (by decide) j e (by simpa using hj)), Nat.le_trans hi.2.2.2.2.1 g.size, hi.2.2.2.2.2.1.grownOwn h2 hB (by omega), own_trD hi.2.2.2.2.2.2.1 g (fun j hj e => own_apart hi.2.2.2.2.2.2.1 hB (by decide) j e (by simpa using hj)), fun h => absurd h (by decide)⟩, u, by rw [List.map_append]; exact h1, own_trD hu g (fun j hj e => own_apart hu hB (by decide) j e (by simpa using hj))⟩
            · intro V wx hi hd
              simp [phi, Region.binds, cst] at hd
              try simp only [hd]
              first
                | (refine soft_const rfl ?_; go_simp; done)
                | (refine soft_const rfl ?_; go_simp; exact rfl)
                | (exact soft_cellN rfl _ _ rfl _ rfl _ _ ((by obtain ⟨j, _, hi⟩ := hi; exact (cells3'' hi.1).2.2)) Try.underlying40 rfl)
                | (exact soft_cellN rfl _ _ rfl _ rfl _ _ ((by obtain ⟨j, hj, hi⟩ := hi; exact (cells3'' hi.2.2.1).2.2)) Try.underlying40 rfl)
                | (exact soft_cellN rfl _ _ rfl _ rfl _ _ ((by obtain ⟨j, _, hi⟩ := hi; exact hi.2.2.2.2.2.1.cellv x1w (by simp))) Try.underlying3 rfl)
                | (exact soft_cellN rfl _ _ rfl _ rfl _ _ ((by obtain ⟨j, _, hi⟩ := hi; exact hi.2.2.2.2.2.1.cellv w1' (by simp))) Try.underlying50 rfl)
                | (exact soft_skip rfl)
          intro V w7 hi hk'
          obtain ⟨A7, R7, P7, E7, z7, ch7, oA7, _⟩ := hi
          obtain ⟨u, oB7, hu7⟩ : ∃ u : Value, w7.ownsRow b0 50 1 (V 16) (k + 1) ((E ++ [(u, CC)]).map fun x : Value × List Cell => x.1) ∧ w7.ownsRow H2 54 5 u CC.length (CC.flatMap cellc) := hk' 16 (by decide)
          have h6 := hk' 17 (by decide)
          simp [phi, cst] at h6
          simp only [h6, List.drop_succ_cons, List.drop_zero]
          clear hk' h6 A6 R6 P6 E6 oA6 oB6 ch6 hltB hobB
          generalize V 0 = q0
          generalize V 1 = q1
          generalize V 2 = q2
          generalize V 3 = q3
          generalize V 4 = q4
          generalize V 5 = q5
          generalize V 6 = q6
          generalize V 7 = q7
          generalize V 8 = q8
          generalize V 9 = q9
          generalize V 10 = q10
          generalize V 11 = q11
          generalize V 12 = q12
          generalize V 13 = q13
          generalize V 14 = q14
          generalize V 15 = q15
          generalize V 16 = v16 at *
          clear V
          obtain ⟨a7, c7, rfl⟩ := own_shape oB7
          obtain ⟨k0, k1, k2, f0, f1, f2'⟩ := cells3f P7
          have gS : Chg [P] w7 (w7.setCell ⟨P, 2, none⟩ (.slice a7 (k + 1) c7)) := Chg.setCell w7 ⟨P, 2, none⟩ (.slice a7 (k + 1) c7)
          have P8 : (w7.setCell ⟨P, 2, none⟩ (.slice a7 (k + 1) c7)).heap[P]? = some (.cells #[.slice a5 (k + 1) q5', .int .i64 ((hi' : Int) - lo'), .slice a7 (k + 1) c7] 42 (0, 0)) := by rw [heap_setCell_same _ P 2 _ _ _ P7]; rfl
          have A8 := gS.heap A7 (by simp; omega)
          have R8 := gS.heap R7 (by simp; omega)
          have oA8 := own_tr oA7 gS (by simpa using hPb0)
          have oB8 := own_tr oB7 gS (by simpa using hPb0)
          have E8 := fun x hx => own_tr (E7 x hx) gS (by simpa using hPb0)
          have hu8 := own_tr hu7 gS (by simpa using (show P < H2 by omega))
          have ch8 := ch7.tn gS (by omega)
          have z8 := Nat.le_trans z7 gS.size
          clear P7 A7 R7 oA7 oB7 E7 ch7 gS z7 hu7
          go_wp2_with fail
          generalize w7.setCell ⟨P, 2, none⟩ (.slice a7 (k + 1) c7) = w8 at *
          go_wp2
          go_roundw
          case rel =>
            refine ⟨k + 1, _, _, E ++ [(u, CC)], by omega, by go_num, A8, R8, P8, oA8, oB8, ?_, ?_, by omega, ch8⟩
            · rw [htk.out, List.map_append, List.map_append, hE, hCC.out]
              simp [List.getD, hXD]
            · intro x hx
              rcases List.mem_append.1 hx with h | h
              · exact E8 x h
              · rw [List.mem_singleton.1 h]
                exact own_lower hu8 hbH
          case measure => simp [intOf]; omega
        · obtain rfl : k = cols.length := by omega
          rw [List.take_length] at oA hE
          obtain ⟨av, cv, rfl⟩ := own_shape oA
          obtain ⟨bv, dv, rfl⟩ := own_shape oB
          obtain ⟨p0, p1, p2⟩ := cells3'' bP
          have hEl : E.length = cols.length := by have := congrArg List.length hE; simpa using this
          have hbT2 : w.heap.size + 1 < b0 := by have := hb0.out; omega
          go_wp2_with (refine store_rowC rfl _ _ _ rfl (w.heap.size + 1) _ rfl [.slice av cols.length cv, .int .i64 ((hi' : Int) - lo'), .slice bv cols.length dv] rfl _ brr (by kernel_rfl) rfl rfl ?_)
          intro w8 t8 g8 z8
          have oA8 := own_tr oA g8 (by simpa using hbT2)
          have oB8 := own_tr oB g8 (by simpa using hbT2)
          have hE8 : ∀ x ∈ E, w8.ownsRow b0 54 5 x.1 x.2.length (x.2.flatMap cellc) := fun x hx => own_tr (hEo x hx) g8 (by simpa using hbT2)
          have hR := hRR.out
          subst hR
          go_wp2
          refine ret_row2 8 9 42 rfl _ Try.underlying42 rfl [.slice av cols.length cv, .int .i64 ((hi' : Int) - lo'), .slice bv cols.length dv] (by kernel_rfl) rfl _ rfl (ra_block t8) ⟨_, _, rfl, ?_, ⟨E, ?_, fun x hx => own_lower (hE8 x hx) (by omega), hE.symm⟩, gq.tn g8 (by omega)⟩
          · have := own_lower oA8 (show w.heap.size ≤ b0 by omega)
            simpa [pickT] using this
          · rw [hEl]; exact own_lower oB8 (by omega)
  · have hv' : (V != 0) = true := by simpa using hv
    have hR1 := hR.out
    rw [if_pos (by simpa using hv)] at hR1
    subst hR1
    clear hR hcz hv
    go_wp2_with (refine store_rowC rfl _ _ _ rfl (w.heap.size + 1) _ rfl [.slice none 0 0, .int .i64 0, .slice none 0 0] rfl _ br (by kernel_rfl) rfl rfl ?_)
    intro w3 t3 g3 z3
    go_wp2
    exact ret_row2 8 9 42 rfl _ Try.underlying42 rfl [.slice none 0 0, .int .i64 0, .slice none 0 0] (by kernel_rfl) rfl _ rfl (ra_block t3) ⟨_, _, rfl, World.ownsRow_nil _ _ _ _, ⟨[], World.ownsRow_nil _ _ _ _, by simp, rfl⟩, g0.tn g3 (by omega)⟩
end Go.Proofs.Ytfnfcioofkeanaa
