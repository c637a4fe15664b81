/-
  Bytes as queries: the contract of query.Decode.
-/
import Derived.Test.YtfnfcioofkeanaaQuery3
import Derived.Test.YtfnfcioofkeanaaSoftW
namespace Go.Proofs.Ytfnfcioofkeanaa
set_option linter.unusedSimpArgs false
set_option linter.unusedVariables false
open Go.RowKit

/-- n columns are read. -/
def lensN : Nat → CS → List Int → List Int × CS
  | 0, s, out => (out, s)
  | n + 1, s, out => lensN n (s.vlen 63).2 (out ++ [((s.vlen 63).1 : Int)])
def CS.qraw (s : CS) : Qu × CS :=
  (⟨(lensN (s.vlen 64).1 (s.vlen 64).2 []).1, (((lensN (s.vlen 64).1 (s.vlen 64).2 []).2.vlen 65536).1 : Nat), ((((lensN (s.vlen 64).1 (s.vlen 64).2 []).2.vlen 65536).2.vlen 65536).1 : Nat)⟩, (((lensN (s.vlen 64).1 (s.vlen 64).2 []).2.vlen 65536).2.vlen 65536).2)
def noQ : Qu := ⟨[], 0, 0⟩
def decQ (b : List UInt8) : Qu × Bool := if (CS.qraw ⟨b, false⟩).2.done = true ∧ mayQ (CS.qraw ⟨b, false⟩).1 = true then ((CS.qraw ⟨b, false⟩).1, true) else (noQ, false)
theorem CS.vlen_le (s : CS) (most : Nat) : (s.vlen most).1 ≤ most := by
  by_cases h : (most : Int) < 0 ∨ (most : Int) < (s.vget.1 : Int)
  · rw [CS.vlen_off h]; exact Nat.zero_le _
  · rw [CS.vlen_on h]; omega
theorem lensN_len : ∀ (n : Nat) (s : CS) (out : List Int), (lensN n s out).1.length = out.length + n
  | 0, _, _ => rfl
  | n + 1, s, out => by rw [lensN, lensN_len n]; simp; omega

set_option maxHeartbeats 8000000 in
set_option maxRecDepth 100000 in
theorem dec_ok (w : World) (v : Value) (b : List UInt8) (hs : Sl w v b.length (bcs b)) (hb : b.length ≤ big) :
    Calls Try.prog 19 #[v] w fun e w' => ∃ v', e = .returned (.tuple #[qv v' (decQ b).1.lo (decQ b).1.hi, .bool (decQ b).2]) ∧ Sl w' v' (decQ b).1.cols.length (ics .i64 (decQ b).1.cols) ∧ Chg [] w w' := by
  obtain ⟨a0, c0, rfl⟩ := hs.shape
  obtain ⟨R, hR⟩ : ∃ R, R = decQ b := ⟨_, rfl⟩
  rw [← hR]
  unfold decQ CS.qraw at hR
  go_enter Try.func19, Try.ntmps19
  go_wp2_with fail
  have gA := Chg.alloc [] w (.cells #[.slice none 0 0, .int .i64 0, .int .i64 0] 24)
  have hA := heap_alloc_new w (.cells #[.slice none 0 0, .int .i64 0, .int .i64 0] 24)
  refine (over_ok _ _ b (hs.tr0 gA) hb).mono ?_
  rintro e w1 ⟨p, rfl, hp, c1, g1⟩
  have hp' : w.heap.size < p := by simp at hp; omega
  replace hA := g1.heap hA (by simp)
  have g01 := gA.t0 g1
  clear gA g1 hp hs
  go_wp2_with fail
  have gB := Chg.alloc [] w1 (.cells #[.slice none 0 0, .int .i64 0, .int .i64 0] 24)
  have hB := heap_alloc_new w1 (.cells #[.slice none 0 0, .int .i64 0, .int .i64 0] 24)
  have hpB := c1.lt
  have hzB : w1.heap.size < (w1.alloc (.cells #[.slice none 0 0, .int .i64 0, .int .i64 0] 24)).heap.size := by simp
  have c2 := c1.tr0 gB
  replace hA := gB.heap hA (by simp)
  have g02 := g01.t0 gB
  have hAB : w.heap.size < w1.heap.size := by omega
  clear gB c1 g01
  generalize w1.alloc (.cells #[.slice none 0 0, .int .i64 0, .int .i64 0] 24) = w2 at *
  generalize w1.heap.size = B at *
  refine (vlen_ok w2 p _ 64 (by decide) (by decide) c2).mono ?_
  rintro e w3 ⟨rfl, c3, g3⟩
  have hn64 := CS.vlen_le ⟨b, false⟩ 64
  generalize CS.vlen ⟨b, false⟩ 64 = N at *
  obtain ⟨n, s1⟩ := N
  dsimp only at *
  replace hA := g3.heap hA (by simp; omega)
  replace hB := g3.heap hB (by simp; omega)
  have g03 := g02.tn g3 (Nat.le_of_lt hp')
  have hz3 : B < w3.heap.size := Nat.lt_of_lt_of_le hzB g3.size
  clear g3 g02 c2 hzB
  replace hR := Lib.hid hR
  go_wp2_with fail
  go_loopw [10] (fun iv wr => ∃ (k : Nat) (s' : CS) (L : List Int) (v : Value), k ≤ n ∧ iv = .int .i64 k ∧ wr.heap[w.heap.size]? = some (.cells #[.slice none 0 0, .int .i64 0, .int .i64 0] 24 (0, 0)) ∧ wr.heap[B]? = some (.cells #[v, .int .i64 0, .int .i64 0] 24 (0, 0)) ∧ wr.ownsRow w3.heap.size 3 1 v k (ics .i64 L) ∧ Cur wr p s' ∧ lensN (n - k) s' L = lensN n s1 [] ∧ L.length = k ∧ w3.heap.size ≤ wr.heap.size ∧ Chg [] w wr) (fun iv _ => n - (intOf iv).toNat)
  case atStart => exact ⟨0, s1, [], _, Nat.zero_le _, rfl, hA, hB, World.ownsRow_nil _ _ _ _, c3, rfl, rfl, Nat.le_refl _, g03⟩
  case round =>
    clear hA hB c3 g03
    obtain ⟨k, s', L, v, hk, rfl, hA, hB, hown, hcur, hN, hLk, hwz, hch⟩ := hrel
    replace hN := Lib.hid hN
    replace hLk := Lib.hid hLk
    by_cases hlt : k < n
    · obtain ⟨av, cv, rfl⟩ := own_shape hown
      have hob := own_from hown
      go_wp2_with fail
      generalize hx : ((s'.vlen 63).1 : Nat) = x at *
      refine' region_softW (fun m => match m with | 0 => [p] | 2 => (Value.slice av k cv).ownBlock.toList | _ => []) (fun m wx => Cur wx p (if m = 0 then s' else (s'.vlen 63).2) ∧ wx.heap[w.heap.size]? = some (.cells #[.slice none 0 0, .int .i64 0, .int .i64 0] 24 (0, 0)) ∧ wx.heap[B]? = some (.cells #[.slice av k cv, .int .i64 0, .int .i64 0] 24 (0, 0)) ∧ (m ≤ 2 → wx.ownsRow w3.heap.size 3 1 (.slice av k cv) k (ics .i64 L)) ∧ w3.heap.size ≤ wx.heap.size ∧ Chg [] w wx) 7 [cst _, cst (.slice av k cv), cst _, cst (.int .i64 (x : Int)), fun v w => Sl w v 1 (ics .i64 [(x : Int)]) ∧ ∀ j, vblk v = some j → j ∉ (Value.slice av k cv).ownBlock.toList, fun v w => w.ownsRow w3.heap.size 3 1 v (k + 1) (ics .i64 (L ++ [(x : Int)])), cst _] [false, false, false, true, true, true, false] [99, 99, 99, 99, 99, 99, 99] rfl rfl rfl (by kernel_rfl) (by kernel_rfl) (by kernel_rfl) (by kernel_rfl) (by intro j w w' ⟨h1, h2, h3, h4, h5, h6⟩ g; exact ⟨h1.tr0 g, g.heap h2 (by simp), g.heap h3 (by simp), fun hm => own_tr (h4 hm) g (by simp), Nat.le_trans h5 g.size, h6.t0 g⟩) (⟨hcur, hA, hB, fun _ => hown, hwz, hch⟩) ⟨staysW_cst _ _, ⟨staysW_cst _ _, ⟨staysW_cst _ _, ⟨staysW_cstW _ _ _, ⟨⟨fun _ _ _ h g => ⟨h.1.tr0 g, h.2⟩, fun m hm v w w' h g => by match m, hm, g with | 2, _, g => exact ⟨h.1.tr g h.2, h.2⟩ | m + 3, _, g => exact ⟨h.1.tr0 g, h.2⟩⟩, ⟨⟨fun _ _ _ h g => own_tr h g (by simp), fun m hm v w w' h g => by match m, hm, g with | m + 3, _, g => exact own_tr h g (by simp)⟩, ⟨staysW_cst _ _, trivial⟩⟩⟩⟩⟩⟩⟩ _ (fun V => by simp only [putAll, Act.put, List.take_succ_cons, List.take_zero, List.setIfInBounds_toArray, List.set_cons_zero, List.set_cons_succ, Nat.reduceAdd]; exact rfl) ?hs1 ?ht1
      case hs1 =>
        simp only [List.take_succ_cons, List.take_zero, softsW]
        refine ⟨?_, ?_, ?_, ?_, ?_, ?_, ?_, trivial⟩
        · intro V wx hi hd
          simp [phi, Region.binds, cst] at hd
          try simp only [hd]
          first
            | (refine soft_const rfl ?_; go_simp; done)
            | (refine soft_const rfl ?_; go_simp; exact rfl)
            | (exact soft_cellN rfl _ _ rfl _ rfl _ _ ((by obtain ⟨j, _, hi⟩ := hi; exact (cells3' hi.2.2.1).1)) Try.underlying22 rfl)
            | (exact soft_skip rfl)
        · intro V wx hi hd
          simp [phi, Region.binds, cst] at hd
          try simp only [hd]
          first
            | (refine soft_const rfl ?_; go_simp; done)
            | (refine soft_const rfl ?_; go_simp; exact rfl)
            | (exact soft_cellN rfl _ _ rfl _ rfl _ _ ((by obtain ⟨j, _, hi⟩ := hi; exact (cells3' hi.2.2.1).1)) Try.underlying22 rfl)
            | (exact soft_skip rfl)
        · intro V wx hi hd
          simp [phi, Region.binds, cst] at hd
          try simp only [hd]
          first
            | (refine soft_const rfl ?_; go_simp; done)
            | (refine soft_const rfl ?_; go_simp; exact rfl)
            | (exact soft_cellN rfl _ _ rfl _ rfl _ _ ((by obtain ⟨j, _, hi⟩ := hi; exact (cells3' hi.2.2.1).1)) Try.underlying22 rfl)
            | (exact soft_skip rfl)
        · intro V wx hi hd
          simp [phi, Region.binds, cst] at hd
          try simp only [hd]
          refine wstep_call rfl _ _ (by go_simp; try exact ⟨rfl, rfl⟩) ((vlen_ok _ p s' 63 (by decide) (by decide) hi.1).mono ?_)
          rintro e w' ⟨he, c, g⟩
          rw [hx] at he
          exact ⟨_, he, g, ⟨c, g.heap hi.2.1 (by simp; omega), g.heap hi.2.2.1 (by simp; omega), fun _ => own_tr (hi.2.2.2.1 (by decide)) g (by simp; omega), Nat.le_trans hi.2.2.2.2.1 g.size, hi.2.2.2.2.2.tn g (Nat.le_of_lt hp')⟩, rfl⟩
        · intro V wx hi hd
          simp [phi, Region.binds, cst] at hd
          try simp only [hd]
          have ho := hi.2.2.2.1 (by decide)
          have ga := Chg.alloc [] wx (.cells #[.int .i64 (x : Int)] 3)
          refine wstep_made (w' := wx.alloc (.cells #[.int .i64 (x : Int)] 3)) (v := .slice (some ⟨wx.heap.size, 0, none⟩) 1 1) rfl (by go_simp) ⟨ga, ⟨hi.1.tr0 ga, ga.heap hi.2.1 (by simp), ga.heap hi.2.2.1 (by simp), fun _ => own_tr ho ga (by simp), Nat.le_trans hi.2.2.2.2.1 ga.size, hi.2.2.2.2.2.t0 ga⟩, Sl.lit wx #[.int .i64 (x : Int)] 3 1 (by decide), ?_⟩
          intro j hj hm
          have h1 := (ho.lt j (by simpa using hm)).2
          have h2 := (vblk_slice.1 hj).2
          simp at h2
          omega
        · intro V wx hi hd
          simp [phi, Region.binds, cst] at hd
          try simp only [hd]
          have ho := hi.2.2.2.1 (by decide)
          obtain ⟨_, ⟨hsl, _⟩, _⟩ := hd
          refine wstep_list rfl (wpList_append_sl _ rfl (.tmp 13) (.tmp 16) 22 3 1 8 rfl el_int w3.heap.size (.slice av k cv) k (ics .i64 L) rfl ho _ 1 (ics .i64 [(x : Int)]) rfl hsl rfl (ics_one _ _) (by unfold big; omega) hi.2.2.2.2.1 (fun v' w' h1 h2 => ?_))
          have g := Chg.grown h2
          rw [← ics_append] at h1
          exact ⟨v', rfl, g, ⟨hi.1.grownRow h2 ho (by decide) (by omega), g.heap hi.2.1 (fun hm => by have := hob _ (by simpa using hm); omega), g.heap hi.2.2.1 (fun hm => by have := hob _ (by simpa using hm); omega), fun h => absurd h (by decide), Nat.le_trans hi.2.2.2.2.1 g.size, hi.2.2.2.2.2.grownOwn h2 ho (by omega)⟩, h1⟩
        · intro V wx hi hd
          simp [phi, Region.binds, cst] at hd
          try simp only [hd]
          first
            | (refine soft_const rfl ?_; go_simp; done)
            | (refine soft_const rfl ?_; go_simp; exact rfl)
            | (exact soft_cellN rfl _ _ rfl _ rfl _ _ ((by obtain ⟨j, _, hi⟩ := hi; exact (cells3' hi.2.2.1).1)) Try.underlying22 rfl)
            | (exact soft_skip rfl)
      intro V w5 hi hk5
      obtain ⟨c5, A5, B5, _, z5, ch5⟩ : Cur w5 p (s'.vlen 63).2 ∧ _ := hi
      have o5 : w5.ownsRow w3.heap.size 3 1 (V 5) (k + 1) (ics .i64 (L ++ [(x : Int)])) := hk5 5 (by decide)
      have h6 := hk5 6 (by decide)
      simp [phi, cst] at h6
      simp only [h6, List.drop_succ_cons, List.drop_zero]
      generalize V 0 = q0
      generalize V 1 = q1
      generalize V 2 = q2
      generalize V 3 = q3
      generalize V 4 = q4
      generalize V 5 = v5 at *
      clear hk5 h6 V hown hcur hA hB hch
      obtain ⟨a5, q5, rfl⟩ := own_shape o5
      obtain ⟨k0, k1, k2, f0, f1, f2⟩ := cells3' B5
      have gS : Chg [B] w5 (w5.setCell ⟨B, 0, none⟩ (.slice a5 (k + 1) q5)) := Chg.setCell w5 ⟨B, 0, none⟩ (.slice a5 (k + 1) q5)
      have B6 : (w5.setCell ⟨B, 0, none⟩ (.slice a5 (k + 1) q5)).heap[B]? = some (.cells #[.slice a5 (k + 1) q5, .int .i64 0, .int .i64 0] 24 (0, 0)) := by rw [heap_setCell_same _ B 0 _ _ _ B5]; rfl
      have A6 := gS.heap A5 (by simp; omega)
      have o6 := own_tr o5 gS (by simp; omega)
      have c6 := c5.tr1 gS (by omega) B5 (by decide)
      have ch6 := ch5.tn gS (by omega)
      have z6 := Nat.le_trans z5 gS.size
      have hN2 : lensN (n - (k + 1)) (s'.vlen 63).2 (L ++ [(x : Int)]) = lensN n s1 [] := by
        have h := hN.out
        rw [show n - k = (n - (k + 1)) + 1 by omega, lensN, hx] at h
        exact h
      have hl6 : (L ++ [(x : Int)]).length = k + 1 := by rw [List.length_append, hLk.out]; rfl
      clear B5 A5 o5 c5 ch5 gS z5 hN hLk
      go_wp2
      go_roundw
      case rel => exact ⟨k + 1, _, _, _, by omega, by go_num, A6, B6, o6, c6, hN2, hl6, z6, ch6⟩
      case measure => simp [intOf]; omega
    · obtain rfl : k = n := by omega
      have hN := hN.out
      rw [Nat.sub_self, lensN] at hN
      replace hR := hR.out
      rw [← hN] at hR
      dsimp only at hR
      replace hR := Lib.hid hR
      obtain ⟨av, cv, rfl⟩ := own_shape hown
      have hb0 := own_from hown
      go_wp2_with fail
      refine (vlen_ok wr p s' 65536 (by decide) (by decide) hcur).mono ?_
      rintro e w4 ⟨rfl, c4, g4⟩
      replace hA := g4.heap hA (by simp; omega)
      replace hB := g4.heap hB (by simp; omega)
      replace hown := own_tr hown g4 (by simp; omega)
      replace hch := hch.tn g4 (Nat.le_of_lt hp')
      have hx1 := CS.vlen_le s' 65536
      clear g4 hcur hN
      generalize s'.vlen 65536 = F at *
      obtain ⟨f, s4⟩ := F
      dsimp only at *
      go_wp2_with fail
      refine (vlen_ok w4 p s4 65536 (by decide) (by decide) c4).mono ?_
      rintro e w5 ⟨rfl, c5, g5⟩
      replace hA := g5.heap hA (by simp; omega)
      replace hB := g5.heap hB (by simp; omega)
      replace hown := own_tr hown g5 (by simp; omega)
      replace hch := hch.tn g5 (Nat.le_of_lt hp')
      clear g5 c4
      generalize s4.vlen 65536 = F at *
      obtain ⟨t, s5⟩ := F
      dsimp only at *
      obtain ⟨k0, k1, k2, f0, f1, f2⟩ := cells3' hB
      have gS : Chg [B] w5 ((w5.setCell ⟨B, 1, none⟩ (.int .i64 f)).setCell ⟨B, 2, none⟩ (.int .i64 t)) := (Chg.setCell w5 ⟨B, 1, none⟩ (.int .i64 f)).t1 (Chg.setCell _ ⟨B, 2, none⟩ (.int .i64 t))
      have B6 : ((w5.setCell ⟨B, 1, none⟩ (.int .i64 f)).setCell ⟨B, 2, none⟩ (.int .i64 t)).heap[B]? = some (.cells #[.slice av k cv, .int .i64 f, .int .i64 t] 24 (0, 0)) := by
        rw [heap_setCell_same _ B 2 _ _ _ (heap_setCell_same _ B 1 _ _ _ hB)]; rfl
      have A6 := gS.heap hA (by simp; omega)
      have o6 := own_tr hown gS (by simp; omega)
      have c6 := c5.tr1 gS (by omega) hB (by decide)
      have ch6 := hch.tn gS (by omega)
      clear hA hown c5 hch gS hB
      go_wp2_with fail
      generalize (w5.setCell ⟨B, 1, none⟩ (.int .i64 f)).setCell ⟨B, 2, none⟩ (.int .i64 t) = w6 at *
      clear k0 k1 k2 f0 f1 f2
      have hsl : Sl w6 (.slice av k cv) L.length (ics .i64 L) := by rw [hLk.out]; exact Sl.ofOwns o6
      obtain ⟨k0, k1, k2, _, _, _⟩ := cells3' B6
      refine (end_ok w6 p s5 c6).mono ?_
      rintro e w6' ⟨rfl, rfl⟩
      cases hd : s5.done with
      | false =>
        have hR := hR.out
        rw [if_neg (by rw [hd]; simp)] at hR
        subst hR
        go_wp2_with (refine store_rowC rfl _ _ _ rfl w.heap.size _ rfl [.slice none 0 0, .int .i64 0, .int .i64 0] rfl _ A6 (by kernel_rfl) rfl rfl ?_)
        intro w7 t7 g7 z7
        go_wp2
        refine ret_row2 2 3 24 rfl _ Try.underlying24 rfl [.slice none 0 0, .int .i64 0, .int .i64 0] (by kernel_rfl) rfl _ rfl (ra_block t7) ⟨_, rfl, Sl.nil _, ch6.tn g7 (Nat.le_refl _)⟩
      | true =>
        go_wp2_with fail
        refine (may_ok w6 _ L f t hsl (by unfold maxLen; have := hLk.out; omega)).mono ?_
        rintro e w7 ⟨rfl, g7⟩
        replace A6 := g7.heap A6 (by simp)
        replace B6 := g7.heap B6 (by simp)
        replace ch6 := ch6.t0 g7
        replace hsl := hsl.tr0 g7
        rw [hLk.out] at hsl
        have hmq : mayQ ⟨L, f, t⟩ = fitsV L f t 64 65536 := rfl
        replace hR := hR.out
        rw [hmq] at hR
        clear k0 k1 k2 c6 o6 g7 hmq
        obtain ⟨k0, k1, k2, _, _, _⟩ := cells3' B6
        cases hm : fitsV L f t 64 65536 with
        | false =>
          rw [if_neg (by rw [hm]; simp)] at hR
          subst hR
          clear hm
          go_wp2_with (refine store_rowC rfl _ _ _ rfl w.heap.size _ rfl [.slice none 0 0, .int .i64 0, .int .i64 0] rfl _ A6 (by kernel_rfl) rfl rfl ?_)
          intro w8 t8 g8 z8
          go_wp2
          refine ret_row2 2 3 24 rfl _ Try.underlying24 rfl [.slice none 0 0, .int .i64 0, .int .i64 0] (by kernel_rfl) rfl _ rfl (ra_block t8) ⟨_, rfl, Sl.nil _, ch6.tn g8 (Nat.le_refl _)⟩
        | true =>
          rw [if_pos ⟨hd, hm⟩] at hR
          subst hR
          clear hm hd
          go_wp2_with (refine store_rowC rfl _ _ _ rfl w.heap.size _ rfl [.slice av k cv, .int .i64 f, .int .i64 t] rfl _ A6 (by kernel_rfl) rfl rfl ?_)
          intro w8 t8 g8 z8
          have hs8 := hsl.tr1 g8 (fun e => by have := hb0 _ (vblk_own e); omega)
          go_wp2
          refine ret_row2 2 3 24 rfl _ Try.underlying24 rfl [.slice av k cv, .int .i64 f, .int .i64 t] (by kernel_rfl) rfl _ rfl (ra_block t8) ⟨_, rfl, by rw [hLk.out]; exact hs8, ch6.tn g8 (Nat.le_refl _)⟩
end Go.Proofs.Ytfnfcioofkeanaa
