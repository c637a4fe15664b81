/-
  Bytes as queries: the contract of the document's Decode (hypostyleref24).
-/
import Derived.Test.YtfnfcioofkeanaaQuery4
namespace Go.Proofs.Ytfnfcioofkeanaa
set_option linter.unusedSimpArgs false
set_option linter.unusedVariables false
open Go.RowKit

theorem RCur.is {B : Nat} {w : World} {q : Nat} {s : CS} (h : RCur B w q s) : w.cell? ⟨q, 1, none⟩ = some (.bool s.bad) := by
  obtain ⟨v, hh, _⟩ := h
  exact (cells2 hh).2.1
theorem CS.vlen_bad {s : CS} (h : s.bad = true) (most : Int) : s.vlen most = (0, CS.fail) := by
  have h0 : s.vget = (0, CS.fail) := by unfold CS.vget; rw [if_pos h]
  unfold CS.vlen
  rw [if_pos (.inl (by rw [h0]; rfl))]
theorem lensN_bad : ∀ (n : Nat) (s : CS) (out : List Int), s.bad = true → (lensN n s out).2.bad = true
  | 0, _, _, h => h
  | n + 1, s, out, h => by rw [lensN]; exact lensN_bad n _ _ (by rw [CS.vlen_bad h]; rfl)

set_option maxHeartbeats 8000000 in
set_option maxRecDepth 100000 in
theorem rdec_ok (w : World) (v : Value) (b : List UInt8) (hs : Sl w v b.length (bcs b)) (hb : b.length ≤ big) :
    Calls Try.prog 20 #[v] w fun e w' => ∃ v', e = .returned (.tuple #[qv v' (decQ b).1.lo (decQ b).1.hi, .bool (decQ b).2]) ∧ Sl w' v' (decQ b).1.cols.length (ics .i64 (decQ b).1.cols) ∧ Chg [] w w' := by
  obtain ⟨a0, c0, rfl⟩ := hs.shape
  obtain ⟨R, hR⟩ : ∃ R, R = decQ b := ⟨_, rfl⟩
  rw [← hR]
  unfold decQ CS.qraw at hR
  go_enter Try.func20, Try.ntmps20
  go_wp2_with fail
  have gA := Chg.alloc [] w (.cells #[.slice none 0 0, .int .i64 0, .int .i64 0] 24)
  have hA := heap_alloc_new w (.cells #[.slice none 0 0, .int .i64 0, .int .i64 0] 24)
  have hC := RCur.mk0 (w := w.alloc (.cells #[.slice none 0 0, .int .i64 0, .int .i64 0] 24)) hs gA hb
  have gC := Chg.alloc [] (w.alloc (.cells #[.slice none 0 0, .int .i64 0, .int .i64 0] 24)) (.cells #[.slice a0 b.length c0, .bool false] 76)
  have hpp : (w.alloc (.cells #[.slice none 0 0, .int .i64 0, .int .i64 0] 24)).heap.size = w.heap.size + 1 := by simp
  rw [hpp] at hC
  replace hA := gC.heap hA (by simp)
  have g01 := gA.t0 gC
  have hpB := hC.lt
  have hp' : w.heap.size < w.heap.size + 1 := by omega
  have hs1 : ((w.alloc (.cells #[.slice none 0 0, .int .i64 0, .int .i64 0] 24)).alloc (.cells #[.slice a0 b.length c0, .bool false] 76)).heap.size = w.heap.size + 1 + 1 := by simp
  clear gA gC hs
  generalize (w.alloc (.cells #[.slice none 0 0, .int .i64 0, .int .i64 0] 24)).alloc (.cells #[.slice a0 b.length c0, .bool false] 76) = w1 at *
  clear hpp
  generalize hpe : w.heap.size + 1 = p at *
  replace hpe := Lib.hid hpe
  have gB := Chg.alloc [] w1 (.cells #[.slice none 0 0, .int .i64 0, .int .i64 0] 24)
  have hB := heap_alloc_new w1 (.cells #[.slice none 0 0, .int .i64 0, .int .i64 0] 24)
  have hzB : w1.heap.size < (w1.alloc (.cells #[.slice none 0 0, .int .i64 0, .int .i64 0] 24)).heap.size := by simp
  have c2 := hC.tr gB (by simp) (by simp)
  replace hA := gB.heap hA (by simp)
  have g02 := g01.t0 gB
  have hAB : w.heap.size < w1.heap.size := by omega
  clear gB hC g01
  generalize w1.alloc (.cells #[.slice none 0 0, .int .i64 0, .int .i64 0] 24) = w2 at *
  have hpB2 : p < p + 1 := by omega
  rw [hs1] at hB hzB hAB
  clear hs1 hpB
  generalize p + 1 = B at *
  have hpB : p < B := hpB2
  refine (rlen_ok w.heap.size w2 p _ 64 (by decide) (by decide) c2).mono ?_
  rintro e w3 ⟨rfl, c3, g3⟩
  have hn64 := CS.vlen_le ⟨b, false⟩ 64
  generalize CS.vlen ⟨b, false⟩ 64 = N at *
  obtain ⟨n, s1⟩ := N
  dsimp only at *
  replace hA := g3.heap hA (by simp; omega)
  replace hB := g3.heap hB (by simp; omega)
  have g03 := g02.tn g3 (Nat.le_of_lt hp')
  have hz3 : B < w3.heap.size := Nat.lt_of_lt_of_le hzB g3.size
  clear g3 g02 c2 hzB
  replace hR := Lib.hid hR
  go_wp2_with fail
  go_loopw [7] (fun iv wr => ∃ (k : Nat) (s' : CS) (L : List Int) (v : Value), k ≤ n ∧ iv = .int .i64 k ∧ wr.heap[w.heap.size]? = some (.cells #[.slice none 0 0, .int .i64 0, .int .i64 0] 24 (0, 0)) ∧ wr.heap[B]? = some (.cells #[v, .int .i64 0, .int .i64 0] 24 (0, 0)) ∧ wr.ownsRow w3.heap.size 3 1 v k (ics .i64 L) ∧ RCur w.heap.size wr p s' ∧ lensN (n - k) s' L = lensN n s1 [] ∧ L.length = k ∧ w3.heap.size ≤ wr.heap.size ∧ Chg [] w wr) (fun iv _ => n - (intOf iv).toNat)
  case atStart => exact ⟨0, s1, [], _, Nat.zero_le _, rfl, hA, hB, World.ownsRow_nil _ _ _ _, c3, rfl, rfl, Nat.le_refl _, g03⟩
  case round =>
    clear hA hB c3 g03
    obtain ⟨k, s', L, v, hk, rfl, hA, hB, hown, hcur, hN, hLk, hwz, hch⟩ := hrel
    replace hN := Lib.hid hN
    replace hLk := Lib.hid hLk
    have his := hcur.is
    by_cases hgo : k < n ∧ s'.bad = false
    · obtain ⟨hlt, hbf⟩ := hgo
      rw [hbf] at his
      obtain ⟨av, cv, rfl⟩ := own_shape hown
      have hob := own_from hown
      go_wp2_with fail
      generalize hx : ((s'.vlen 63).1 : Nat) = x at *
      refine' region_softW (fun m => match m with | 0 => [p] | 2 => (Value.slice av k cv).ownBlock.toList | _ => []) (fun m wx => RCur w.heap.size wx p (if m = 0 then s' else (s'.vlen 63).2) ∧ wx.heap[w.heap.size]? = some (.cells #[.slice none 0 0, .int .i64 0, .int .i64 0] 24 (0, 0)) ∧ wx.heap[B]? = some (.cells #[.slice av k cv, .int .i64 0, .int .i64 0] 24 (0, 0)) ∧ (m ≤ 2 → wx.ownsRow w3.heap.size 3 1 (.slice av k cv) k (ics .i64 L)) ∧ w3.heap.size ≤ wx.heap.size ∧ Chg [] w wx) 7 [cst _, cst (.slice av k cv), cst _, cst (.int .i64 (x : Int)), fun v w => Sl w v 1 (ics .i64 [(x : Int)]) ∧ ∀ j, vblk v = some j → j ∉ (Value.slice av k cv).ownBlock.toList, fun v w => w.ownsRow w3.heap.size 3 1 v (k + 1) (ics .i64 (L ++ [(x : Int)])), cst _] [false, false, false, true, true, true, false] [99, 99, 99, 99, 99, 99, 99] rfl rfl rfl (by kernel_rfl) (by kernel_rfl) (by kernel_rfl) (by kernel_rfl) (by intro j w w' ⟨h1, h2, h3, h4, h5, h6⟩ g; exact ⟨h1.tr g (by simp) (by simp), g.heap h2 (by simp), g.heap h3 (by simp), fun hm => own_tr (h4 hm) g (by simp), Nat.le_trans h5 g.size, h6.t0 g⟩) (⟨hcur, hA, hB, fun _ => hown, hwz, hch⟩) ⟨staysW_cst _ _, ⟨staysW_cst _ _, ⟨staysW_cst _ _, ⟨staysW_cstW _ _ _, ⟨⟨fun _ _ _ h g => ⟨h.1.tr0 g, h.2⟩, fun m hm v w w' h g => by match m, hm, g with | 2, _, g => exact ⟨h.1.tr g h.2, h.2⟩ | m + 3, _, g => exact ⟨h.1.tr0 g, h.2⟩⟩, ⟨⟨fun _ _ _ h g => own_tr h g (by simp), fun m hm v w w' h g => by match m, hm, g with | m + 3, _, g => exact own_tr h g (by simp)⟩, ⟨staysW_cst _ _, trivial⟩⟩⟩⟩⟩⟩⟩ _ (fun V => by simp only [putAll, Act.put, List.take_succ_cons, List.take_zero, List.setIfInBounds_toArray, List.set_cons_zero, List.set_cons_succ, Nat.reduceAdd]; exact rfl) ?hs1 ?ht1
      case hs1 =>
        simp only [List.take_succ_cons, List.take_zero, softsW]
        refine ⟨?_, ?_, ?_, ?_, ?_, ?_, ?_, trivial⟩
        · intro V wx hi hd
          simp [phi, Region.binds, cst] at hd
          try simp only [hd]
          first
            | (refine soft_const rfl ?_; go_simp; done)
            | (refine soft_const rfl ?_; go_simp; exact rfl)
            | (exact soft_cellN rfl _ _ rfl _ rfl _ _ ((by obtain ⟨j, _, hi⟩ := hi; exact (cells3' hi.2.2.1).1)) Try.underlying22 rfl)
            | (exact soft_skip rfl)
        · intro V wx hi hd
          simp [phi, Region.binds, cst] at hd
          try simp only [hd]
          first
            | (refine soft_const rfl ?_; go_simp; done)
            | (refine soft_const rfl ?_; go_simp; exact rfl)
            | (exact soft_cellN rfl _ _ rfl _ rfl _ _ ((by obtain ⟨j, _, hi⟩ := hi; exact (cells3' hi.2.2.1).1)) Try.underlying22 rfl)
            | (exact soft_skip rfl)
        · intro V wx hi hd
          simp [phi, Region.binds, cst] at hd
          try simp only [hd]
          first
            | (refine soft_const rfl ?_; go_simp; done)
            | (refine soft_const rfl ?_; go_simp; exact rfl)
            | (exact soft_cellN rfl _ _ rfl _ rfl _ _ ((by obtain ⟨j, _, hi⟩ := hi; exact (cells3' hi.2.2.1).1)) Try.underlying22 rfl)
            | (exact soft_skip rfl)
        · intro V wx hi hd
          simp [phi, Region.binds, cst] at hd
          try simp only [hd]
          refine wstep_call rfl _ _ (by go_simp; try exact ⟨rfl, rfl⟩) ((rlen_ok _ _ p s' 63 (by decide) (by decide) hi.1).mono ?_)
          rintro e w' ⟨he, c, g⟩
          rw [hx] at he
          exact ⟨_, he, g, ⟨c, g.heap hi.2.1 (by simp; omega), g.heap hi.2.2.1 (by simp; omega), fun _ => own_tr (hi.2.2.2.1 (by decide)) g (by simp; omega), Nat.le_trans hi.2.2.2.2.1 g.size, hi.2.2.2.2.2.tn g (Nat.le_of_lt hp')⟩, rfl⟩
        · intro V wx hi hd
          simp [phi, Region.binds, cst] at hd
          try simp only [hd]
          have ho := hi.2.2.2.1 (by decide)
          have ga := Chg.alloc [] wx (.cells #[.int .i64 (x : Int)] 3)
          refine wstep_made (w' := wx.alloc (.cells #[.int .i64 (x : Int)] 3)) (v := .slice (some ⟨wx.heap.size, 0, none⟩) 1 1) rfl (by go_simp) ⟨ga, ⟨hi.1.tr ga (by simp) (by simp), ga.heap hi.2.1 (by simp), ga.heap hi.2.2.1 (by simp), fun _ => own_tr ho ga (by simp), Nat.le_trans hi.2.2.2.2.1 ga.size, hi.2.2.2.2.2.t0 ga⟩, Sl.lit wx #[.int .i64 (x : Int)] 3 1 (by decide), ?_⟩
          intro j hj hm
          have h1 := (ho.lt j (by simpa using hm)).2
          have h2 := (vblk_slice.1 hj).2
          simp at h2
          omega
        · intro V wx hi hd
          simp [phi, Region.binds, cst] at hd
          try simp only [hd]
          have ho := hi.2.2.2.1 (by decide)
          obtain ⟨_, ⟨hsl, _⟩, _⟩ := hd
          refine wstep_list rfl (wpList_append_sl _ rfl (.tmp 28) (.tmp 31) 22 3 1 8 rfl el_int w3.heap.size (.slice av k cv) k (ics .i64 L) rfl ho _ 1 (ics .i64 [(x : Int)]) rfl hsl rfl (ics_one _ _) (by unfold big; omega) hi.2.2.2.2.1 (fun v' w' h1 h2 => ?_))
          have g := Chg.grown h2
          rw [← ics_append] at h1
          exact ⟨v', rfl, g, ⟨hi.1.tr g (fun hm => by have := hob _ (by simpa using hm); omega) (fun j hm => by have := hob j (by simpa using hm); omega), g.heap hi.2.1 (fun hm => by have := hob _ (by simpa using hm); omega), g.heap hi.2.2.1 (fun hm => by have := hob _ (by simpa using hm); omega), fun h => absurd h (by decide), Nat.le_trans hi.2.2.2.2.1 g.size, hi.2.2.2.2.2.grownOwn h2 ho (by omega)⟩, h1⟩
        · intro V wx hi hd
          simp [phi, Region.binds, cst] at hd
          try simp only [hd]
          first
            | (refine soft_const rfl ?_; go_simp; done)
            | (refine soft_const rfl ?_; go_simp; exact rfl)
            | (exact soft_cellN rfl _ _ rfl _ rfl _ _ ((by obtain ⟨j, _, hi⟩ := hi; exact (cells3' hi.2.2.1).1)) Try.underlying22 rfl)
            | (exact soft_skip rfl)
      intro V w5 hi hk5
      obtain ⟨c5, A5, B5, _, z5, ch5⟩ : RCur w.heap.size w5 p (s'.vlen 63).2 ∧ _ := hi
      have o5 : w5.ownsRow w3.heap.size 3 1 (V 5) (k + 1) (ics .i64 (L ++ [(x : Int)])) := hk5 5 (by decide)
      have h6 := hk5 6 (by decide)
      simp [phi, cst] at h6
      simp only [h6, List.drop_succ_cons, List.drop_zero]
      generalize V 0 = q0
      generalize V 1 = q1
      generalize V 2 = q2
      generalize V 3 = q3
      generalize V 4 = q4
      generalize V 5 = v5 at *
      clear hk5 h6 V hown hcur hA hB hch
      obtain ⟨a5, q5, rfl⟩ := own_shape o5
      obtain ⟨k0, k1, k2, f0, f1, f2⟩ := cells3' B5
      have gS : Chg [B] w5 (w5.setCell ⟨B, 0, none⟩ (.slice a5 (k + 1) q5)) := Chg.setCell w5 ⟨B, 0, none⟩ (.slice a5 (k + 1) q5)
      have B6 : (w5.setCell ⟨B, 0, none⟩ (.slice a5 (k + 1) q5)).heap[B]? = some (.cells #[.slice a5 (k + 1) q5, .int .i64 0, .int .i64 0] 24 (0, 0)) := by rw [heap_setCell_same _ B 0 _ _ _ B5]; rfl
      have A6 := gS.heap A5 (by simp; omega)
      have o6 := own_tr o5 gS (by simp; omega)
      have c6 := c5.tr gS (by simp; omega) (by simp; omega)
      have ch6 := ch5.tn gS (by omega)
      have z6 := Nat.le_trans z5 gS.size
      have hN2 : lensN (n - (k + 1)) (s'.vlen 63).2 (L ++ [(x : Int)]) = lensN n s1 [] := by
        have h := hN.out
        rw [show n - k = (n - (k + 1)) + 1 by omega, lensN, hx] at h
        exact h
      have hl6 : (L ++ [(x : Int)]).length = k + 1 := by rw [List.length_append, hLk.out]; rfl
      clear B5 A5 o5 c5 ch5 gS z5 hN hLk
      go_wp2
      go_roundw
      case rel => exact ⟨k + 1, _, _, _, by omega, by go_num, A6, B6, o6, c6, hN2, hl6, z6, ch6⟩
      case measure => simp [intOf]; omega
    · have hd2 : k = n ∨ (k < n ∧ s'.bad = true) := by
        by_cases h : k < n
        · exact .inr ⟨h, by cases hb : s'.bad; exact absurd ⟨h, hb⟩ hgo; rfl⟩
        · exact .inl (by omega)
      have hN := hN.out
      obtain ⟨Q, hQ⟩ : ∃ Q : Qu × CS, Q = (⟨L, ((s'.vlen 65536).1 : Nat), (((s'.vlen 65536).2.vlen 65536).1 : Nat)⟩, ((s'.vlen 65536).2.vlen 65536).2) := ⟨_, rfl⟩
      have hR3 : R = if Q.2.done = true ∧ mayQ Q.1 = true then (Q.1, true) else (noQ, false) := by
        have hR := hR.out
        rcases hd2 with rfl | ⟨hlt, hbd⟩
        · rw [Nat.sub_self, lensN] at hN
          rw [← hN] at hR
          rw [hQ]; exact hR
        · have h2 : (lensN n s1 []).2.bad = true := by rw [← hN]; exact lensN_bad _ _ _ hbd
          rw [hR, hQ, CS.vlen_bad h2, CS.vlen_bad hbd]
          dsimp only
          rw [if_neg (by rw [CS.vlen_bad rfl]; simp [CS.done, CS.fail]), if_neg (by rw [CS.vlen_bad rfl]; simp [CS.done, CS.fail])]
      rw [hQ] at hR3
      dsimp only at hR3
      clear hN hR hQ hgo
      replace hR3 := Lib.hid hR3
      obtain ⟨av, cv, rfl⟩ := own_shape hown
      have hb0 := own_from hown
      have go : ∀ (his2 : wr.cell? ⟨p, 1, none⟩ = some (.bool s'.bad)), True := fun _ => trivial
      have hdd : (k < n) = False ∨ ((k < n) = True ∧ s'.bad = true) := by
        rcases hd2 with h | h
        · left; simp; omega
        · right; simp [h.1, h.2]
      rcases hd2 with hkn | ⟨hlt, hbd⟩
      all_goals
        first
          | (have hlt' : ¬ ((k : Int) < n) := by omega
             clear hkn)
          | (have hlt' : ((k : Int) < n) := by omega
             rw [hbd] at his)
        clear hdd go
        go_wp2_with fail
        refine (rlen_ok _ wr p s' 65536 (by decide) (by decide) hcur).mono ?_
        rintro e w4 ⟨rfl, c4, g4⟩
        have hA4 := g4.heap hA (by simp; omega)
        have hB4 := g4.heap hB (by simp; omega)
        have hown4 := own_tr hown g4 (by simp; omega)
        have hch4 := hch.tn g4 (Nat.le_of_lt hp')
        clear g4 hcur hA hB hown hch his
        generalize s'.vlen 65536 = F at *
        obtain ⟨f, s4⟩ := F
        dsimp only at *
        obtain ⟨k0, k1, k2, f0, f1, f2⟩ := cells3' hB4
        have gS : Chg [B] w4 (w4.setCell ⟨B, 1, none⟩ (.int .i64 f)) := Chg.setCell w4 ⟨B, 1, none⟩ (.int .i64 f)
        have B5 : (w4.setCell ⟨B, 1, none⟩ (.int .i64 f)).heap[B]? = some (.cells #[.slice av k cv, .int .i64 f, .int .i64 0] 24 (0, 0)) := by
          rw [heap_setCell_same _ B 1 _ _ _ hB4]; rfl
        have A5 := gS.heap hA4 (by simp; omega)
        have o5 := own_tr hown4 gS (by simp; omega)
        have c5 := c4.tr gS (by simp; omega) (by simp; omega)
        have ch5 := hch4.tn gS (by omega)
        clear hA4 hown4 c4 hch4 gS hB4
        go_wp2_with fail
        generalize w4.setCell ⟨B, 1, none⟩ (.int .i64 f) = w5 at *
        clear k0 k1 k2 f0 f1 f2
        refine (rlen_ok _ w5 p s4 65536 (by decide) (by decide) c5).mono ?_
        rintro e w6 ⟨rfl, c6, g6⟩
        have A6 := g6.heap A5 (by simp; omega)
        have B6 := g6.heap B5 (by simp; omega)
        have o6 := own_tr o5 g6 (by simp; omega)
        have ch6 := ch5.tn g6 (Nat.le_of_lt hp')
        clear g6 c5 A5 B5 o5 ch5
        generalize s4.vlen 65536 = F at *
        obtain ⟨t, s5⟩ := F
        dsimp only at *
        obtain ⟨k0, k1, k2, f0, f1, f2⟩ := cells3' B6
        have gS : Chg [B] w6 (w6.setCell ⟨B, 2, none⟩ (.int .i64 t)) := Chg.setCell w6 ⟨B, 2, none⟩ (.int .i64 t)
        have B7 : (w6.setCell ⟨B, 2, none⟩ (.int .i64 t)).heap[B]? = some (.cells #[.slice av k cv, .int .i64 f, .int .i64 t] 24 (0, 0)) := by
          rw [heap_setCell_same _ B 2 _ _ _ B6]; rfl
        have A7 := gS.heap A6 (by simp; omega)
        have o7 := own_tr o6 gS (by simp; omega)
        have c7 := c6.tr gS (by simp; omega) (by simp; omega)
        have ch7 := ch6.tn gS (by omega)
        clear A6 o6 c6 ch6 gS B6
        go_wp2_with fail
        generalize w6.setCell ⟨B, 2, none⟩ (.int .i64 t) = w7 at *
        clear k0 k1 k2 f0 f1 f2
        have hsl : Sl w7 (.slice av k cv) L.length (ics .i64 L) := by rw [hLk.out]; exact Sl.ofOwns o7
        obtain ⟨k0, k1, k2, _, _, _⟩ := cells3' B7
        refine (rend_ok _ w7 p s5 c7).mono ?_
        rintro e w7' ⟨rfl, rfl⟩
        go_wp2_with fail
        refine (rmay_ok w7 _ L f t hsl (by unfold maxLen; have := hLk.out; omega)).mono ?_
        rintro e w8 ⟨rfl, g8⟩
        have A8 := g8.heap A7 (by simp)
        have B8 := g8.heap B7 (by simp)
        have ch8 := ch7.t0 g8
        have hsl8 := hsl.tr0 g8
        rw [hLk.out] at hsl8
        have hmq : mayQ ⟨L, f, t⟩ = fitsV L f t 64 65536 := rfl
        replace hR3 := hR3.out
        rw [hmq] at hR3
        clear k0 k1 k2 c7 o7 g8 hmq A7 B7 ch7 hsl
        obtain ⟨k0, k1, k2, _, _, _⟩ := cells3' B8
        by_cases hok : s5.done = true ∧ fitsV L f t 64 65536 = true
        · rw [if_pos hok] at hR3
          subst hR3
          obtain ⟨hd, hm⟩ := hok
          rw [hd, hm]
          clear hm hd
          go_wp2_with (refine store_rowC rfl _ _ _ rfl w.heap.size _ rfl [.slice av k cv, .int .i64 f, .int .i64 t] rfl _ A8 (by kernel_rfl) rfl rfl ?_)
          intro w9 t9 g9 z9
          have hs9 := hsl8.tr1 g9 (fun e => by have := hb0 _ (vblk_own e); omega)
          go_wp2
          refine ret_row2 2 3 24 rfl _ Try.underlying24 rfl [.slice av k cv, .int .i64 f, .int .i64 t] (by kernel_rfl) rfl _ rfl (ra_block t9) ⟨_, rfl, by rw [hLk.out]; exact hs9, ch8.tn g9 (Nat.le_refl _)⟩
        · rw [if_neg hok] at hR3
          subst hR3
          have hst : (s5.done = false) ∨ (s5.done = true ∧ fitsV L f t 64 65536 = false) := by
            cases h1 : s5.done
            · exact .inl rfl
            · cases h2 : fitsV L f t 64 65536
              · exact .inr ⟨rfl, rfl⟩
              · exact absurd ⟨h1, h2⟩ hok
          clear hok
          rcases hst with hd | ⟨hd, hm⟩
          · rw [hd]
            clear hd
            generalize fitsV L f t 64 65536 = mm
            go_wp2_with (refine store_rowC rfl _ _ _ rfl w.heap.size _ rfl [.slice none 0 0, .int .i64 0, .int .i64 0] rfl _ A8 (by kernel_rfl) rfl rfl ?_)
            intro w9 t9 g9 z9
            go_wp2
            refine ret_row2 2 3 24 rfl _ Try.underlying24 rfl [.slice none 0 0, .int .i64 0, .int .i64 0] (by kernel_rfl) rfl _ rfl (ra_block t9) ⟨_, rfl, Sl.nil _, ch8.tn g9 (Nat.le_refl _)⟩
          · rw [hd, hm]
            clear hd hm
            go_wp2_with (refine store_rowC rfl _ _ _ rfl w.heap.size _ rfl [.slice none 0 0, .int .i64 0, .int .i64 0] rfl _ A8 (by kernel_rfl) rfl rfl ?_)
            intro w9 t9 g9 z9
            go_wp2
            refine ret_row2 2 3 24 rfl _ Try.underlying24 rfl [.slice none 0 0, .int .i64 0, .int .i64 0] (by kernel_rfl) rfl _ rfl (ra_block t9) ⟨_, rfl, Sl.nil _, ch8.tn g9 (Nat.le_refl _)⟩
end Go.Proofs.Ytfnfcioofkeanaa
