/-
  The law's own .small (hypostylelaw02).
-/
import Derived.Test.YtfodlkofjmbolaaTagS0
import Derived.Test.YtfodlkofjmbolaaSoftK
namespace Go.Proofs.Ytfodlkofjmbolaa
set_option linter.unusedSimpArgs false
set_option linter.unusedVariables false
open Go.RowKit

theorem SlB.mk1 (m : World) (u : Value) (p : Bytes) (hu : Sl m u p.length (bcs p)) (e : Nat) : SlB (m.alloc (.cells #[u] e)) (.slice (some ⟨m.heap.size, 0, none⟩) 1 1) [(u, p)] := by
  refine ⟨Sl.lit m #[u] e 1 (by decide), fun y hy => ?_⟩
  rw [List.mem_singleton.1 hy]
  exact hu.tr0 (Chg.alloc _ _ _)
/-- What is known of values in the return of .small. -/
def LitB (B : Nat) (v : Value) (w : World) : Prop := ∃ p, v = .slice (some ⟨p, 0, none⟩) 1 1 ∧ B ≤ p ∧ Sl w v 1 (bcs [97])
def RowA (v : Value) (w : World) : Prop := ∃ u, SlB w v [(u, [97])]
def PtrFA (v : Value) (w : World) : Prop := ∃ p u, v = .pointer (some p) ∧ w.cell? p = some u ∧ Sl w u 12 (bcs FA)
theorem SlB.keep {B : Nat} {w w' : World} {v : Value} {D : RowsB} (h : SlB w v D) (g : Keep B w w') : SlB w' v D := ⟨h.1.keep g, fun x hx => (h.2 x hx).keep g⟩
theorem LitB.staysK {B : Nat} : StaysK B (LitB B) := fun _ _ _ ⟨p, h1, h2, h3⟩ g => ⟨p, h1, h2, h3.keep g⟩
theorem RowA.staysK {B : Nat} : StaysK B RowA := fun _ _ _ ⟨u, h⟩ g => ⟨u, h.keep g⟩
theorem RowFA.staysK {B : Nat} : StaysK B RowFA := fun _ _ _ ⟨u, h⟩ g => ⟨u, h.keep g⟩
theorem PtrFA.staysK {B : Nat} : StaysK B PtrFA := fun _ _ _ ⟨p, u, h1, h2, h3⟩ g => ⟨p, u, h1, g.cell _ _ h2, h3.keep g⟩
set_option maxHeartbeats 8000000 in
set_option maxRecDepth 100000 in
theorem small02_ok (w : World) : Calls Try.prog 23 #[] w fun e w' => e = .returned (.bool true) ∧ Chg [] w w' := by
  go_enter Try.func23, Try.ntmps23
  obtain ⟨m1, hm1, k1⟩ := run_mark (P := Try.prog) w.heap.size (w.alloc (.cells #[.int .u8 97] 5)) 22 5 w.heap.size 1 1 (Nat.le_refl _) Try.underlying22 Try.underlying5
  have l1 := (Sl.byte1 w 5 97 97 rfl).keep k1
  have c1 : Chg [] w m1 := ((Keep.of (Chg.alloc [] w _) (Nat.le_refl _)).trans k1).chg
  go_wp2_with fail
  have b1 := SlB.mk1 m1 (.slice (some ⟨w.heap.size, 0, none⟩) 1 1) [97] l1 22
  have c1' := c1.t0 (Chg.alloc [] m1 (.cells #[.slice (some ⟨w.heap.size, 0, none⟩) 1 1] 22))
  clear hm1 k1 l1 c1
  refine (kFrame_a _ _ _ b1).mono ?_
  rintro e w1 ⟨v1, rfl, o1, g1⟩
  replace c1' := c1'.t0 g1
  have s1 := Sl.ofOwns o1
  obtain ⟨a1, q1, rfl⟩ := own_shape o1
  clear g1 b1 o1
  go_wp2_with fail
  refine (kParse_a w1 _ s1).mono ?_
  rintro e w2 ⟨v2, rfl, u2, o2, g2⟩
  replace c1' := c1'.t0 g2
  replace s1 := s1.tr0 g2
  have s2 := o2.sl
  obtain ⟨a2, q2, rfl⟩ := s2.1.shape
  clear o2 g2
  go_wp2_with fail
  refine (kFrame_0 w2).mono ?_
  rintro e w3 ⟨v3, rfl, g3⟩
  replace c1' := c1'.t0 g3
  replace s1 := s1.tr0 g3
  replace s2 := s2.tr0 g3
  clear g3
  have y3 := c1'.size
  have O1 := s1.lt
  have O2 := s2
  go_wp2_with fail
  refine (lognew_ok w3 w3.heap.size).mono ?_
  rintro e w4 ⟨rfl, lg, g4⟩
  replace c1' := c1'.t0 g4
  replace s1 := s1.tr0 g4
  replace s2 := s2.tr0 g4
  have z4 : w3.heap.size < w4.heap.size := lg.lt
  go_wp2_with fail
  refine (lognew_ok w4 w4.heap.size).mono ?_
  rintro e w5 ⟨rfl, lh, g5⟩
  replace c1' := c1'.t0 g5
  replace s1 := s1.tr0 g5
  replace s2 := s2.tr0 g5
  replace lg := lg.tr0 g5
  have z5 : w4.heap.size < w5.heap.size := lh.lt
  have y0 : w.heap.size < w5.heap.size := by omega
  clear g4 g5
  obtain ⟨pg, hpg⟩ : ∃ p, p = w3.heap.size := ⟨_, rfl⟩
  rw [← hpg] at lg z4 y3 ⊢
  generalize w4.heap.size = ph at *
  replace hpg := Lib.hid hpg
  simp only [List.length_cons, List.length_nil, Nat.zero_add] at s2
  obtain ⟨m6, hm6, k6⟩ := run_mark (P := Try.prog) w5.heap.size (w5.alloc (.cells #[.int .u8 97] 5)) 22 5 w5.heap.size 1 1 (Nat.le_refl _) Try.underlying22 Try.underlying5
  have l6 := (Sl.byte1 w5 5 97 97 rfl).keep k6
  have c6 : Chg [] w5 m6 := ((Keep.of (Chg.alloc [] w5 _) (Nat.le_refl _)).trans k6).chg
  go_wp2_with fail
  have b6 := SlB.mk1 m6 (.slice (some ⟨w5.heap.size, 0, none⟩) 1 1) [97] l6 22
  have c6' := c6.t0 (Chg.alloc [] m6 (.cells #[.slice (some ⟨w5.heap.size, 0, none⟩) 1 1] 22))
  clear hm6 k6 l6 c6
  refine (kLog_a _ pg pg (by have := c6'.size; omega) _ _ (lg.tr0 c6') b6).mono ?_
  rintro e w6 ⟨rfl, vg, ug, lg6, g6⟩
  have hd32 : (sumB FA).length = 32 := sumB_len FA
  have g56 : Chg [pg] w5 w6 := c6'.of0.t1 g6
  have c16 : Chg [] w w6 := c1'.tn g56 y3
  have s16 := s1.tr g56 (by intro k hk; have := O1 k hk; have := hpg.out; simp; omega)
  have s26 := s2.tr g56 (by intro k hk; have := O2.1.lt k hk; have := hpg.out; simp; omega) (by intro x hx k hk; have := (O2.2 x hx).lt k hk; have := hpg.out; simp; omega)
  have lh6 : LogAt w6 ph ph (.slice none 0 0) [] := ⟨g56.heap lh.cell (by simp; omega), OwnsB.nil _ _⟩
  have z6 := g56.size
  clear g6 b6 c6' s1 s2 lg lh c1' g56
  obtain ⟨dA, hdA⟩ : ∃ d, d = sumB FA := ⟨_, rfl⟩
  rw [← hdA] at hd32 ⊢
  replace hdA := Lib.hid hdA
  go_wp2_with (first
    | (refine alloc_bytes (by rfl) 25 (by rfl) 32 (by kernel_rfl) ?_; intro w7 h7 g7 z7; replace z7 : Hid _ := z7)
    | (refine store_bytes (by rfl) 25 (.tmp 10) (.tmp 48) (by rfl) _ 32 _ (by rfl) dA (by rfl) _ h7 (by kernel_rfl) hd32 (by rw [List.length_replicate]) ?_; intro w8 h8 g8 z8; replace z8 : Hid _ := z8; obtain ⟨m9, hm9, k9⟩ := run_mark (P := Try.prog) w8.heap.size (w8.alloc (.cells #[.int .u8 98] 5)) 22 5 w8.heap.size 1 1 (Nat.le_refl _) Try.underlying22 Try.underlying5))
  obtain ⟨pd, hpd⟩ : ∃ p, p = w6.heap.size := ⟨_, rfl⟩
  have g68 : Chg [] w6 w8 := g7.tn g8 (Nat.le_refl _)
  rw [← hpd] at h8 ⊢
  replace c16 := c16.t0 g68
  replace s16 := s16.tr0 g68
  replace s26 := s26.tr0 g68
  replace lg6 := lg6.tr0 g68
  replace lh6 := lh6.tr0 g68
  replace z6 : w5.heap.size ≤ pd := by rw [hpd]; exact z6
  have z8' : pd < w8.heap.size := lt_of_heap h8
  clear h7 g7 g8 z7 z8 g68 hpd
  have l9 := (Sl.byte1 w8 5 98 98 rfl).keep k9
  have c9 : Chg [] w8 m9 := ((Keep.of (Chg.alloc [] w8 _) (Nat.le_refl _)).trans k9).chg
  have b9 := SlB.mk1 m9 (.slice (some ⟨w8.heap.size, 0, none⟩) 1 1) [98] l9 22
  have c9' := c9.t0 (Chg.alloc [] m9 (.cells #[.slice (some ⟨w8.heap.size, 0, none⟩) 1 1] 22))
  clear hm9 k9 l9 c9
  refine (kLog_b _ ph ph (by have := c9'.size; omega) _ _ (lh6.tr0 c9') b9).mono ?_
  rintro e w10 ⟨⟨x9, rfl⟩, vh, uh, lh10, g10⟩
  have g89 : Chg [ph] w8 w10 := c9'.of0.t1 g10
  have c110 : Chg [] w w10 := c16.tn g89 (by omega)
  have s110 := s16.tr g89 (by intro k hk; have := O1 k hk; have := hpg.out; simp; omega)
  have s210 := s26.tr g89 (by intro k hk; have := O2.1.lt k hk; have := hpg.out; simp; omega) (by intro x hx k hk; have := (O2.2 x hx).lt k hk; have := hpg.out; simp; omega)
  have lg10 : LogAt w10 pg pg vg [(ug, FA)] := ⟨g89.heap lg6.cell (by simp; omega), lg6.rows.trT g89 lh6.cell (by decide) (by decide)⟩
  have h10 := g89.heap h8 (by simp; omega)
  clear g10 b9 c9' s16 s26 lg6 lh6 c16 g89 h8
  go_wp2_with fail
  refine (kExt w10 pg ph pg ph _ _ _ _ lg10 lh10).mono ?_
  rintro e w11 ⟨x1, x2, rfl, ox1, ox2, g11⟩
  replace c110 := c110.t0 g11
  replace s110 := s110.tr0 g11
  replace s210 := s210.tr0 g11
  replace lg10 := lg10.tr0 g11
  replace h10 := g11.heap h10 (by simp)
  obtain ⟨ax1, cx1, rfl⟩ := own_shape ox1
  obtain ⟨ax2, cx2, rfl⟩ := own_shape ox2
  clear g11 ox1 ox2 lh10 O1 O2 y3 z4 z5 y0 hpg z6 z8'
  go_wp2_with fail
  obtain ⟨bL, oL, cL, e, _, xL, sL⟩ := s210.cell 0 (by simp)
  cases e
  simp only [List.getElem_cons_zero, Nat.add_zero] at xL sL
  obtain ⟨a3, q3, rfl⟩ := sL.shape
  have rd : w11.rangeAt pd 0 (bcs dA) := by simpa using ra_block h10
  have E := fun w => eql_dv (P := Try.prog) w 25 5 32 Try.underlying25 Try.underlying5 (fun w => by go_simp) dA dA hd32 hd32
  have G := fun w x y => eqg_dv (P := Try.prog) w .eql 25 x y dA dA (by kernel_rfl)
  have E0 := fun w => eql_dv (P := Try.prog) w 25 5 32 Try.underlying25 Try.underlying5 (fun w => by go_simp) zero32 zero32 (by simp [zero32]) (by simp [zero32])
  have G0 := fun w x y => eqg_dv (P := Try.prog) w .eql 25 x y zero32 zero32 (by kernel_rfl)
  unfold dv at E G E0 G0
  simp only [beq_self_eq_true] at E E0
  have kS : ∀ wx, Chg [] w11 wx → Calls Try.prog 15 #[.slice a1 12 q1] wx fun e w' => e = .returned (.agg (bcs dA).toArray) ∧ Chg [] wx w' := fun wx g => by
    rw [hdA.out]
    exact sum_ok wx _ FA (s110.tr0 g) (by simp [FA])
  have kH : ∀ wx v, RowA v wx → Calls Try.prog 30 #[.string { data := #[116] }, v] wx fun e w' => e = .returned (.agg (bcs dA).toArray) ∧ Chg [] wx w' := fun wx v ⟨u, h⟩ => by
    rw [hdA.out]
    exact kHash_a wx v u h
  have kFr : ∀ wx, Chg [] w11 wx → Calls Try.prog 34 #[.pointer (some ⟨pg, 0, none⟩)] wx fun e w' => ∃ v', e = .returned v' ∧ Chg [] wx w' ∧ RowFA v' w' := fun wx g => kFrames wx pg pg vg ug (lg10.tr0 g)
  simp only [List.append_eq, List.cons_append, List.nil_append]
  refine' region_softK (w11.heap.size) 73 [cst (.slice a1 12 q1), cst (.string { data := #[1, 116, 1, 1, 0, 0, 0, 0, 0, 0, 0, 97] }), cst (.bool true), cst (.bool true), cst (.bool true), cst (.bool true), cst (.bool true), cst (.string { data := #[116] }), cst (.bool true), cst (.bool true), cst (.bool true), cst (.slice (some ⟨bL, oL, none⟩) 1 q2), cst (.pointer (some ⟨bL, oL, none⟩)), cst (.slice a3 1 q3), cst (.string { data := #[97] }), cst (.bool true), cst (.bool true), cst (.bool true), cst (.bool true), cst (.bool true), cst (.bool true), cst (.bool false), cst (.bool true), cst (.bool true), cst (.bool true), cst (.agg (bcs dA).toArray), cst (.slice a1 12 q1), cst (.agg (bcs dA).toArray), cst (.bool true), cst (.bool true), cst (.bool true), cst (.agg (bcs dA).toArray), LitB w11.heap.size, LitB w11.heap.size, RowA, cst (.agg (bcs dA).toArray), cst (.bool true), cst (.bool true), cst (.bool true), cst (.pointer (some ⟨pg, 0, none⟩)), RowFA, cst (.int .i64 1), cst (.bool true), cst (.bool true), cst (.bool true), cst (.pointer (some ⟨pg, 0, none⟩)), RowFA, PtrFA, SlF 12 (bcs FA), cst (.string { data := #[1, 116, 1, 1, 0, 0, 0, 0, 0, 0, 0, 97] }), cst (.slice a1 12 q1), cst (.string { data := #[1, 116, 1, 1, 0, 0, 0, 0, 0, 0, 0, 97] }), cst (.bool true), cst (.bool true), cst (.bool true), cst (.slice ax1 0 cx1), cst (.int .i64 0), cst (.bool true), cst (.bool true), cst (.bool true), cst (.slice ax2 0 cx2), cst (.int .i64 0), cst (.bool true), cst (.bool true), cst (.bool true), cst (.bool false), cst (.bool true), cst (.bool true), cst (.bool true), cst (.agg (bcs zero32).toArray), cst (.agg (bcs zero32).toArray), cst (.bool true), cst (.bool true)] rfl (by kernel_rfl) (by kernel_rfl) (staysK_cons (StaysK.cst _ _) (staysK_cons (StaysK.cst _ _) (staysK_cons (StaysK.cst _ _) (staysK_cons (StaysK.cst _ _) (staysK_cons (StaysK.cst _ _) (staysK_cons (StaysK.cst _ _) (staysK_cons (StaysK.cst _ _) (staysK_cons (StaysK.cst _ _) (staysK_cons (StaysK.cst _ _) (staysK_cons (StaysK.cst _ _) (staysK_cons (StaysK.cst _ _) (staysK_cons (StaysK.cst _ _) (staysK_cons (StaysK.cst _ _) (staysK_cons (StaysK.cst _ _) (staysK_cons (StaysK.cst _ _) (staysK_cons (StaysK.cst _ _) (staysK_cons (StaysK.cst _ _) (staysK_cons (StaysK.cst _ _) (staysK_cons (StaysK.cst _ _) (staysK_cons (StaysK.cst _ _) (staysK_cons (StaysK.cst _ _) (staysK_cons (StaysK.cst _ _) (staysK_cons (StaysK.cst _ _) (staysK_cons (StaysK.cst _ _) (staysK_cons (StaysK.cst _ _) (staysK_cons (StaysK.cst _ _) (staysK_cons (StaysK.cst _ _) (staysK_cons (StaysK.cst _ _) (staysK_cons (StaysK.cst _ _) (staysK_cons (StaysK.cst _ _) (staysK_cons (StaysK.cst _ _) (staysK_cons (StaysK.cst _ _) (staysK_cons (LitB.staysK) (staysK_cons (LitB.staysK) (staysK_cons (RowA.staysK) (staysK_cons (StaysK.cst _ _) (staysK_cons (StaysK.cst _ _) (staysK_cons (StaysK.cst _ _) (staysK_cons (StaysK.cst _ _) (staysK_cons (StaysK.cst _ _) (staysK_cons (RowFA.staysK) (staysK_cons (StaysK.cst _ _) (staysK_cons (StaysK.cst _ _) (staysK_cons (StaysK.cst _ _) (staysK_cons (StaysK.cst _ _) (staysK_cons (StaysK.cst _ _) (staysK_cons (RowFA.staysK) (staysK_cons (PtrFA.staysK) (staysK_cons (SlF.staysK) (staysK_cons (StaysK.cst _ _) (staysK_cons (StaysK.cst _ _) (staysK_cons (StaysK.cst _ _) (staysK_cons (StaysK.cst _ _) (staysK_cons (StaysK.cst _ _) (staysK_cons (StaysK.cst _ _) (staysK_cons (StaysK.cst _ _) (staysK_cons (StaysK.cst _ _) (staysK_cons (StaysK.cst _ _) (staysK_cons (StaysK.cst _ _) (staysK_cons (StaysK.cst _ _) (staysK_cons (StaysK.cst _ _) (staysK_cons (StaysK.cst _ _) (staysK_cons (StaysK.cst _ _) (staysK_cons (StaysK.cst _ _) (staysK_cons (StaysK.cst _ _) (staysK_cons (StaysK.cst _ _) (staysK_cons (StaysK.cst _ _) (staysK_cons (StaysK.cst _ _) (staysK_cons (StaysK.cst _ _) (staysK_cons (StaysK.cst _ _) (staysK_cons (StaysK.cst _ _) (staysK_cons (StaysK.cst _ _) (staysK_cons (StaysK.cst _ _) staysK_nil))))))))))))))))))))))))))))))))))))))))))))))))))))))))))))))))))))))))) _ (fun V => by simp only [putAll, Act.put, List.take_succ_cons, List.take_zero, List.setIfInBounds_toArray, List.set_cons_zero, List.set_cons_succ, Nat.reduceAdd]; exact rfl) ?hs1 ?ht1
  case hs1 =>
    simp only [List.take_succ_cons, List.take_zero, softsK]
    refine ⟨?_, ?_, ?_, ?_, ?_, ?_, ?_, ?_, ?_, ?_, ?_, ?_, ?_, ?_, ?_, ?_, ?_, ?_, ?_, ?_, ?_, ?_, ?_, ?_, ?_, ?_, ?_, ?_, ?_, ?_, ?_, ?_, ?_, ?_, ?_, ?_, ?_, ?_, ?_, ?_, ?_, ?_, ?_, ?_, ?_, ?_, ?_, ?_, ?_, ?_, ?_, ?_, ?_, ?_, ?_, ?_, ?_, ?_, ?_, ?_, ?_, ?_, ?_, ?_, ?_, ?_, ?_, ?_, ?_, ?_, ?_, ?_, ?_, trivial⟩
    · intro V wx hw0 hd
      have hw := hw0.chg
      simp [phi, Region.binds, cst] at hd
      try simp only [hd]
      refine soft_lift hw.size ?_
      first
        | (refine soft_const rfl ?_; go_simp; done)
        | (refine soft_const rfl ?_; go_simp; exact rfl)
        | (exact soft_load rfl hw _ _ rfl _ _ rfl _ _ rd Try.underlying25 rfl (by rw [bcs_length, hd32]; kernel_rfl))
        | (exact soft_cell rfl hw _ _ rfl _ rfl _ _ xL Try.underlying22 rfl)
        | (refine soft_str rfl _ _ _ rfl _ rfl _ Try.underlying22 Try.underlying5 Try.underlying9 _ _ ?_ rfl; exact (s110.tr0 hw))
        | (refine soft_str rfl _ _ _ rfl _ rfl _ Try.underlying22 Try.underlying5 Try.underlying9 _ _ ?_ rfl; exact (sL.tr0 hw))
        | (exact soft_skip rfl)
    · intro V wx hw0 hd
      have hw := hw0.chg
      simp [phi, Region.binds, cst] at hd
      try simp only [hd]
      refine soft_lift hw.size ?_
      first
        | (refine soft_const rfl ?_; go_simp; done)
        | (refine soft_const rfl ?_; go_simp; exact rfl)
        | (exact soft_load rfl hw _ _ rfl _ _ rfl _ _ rd Try.underlying25 rfl (by rw [bcs_length, hd32]; kernel_rfl))
        | (exact soft_cell rfl hw _ _ rfl _ rfl _ _ xL Try.underlying22 rfl)
        | (refine soft_str rfl _ _ _ rfl _ rfl _ Try.underlying22 Try.underlying5 Try.underlying9 _ _ ?_ rfl; exact (s110.tr0 hw))
        | (refine soft_str rfl _ _ _ rfl _ rfl _ Try.underlying22 Try.underlying5 Try.underlying9 _ _ ?_ rfl; exact (sL.tr0 hw))
        | (exact soft_skip rfl)
    · intro V wx hw0 hd
      have hw := hw0.chg
      simp [phi, Region.binds, cst] at hd
      try simp only [hd]
      refine soft_lift hw.size ?_
      first
        | (refine soft_const rfl ?_; go_simp; done)
        | (refine soft_const rfl ?_; go_simp; exact rfl)
        | (exact soft_load rfl hw _ _ rfl _ _ rfl _ _ rd Try.underlying25 rfl (by rw [bcs_length, hd32]; kernel_rfl))
        | (exact soft_cell rfl hw _ _ rfl _ rfl _ _ xL Try.underlying22 rfl)
        | (refine soft_str rfl _ _ _ rfl _ rfl _ Try.underlying22 Try.underlying5 Try.underlying9 _ _ ?_ rfl; exact (s110.tr0 hw))
        | (refine soft_str rfl _ _ _ rfl _ rfl _ Try.underlying22 Try.underlying5 Try.underlying9 _ _ ?_ rfl; exact (sL.tr0 hw))
        | (exact soft_skip rfl)
    · intro V wx hw0 hd
      have hw := hw0.chg
      simp [phi, Region.binds, cst] at hd
      try simp only [hd]
      refine soft_lift hw.size ?_
      first
        | (refine soft_const rfl ?_; go_simp; done)
        | (refine soft_const rfl ?_; go_simp; exact rfl)
        | (exact soft_load rfl hw _ _ rfl _ _ rfl _ _ rd Try.underlying25 rfl (by rw [bcs_length, hd32]; kernel_rfl))
        | (exact soft_cell rfl hw _ _ rfl _ rfl _ _ xL Try.underlying22 rfl)
        | (refine soft_str rfl _ _ _ rfl _ rfl _ Try.underlying22 Try.underlying5 Try.underlying9 _ _ ?_ rfl; exact (s110.tr0 hw))
        | (refine soft_str rfl _ _ _ rfl _ rfl _ Try.underlying22 Try.underlying5 Try.underlying9 _ _ ?_ rfl; exact (sL.tr0 hw))
        | (exact soft_skip rfl)
    · intro V wx hw0 hd
      have hw := hw0.chg
      simp [phi, Region.binds, cst] at hd
      try simp only [hd]
      refine soft_lift hw.size ?_
      first
        | (refine soft_const rfl ?_; go_simp; done)
        | (refine soft_const rfl ?_; go_simp; exact rfl)
        | (exact soft_load rfl hw _ _ rfl _ _ rfl _ _ rd Try.underlying25 rfl (by rw [bcs_length, hd32]; kernel_rfl))
        | (exact soft_cell rfl hw _ _ rfl _ rfl _ _ xL Try.underlying22 rfl)
        | (refine soft_str rfl _ _ _ rfl _ rfl _ Try.underlying22 Try.underlying5 Try.underlying9 _ _ ?_ rfl; exact (s110.tr0 hw))
        | (refine soft_str rfl _ _ _ rfl _ rfl _ Try.underlying22 Try.underlying5 Try.underlying9 _ _ ?_ rfl; exact (sL.tr0 hw))
        | (exact soft_skip rfl)
    · intro V wx hw0 hd
      have hw := hw0.chg
      simp [phi, Region.binds, cst] at hd
      try simp only [hd]
      refine soft_lift hw.size ?_
      first
        | (refine soft_const rfl ?_; go_simp; done)
        | (refine soft_const rfl ?_; go_simp; exact rfl)
        | (exact soft_load rfl hw _ _ rfl _ _ rfl _ _ rd Try.underlying25 rfl (by rw [bcs_length, hd32]; kernel_rfl))
        | (exact soft_cell rfl hw _ _ rfl _ rfl _ _ xL Try.underlying22 rfl)
        | (refine soft_str rfl _ _ _ rfl _ rfl _ Try.underlying22 Try.underlying5 Try.underlying9 _ _ ?_ rfl; exact (s110.tr0 hw))
        | (refine soft_str rfl _ _ _ rfl _ rfl _ Try.underlying22 Try.underlying5 Try.underlying9 _ _ ?_ rfl; exact (sL.tr0 hw))
        | (exact soft_skip rfl)
    · intro V wx hw0 hd
      have hw := hw0.chg
      simp [phi, Region.binds, cst] at hd
      try simp only [hd]
      refine soft_lift hw.size ?_
      first
        | (refine soft_const rfl ?_; go_simp; done)
        | (refine soft_const rfl ?_; go_simp; exact rfl)
        | (exact soft_load rfl hw _ _ rfl _ _ rfl _ _ rd Try.underlying25 rfl (by rw [bcs_length, hd32]; kernel_rfl))
        | (exact soft_cell rfl hw _ _ rfl _ rfl _ _ xL Try.underlying22 rfl)
        | (refine soft_str rfl _ _ _ rfl _ rfl _ Try.underlying22 Try.underlying5 Try.underlying9 _ _ ?_ rfl; exact (s110.tr0 hw))
        | (refine soft_str rfl _ _ _ rfl _ rfl _ Try.underlying22 Try.underlying5 Try.underlying9 _ _ ?_ rfl; exact (sL.tr0 hw))
        | (exact soft_skip rfl)
    · intro V wx hw0 hd
      have hw := hw0.chg
      simp [phi, Region.binds, cst] at hd
      try simp only [hd]
      refine soft_lift hw.size ?_
      first
        | (refine soft_const rfl ?_; go_simp; done)
        | (refine soft_const rfl ?_; go_simp; exact rfl)
        | (exact soft_load rfl hw _ _ rfl _ _ rfl _ _ rd Try.underlying25 rfl (by rw [bcs_length, hd32]; kernel_rfl))
        | (exact soft_cell rfl hw _ _ rfl _ rfl _ _ xL Try.underlying22 rfl)
        | (refine soft_str rfl _ _ _ rfl _ rfl _ Try.underlying22 Try.underlying5 Try.underlying9 _ _ ?_ rfl; exact (s110.tr0 hw))
        | (refine soft_str rfl _ _ _ rfl _ rfl _ Try.underlying22 Try.underlying5 Try.underlying9 _ _ ?_ rfl; exact (sL.tr0 hw))
        | (exact soft_skip rfl)
    · intro V wx hw0 hd
      have hw := hw0.chg
      simp [phi, Region.binds, cst] at hd
      try simp only [hd]
      refine soft_lift hw.size ?_
      first
        | (refine soft_const rfl ?_; go_simp; done)
        | (refine soft_const rfl ?_; go_simp; exact rfl)
        | (exact soft_load rfl hw _ _ rfl _ _ rfl _ _ rd Try.underlying25 rfl (by rw [bcs_length, hd32]; kernel_rfl))
        | (exact soft_cell rfl hw _ _ rfl _ rfl _ _ xL Try.underlying22 rfl)
        | (refine soft_str rfl _ _ _ rfl _ rfl _ Try.underlying22 Try.underlying5 Try.underlying9 _ _ ?_ rfl; exact (s110.tr0 hw))
        | (refine soft_str rfl _ _ _ rfl _ rfl _ Try.underlying22 Try.underlying5 Try.underlying9 _ _ ?_ rfl; exact (sL.tr0 hw))
        | (exact soft_skip rfl)
    · intro V wx hw0 hd
      have hw := hw0.chg
      simp [phi, Region.binds, cst] at hd
      try simp only [hd]
      refine soft_lift hw.size ?_
      first
        | (refine soft_const rfl ?_; go_simp; done)
        | (refine soft_const rfl ?_; go_simp; exact rfl)
        | (exact soft_load rfl hw _ _ rfl _ _ rfl _ _ rd Try.underlying25 rfl (by rw [bcs_length, hd32]; kernel_rfl))
        | (exact soft_cell rfl hw _ _ rfl _ rfl _ _ xL Try.underlying22 rfl)
        | (refine soft_str rfl _ _ _ rfl _ rfl _ Try.underlying22 Try.underlying5 Try.underlying9 _ _ ?_ rfl; exact (s110.tr0 hw))
        | (refine soft_str rfl _ _ _ rfl _ rfl _ Try.underlying22 Try.underlying5 Try.underlying9 _ _ ?_ rfl; exact (sL.tr0 hw))
        | (exact soft_skip rfl)
    · intro V wx hw0 hd
      have hw := hw0.chg
      simp [phi, Region.binds, cst] at hd
      try simp only [hd]
      refine soft_lift hw.size ?_
      first
        | (refine soft_const rfl ?_; go_simp; done)
        | (refine soft_const rfl ?_; go_simp; exact rfl)
        | (exact soft_load rfl hw _ _ rfl _ _ rfl _ _ rd Try.underlying25 rfl (by rw [bcs_length, hd32]; kernel_rfl))
        | (exact soft_cell rfl hw _ _ rfl _ rfl _ _ xL Try.underlying22 rfl)
        | (refine soft_str rfl _ _ _ rfl _ rfl _ Try.underlying22 Try.underlying5 Try.underlying9 _ _ ?_ rfl; exact (s110.tr0 hw))
        | (refine soft_str rfl _ _ _ rfl _ rfl _ Try.underlying22 Try.underlying5 Try.underlying9 _ _ ?_ rfl; exact (sL.tr0 hw))
        | (exact soft_skip rfl)
    · intro V wx hw0 hd
      have hw := hw0.chg
      simp [phi, Region.binds, cst] at hd
      try simp only [hd]
      refine soft_lift hw.size ?_
      first
        | (refine soft_const rfl ?_; go_simp; done)
        | (refine soft_const rfl ?_; go_simp; exact rfl)
        | (exact soft_load rfl hw _ _ rfl _ _ rfl _ _ rd Try.underlying25 rfl (by rw [bcs_length, hd32]; kernel_rfl))
        | (exact soft_cell rfl hw _ _ rfl _ rfl _ _ xL Try.underlying22 rfl)
        | (refine soft_str rfl _ _ _ rfl _ rfl _ Try.underlying22 Try.underlying5 Try.underlying9 _ _ ?_ rfl; exact (s110.tr0 hw))
        | (refine soft_str rfl _ _ _ rfl _ rfl _ Try.underlying22 Try.underlying5 Try.underlying9 _ _ ?_ rfl; exact (sL.tr0 hw))
        | (exact soft_skip rfl)
    · intro V wx hw0 hd
      have hw := hw0.chg
      simp [phi, Region.binds, cst] at hd
      try simp only [hd]
      refine soft_lift hw.size ?_
      first
        | (refine soft_const rfl ?_; go_simp; done)
        | (refine soft_const rfl ?_; go_simp; exact rfl)
        | (exact soft_load rfl hw _ _ rfl _ _ rfl _ _ rd Try.underlying25 rfl (by rw [bcs_length, hd32]; kernel_rfl))
        | (exact soft_cell rfl hw _ _ rfl _ rfl _ _ xL Try.underlying22 rfl)
        | (refine soft_str rfl _ _ _ rfl _ rfl _ Try.underlying22 Try.underlying5 Try.underlying9 _ _ ?_ rfl; exact (s110.tr0 hw))
        | (refine soft_str rfl _ _ _ rfl _ rfl _ Try.underlying22 Try.underlying5 Try.underlying9 _ _ ?_ rfl; exact (sL.tr0 hw))
        | (exact soft_skip rfl)
    · intro V wx hw0 hd
      have hw := hw0.chg
      simp [phi, Region.binds, cst] at hd
      try simp only [hd]
      refine soft_lift hw.size ?_
      first
        | (refine soft_const rfl ?_; go_simp; done)
        | (refine soft_const rfl ?_; go_simp; exact rfl)
        | (exact soft_load rfl hw _ _ rfl _ _ rfl _ _ rd Try.underlying25 rfl (by rw [bcs_length, hd32]; kernel_rfl))
        | (exact soft_cell rfl hw _ _ rfl _ rfl _ _ xL Try.underlying22 rfl)
        | (refine soft_str rfl _ _ _ rfl _ rfl _ Try.underlying22 Try.underlying5 Try.underlying9 _ _ ?_ rfl; exact (s110.tr0 hw))
        | (refine soft_str rfl _ _ _ rfl _ rfl _ Try.underlying22 Try.underlying5 Try.underlying9 _ _ ?_ rfl; exact (sL.tr0 hw))
        | (exact soft_skip rfl)
    · intro V wx hw0 hd
      have hw := hw0.chg
      simp [phi, Region.binds, cst] at hd
      try simp only [hd]
      refine soft_lift hw.size ?_
      first
        | (refine soft_const rfl ?_; go_simp; done)
        | (refine soft_const rfl ?_; go_simp; exact rfl)
        | (exact soft_load rfl hw _ _ rfl _ _ rfl _ _ rd Try.underlying25 rfl (by rw [bcs_length, hd32]; kernel_rfl))
        | (exact soft_cell rfl hw _ _ rfl _ rfl _ _ xL Try.underlying22 rfl)
        | (refine soft_str rfl _ _ _ rfl _ rfl _ Try.underlying22 Try.underlying5 Try.underlying9 _ _ ?_ rfl; exact (s110.tr0 hw))
        | (refine soft_str rfl _ _ _ rfl _ rfl _ Try.underlying22 Try.underlying5 Try.underlying9 _ _ ?_ rfl; exact (sL.tr0 hw))
        | (exact soft_skip rfl)
    · intro V wx hw0 hd
      have hw := hw0.chg
      simp [phi, Region.binds, cst] at hd
      try simp only [hd]
      refine soft_lift hw.size ?_
      first
        | (refine soft_const rfl ?_; go_simp; done)
        | (refine soft_const rfl ?_; go_simp; exact rfl)
        | (exact soft_load rfl hw _ _ rfl _ _ rfl _ _ rd Try.underlying25 rfl (by rw [bcs_length, hd32]; kernel_rfl))
        | (exact soft_cell rfl hw _ _ rfl _ rfl _ _ xL Try.underlying22 rfl)
        | (refine soft_str rfl _ _ _ rfl _ rfl _ Try.underlying22 Try.underlying5 Try.underlying9 _ _ ?_ rfl; exact (s110.tr0 hw))
        | (refine soft_str rfl _ _ _ rfl _ rfl _ Try.underlying22 Try.underlying5 Try.underlying9 _ _ ?_ rfl; exact (sL.tr0 hw))
        | (exact soft_skip rfl)
    · intro V wx hw0 hd
      have hw := hw0.chg
      simp [phi, Region.binds, cst] at hd
      try simp only [hd]
      refine soft_lift hw.size ?_
      first
        | (refine soft_const rfl ?_; go_simp; done)
        | (refine soft_const rfl ?_; go_simp; exact rfl)
        | (exact soft_load rfl hw _ _ rfl _ _ rfl _ _ rd Try.underlying25 rfl (by rw [bcs_length, hd32]; kernel_rfl))
        | (exact soft_cell rfl hw _ _ rfl _ rfl _ _ xL Try.underlying22 rfl)
        | (refine soft_str rfl _ _ _ rfl _ rfl _ Try.underlying22 Try.underlying5 Try.underlying9 _ _ ?_ rfl; exact (s110.tr0 hw))
        | (refine soft_str rfl _ _ _ rfl _ rfl _ Try.underlying22 Try.underlying5 Try.underlying9 _ _ ?_ rfl; exact (sL.tr0 hw))
        | (exact soft_skip rfl)
    · intro V wx hw0 hd
      have hw := hw0.chg
      simp [phi, Region.binds, cst] at hd
      try simp only [hd]
      refine soft_lift hw.size ?_
      first
        | (refine soft_const rfl ?_; go_simp; done)
        | (refine soft_const rfl ?_; go_simp; exact rfl)
        | (exact soft_load rfl hw _ _ rfl _ _ rfl _ _ rd Try.underlying25 rfl (by rw [bcs_length, hd32]; kernel_rfl))
        | (exact soft_cell rfl hw _ _ rfl _ rfl _ _ xL Try.underlying22 rfl)
        | (refine soft_str rfl _ _ _ rfl _ rfl _ Try.underlying22 Try.underlying5 Try.underlying9 _ _ ?_ rfl; exact (s110.tr0 hw))
        | (refine soft_str rfl _ _ _ rfl _ rfl _ Try.underlying22 Try.underlying5 Try.underlying9 _ _ ?_ rfl; exact (sL.tr0 hw))
        | (exact soft_skip rfl)
    · intro V wx hw0 hd
      have hw := hw0.chg
      simp [phi, Region.binds, cst] at hd
      try simp only [hd]
      refine soft_lift hw.size ?_
      first
        | (refine soft_const rfl ?_; go_simp; done)
        | (refine soft_const rfl ?_; go_simp; exact rfl)
        | (exact soft_load rfl hw _ _ rfl _ _ rfl _ _ rd Try.underlying25 rfl (by rw [bcs_length, hd32]; kernel_rfl))
        | (exact soft_cell rfl hw _ _ rfl _ rfl _ _ xL Try.underlying22 rfl)
        | (refine soft_str rfl _ _ _ rfl _ rfl _ Try.underlying22 Try.underlying5 Try.underlying9 _ _ ?_ rfl; exact (s110.tr0 hw))
        | (refine soft_str rfl _ _ _ rfl _ rfl _ Try.underlying22 Try.underlying5 Try.underlying9 _ _ ?_ rfl; exact (sL.tr0 hw))
        | (exact soft_skip rfl)
    · intro V wx hw0 hd
      have hw := hw0.chg
      simp [phi, Region.binds, cst] at hd
      try simp only [hd]
      refine soft_lift hw.size ?_
      first
        | (refine soft_const rfl ?_; go_simp; done)
        | (refine soft_const rfl ?_; go_simp; exact rfl)
        | (exact soft_load rfl hw _ _ rfl _ _ rfl _ _ rd Try.underlying25 rfl (by rw [bcs_length, hd32]; kernel_rfl))
        | (exact soft_cell rfl hw _ _ rfl _ rfl _ _ xL Try.underlying22 rfl)
        | (refine soft_str rfl _ _ _ rfl _ rfl _ Try.underlying22 Try.underlying5 Try.underlying9 _ _ ?_ rfl; exact (s110.tr0 hw))
        | (refine soft_str rfl _ _ _ rfl _ rfl _ Try.underlying22 Try.underlying5 Try.underlying9 _ _ ?_ rfl; exact (sL.tr0 hw))
        | (exact soft_skip rfl)
    · intro V wx hw0 hd
      have hw := hw0.chg
      simp [phi, Region.binds, cst] at hd
      try simp only [hd]
      refine soft_lift hw.size ?_
      first
        | (refine soft_const rfl ?_; go_simp; done)
        | (refine soft_const rfl ?_; go_simp; exact rfl)
        | (exact soft_load rfl hw _ _ rfl _ _ rfl _ _ rd Try.underlying25 rfl (by rw [bcs_length, hd32]; kernel_rfl))
        | (exact soft_cell rfl hw _ _ rfl _ rfl _ _ xL Try.underlying22 rfl)
        | (refine soft_str rfl _ _ _ rfl _ rfl _ Try.underlying22 Try.underlying5 Try.underlying9 _ _ ?_ rfl; exact (s110.tr0 hw))
        | (refine soft_str rfl _ _ _ rfl _ rfl _ Try.underlying22 Try.underlying5 Try.underlying9 _ _ ?_ rfl; exact (sL.tr0 hw))
        | (exact soft_skip rfl)
    · intro V wx hw0 hd
      have hw := hw0.chg
      simp [phi, Region.binds, cst] at hd
      try simp only [hd]
      refine soft_lift hw.size ?_
      first
        | (refine soft_const rfl ?_; go_simp; done)
        | (refine soft_const rfl ?_; go_simp; exact rfl)
        | (exact soft_load rfl hw _ _ rfl _ _ rfl _ _ rd Try.underlying25 rfl (by rw [bcs_length, hd32]; kernel_rfl))
        | (exact soft_cell rfl hw _ _ rfl _ rfl _ _ xL Try.underlying22 rfl)
        | (refine soft_str rfl _ _ _ rfl _ rfl _ Try.underlying22 Try.underlying5 Try.underlying9 _ _ ?_ rfl; exact (s110.tr0 hw))
        | (refine soft_str rfl _ _ _ rfl _ rfl _ Try.underlying22 Try.underlying5 Try.underlying9 _ _ ?_ rfl; exact (sL.tr0 hw))
        | (exact soft_skip rfl)
    · intro V wx hw0 hd
      have hw := hw0.chg
      simp [phi, Region.binds, cst] at hd
      try simp only [hd]
      refine soft_lift hw.size ?_
      first
        | (refine soft_const rfl ?_; go_simp; done)
        | (refine soft_const rfl ?_; go_simp; exact rfl)
        | (exact soft_load rfl hw _ _ rfl _ _ rfl _ _ rd Try.underlying25 rfl (by rw [bcs_length, hd32]; kernel_rfl))
        | (exact soft_cell rfl hw _ _ rfl _ rfl _ _ xL Try.underlying22 rfl)
        | (refine soft_str rfl _ _ _ rfl _ rfl _ Try.underlying22 Try.underlying5 Try.underlying9 _ _ ?_ rfl; exact (s110.tr0 hw))
        | (refine soft_str rfl _ _ _ rfl _ rfl _ Try.underlying22 Try.underlying5 Try.underlying9 _ _ ?_ rfl; exact (sL.tr0 hw))
        | (exact soft_skip rfl)
    · intro V wx hw0 hd
      have hw := hw0.chg
      simp [phi, Region.binds, cst] at hd
      try simp only [hd]
      refine soft_lift hw.size ?_
      first
        | (refine soft_const rfl ?_; go_simp; done)
        | (refine soft_const rfl ?_; go_simp; exact rfl)
        | (exact soft_load rfl hw _ _ rfl _ _ rfl _ _ rd Try.underlying25 rfl (by rw [bcs_length, hd32]; kernel_rfl))
        | (exact soft_cell rfl hw _ _ rfl _ rfl _ _ xL Try.underlying22 rfl)
        | (refine soft_str rfl _ _ _ rfl _ rfl _ Try.underlying22 Try.underlying5 Try.underlying9 _ _ ?_ rfl; exact (s110.tr0 hw))
        | (refine soft_str rfl _ _ _ rfl _ rfl _ Try.underlying22 Try.underlying5 Try.underlying9 _ _ ?_ rfl; exact (sL.tr0 hw))
        | (exact soft_skip rfl)
    · intro V wx hw0 hd
      have hw := hw0.chg
      simp [phi, Region.binds, cst] at hd
      try simp only [hd]
      refine soft_lift hw.size ?_
      first
        | (refine soft_const rfl ?_; go_simp; done)
        | (refine soft_const rfl ?_; go_simp; exact rfl)
        | (exact soft_load rfl hw _ _ rfl _ _ rfl _ _ rd Try.underlying25 rfl (by rw [bcs_length, hd32]; kernel_rfl))
        | (exact soft_cell rfl hw _ _ rfl _ rfl _ _ xL Try.underlying22 rfl)
        | (refine soft_str rfl _ _ _ rfl _ rfl _ Try.underlying22 Try.underlying5 Try.underlying9 _ _ ?_ rfl; exact (s110.tr0 hw))
        | (refine soft_str rfl _ _ _ rfl _ rfl _ Try.underlying22 Try.underlying5 Try.underlying9 _ _ ?_ rfl; exact (sL.tr0 hw))
        | (exact soft_skip rfl)
    · intro V wx hw0 hd
      have hw := hw0.chg
      simp [phi, Region.binds, cst] at hd
      try simp only [hd]
      refine soft_lift hw.size ?_
      first
        | (refine soft_const rfl ?_; go_simp; done)
        | (refine soft_const rfl ?_; go_simp; exact rfl)
        | (exact soft_load rfl hw _ _ rfl _ _ rfl _ _ rd Try.underlying25 rfl (by rw [bcs_length, hd32]; kernel_rfl))
        | (exact soft_cell rfl hw _ _ rfl _ rfl _ _ xL Try.underlying22 rfl)
        | (refine soft_str rfl _ _ _ rfl _ rfl _ Try.underlying22 Try.underlying5 Try.underlying9 _ _ ?_ rfl; exact (s110.tr0 hw))
        | (refine soft_str rfl _ _ _ rfl _ rfl _ Try.underlying22 Try.underlying5 Try.underlying9 _ _ ?_ rfl; exact (sL.tr0 hw))
        | (exact soft_skip rfl)
    · intro V wx hw0 hd
      have hw := hw0.chg
      simp [phi, Region.binds, cst] at hd
      try simp only [hd]
      refine soft_lift hw.size ?_
      first
        | (refine soft_const rfl ?_; go_simp; done)
        | (refine soft_const rfl ?_; go_simp; exact rfl)
        | (exact soft_load rfl hw _ _ rfl _ _ rfl _ _ rd Try.underlying25 rfl (by rw [bcs_length, hd32]; kernel_rfl))
        | (exact soft_cell rfl hw _ _ rfl _ rfl _ _ xL Try.underlying22 rfl)
        | (refine soft_str rfl _ _ _ rfl _ rfl _ Try.underlying22 Try.underlying5 Try.underlying9 _ _ ?_ rfl; exact (s110.tr0 hw))
        | (refine soft_str rfl _ _ _ rfl _ rfl _ Try.underlying22 Try.underlying5 Try.underlying9 _ _ ?_ rfl; exact (sL.tr0 hw))
        | (exact soft_skip rfl)
    · intro V wx hw0 hd
      have hw := hw0.chg
      simp [phi, Region.binds, cst] at hd
      try simp only [hd]
      refine soft_lift hw.size ?_
      refine soft_callC rfl _ _ (by go_simp; try exact ⟨rfl, rfl⟩) (kS wx hw)
    · intro V wx hw0 hd
      have hw := hw0.chg
      simp [phi, Region.binds, cst] at hd
      try simp only [hd]
      refine soft_lift hw.size ?_
      first
        | (refine soft_const rfl ?_; go_simp; done)
        | (refine soft_const rfl ?_; go_simp; exact rfl)
        | (exact soft_load rfl hw _ _ rfl _ _ rfl _ _ rd Try.underlying25 rfl (by rw [bcs_length, hd32]; kernel_rfl))
        | (exact soft_cell rfl hw _ _ rfl _ rfl _ _ xL Try.underlying22 rfl)
        | (refine soft_str rfl _ _ _ rfl _ rfl _ Try.underlying22 Try.underlying5 Try.underlying9 _ _ ?_ rfl; exact (s110.tr0 hw))
        | (refine soft_str rfl _ _ _ rfl _ rfl _ Try.underlying22 Try.underlying5 Try.underlying9 _ _ ?_ rfl; exact (sL.tr0 hw))
        | (exact soft_skip rfl)
    · intro V wx hw0 hd
      have hw := hw0.chg
      simp [phi, Region.binds, cst] at hd
      try simp only [hd]
      refine soft_lift hw.size ?_
      first
        | (refine soft_const rfl ?_; go_simp; done)
        | (refine soft_const rfl ?_; go_simp; exact rfl)
        | (exact soft_load rfl hw _ _ rfl _ _ rfl _ _ rd Try.underlying25 rfl (by rw [bcs_length, hd32]; kernel_rfl))
        | (exact soft_cell rfl hw _ _ rfl _ rfl _ _ xL Try.underlying22 rfl)
        | (refine soft_str rfl _ _ _ rfl _ rfl _ Try.underlying22 Try.underlying5 Try.underlying9 _ _ ?_ rfl; exact (s110.tr0 hw))
        | (refine soft_str rfl _ _ _ rfl _ rfl _ Try.underlying22 Try.underlying5 Try.underlying9 _ _ ?_ rfl; exact (sL.tr0 hw))
        | (exact soft_skip rfl)
    · intro V wx hw0 hd
      have hw := hw0.chg
      simp [phi, Region.binds, cst] at hd
      try simp only [hd]
      refine soft_lift hw.size ?_
      first
        | (refine soft_const rfl ?_; go_simp; done)
        | (refine soft_const rfl ?_; go_simp; exact rfl)
        | (exact soft_load rfl hw _ _ rfl _ _ rfl _ _ rd Try.underlying25 rfl (by rw [bcs_length, hd32]; kernel_rfl))
        | (exact soft_cell rfl hw _ _ rfl _ rfl _ _ xL Try.underlying22 rfl)
        | (refine soft_str rfl _ _ _ rfl _ rfl _ Try.underlying22 Try.underlying5 Try.underlying9 _ _ ?_ rfl; exact (s110.tr0 hw))
        | (refine soft_str rfl _ _ _ rfl _ rfl _ Try.underlying22 Try.underlying5 Try.underlying9 _ _ ?_ rfl; exact (sL.tr0 hw))
        | (exact soft_skip rfl)
    · intro V wx hw0 hd
      have hw := hw0.chg
      simp [phi, Region.binds, cst] at hd
      try simp only [hd]
      refine soft_lift hw.size ?_
      first
        | (refine soft_const rfl ?_; go_simp; done)
        | (refine soft_const rfl ?_; go_simp; exact rfl)
        | (exact soft_load rfl hw _ _ rfl _ _ rfl _ _ rd Try.underlying25 rfl (by rw [bcs_length, hd32]; kernel_rfl))
        | (exact soft_cell rfl hw _ _ rfl _ rfl _ _ xL Try.underlying22 rfl)
        | (refine soft_str rfl _ _ _ rfl _ rfl _ Try.underlying22 Try.underlying5 Try.underlying9 _ _ ?_ rfl; exact (s110.tr0 hw))
        | (refine soft_str rfl _ _ _ rfl _ rfl _ Try.underlying22 Try.underlying5 Try.underlying9 _ _ ?_ rfl; exact (sL.tr0 hw))
        | (exact soft_skip rfl)
    · intro V wx hw0 hd
      have hw := hw0.chg
      simp [phi, Region.binds, cst] at hd
      try simp only [hd]
      refine soft_lift hw.size ?_
      exact soft_made (w' := wx.alloc (.cells #[.int .u8 97] 5)) (v := .slice (some ⟨wx.heap.size, 0, none⟩) 1 1) rfl (by go_simp) (Chg.alloc _ _ _) ⟨_, rfl, hw.size, Sl.byte1 wx _ 97 97 rfl⟩
    · intro V wx hw0 hd
      have hw := hw0.chg
      simp [phi, Region.binds, cst] at hd
      try simp only [hd]
      obtain ⟨p, e, hp, hs⟩ := hd.1
      generalize V 32 = z at *
      subst e
      obtain ⟨w', hr, hk'⟩ := run_mark (P := Try.prog) w11.heap.size wx 22 5 p 1 1 hp Try.underlying22 Try.underlying5
      exact softK_made rfl (exec_convert _ _ _ rfl _ _ rfl hr) hk' ⟨p, rfl, hp, hs.keep hk'⟩
    · intro V wx hw0 hd
      have hw := hw0.chg
      simp [phi, Region.binds, cst] at hd
      try simp only [hd]
      refine soft_lift hw.size ?_
      obtain ⟨p, e, hp, hs⟩ := hd.1
      generalize V 33 = z at *
      subst e
      exact soft_made (w' := wx.alloc (.cells #[.slice (some ⟨p, 0, none⟩) 1 1] 22)) (v := .slice (some ⟨wx.heap.size, 0, none⟩) 1 1) rfl (by go_simp) (Chg.alloc _ _ _) ⟨_, SlB.mk1 wx _ [97] hs _⟩
    · intro V wx hw0 hd
      have hw := hw0.chg
      simp [phi, Region.binds, cst] at hd
      try simp only [hd]
      refine soft_lift hw.size ?_
      refine soft_callC rfl _ _ (by go_simp; try exact ⟨rfl, rfl⟩) (kH wx _ hd.1)
    · intro V wx hw0 hd
      have hw := hw0.chg
      simp [phi, Region.binds, cst] at hd
      try simp only [hd]
      refine soft_lift hw.size ?_
      first
        | (refine soft_const rfl ?_; go_simp; done)
        | (refine soft_const rfl ?_; go_simp; exact rfl)
        | (exact soft_load rfl hw _ _ rfl _ _ rfl _ _ rd Try.underlying25 rfl (by rw [bcs_length, hd32]; kernel_rfl))
        | (exact soft_cell rfl hw _ _ rfl _ rfl _ _ xL Try.underlying22 rfl)
        | (refine soft_str rfl _ _ _ rfl _ rfl _ Try.underlying22 Try.underlying5 Try.underlying9 _ _ ?_ rfl; exact (s110.tr0 hw))
        | (refine soft_str rfl _ _ _ rfl _ rfl _ Try.underlying22 Try.underlying5 Try.underlying9 _ _ ?_ rfl; exact (sL.tr0 hw))
        | (exact soft_skip rfl)
    · intro V wx hw0 hd
      have hw := hw0.chg
      simp [phi, Region.binds, cst] at hd
      try simp only [hd]
      refine soft_lift hw.size ?_
      first
        | (refine soft_const rfl ?_; go_simp; done)
        | (refine soft_const rfl ?_; go_simp; exact rfl)
        | (exact soft_load rfl hw _ _ rfl _ _ rfl _ _ rd Try.underlying25 rfl (by rw [bcs_length, hd32]; kernel_rfl))
        | (exact soft_cell rfl hw _ _ rfl _ rfl _ _ xL Try.underlying22 rfl)
        | (refine soft_str rfl _ _ _ rfl _ rfl _ Try.underlying22 Try.underlying5 Try.underlying9 _ _ ?_ rfl; exact (s110.tr0 hw))
        | (refine soft_str rfl _ _ _ rfl _ rfl _ Try.underlying22 Try.underlying5 Try.underlying9 _ _ ?_ rfl; exact (sL.tr0 hw))
        | (exact soft_skip rfl)
    · intro V wx hw0 hd
      have hw := hw0.chg
      simp [phi, Region.binds, cst] at hd
      try simp only [hd]
      refine soft_lift hw.size ?_
      first
        | (refine soft_const rfl ?_; go_simp; done)
        | (refine soft_const rfl ?_; go_simp; exact rfl)
        | (exact soft_load rfl hw _ _ rfl _ _ rfl _ _ rd Try.underlying25 rfl (by rw [bcs_length, hd32]; kernel_rfl))
        | (exact soft_cell rfl hw _ _ rfl _ rfl _ _ xL Try.underlying22 rfl)
        | (refine soft_str rfl _ _ _ rfl _ rfl _ Try.underlying22 Try.underlying5 Try.underlying9 _ _ ?_ rfl; exact (s110.tr0 hw))
        | (refine soft_str rfl _ _ _ rfl _ rfl _ Try.underlying22 Try.underlying5 Try.underlying9 _ _ ?_ rfl; exact (sL.tr0 hw))
        | (exact soft_skip rfl)
    · intro V wx hw0 hd
      have hw := hw0.chg
      simp [phi, Region.binds, cst] at hd
      try simp only [hd]
      refine soft_lift hw.size ?_
      first
        | (refine soft_const rfl ?_; go_simp; done)
        | (refine soft_const rfl ?_; go_simp; exact rfl)
        | (exact soft_load rfl hw _ _ rfl _ _ rfl _ _ rd Try.underlying25 rfl (by rw [bcs_length, hd32]; kernel_rfl))
        | (exact soft_cell rfl hw _ _ rfl _ rfl _ _ xL Try.underlying22 rfl)
        | (refine soft_str rfl _ _ _ rfl _ rfl _ Try.underlying22 Try.underlying5 Try.underlying9 _ _ ?_ rfl; exact (s110.tr0 hw))
        | (refine soft_str rfl _ _ _ rfl _ rfl _ Try.underlying22 Try.underlying5 Try.underlying9 _ _ ?_ rfl; exact (sL.tr0 hw))
        | (exact soft_skip rfl)
    · intro V wx hw0 hd
      have hw := hw0.chg
      simp [phi, Region.binds, cst] at hd
      try simp only [hd]
      refine soft_lift hw.size ?_
      refine soft_call rfl _ _ (by go_simp; try exact ⟨rfl, rfl⟩) (kFr wx hw)
    · intro V wx hw0 hd
      have hw := hw0.chg
      simp [phi, Region.binds, cst] at hd
      try simp only [hd]
      refine soft_lift hw.size ?_
      obtain ⟨u, hS⟩ := hd.1
      obtain ⟨az, cz, e⟩ := hS.1.shape
      generalize V 40 = z at *
      subst e
      refine soft_const rfl ?_
      go_simp
    · intro V wx hw0 hd
      have hw := hw0.chg
      simp [phi, Region.binds, cst] at hd
      try simp only [hd]
      refine soft_lift hw.size ?_
      first
        | (refine soft_const rfl ?_; go_simp; done)
        | (refine soft_const rfl ?_; go_simp; exact rfl)
        | (exact soft_load rfl hw _ _ rfl _ _ rfl _ _ rd Try.underlying25 rfl (by rw [bcs_length, hd32]; kernel_rfl))
        | (exact soft_cell rfl hw _ _ rfl _ rfl _ _ xL Try.underlying22 rfl)
        | (refine soft_str rfl _ _ _ rfl _ rfl _ Try.underlying22 Try.underlying5 Try.underlying9 _ _ ?_ rfl; exact (s110.tr0 hw))
        | (refine soft_str rfl _ _ _ rfl _ rfl _ Try.underlying22 Try.underlying5 Try.underlying9 _ _ ?_ rfl; exact (sL.tr0 hw))
        | (exact soft_skip rfl)
    · intro V wx hw0 hd
      have hw := hw0.chg
      simp [phi, Region.binds, cst] at hd
      try simp only [hd]
      refine soft_lift hw.size ?_
      first
        | (refine soft_const rfl ?_; go_simp; done)
        | (refine soft_const rfl ?_; go_simp; exact rfl)
        | (exact soft_load rfl hw _ _ rfl _ _ rfl _ _ rd Try.underlying25 rfl (by rw [bcs_length, hd32]; kernel_rfl))
        | (exact soft_cell rfl hw _ _ rfl _ rfl _ _ xL Try.underlying22 rfl)
        | (refine soft_str rfl _ _ _ rfl _ rfl _ Try.underlying22 Try.underlying5 Try.underlying9 _ _ ?_ rfl; exact (s110.tr0 hw))
        | (refine soft_str rfl _ _ _ rfl _ rfl _ Try.underlying22 Try.underlying5 Try.underlying9 _ _ ?_ rfl; exact (sL.tr0 hw))
        | (exact soft_skip rfl)
    · intro V wx hw0 hd
      have hw := hw0.chg
      simp [phi, Region.binds, cst] at hd
      try simp only [hd]
      refine soft_lift hw.size ?_
      first
        | (refine soft_const rfl ?_; go_simp; done)
        | (refine soft_const rfl ?_; go_simp; exact rfl)
        | (exact soft_load rfl hw _ _ rfl _ _ rfl _ _ rd Try.underlying25 rfl (by rw [bcs_length, hd32]; kernel_rfl))
        | (exact soft_cell rfl hw _ _ rfl _ rfl _ _ xL Try.underlying22 rfl)
        | (refine soft_str rfl _ _ _ rfl _ rfl _ Try.underlying22 Try.underlying5 Try.underlying9 _ _ ?_ rfl; exact (s110.tr0 hw))
        | (refine soft_str rfl _ _ _ rfl _ rfl _ Try.underlying22 Try.underlying5 Try.underlying9 _ _ ?_ rfl; exact (sL.tr0 hw))
        | (exact soft_skip rfl)
    · intro V wx hw0 hd
      have hw := hw0.chg
      simp [phi, Region.binds, cst] at hd
      try simp only [hd]
      refine soft_lift hw.size ?_
      first
        | (refine soft_const rfl ?_; go_simp; done)
        | (refine soft_const rfl ?_; go_simp; exact rfl)
        | (exact soft_load rfl hw _ _ rfl _ _ rfl _ _ rd Try.underlying25 rfl (by rw [bcs_length, hd32]; kernel_rfl))
        | (exact soft_cell rfl hw _ _ rfl _ rfl _ _ xL Try.underlying22 rfl)
        | (refine soft_str rfl _ _ _ rfl _ rfl _ Try.underlying22 Try.underlying5 Try.underlying9 _ _ ?_ rfl; exact (s110.tr0 hw))
        | (refine soft_str rfl _ _ _ rfl _ rfl _ Try.underlying22 Try.underlying5 Try.underlying9 _ _ ?_ rfl; exact (sL.tr0 hw))
        | (exact soft_skip rfl)
    · intro V wx hw0 hd
      have hw := hw0.chg
      simp [phi, Region.binds, cst] at hd
      try simp only [hd]
      refine soft_lift hw.size ?_
      refine soft_call rfl _ _ (by go_simp; try exact ⟨rfl, rfl⟩) (kFr wx hw)
    · intro V wx hw0 hd
      have hw := hw0.chg
      simp [phi, Region.binds, cst] at hd
      try simp only [hd]
      refine soft_lift hw.size ?_
      obtain ⟨u, hS⟩ := hd.1
      obtain ⟨bz, oz, cz, e, _, xz, sz⟩ := hS.cell 0 (by simp)
      generalize V 46 = z at *
      subst e
      exact soft_made (w' := wx) (v := .pointer (some ⟨bz, oz + 0, none⟩)) rfl (by go_simp) (Chg.refl _ _) ⟨_, _, rfl, xz, sz⟩
    · intro V wx hw0 hd
      have hw := hw0.chg
      simp [phi, Region.binds, cst] at hd
      try simp only [hd]
      refine soft_lift hw.size ?_
      obtain ⟨p, u, e, x, s⟩ := hd.1
      generalize V 47 = z at *
      subst e
      exact soft_made (w' := wx) (v := u) rfl (exec_load _ _ rfl p rfl u _ x Try.underlying22 rfl) (Chg.refl _ _) s
    · intro V wx hw0 hd
      have hw := hw0.chg
      simp [phi, Region.binds, cst] at hd
      try simp only [hd]
      refine soft_lift hw.size ?_
      have hs : Sl wx (V 48) 12 (bcs FA) := hd.1
      refine soft_str rfl _ _ _ rfl (V 48) rfl _ Try.underlying22 Try.underlying5 Try.underlying9 12 FA ?_ rfl
      exact hs
    · intro V wx hw0 hd
      have hw := hw0.chg
      simp [phi, Region.binds, cst] at hd
      try simp only [hd]
      refine soft_lift hw.size ?_
      first
        | (refine soft_const rfl ?_; go_simp; done)
        | (refine soft_const rfl ?_; go_simp; exact rfl)
        | (exact soft_load rfl hw _ _ rfl _ _ rfl _ _ rd Try.underlying25 rfl (by rw [bcs_length, hd32]; kernel_rfl))
        | (exact soft_cell rfl hw _ _ rfl _ rfl _ _ xL Try.underlying22 rfl)
        | (refine soft_str rfl _ _ _ rfl _ rfl _ Try.underlying22 Try.underlying5 Try.underlying9 _ _ ?_ rfl; exact (s110.tr0 hw))
        | (refine soft_str rfl _ _ _ rfl _ rfl _ Try.underlying22 Try.underlying5 Try.underlying9 _ _ ?_ rfl; exact (sL.tr0 hw))
        | (exact soft_skip rfl)
    · intro V wx hw0 hd
      have hw := hw0.chg
      simp [phi, Region.binds, cst] at hd
      try simp only [hd]
      refine soft_lift hw.size ?_
      first
        | (refine soft_const rfl ?_; go_simp; done)
        | (refine soft_const rfl ?_; go_simp; exact rfl)
        | (exact soft_load rfl hw _ _ rfl _ _ rfl _ _ rd Try.underlying25 rfl (by rw [bcs_length, hd32]; kernel_rfl))
        | (exact soft_cell rfl hw _ _ rfl _ rfl _ _ xL Try.underlying22 rfl)
        | (refine soft_str rfl _ _ _ rfl _ rfl _ Try.underlying22 Try.underlying5 Try.underlying9 _ _ ?_ rfl; exact (s110.tr0 hw))
        | (refine soft_str rfl _ _ _ rfl _ rfl _ Try.underlying22 Try.underlying5 Try.underlying9 _ _ ?_ rfl; exact (sL.tr0 hw))
        | (exact soft_skip rfl)
    · intro V wx hw0 hd
      have hw := hw0.chg
      simp [phi, Region.binds, cst] at hd
      try simp only [hd]
      refine soft_lift hw.size ?_
      first
        | (refine soft_const rfl ?_; go_simp; done)
        | (refine soft_const rfl ?_; go_simp; exact rfl)
        | (exact soft_load rfl hw _ _ rfl _ _ rfl _ _ rd Try.underlying25 rfl (by rw [bcs_length, hd32]; kernel_rfl))
        | (exact soft_cell rfl hw _ _ rfl _ rfl _ _ xL Try.underlying22 rfl)
        | (refine soft_str rfl _ _ _ rfl _ rfl _ Try.underlying22 Try.underlying5 Try.underlying9 _ _ ?_ rfl; exact (s110.tr0 hw))
        | (refine soft_str rfl _ _ _ rfl _ rfl _ Try.underlying22 Try.underlying5 Try.underlying9 _ _ ?_ rfl; exact (sL.tr0 hw))
        | (exact soft_skip rfl)
    · intro V wx hw0 hd
      have hw := hw0.chg
      simp [phi, Region.binds, cst] at hd
      try simp only [hd]
      refine soft_lift hw.size ?_
      first
        | (refine soft_const rfl ?_; go_simp; done)
        | (refine soft_const rfl ?_; go_simp; exact rfl)
        | (exact soft_load rfl hw _ _ rfl _ _ rfl _ _ rd Try.underlying25 rfl (by rw [bcs_length, hd32]; kernel_rfl))
        | (exact soft_cell rfl hw _ _ rfl _ rfl _ _ xL Try.underlying22 rfl)
        | (refine soft_str rfl _ _ _ rfl _ rfl _ Try.underlying22 Try.underlying5 Try.underlying9 _ _ ?_ rfl; exact (s110.tr0 hw))
        | (refine soft_str rfl _ _ _ rfl _ rfl _ Try.underlying22 Try.underlying5 Try.underlying9 _ _ ?_ rfl; exact (sL.tr0 hw))
        | (exact soft_skip rfl)
    · intro V wx hw0 hd
      have hw := hw0.chg
      simp [phi, Region.binds, cst] at hd
      try simp only [hd]
      refine soft_lift hw.size ?_
      first
        | (refine soft_const rfl ?_; go_simp; done)
        | (refine soft_const rfl ?_; go_simp; exact rfl)
        | (exact soft_load rfl hw _ _ rfl _ _ rfl _ _ rd Try.underlying25 rfl (by rw [bcs_length, hd32]; kernel_rfl))
        | (exact soft_cell rfl hw _ _ rfl _ rfl _ _ xL Try.underlying22 rfl)
        | (refine soft_str rfl _ _ _ rfl _ rfl _ Try.underlying22 Try.underlying5 Try.underlying9 _ _ ?_ rfl; exact (s110.tr0 hw))
        | (refine soft_str rfl _ _ _ rfl _ rfl _ Try.underlying22 Try.underlying5 Try.underlying9 _ _ ?_ rfl; exact (sL.tr0 hw))
        | (exact soft_skip rfl)
    · intro V wx hw0 hd
      have hw := hw0.chg
      simp [phi, Region.binds, cst] at hd
      try simp only [hd]
      refine soft_lift hw.size ?_
      first
        | (refine soft_const rfl ?_; go_simp; done)
        | (refine soft_const rfl ?_; go_simp; exact rfl)
        | (exact soft_load rfl hw _ _ rfl _ _ rfl _ _ rd Try.underlying25 rfl (by rw [bcs_length, hd32]; kernel_rfl))
        | (exact soft_cell rfl hw _ _ rfl _ rfl _ _ xL Try.underlying22 rfl)
        | (refine soft_str rfl _ _ _ rfl _ rfl _ Try.underlying22 Try.underlying5 Try.underlying9 _ _ ?_ rfl; exact (s110.tr0 hw))
        | (refine soft_str rfl _ _ _ rfl _ rfl _ Try.underlying22 Try.underlying5 Try.underlying9 _ _ ?_ rfl; exact (sL.tr0 hw))
        | (exact soft_skip rfl)
    · intro V wx hw0 hd
      have hw := hw0.chg
      simp [phi, Region.binds, cst] at hd
      try simp only [hd]
      refine soft_lift hw.size ?_
      first
        | (refine soft_const rfl ?_; go_simp; done)
        | (refine soft_const rfl ?_; go_simp; exact rfl)
        | (exact soft_load rfl hw _ _ rfl _ _ rfl _ _ rd Try.underlying25 rfl (by rw [bcs_length, hd32]; kernel_rfl))
        | (exact soft_cell rfl hw _ _ rfl _ rfl _ _ xL Try.underlying22 rfl)
        | (refine soft_str rfl _ _ _ rfl _ rfl _ Try.underlying22 Try.underlying5 Try.underlying9 _ _ ?_ rfl; exact (s110.tr0 hw))
        | (refine soft_str rfl _ _ _ rfl _ rfl _ Try.underlying22 Try.underlying5 Try.underlying9 _ _ ?_ rfl; exact (sL.tr0 hw))
        | (exact soft_skip rfl)
    · intro V wx hw0 hd
      have hw := hw0.chg
      simp [phi, Region.binds, cst] at hd
      try simp only [hd]
      refine soft_lift hw.size ?_
      first
        | (refine soft_const rfl ?_; go_simp; done)
        | (refine soft_const rfl ?_; go_simp; exact rfl)
        | (exact soft_load rfl hw _ _ rfl _ _ rfl _ _ rd Try.underlying25 rfl (by rw [bcs_length, hd32]; kernel_rfl))
        | (exact soft_cell rfl hw _ _ rfl _ rfl _ _ xL Try.underlying22 rfl)
        | (refine soft_str rfl _ _ _ rfl _ rfl _ Try.underlying22 Try.underlying5 Try.underlying9 _ _ ?_ rfl; exact (s110.tr0 hw))
        | (refine soft_str rfl _ _ _ rfl _ rfl _ Try.underlying22 Try.underlying5 Try.underlying9 _ _ ?_ rfl; exact (sL.tr0 hw))
        | (exact soft_skip rfl)
    · intro V wx hw0 hd
      have hw := hw0.chg
      simp [phi, Region.binds, cst] at hd
      try simp only [hd]
      refine soft_lift hw.size ?_
      first
        | (refine soft_const rfl ?_; go_simp; done)
        | (refine soft_const rfl ?_; go_simp; exact rfl)
        | (exact soft_load rfl hw _ _ rfl _ _ rfl _ _ rd Try.underlying25 rfl (by rw [bcs_length, hd32]; kernel_rfl))
        | (exact soft_cell rfl hw _ _ rfl _ rfl _ _ xL Try.underlying22 rfl)
        | (refine soft_str rfl _ _ _ rfl _ rfl _ Try.underlying22 Try.underlying5 Try.underlying9 _ _ ?_ rfl; exact (s110.tr0 hw))
        | (refine soft_str rfl _ _ _ rfl _ rfl _ Try.underlying22 Try.underlying5 Try.underlying9 _ _ ?_ rfl; exact (sL.tr0 hw))
        | (exact soft_skip rfl)
    · intro V wx hw0 hd
      have hw := hw0.chg
      simp [phi, Region.binds, cst] at hd
      try simp only [hd]
      refine soft_lift hw.size ?_
      first
        | (refine soft_const rfl ?_; go_simp; done)
        | (refine soft_const rfl ?_; go_simp; exact rfl)
        | (exact soft_load rfl hw _ _ rfl _ _ rfl _ _ rd Try.underlying25 rfl (by rw [bcs_length, hd32]; kernel_rfl))
        | (exact soft_cell rfl hw _ _ rfl _ rfl _ _ xL Try.underlying22 rfl)
        | (refine soft_str rfl _ _ _ rfl _ rfl _ Try.underlying22 Try.underlying5 Try.underlying9 _ _ ?_ rfl; exact (s110.tr0 hw))
        | (refine soft_str rfl _ _ _ rfl _ rfl _ Try.underlying22 Try.underlying5 Try.underlying9 _ _ ?_ rfl; exact (sL.tr0 hw))
        | (exact soft_skip rfl)
    · intro V wx hw0 hd
      have hw := hw0.chg
      simp [phi, Region.binds, cst] at hd
      try simp only [hd]
      refine soft_lift hw.size ?_
      first
        | (refine soft_const rfl ?_; go_simp; done)
        | (refine soft_const rfl ?_; go_simp; exact rfl)
        | (exact soft_load rfl hw _ _ rfl _ _ rfl _ _ rd Try.underlying25 rfl (by rw [bcs_length, hd32]; kernel_rfl))
        | (exact soft_cell rfl hw _ _ rfl _ rfl _ _ xL Try.underlying22 rfl)
        | (refine soft_str rfl _ _ _ rfl _ rfl _ Try.underlying22 Try.underlying5 Try.underlying9 _ _ ?_ rfl; exact (s110.tr0 hw))
        | (refine soft_str rfl _ _ _ rfl _ rfl _ Try.underlying22 Try.underlying5 Try.underlying9 _ _ ?_ rfl; exact (sL.tr0 hw))
        | (exact soft_skip rfl)
    · intro V wx hw0 hd
      have hw := hw0.chg
      simp [phi, Region.binds, cst] at hd
      try simp only [hd]
      refine soft_lift hw.size ?_
      first
        | (refine soft_const rfl ?_; go_simp; done)
        | (refine soft_const rfl ?_; go_simp; exact rfl)
        | (exact soft_load rfl hw _ _ rfl _ _ rfl _ _ rd Try.underlying25 rfl (by rw [bcs_length, hd32]; kernel_rfl))
        | (exact soft_cell rfl hw _ _ rfl _ rfl _ _ xL Try.underlying22 rfl)
        | (refine soft_str rfl _ _ _ rfl _ rfl _ Try.underlying22 Try.underlying5 Try.underlying9 _ _ ?_ rfl; exact (s110.tr0 hw))
        | (refine soft_str rfl _ _ _ rfl _ rfl _ Try.underlying22 Try.underlying5 Try.underlying9 _ _ ?_ rfl; exact (sL.tr0 hw))
        | (exact soft_skip rfl)
    · intro V wx hw0 hd
      have hw := hw0.chg
      simp [phi, Region.binds, cst] at hd
      try simp only [hd]
      refine soft_lift hw.size ?_
      first
        | (refine soft_const rfl ?_; go_simp; done)
        | (refine soft_const rfl ?_; go_simp; exact rfl)
        | (exact soft_load rfl hw _ _ rfl _ _ rfl _ _ rd Try.underlying25 rfl (by rw [bcs_length, hd32]; kernel_rfl))
        | (exact soft_cell rfl hw _ _ rfl _ rfl _ _ xL Try.underlying22 rfl)
        | (refine soft_str rfl _ _ _ rfl _ rfl _ Try.underlying22 Try.underlying5 Try.underlying9 _ _ ?_ rfl; exact (s110.tr0 hw))
        | (refine soft_str rfl _ _ _ rfl _ rfl _ Try.underlying22 Try.underlying5 Try.underlying9 _ _ ?_ rfl; exact (sL.tr0 hw))
        | (exact soft_skip rfl)
    · intro V wx hw0 hd
      have hw := hw0.chg
      simp [phi, Region.binds, cst] at hd
      try simp only [hd]
      refine soft_lift hw.size ?_
      first
        | (refine soft_const rfl ?_; go_simp; done)
        | (refine soft_const rfl ?_; go_simp; exact rfl)
        | (exact soft_load rfl hw _ _ rfl _ _ rfl _ _ rd Try.underlying25 rfl (by rw [bcs_length, hd32]; kernel_rfl))
        | (exact soft_cell rfl hw _ _ rfl _ rfl _ _ xL Try.underlying22 rfl)
        | (refine soft_str rfl _ _ _ rfl _ rfl _ Try.underlying22 Try.underlying5 Try.underlying9 _ _ ?_ rfl; exact (s110.tr0 hw))
        | (refine soft_str rfl _ _ _ rfl _ rfl _ Try.underlying22 Try.underlying5 Try.underlying9 _ _ ?_ rfl; exact (sL.tr0 hw))
        | (exact soft_skip rfl)
    · intro V wx hw0 hd
      have hw := hw0.chg
      simp [phi, Region.binds, cst] at hd
      try simp only [hd]
      refine soft_lift hw.size ?_
      first
        | (refine soft_const rfl ?_; go_simp; done)
        | (refine soft_const rfl ?_; go_simp; exact rfl)
        | (exact soft_load rfl hw _ _ rfl _ _ rfl _ _ rd Try.underlying25 rfl (by rw [bcs_length, hd32]; kernel_rfl))
        | (exact soft_cell rfl hw _ _ rfl _ rfl _ _ xL Try.underlying22 rfl)
        | (refine soft_str rfl _ _ _ rfl _ rfl _ Try.underlying22 Try.underlying5 Try.underlying9 _ _ ?_ rfl; exact (s110.tr0 hw))
        | (refine soft_str rfl _ _ _ rfl _ rfl _ Try.underlying22 Try.underlying5 Try.underlying9 _ _ ?_ rfl; exact (sL.tr0 hw))
        | (exact soft_skip rfl)
    · intro V wx hw0 hd
      have hw := hw0.chg
      simp [phi, Region.binds, cst] at hd
      try simp only [hd]
      refine soft_lift hw.size ?_
      first
        | (refine soft_const rfl ?_; go_simp; done)
        | (refine soft_const rfl ?_; go_simp; exact rfl)
        | (exact soft_load rfl hw _ _ rfl _ _ rfl _ _ rd Try.underlying25 rfl (by rw [bcs_length, hd32]; kernel_rfl))
        | (exact soft_cell rfl hw _ _ rfl _ rfl _ _ xL Try.underlying22 rfl)
        | (refine soft_str rfl _ _ _ rfl _ rfl _ Try.underlying22 Try.underlying5 Try.underlying9 _ _ ?_ rfl; exact (s110.tr0 hw))
        | (refine soft_str rfl _ _ _ rfl _ rfl _ Try.underlying22 Try.underlying5 Try.underlying9 _ _ ?_ rfl; exact (sL.tr0 hw))
        | (exact soft_skip rfl)
    · intro V wx hw0 hd
      have hw := hw0.chg
      simp [phi, Region.binds, cst] at hd
      try simp only [hd]
      refine soft_lift hw.size ?_
      first
        | (refine soft_const rfl ?_; go_simp; done)
        | (refine soft_const rfl ?_; go_simp; exact rfl)
        | (exact soft_load rfl hw _ _ rfl _ _ rfl _ _ rd Try.underlying25 rfl (by rw [bcs_length, hd32]; kernel_rfl))
        | (exact soft_cell rfl hw _ _ rfl _ rfl _ _ xL Try.underlying22 rfl)
        | (refine soft_str rfl _ _ _ rfl _ rfl _ Try.underlying22 Try.underlying5 Try.underlying9 _ _ ?_ rfl; exact (s110.tr0 hw))
        | (refine soft_str rfl _ _ _ rfl _ rfl _ Try.underlying22 Try.underlying5 Try.underlying9 _ _ ?_ rfl; exact (sL.tr0 hw))
        | (exact soft_skip rfl)
    · intro V wx hw0 hd
      have hw := hw0.chg
      simp [phi, Region.binds, cst] at hd
      try simp only [hd]
      refine soft_lift hw.size ?_
      first
        | (refine soft_const rfl ?_; go_simp; done)
        | (refine soft_const rfl ?_; go_simp; exact rfl)
        | (exact soft_load rfl hw _ _ rfl _ _ rfl _ _ rd Try.underlying25 rfl (by rw [bcs_length, hd32]; kernel_rfl))
        | (exact soft_cell rfl hw _ _ rfl _ rfl _ _ xL Try.underlying22 rfl)
        | (refine soft_str rfl _ _ _ rfl _ rfl _ Try.underlying22 Try.underlying5 Try.underlying9 _ _ ?_ rfl; exact (s110.tr0 hw))
        | (refine soft_str rfl _ _ _ rfl _ rfl _ Try.underlying22 Try.underlying5 Try.underlying9 _ _ ?_ rfl; exact (sL.tr0 hw))
        | (exact soft_skip rfl)
    · intro V wx hw0 hd
      have hw := hw0.chg
      simp [phi, Region.binds, cst] at hd
      try simp only [hd]
      refine soft_lift hw.size ?_
      first
        | (refine soft_const rfl ?_; go_simp; done)
        | (refine soft_const rfl ?_; go_simp; exact rfl)
        | (exact soft_load rfl hw _ _ rfl _ _ rfl _ _ rd Try.underlying25 rfl (by rw [bcs_length, hd32]; kernel_rfl))
        | (exact soft_cell rfl hw _ _ rfl _ rfl _ _ xL Try.underlying22 rfl)
        | (refine soft_str rfl _ _ _ rfl _ rfl _ Try.underlying22 Try.underlying5 Try.underlying9 _ _ ?_ rfl; exact (s110.tr0 hw))
        | (refine soft_str rfl _ _ _ rfl _ rfl _ Try.underlying22 Try.underlying5 Try.underlying9 _ _ ?_ rfl; exact (sL.tr0 hw))
        | (exact soft_skip rfl)
    · intro V wx hw0 hd
      have hw := hw0.chg
      simp [phi, Region.binds, cst] at hd
      try simp only [hd]
      refine soft_lift hw.size ?_
      refine soft_callC rfl _ _ (by go_simp; try exact ⟨rfl, rfl⟩) (kHash_0 wx)
    · intro V wx hw0 hd
      have hw := hw0.chg
      simp [phi, Region.binds, cst] at hd
      try simp only [hd]
      refine soft_lift hw.size ?_
      first
        | (refine soft_const rfl ?_; go_simp; done)
        | (refine soft_const rfl ?_; go_simp; exact rfl)
        | (exact soft_load rfl hw _ _ rfl _ _ rfl _ _ rd Try.underlying25 rfl (by rw [bcs_length, hd32]; kernel_rfl))
        | (exact soft_cell rfl hw _ _ rfl _ rfl _ _ xL Try.underlying22 rfl)
        | (refine soft_str rfl _ _ _ rfl _ rfl _ Try.underlying22 Try.underlying5 Try.underlying9 _ _ ?_ rfl; exact (s110.tr0 hw))
        | (refine soft_str rfl _ _ _ rfl _ rfl _ Try.underlying22 Try.underlying5 Try.underlying9 _ _ ?_ rfl; exact (sL.tr0 hw))
        | (exact soft_skip rfl)
    · intro V wx hw0 hd
      have hw := hw0.chg
      simp [phi, Region.binds, cst] at hd
      try simp only [hd]
      refine soft_lift hw.size ?_
      first
        | (refine soft_const rfl ?_; go_simp; done)
        | (refine soft_const rfl ?_; go_simp; exact rfl)
        | (exact soft_load rfl hw _ _ rfl _ _ rfl _ _ rd Try.underlying25 rfl (by rw [bcs_length, hd32]; kernel_rfl))
        | (exact soft_cell rfl hw _ _ rfl _ rfl _ _ xL Try.underlying22 rfl)
        | (refine soft_str rfl _ _ _ rfl _ rfl _ Try.underlying22 Try.underlying5 Try.underlying9 _ _ ?_ rfl; exact (s110.tr0 hw))
        | (refine soft_str rfl _ _ _ rfl _ rfl _ Try.underlying22 Try.underlying5 Try.underlying9 _ _ ?_ rfl; exact (sL.tr0 hw))
        | (exact soft_skip rfl)
    · intro V wx hw0 hd
      have hw := hw0.chg
      simp [phi, Region.binds, cst] at hd
      try simp only [hd]
      refine soft_lift hw.size ?_
      first
        | (refine soft_const rfl ?_; go_simp; done)
        | (refine soft_const rfl ?_; go_simp; exact rfl)
        | (exact soft_load rfl hw _ _ rfl _ _ rfl _ _ rd Try.underlying25 rfl (by rw [bcs_length, hd32]; kernel_rfl))
        | (exact soft_cell rfl hw _ _ rfl _ rfl _ _ xL Try.underlying22 rfl)
        | (refine soft_str rfl _ _ _ rfl _ rfl _ Try.underlying22 Try.underlying5 Try.underlying9 _ _ ?_ rfl; exact (s110.tr0 hw))
        | (refine soft_str rfl _ _ _ rfl _ rfl _ Try.underlying22 Try.underlying5 Try.underlying9 _ _ ?_ rfl; exact (sL.tr0 hw))
        | (exact soft_skip rfl)
  intro V w' hg hk
  have q := hk 72 (by decide)
  simp [phi, cst] at q
  simp only [q]
  clear hk q
  have g := hg.chg
  simp only [List.drop_succ_cons, List.drop_zero]
  go_wp2
  go_ret
  exact ⟨rfl, c110.t0 g⟩
end Go.Proofs.Ytfodlkofjmbolaa
