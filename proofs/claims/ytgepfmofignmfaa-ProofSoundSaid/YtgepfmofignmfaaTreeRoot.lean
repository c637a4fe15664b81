/-
  Roots: the contract of tree.Root.
-/
import Derived.Test.YtgepfmofignmfaaTreeLog
import Derived.Test.YtgepfmofignmfaaOpen
namespace Go.Proofs.Ytgepfmofignmfaa
set_option linter.unusedSimpArgs false
set_option linter.unusedVariables false
open Go.RowKit

/-- A slice of digests. -/
structure Dg (w : World) (v : Value) (L : List Bytes) : Prop where
  sl : Sl w v L.length (L.flatMap bcs)
  len : ∀ x ∈ L, x.length = 32
theorem Dg.tr0 {w w' : World} {v : Value} {L : List Bytes} (h : Dg w v L) (g : Chg [] w w') : Dg w' v L := ⟨h.sl.tr0 g, h.len⟩
theorem Dg.tr {w w' : World} {v : Value} {L : List Bytes} {S : List Nat} (h : Dg w v L) (g : Chg S w w') (hn : ∀ k, vblk v = some k → k ∉ S) : Dg w' v L := ⟨h.sl.tr g hn, h.len⟩
theorem Dg.nil (w : World) : Dg w (.slice none 0 0) [] := ⟨Sl.nil w, by simp⟩
theorem bcs_32 {L : List Bytes} (h : ∀ x ∈ L, x.length = 32) : ∀ x ∈ L, (bcs x).length = 32 := fun x hx => by rw [bcs_length, h x hx]
theorem flat_take32 : ∀ (L : List Bytes) (k : Nat), (∀ x ∈ L, x.length = 32) → (L.take k).flatMap bcs = (L.flatMap bcs).take (k * 32)
  | [], k, _ => by simp
  | a :: L, 0, _ => by simp
  | a :: L, k + 1, h => by
    have ha : (bcs a).length = 32 := bcs_32 h a (List.mem_cons_self ..)
    rw [List.take_succ_cons, List.flatMap_cons, List.flatMap_cons, List.take_append, ha, List.take_of_length_le (l := bcs a) (by rw [ha]; omega), flat_take32 L k fun x hx => h x (List.mem_cons_of_mem _ hx), Nat.add_mul, Nat.one_mul, Nat.add_sub_cancel]
theorem flat_drop32 : ∀ (L : List Bytes) (k : Nat), (∀ x ∈ L, x.length = 32) → (L.drop k).flatMap bcs = (L.flatMap bcs).drop (k * 32)
  | [], k, _ => by simp
  | a :: L, 0, _ => by simp
  | a :: L, k + 1, h => by
    have ha : (bcs a).length = 32 := bcs_32 h a (List.mem_cons_self ..)
    rw [List.drop_succ_cons, List.flatMap_cons, List.drop_append, ha, List.drop_of_length_le (l := bcs a) (by rw [ha]; omega), List.nil_append, flat_drop32 L k fun x hx => h x (List.mem_cons_of_mem _ hx), Nat.add_mul, Nat.one_mul, Nat.add_sub_cancel]
/-- Where digests lie, if there are any. -/
theorem Dg.at {w : World} {v : Value} {L : List Bytes} (h : Dg w v L) (h0 : 0 < L.length) : ∃ b off c, v = .slice (some ⟨b, off, none⟩) L.length c ∧ L.length ≤ c ∧ c ≤ maxLen ∧ b < w.heap.size ∧ ∀ k (hk : k < L.length), w.rangeAt b (off + k * 32) (bcs L[k]) := by
  obtain ⟨b, off, c, rfl, h1, h2, h3, h4⟩ := h.sl.at (by rw [flat_length bcs 32 L (bcs_32 h.len)]; omega)
  refine ⟨b, off, c, rfl, h1, h2, h3, fun k hk j u hu => ?_⟩
  have hj : j < 32 := by
    have := (List.getElem?_eq_some_iff.1 hu).1
    rw [bcs_length, h.len _ (List.getElem_mem hk)] at this
    exact this
  rw [Nat.add_assoc]
  exact h4 _ _ (by rw [flat_at bcs 32 L (bcs_32 h.len) k j hk hj]; exact hu)
theorem Dg.take {w : World} {b off c : Nat} {L : List Bytes} (h : Dg w (.slice (some ⟨b, off, none⟩) L.length c) L) {k : Nat} (hk : k ≤ L.length) : Dg w (.slice (some ⟨b, off, none⟩) k c) (L.take k) := by
  refine ⟨?_, fun x hx => h.len x (List.mem_of_mem_take hx)⟩
  have := h.sl.take hk (k * 32)
  rw [← flat_take32 L k h.len] at this
  rw [List.length_take, Nat.min_eq_left hk]
  exact this
theorem Dg.drop {w : World} {b off c : Nat} {L : List Bytes} (h : Dg w (.slice (some ⟨b, off, none⟩) L.length c) L) {k : Nat} (hk : k ≤ L.length) (hc : ¬ c = k) : Dg w (.slice (some ⟨b, off + k * 32, none⟩) (L.length - k) (c - k)) (L.drop k) := by
  refine ⟨?_, fun x hx => h.len x (List.mem_of_mem_drop hx)⟩
  have := h.sl.dropN hk hc 32
  rw [← flat_drop32 L k h.len] at this
  rw [List.length_drop]
  simpa [Addr.add_lit] using this
theorem Dg.lt {w : World} {v : Value} {L : List Bytes} (h : Dg w v L) : ∀ k, vblk v = some k → k < w.heap.size := h.sl.lt

set_option maxHeartbeats 8000000 in
set_option maxRecDepth 100000 in
theorem root_run (n : Nat) : ∀ (L : List Bytes), L.length = n → ∀ (w : World) (p base : Nat) (vl : Value) (F : RowsB), LogAt w p base vl F → base ≤ w.heap.size → F.length + L.length ≤ 900000 → ∀ (v : Value), Dg w v L → (∀ k, vblk v = some k → k ≠ p ∧ vl.ownBlock ≠ some k) →
    Calls Try.prog 19 #[.pointer (some ⟨p, 0, none⟩), v] w fun e w' => e = .returned (.agg (bcs (treeV L).1).toArray) ∧
      ∃ v' F', LogAt w' p base v' F' ∧ F'.map (·.2) = F.map (·.2) ++ (treeV L).2 ∧ Chg (p :: vl.ownBlock.toList) w w' ∧ SameNew w vl v' := by
  induction n using Nat.strongRecOn with
  | ind n ih =>
  intro L hn w p base vl F hF hbase hfl v hv hdis
  have hpw := hF.lt
  have hsb : ∀ j, vl.ownBlock = some j → j < w.heap.size := fun j hj => (hF.rows.1.lt j hj).2
  have hq0 : w.heap.size ∉ p :: vl.ownBlock.toList := by
    intro hm
    rcases List.mem_cons.1 hm with h | h
    · omega
    · have := hsb _ (by simpa using h); omega
  have hHl : (treeV L).1.length = 32 := treeV_len hv.len
  by_cases h2 : 2 ≤ L.length
  · have e := treeV_many h2
    obtain ⟨b, off, c, rfl, hc1, hc2, hbl, _⟩ := hv.at (by omega)
    have k1 := splitV_pos h2
    have k2 := splitV_lt h2
    have k3 := splitV_half h2
    have hLm : L.length ≤ 900000 := by omega
    have d1 := hv.take (k := splitV L.length) (by omega)
    have d2 := hv.drop (k := splitV L.length) (by omega) (by omega)
    have t1 := treeV_len d1.len
    have t2 := treeV_len d2.len
    have n1 : (treeV (L.take (splitV L.length))).2.length ≤ splitV L.length := by
      rw [treeV_count, List.length_take, Nat.min_eq_left (by omega)]
      split <;> omega
    have n2 : (treeV (L.drop (splitV L.length))).2.length ≤ L.length - splitV L.length := by
      rw [treeV_count, List.length_drop]
      split <;> omega
    have i1 := ih (splitV L.length) (by omega) (L.take (splitV L.length)) (by rw [List.length_take]; omega)
    have i2 := ih (L.length - splitV L.length) (by omega) (L.drop (splitV L.length)) (by rw [List.length_drop])
    have kS := fun w => split_ok w L.length ⟨by omega, by omega⟩
    simp only [Int.toNat_natCast] at kS
    have hl1 : (L.take (splitV L.length)).length = splitV L.length := by rw [List.length_take]; omega
    have hl2 : (L.drop (splitV L.length)).length = L.length - splitV L.length := by rw [List.length_drop]
    rw [e] at hHl ⊢
    clear e ih
    dsimp only at hHl ⊢
    generalize L.take (splitV L.length) = L1 at *
    generalize L.drop (splitV L.length) = L2 at *
    generalize splitV L.length = s at *
    generalize treeV L1 = R1 at *
    generalize treeV L2 = R2 at *
    obtain ⟨x1, f1⟩ := R1
    obtain ⟨x2, f2⟩ := R2
    dsimp only at *
    obtain ⟨H, hH⟩ : ∃ H, H = hashV nodeS [x1, x2] := ⟨_, rfl⟩
    rw [← hH] at hHl ⊢
    replace hH := Lib.hid hH
    have hdis' : ∀ k, vblk (.slice (some ⟨b, off, none⟩) s c) = some k → k ≠ p ∧ vl.ownBlock ≠ some k := fun k hk => hdis k (vblk_take _ hk)
    have hbp : b ≠ p ∧ vl.ownBlock ≠ some b := hdis b (vblk_slice.2 ⟨by omega, rfl⟩)
    have hLi : (L.length : Int) ≠ 0 := by omega
    have hLi1 : (L.length : Int) ≠ 1 := by omega
    replace hl1 := Lib.hid hl1
    replace hl2 := Lib.hid hl2
    replace hn := Lib.hid hn
    replace n1 := Lib.hid n1
    replace n2 := Lib.hid n2
    replace k3 := Lib.hid k3
    replace hdis' := Lib.hid hdis'
    replace hsb := Lib.hid hsb
    replace hq0 := Lib.hid hq0
    replace hbp := Lib.hid hbp
    replace i1 := Lib.hid i1
    replace i2 := Lib.hid i2
    clear hdis
    go_enter Try.func19, Try.ntmps19
    go_wp2_with (refine alloc_bytes (by rfl) 32 (by rfl) 32 (by kernel_rfl) ?_; intro w0 h0 g0 s0; replace s0 : Hid _ := s0)
    refine (kS _).mono ?_
    rintro e w0' ⟨rfl, rfl⟩
    go_wp2_with fail
    refine (i1.out w0' p base vl F (hF.tr0 g0) (Nat.le_trans hbase g0.size) (by have := hl1.out; omega) _ (d1.tr0 g0) hdis'.out).mono ?_
    rintro e w1 ⟨rfl, v1, F1, l1, hF1, g1, sn1⟩
    replace h0 := g1.heap h0 hq0.out
    have g01 := chg_new g0 g1
    have sn01 := sn_new g0 sn1
    have hFl : F1.length ≤ F.length + s := by
      have h := congrArg List.length hF1
      simp only [List.length_map, List.length_append] at h
      have := n1.out
      omega
    have hw1 : w.heap.size < w1.heap.size := lt_of_heap h0
    clear g0 g1 sn1 i1 d1 hdis' s0
    go_wp2_with (first
      | (refine alloc_bytes (by rfl) 32 (by rfl) 32 (by kernel_rfl) ?_; intro w2 h2' g2 z2; replace z2 : Hid _ := z2)
      | (refine store_bytes (by rfl) 32 _ _ (by rfl) _ 32 _ (by rfl) x1 (by rfl) _ h2' (by kernel_rfl) t1 (by rw [List.length_replicate]) ?_; intro w3 h3 g3 z3; replace z3 : Hid _ := z3))
    have g13 : Chg [] w1 w3 := g2.tn g3 (Nat.le_refl _)
    have g03 := g01.t0 g13
    have l3 := l1.tr0 g13
    replace h0 := g13.heap h0 (by simp)
    have hp6 : p < w1.heap.size := l1.lt
    have hv6 : ∀ j, v1.ownBlock = some j → j < w1.heap.size := fun j hj => (l1.rows.1.lt j hj).2
    clear l1 hF g01 h2' g2 g3 z2 z3 g13
    generalize w1.heap.size = q6 at *
    replace hv6 := Lib.hid hv6
    go_wp2_with fail
    refine' region_softW (fun _ => p :: v1.ownBlock.toList) (fun m wx => ∃ v' F', LogAt wx p base v' F' ∧ F'.map (·.2) = (if m = 0 then F1.map (·.2) else F1.map (·.2) ++ f2) ∧ SameNew w vl v' ∧ Chg (p :: vl.ownBlock.toList) w wx ∧ wx.heap[q6]? = some (.cells (bcs x1).toArray 32 (0, 0)) ∧ wx.heap[w.heap.size]? = some (.cells (bcs (List.replicate 32 0)).toArray 32 (0, 0)) ∧ (m = 0 → v' = v1 ∧ F' = F1)) 8 [cst (.pointer (some ⟨p, 0, none⟩)), cst (.agg (bcs x1).toArray), cst (.pointer (some ⟨p, 0, none⟩)), cst (.slice (some ⟨b, off, none⟩) L.length c), cst (.int .i64 L.length), cst (.int .i64 s), cst (.slice (some ⟨b, off + s * 32, none⟩) (L.length - s) (c - s)), cst (.agg (bcs x2).toArray)] [false, false, false, false, false, false, false, true] [99, 99, 99, 99, 99, 99, 99, 99] rfl rfl rfl (by kernel_rfl) (by kernel_rfl) (by kernel_rfl) (by kernel_rfl) (by intro j w w' ⟨v', F', y1, y2, y3, y4, y5, y6, y7⟩ g; exact ⟨v', F', y1.tr0 g, y2, y3, y4.t0 g, g.heap y5 (by simp), g.heap y6 (by simp), y7⟩) (⟨v1, F1, l3, rfl, sn01, g03, h3, h0, fun _ => ⟨rfl, rfl⟩⟩) ⟨staysW_cst _ _, ⟨staysW_cst _ _, ⟨staysW_cst _ _, ⟨staysW_cst _ _, ⟨staysW_cst _ _, ⟨staysW_cst _ _, ⟨staysW_cst _ _, ⟨staysW_cstW _ _ _, trivial⟩⟩⟩⟩⟩⟩⟩⟩ _ (fun V => by simp only [putAll, Act.put, List.take_succ_cons, List.take_zero, List.setIfInBounds_toArray, List.set_cons_zero, List.set_cons_succ, Nat.reduceAdd]; exact rfl) ?hs1 ?ht1
    case hs1 =>
      simp only [List.take_succ_cons, List.take_zero, softsW]
      refine ⟨?_, ?_, ?_, ?_, ?_, ?_, ?_, ?_, trivial⟩
      · intro V wx hi hd
        simp [phi, Region.binds, cst] at hd
        try simp only [hd]
        first
          | (refine soft_const rfl ?_; go_simp; done)
          | (refine soft_const rfl ?_; go_simp; exact rfl)
          | (exact soft_load rfl (Chg.refl [] _) _ _ rfl _ _ rfl _ _ (show wx.rangeAt q6 0 (bcs x1) from by obtain ⟨j, _, hi⟩ := hi; obtain ⟨v', F', y1, y2, y3, y4, y5, y6, y7⟩ := hi; have := ra_block y5; simpa using this) Try.underlying32 rfl (by rw [bcs_length, t1]; kernel_rfl))
          | (exact soft_skip rfl)
      · intro V wx hi hd
        simp [phi, Region.binds, cst] at hd
        try simp only [hd]
        first
          | (refine soft_const rfl ?_; go_simp; done)
          | (refine soft_const rfl ?_; go_simp; exact rfl)
          | (exact soft_load rfl (Chg.refl [] _) _ _ rfl _ _ rfl _ _ (show wx.rangeAt q6 0 (bcs x1) from by obtain ⟨j, _, hi⟩ := hi; obtain ⟨v', F', y1, y2, y3, y4, y5, y6, y7⟩ := hi; have := ra_block y5; simpa using this) Try.underlying32 rfl (by rw [bcs_length, t1]; kernel_rfl))
          | (exact soft_skip rfl)
      · intro V wx hi hd
        simp [phi, Region.binds, cst] at hd
        try simp only [hd]
        first
          | (refine soft_const rfl ?_; go_simp; done)
          | (refine soft_const rfl ?_; go_simp; exact rfl)
          | (exact soft_load rfl (Chg.refl [] _) _ _ rfl _ _ rfl _ _ (show wx.rangeAt q6 0 (bcs x1) from by obtain ⟨j, _, hi⟩ := hi; obtain ⟨v', F', y1, y2, y3, y4, y5, y6, y7⟩ := hi; have := ra_block y5; simpa using this) Try.underlying32 rfl (by rw [bcs_length, t1]; kernel_rfl))
          | (exact soft_skip rfl)
      · intro V wx hi hd
        simp [phi, Region.binds, cst] at hd
        try simp only [hd]
        first
          | (refine soft_const rfl ?_; go_simp; done)
          | (refine soft_const rfl ?_; go_simp; exact rfl)
          | (exact soft_load rfl (Chg.refl [] _) _ _ rfl _ _ rfl _ _ (show wx.rangeAt q6 0 (bcs x1) from by obtain ⟨j, _, hi⟩ := hi; obtain ⟨v', F', y1, y2, y3, y4, y5, y6, y7⟩ := hi; have := ra_block y5; simpa using this) Try.underlying32 rfl (by rw [bcs_length, t1]; kernel_rfl))
          | (exact soft_skip rfl)
      · intro V wx hi hd
        simp [phi, Region.binds, cst] at hd
        try simp only [hd]
        first
          | (refine soft_const rfl ?_; go_simp; done)
          | (refine soft_const rfl ?_; go_simp; exact rfl)
          | (exact soft_load rfl (Chg.refl [] _) _ _ rfl _ _ rfl _ _ (show wx.rangeAt q6 0 (bcs x1) from by obtain ⟨j, _, hi⟩ := hi; obtain ⟨v', F', y1, y2, y3, y4, y5, y6, y7⟩ := hi; have := ra_block y5; simpa using this) Try.underlying32 rfl (by rw [bcs_length, t1]; kernel_rfl))
          | (exact soft_skip rfl)
      · intro V wx hi hd
        simp [phi, Region.binds, cst] at hd
        try simp only [hd]
        refine soft_callC rfl _ _ (by go_simp; try exact ⟨rfl, rfl⟩) ((kS wx).mono fun e w' ⟨h1, h2⟩ => ⟨h1, h2 ▸ Chg.refl [] _⟩)
      · intro V wx hi hd
        simp [phi, Region.binds, cst] at hd
        try simp only [hd]
        refine soft_const rfl ?_
        go_simp
        rw [if_pos (by omega), if_neg (by omega)]
      · intro V wx hi hd
        simp [phi, Region.binds, cst] at hd
        try simp only [hd]
        obtain ⟨v', F', y1, y2, y3, y4, y5, y6, y7⟩ := hi
        obtain ⟨rfl, rfl⟩ := y7 (by first | rfl | trivial)
        have hbp := hbp.out
        have hbn : b ∉ p :: vl.ownBlock.toList := by
          intro hm
          rcases List.mem_cons.1 hm with h | h
          · exact hbp.1 h
          · exact hbp.2 (by simpa using h)
        have hd2 : Dg wx (.slice (some ⟨b, off + s * 32, none⟩) (L.length - s) (c - s)) L2 := d2.tr y4 (fun k hk => by
          obtain ⟨_, hk2⟩ := vblk_slice.1 hk
          simp at hk2
          rw [← hk2]; exact hbn)
        have key := i2.out wx p base v' F' y1 (Nat.le_trans hbase y4.size) (by have := hl2.out; omega) _ hd2 (fun k hk => by
          obtain ⟨_, hk2⟩ := vblk_slice.1 hk
          simp at hk2
          subst hk2
          exact ⟨hbp.1, y3.ne hbl hbp.2⟩)
        refine wstep_call rfl _ _ (by go_simp; try exact ⟨rfl, rfl⟩) (key.mono ?_)
        rintro e w' ⟨rfl, v4, F4, l4, hF4, g4, sn4⟩
        have hb4 : ∀ j, j = q6 ∨ j = w.heap.size → j ∉ p :: v'.ownBlock.toList := by
          intro j hj hm
          rcases List.mem_cons.1 hm with h | h
          · omega
          · have h : v'.ownBlock = some j := by simpa using h
            rcases hj with rfl | rfl
            · exact ownB_not y1.rows.1 y5 (by decide) h
            · exact ownB_not y1.rows.1 y6 (by decide) h
        exact ⟨_, rfl, g4, ⟨v4, F4, l4, by rw [hF4, y2]; rfl, y3.trans sn4 y4.size, chg_log y4 y3 g4, g4.heap y5 (hb4 _ (.inl rfl)), g4.heap y6 (hb4 _ (.inr rfl)), fun h => absurd h (by decide)⟩, rfl⟩
    intro V w4 hi hk
    obtain ⟨v4, F4, y1, y2, y3, y4, y5, y6, y7⟩ := hi
    rw [if_neg (by decide)] at y2
    have h0 := hk 0 (by decide)
    have h1 := hk 1 (by decide)
    have h7 := hk 7 (by decide)
    simp [phi, cst] at h0 h1 h7
    simp only [h0, h1, h7, List.drop_succ_cons, List.drop_zero]
    have hFl4 : F4.length ≤ 990000 := by
      have h := congrArg List.length y2
      simp only [List.length_map, List.length_append] at h
      have := n2.out
      omega
    have kN := node_run w4 p base v4 F4 y1 (Nat.le_trans hbase y4.size) (by omega) x1 x2 t1 t2
    rw [← hH.out] at kN
    have hb6 : w.heap.size ∉ p :: v4.ownBlock.toList := by
      intro hm
      rcases List.mem_cons.1 hm with h | h
      · omega
      · exact ownB_not y1.rows.1 y6 (by decide) (by simpa using h)
    clear hk h0 h1 h7 h3 l3 g03 i2 d2
    go_wp2_with fail
    refine kN.mono ?_
    rintro e w5 ⟨rfl, v5, F5, l5, hF5, g5, sn5⟩
    replace y6 := g5.heap y6 hb6
    have g05 := chg_log y4 y3 g5
    have sn05 := y3.trans sn5 y4.size
    have hF5' : F5.map (·.2) = F.map (·.2) ++ (f1 ++ f2 ++ [frameB nodeS [x1, x2]]) := by rw [hF5, y2, hF1]; simp
    clear kN hF5 y2 hF1 g5 y3 sn5 y1 y4 y5 y7
    replace hF5' := Lib.hid hF5'
    go_wp2_with (refine store_bytes (by rfl) 32 _ _ (by rfl) w.heap.size 32 _ rfl H (by rfl) (List.replicate 32 0) y6 (by kernel_rfl) hHl (by simp) ?_; intro w6 h6 g6 z6)
    have hL6 : LogAt w6 p base v5 F5 := ⟨g6.heap l5.cell (by simp; omega), l5.rows.trT g6 y6 (by decide) (by decide)⟩
    have g06 := g05.tn g6 (Nat.le_refl _)
    go_wp2
    exact ret_bytes 4 32 (by rfl) 32 5 Try.underlying32 (by kernel_rfl) (by rfl) _ rfl H _ h6 hHl ⟨rfl, v5, F5, hL6, hF5'.out, g06, sn05⟩
  · match L, h2, hv, hHl with
    | [], _, hv, hHl =>
      obtain ⟨a0, c0, rfl⟩ := hv.sl.shape
      clear ih
      rw [treeV_nil] at hHl ⊢
      dsimp only at hHl ⊢
      have kN : ∀ wx, Chg [] w wx → Calls Try.prog 36 #[.pointer (some ⟨p, 0, none⟩), .string { data := #[110, 111, 110, 101] }, .slice none 0 0] wx fun e w' => e = .returned (.agg (bcs (hashV noneS [])).toArray) ∧ ∃ v' F', LogAt w' p base v' F' ∧ F'.map (·.2) = F.map (·.2) ++ [frameB noneS []] ∧ Chg (p :: vl.ownBlock.toList) wx w' ∧ SameNew wx vl v' := fun wx g => by
        have k := loghash_ok wx p base vl F (hF.tr0 g) (Nat.le_trans hbase g.size) (by omega) noneS _ [] (SlB.nil wx) (by simp [noneS, maxLen]) (by simp [maxLen]) (by simp [sumL])
        rw [List.map_nil, log_none] at k
        exact k
      generalize hashV noneS [] = H at *
      generalize frameB noneS [] = fN at *
      replace hsb := Lib.hid hsb
      replace hq0 := Lib.hid hq0
      clear hdis hv hfl hn
      go_enter Try.func19, Try.ntmps19
      go_wp2_with (refine alloc_bytes (by rfl) 32 (by rfl) 32 (by kernel_rfl) ?_; intro w0 h0 g0 s0; replace s0 : Hid _ := s0)
      refine (kN w0 g0).mono ?_
      rintro e w5 ⟨rfl, v5, F5, l5, hF5, g5, sn5⟩
      replace h0 := g5.heap h0 hq0.out
      have g05 := chg_new g0 g5
      have sn05 := sn_new g0 sn5
      clear kN g5 sn5 g0
      replace hF5 := Lib.hid hF5
      go_wp2_with (refine store_bytes (by rfl) 32 _ _ (by rfl) w.heap.size 32 _ rfl H (by rfl) (List.replicate 32 0) h0 (by kernel_rfl) hHl (by simp) ?_; intro w6 h6 g6 z6)
      have hL6 : LogAt w6 p base v5 F5 := ⟨g6.heap l5.cell (by simp; omega), l5.rows.trT g6 h0 (by decide) (by decide)⟩
      have g06 := g05.tn g6 (Nat.le_refl _)
      go_wp2
      exact ret_bytes 4 32 (by rfl) 32 5 Try.underlying32 (by kernel_rfl) (by rfl) _ rfl H _ h6 hHl ⟨rfl, v5, F5, hL6, hF5.out, g06, sn05⟩
    | [a], _, hv, hHl =>
      obtain ⟨b, off, c, rfl, hc1, hc2, hbl, hr⟩ := hv.at (by simp)
      have hr0 := hr 0 (by simp)
      clear ih hr
      rw [treeV_one] at hHl ⊢
      dsimp only at hHl ⊢
      simp only [List.length_cons, List.length_nil, Nat.zero_add, Nat.zero_mul, Nat.add_zero, List.getElem_cons_zero] at *
      replace hsb := Lib.hid hsb
      replace hq0 := Lib.hid hq0
      clear hdis hv hfl hn
      go_enter Try.func19, Try.ntmps19
      go_wp2_with (first
        | (refine alloc_bytes (by rfl) 32 (by rfl) 32 (by kernel_rfl) ?_; intro w0 h0 g0 s0; replace s0 : Hid _ := s0; have hr1 := g0.range hr0 (by simp); replace hr1 := Lib.hid hr1)
        | (refine load_ra (by rfl) 32 (.tmp 32) (by rfl) b off (by rfl) (bcs a) _ hr1.out Try.underlying32 (by rfl) (by rw [bcs_length, hHl]; kernel_rfl) ?_)
        | (refine store_bytes (by rfl) 32 _ _ (by rfl) w.heap.size 32 _ (by rfl) a (by rfl) (List.replicate 32 0) h0 (by kernel_rfl) hHl (by simp) ?_; intro w6 h6 g6 z6))
      have g06 := g0.tn g6 (Nat.le_refl _)
      go_wp2
      exact ret_bytes 4 32 (by rfl) 32 5 Try.underlying32 (by kernel_rfl) (by rfl) _ rfl a _ h6 hHl ⟨rfl, vl, F, hF.tr0 g06, by simp, g06.of0, SameNew.refl _ _⟩
    | _ :: _ :: _, h2, _, _ => simp at h2
set_option maxHeartbeats 4000000 in
set_option maxRecDepth 100000 in
/-- The root of one is that one; nothing is logged. -/
theorem root1_run (w : World) (pv v : Value) (a : Bytes) (hv : Dg w v [a]) :
    Calls Try.prog 19 #[pv, v] w fun e w' => e = .returned (.agg (bcs a).toArray) ∧ Chg [] w w' := by
  have hHl : a.length = 32 := hv.len a (List.mem_cons_self ..)
  obtain ⟨b, off, c, rfl, hc1, hc2, hbl, hr⟩ := hv.at (by simp)
  have hr0 := hr 0 (by simp)
  clear hr
  simp only [List.length_cons, List.length_nil, Nat.zero_add, Nat.zero_mul, Nat.add_zero, List.getElem_cons_zero] at *
  go_enter Try.func19, Try.ntmps19
  go_wp2_with (first
    | (refine alloc_bytes (by rfl) 32 (by rfl) 32 (by kernel_rfl) ?_; intro w0 h0 g0 s0; replace s0 : Hid _ := s0; have hr1 := g0.range hr0 (by simp); replace hr1 := Lib.hid hr1)
    | (refine load_ra (by rfl) 32 (.tmp 32) (by rfl) b off (by rfl) (bcs a) _ hr1.out Try.underlying32 (by rfl) (by rw [bcs_length, hHl]; kernel_rfl) ?_)
    | (refine store_bytes (by rfl) 32 _ _ (by rfl) w.heap.size 32 _ (by rfl) a (by rfl) (List.replicate 32 0) h0 (by kernel_rfl) hHl (by simp) ?_; intro w6 h6 g6 z6))
  have g06 := g0.tn g6 (Nat.le_refl _)
  go_wp2
  exact ret_bytes 4 32 (by rfl) 32 5 Try.underlying32 (by kernel_rfl) (by rfl) _ rfl a _ h6 hHl ⟨rfl, g06⟩
end Go.Proofs.Ytgepfmofignmfaa
