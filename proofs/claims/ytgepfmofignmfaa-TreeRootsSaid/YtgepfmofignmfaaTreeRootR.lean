/-
  The document's own roots (hypostyleref21).
-/
import Derived.Test.YtgepfmofignmfaaTreeRef
namespace Go.Proofs.Ytgepfmofignmfaa
set_option linter.unusedSimpArgs false
set_option linter.unusedVariables false
open Go.RowKit

set_option maxHeartbeats 8000000 in
set_option maxRecDepth 100000 in
theorem rroot_run (n : Nat) : ∀ (L : List Bytes), L.length = n → ∀ (w : World) (p base : Nat) (vl : Value) (F : RowsB), LogR w p base vl F → base ≤ w.heap.size → F.length + L.length ≤ 900000 → ∀ (v : Value), Dg w v L → (∀ k, vblk v = some k → k ≠ p ∧ vl.ownBlock ≠ some k) →
    Calls Try.prog 20 #[.pointer (some ⟨p, 0, none⟩), v] w fun e w' => e = .returned (.agg (bcs (treeV L).1).toArray) ∧
      ∃ v' F', LogR w' p base v' F' ∧ F'.map (·.2) = F.map (·.2) ++ (treeV L).2 ∧ Chg (p :: vl.ownBlock.toList) w w' ∧ SameNew w vl v' := by
  induction n using Nat.strongRecOn with
  | ind n ih =>
  intro L hn w p base vl F hF hbase hfl v hv hdis
  have hpw := hF.lt
  have hsb : ∀ j, vl.ownBlock = some j → j < w.heap.size := fun j hj => (hF.rows.1.lt j hj).2
  have hq0 : w.heap.size ∉ p :: vl.ownBlock.toList := by
    intro hm
    rcases List.mem_cons.1 hm with h | h
    · omega
    · have := hsb _ (by simpa using h); omega
  have hHl : (treeV L).1.length = 32 := treeV_len hv.len
  by_cases h2 : 2 ≤ L.length
  · have e := treeV_many h2
    obtain ⟨b, off, c, rfl, hc1, hc2, hbl, _⟩ := hv.at (by omega)
    have k1 := splitV_pos h2
    have k2 := splitV_lt h2
    have k3 := splitV_half h2
    have hLm : L.length ≤ 900000 := by omega
    have d1 := hv.take (k := splitV L.length) (by omega)
    have d2 := hv.drop (k := splitV L.length) (by omega) (by omega)
    have t1 := treeV_len d1.len
    have t2 := treeV_len d2.len
    have n1 : (treeV (L.take (splitV L.length))).2.length ≤ splitV L.length := by
      rw [treeV_count, List.length_take, Nat.min_eq_left (by omega)]
      split <;> omega
    have n2 : (treeV (L.drop (splitV L.length))).2.length ≤ L.length - splitV L.length := by
      rw [treeV_count, List.length_drop]
      split <;> omega
    have i1 := ih (splitV L.length) (by omega) (L.take (splitV L.length)) (by rw [List.length_take]; omega)
    have i2 := ih (L.length - splitV L.length) (by omega) (L.drop (splitV L.length)) (by rw [List.length_drop])
    have kS := fun w => rsplit_ok w L.length ⟨by omega, by omega⟩
    simp only [Int.toNat_natCast] at kS
    have hl1 : (L.take (splitV L.length)).length = splitV L.length := by rw [List.length_take]; omega
    have hl2 : (L.drop (splitV L.length)).length = L.length - splitV L.length := by rw [List.length_drop]
    rw [e] at hHl ⊢
    clear e ih
    dsimp only at hHl ⊢
    generalize L.take (splitV L.length) = L1 at *
    generalize L.drop (splitV L.length) = L2 at *
    generalize splitV L.length = s at *
    generalize treeV L1 = R1 at *
    generalize treeV L2 = R2 at *
    obtain ⟨x1, f1⟩ := R1
    obtain ⟨x2, f2⟩ := R2
    dsimp only at *
    obtain ⟨H, hH⟩ : ∃ H, H = hashV nodeS [x1, x2] := ⟨_, rfl⟩
    rw [← hH] at hHl ⊢
    replace hH := Lib.hid hH
    have hdis' : ∀ k, vblk (.slice (some ⟨b, off, none⟩) s c) = some k → k ≠ p ∧ vl.ownBlock ≠ some k := fun k hk => hdis k (vblk_take _ hk)
    have hbp : b ≠ p ∧ vl.ownBlock ≠ some b := hdis b (vblk_slice.2 ⟨by omega, rfl⟩)
    have hLi : (L.length : Int) ≠ 0 := by omega
    have hLi1 : (L.length : Int) ≠ 1 := by omega
    replace hl1 := Lib.hid hl1
    replace hl2 := Lib.hid hl2
    replace hn := Lib.hid hn
    replace n1 := Lib.hid n1
    replace n2 := Lib.hid n2
    replace k3 := Lib.hid k3
    replace hdis' := Lib.hid hdis'
    replace hsb := Lib.hid hsb
    replace hq0 := Lib.hid hq0
    replace hbp := Lib.hid hbp
    replace i1 := Lib.hid i1
    replace i2 := Lib.hid i2
    clear hdis
    go_enter Try.func20, Try.ntmps20
    go_wp2_with (refine alloc_bytes (by rfl) 32 (by rfl) 32 (by kernel_rfl) ?_; intro w0 h0 g0 s0; replace s0 : Hid _ := s0)
    refine (kS _).mono ?_
    rintro e w0' ⟨rfl, rfl⟩
    go_wp2_with fail
    refine (i1.out w0' p base vl F (hF.tr0 g0) (Nat.le_trans hbase g0.size) (by have := hl1.out; omega) _ (d1.tr0 g0) hdis'.out).mono ?_
    rintro e w1 ⟨rfl, v1, F1, l1, hF1, g1, sn1⟩
    replace h0 := g1.heap h0 hq0.out
    have g01 := chg_new g0 g1
    have sn01 := sn_new g0 sn1
    have hFl : F1.length ≤ F.length + s := by
      have h := congrArg List.length hF1
      simp only [List.length_map, List.length_append] at h
      have := n1.out
      omega
    have hw1 : w.heap.size < w1.heap.size := lt_of_heap h0
    clear g0 g1 sn1 i1 d1 hdis' s0
    go_wp2_with (first
      | (refine alloc_bytes (by rfl) 32 (by rfl) 32 (by kernel_rfl) ?_; intro w2 h2' g2 z2; replace z2 : Hid _ := z2)
      | (refine store_bytes (by rfl) 32 _ _ (by rfl) _ 32 _ (by rfl) x1 (by rfl) _ h2' (by kernel_rfl) t1 (by rw [List.length_replicate]) ?_; intro w3 h3 g3 z3; replace z3 : Hid _ := z3))
    have g13 : Chg [] w1 w3 := g2.tn g3 (Nat.le_refl _)
    have g03 := g01.t0 g13
    have l3 := l1.tr0 g13
    replace h0 := g13.heap h0 (by simp)
    have hp6 : p < w1.heap.size := l1.lt
    clear l1 hF g01 h2' g2 g3 z2 z3 g13
    generalize w1.heap.size = q6 at *
    have hbp := hbp.out
    have hbn : b ∉ p :: vl.ownBlock.toList := by
      intro hm
      rcases List.mem_cons.1 hm with h | h
      · exact hbp.1 h
      · exact hbp.2 (by simpa using h)
    have hd2 : Dg w3 (.slice (some ⟨b, off + s * 32, none⟩) (L.length - s) (c - s)) L2 := d2.tr g03 (fun k hk => by
      obtain ⟨_, hk2⟩ := vblk_slice.1 hk
      simp at hk2
      rw [← hk2]; exact hbn)
    have key := i2.out w3 p base v1 F1 l3 (Nat.le_trans hbase g03.size) (by have := hl2.out; omega) _ hd2 (fun k hk => by
      obtain ⟨_, hk2⟩ := vblk_slice.1 hk
      simp at hk2
      subst hk2
      exact ⟨hbp.1, sn01.ne hbl hbp.2⟩)
    clear i2 hd2 d2
    replace hbp := Lib.hid hbp
    replace hbn := Lib.hid hbn
    have hcs : ¬ c = s := by omega
    have ht : (s : Int) ≤ L.length := by omega
    go_wp2_with fail
    refine key.mono ?_
    rintro e w4 ⟨rfl, v4, F4, y1, y2, g4, sn4⟩
    have hb4 : ∀ j, j = q6 ∨ j = w.heap.size → j ∉ p :: v1.ownBlock.toList := by
      intro j hj hm
      rcases List.mem_cons.1 hm with h | h
      · omega
      · have h : v1.ownBlock = some j := by simpa using h
        rcases hj with rfl | rfl
        · exact ownB_not l3.rows.1 h3 (by decide) h
        · exact ownB_not l3.rows.1 h0 (by decide) h
    have y3 := sn01.trans sn4 g03.size
    have y4 := chg_log g03 sn01 g4
    have y5 := g4.heap h3 (hb4 _ (.inl rfl))
    have y6 := g4.heap h0 (hb4 _ (.inr rfl))
    clear g4 sn4 key h3 h0 l3 g03 sn01 hb4
    go_wp2_with (first
      | (refine alloc_bytes (by rfl) 32 (by rfl) 32 (by kernel_rfl) ?_; intro w5 h5 g5 z5; replace z5 : Hid _ := z5)
      | (refine store_bytes (by rfl) 32 (.tmp 7) (.tmp 31) (by rfl) _ 32 _ (by rfl) x2 (by rfl) _ h5 (by kernel_rfl) t2 (by rw [List.length_replicate]) ?_; intro w7 h7 g7 z7; replace z7 : Hid _ := z7; have g57 : Chg [] w4 w7 := g5.tn g7 (Nat.le_refl _); have u6 := g57.heap y5 (by simp); have u7 := g57.heap y6 (by simp); replace y5 := Lib.hid y5)
      | (refine load_ra (by rfl) 32 (.tmp 6) (by rfl) q6 0 (by rfl) (bcs x1) _ (by simpa using ra_block u6) Try.underlying32 (by rfl) (by rw [bcs_length, t1]; kernel_rfl) ?_)
      | (refine load_ra (by rfl) 32 (.tmp 7) (by rfl) w4.heap.size 0 (by rfl) (bcs x2) _ (by simpa using ra_block h7) Try.underlying32 (by rfl) (by rw [bcs_length, t2]; kernel_rfl) ?_))
    have l7 := y1.tr0 g57
    have y4 := y4.t0 g57
    have hFl4 : F4.length ≤ 990000 := by
      have h := congrArg List.length y2
      simp only [List.length_map, List.length_append] at h
      have := n2.out
      omega
    have kN := rnode_run w7 p base v4 F4 l7 (Nat.le_trans hbase y4.size) (by omega) x1 x2 t1 t2
    rw [← hH.out] at kN
    have hb6 : w.heap.size ∉ p :: v4.ownBlock.toList := by
      intro hm
      rcases List.mem_cons.1 hm with h | h
      · omega
      · exact ownB_not l7.rows.1 u7 (by decide) (by simpa using h)
    clear y1 y5 y6 h5 g5 h7 g7 z7 z5 g57 u6
    refine kN.mono ?_
    rintro e w5 ⟨rfl, v5, F5, l5, hF5, g5, sn5⟩
    replace u7 := g5.heap u7 hb6
    have g05 := chg_log y4 y3 g5
    have sn05 := y3.trans sn5 y4.size
    have hF5' : F5.map (·.2) = F.map (·.2) ++ (f1 ++ f2 ++ [frameB nodeS [x1, x2]]) := by rw [hF5, y2, hF1]; simp
    clear kN hF5 y2 hF1 g5 y3 sn5 y4
    replace hF5' := Lib.hid hF5'
    go_wp2_with (refine store_bytes (by rfl) 32 _ _ (by rfl) w.heap.size 32 _ rfl H (by rfl) (List.replicate 32 0) u7 (by kernel_rfl) hHl (by simp) ?_; intro w6 h6 g6 z6)
    have hL6 : LogR w6 p base v5 F5 := ⟨g6.heap l5.cell (by simp; omega), l5.rows.trT g6 u7 (by decide) (by decide)⟩
    have g06 := g05.tn g6 (Nat.le_refl _)
    go_wp2
    exact ret_bytes 4 32 (by rfl) 32 5 Try.underlying32 (by kernel_rfl) (by rfl) _ rfl H _ h6 hHl ⟨rfl, v5, F5, hL6, hF5'.out, g06, sn05⟩
  · match L, h2, hv, hHl with
    | [], _, hv, hHl =>
      obtain ⟨a0, c0, rfl⟩ := hv.sl.shape
      clear ih
      rw [treeV_nil] at hHl ⊢
      dsimp only at hHl ⊢
      have kN : ∀ wx, Chg [] w wx → Calls Try.prog 38 #[.pointer (some ⟨p, 0, none⟩), .string { data := #[110, 111, 110, 101] }, .slice none 0 0] wx fun e w' => e = .returned (.agg (bcs (hashV noneS [])).toArray) ∧ ∃ v' F', LogR w' p base v' F' ∧ F'.map (·.2) = F.map (·.2) ++ [frameB noneS []] ∧ Chg (p :: vl.ownBlock.toList) wx w' ∧ SameNew wx vl v' := fun wx g => by
        have k := rloghash_ok wx p base vl F (hF.tr0 g) (Nat.le_trans hbase g.size) (by omega) noneS _ [] (SlB.nil wx) (by simp [noneS, maxLen]) (by simp [maxLen]) (by simp [sumL]) (fun k hk => by rcases hk with hk | ⟨x, hx, _⟩ <;> simp [vblk] at *)
        rw [List.map_nil, log_none] at k
        exact k
      generalize hashV noneS [] = H at *
      generalize frameB noneS [] = fN at *
      replace hsb := Lib.hid hsb
      replace hq0 := Lib.hid hq0
      clear hdis hv hfl hn
      go_enter Try.func20, Try.ntmps20
      go_wp2_with (refine alloc_bytes (by rfl) 32 (by rfl) 32 (by kernel_rfl) ?_; intro w0 h0 g0 s0; replace s0 : Hid _ := s0)
      refine (kN w0 g0).mono ?_
      rintro e w5 ⟨rfl, v5, F5, l5, hF5, g5, sn5⟩
      replace h0 := g5.heap h0 hq0.out
      have g05 := chg_new g0 g5
      have sn05 := sn_new g0 sn5
      clear kN g5 sn5 g0
      replace hF5 := Lib.hid hF5
      go_wp2_with (refine store_bytes (by rfl) 32 _ _ (by rfl) w.heap.size 32 _ rfl H (by rfl) (List.replicate 32 0) h0 (by kernel_rfl) hHl (by simp) ?_; intro w6 h6 g6 z6)
      have hL6 : LogR w6 p base v5 F5 := ⟨g6.heap l5.cell (by simp; omega), l5.rows.trT g6 h0 (by decide) (by decide)⟩
      have g06 := g05.tn g6 (Nat.le_refl _)
      go_wp2
      exact ret_bytes 4 32 (by rfl) 32 5 Try.underlying32 (by kernel_rfl) (by rfl) _ rfl H _ h6 hHl ⟨rfl, v5, F5, hL6, hF5.out, g06, sn05⟩
    | [a], _, hv, hHl =>
      obtain ⟨b, off, c, rfl, hc1, hc2, hbl, hr⟩ := hv.at (by simp)
      have hr0 := hr 0 (by simp)
      clear ih hr
      rw [treeV_one] at hHl ⊢
      dsimp only at hHl ⊢
      simp only [List.length_cons, List.length_nil, Nat.zero_add, Nat.zero_mul, Nat.add_zero, List.getElem_cons_zero] at *
      replace hsb := Lib.hid hsb
      replace hq0 := Lib.hid hq0
      clear hdis hv hfl hn
      go_enter Try.func20, Try.ntmps20
      go_wp2_with (first
        | (refine alloc_bytes (by rfl) 32 (by rfl) 32 (by kernel_rfl) ?_; intro w0 h0 g0 s0; replace s0 : Hid _ := s0; have hr1 := g0.range hr0 (by simp); replace hr1 := Lib.hid hr1)
        | (refine load_ra (by rfl) 32 (.tmp 17) (by rfl) b off (by rfl) (bcs a) _ hr1.out Try.underlying32 (by rfl) (by rw [bcs_length, hHl]; kernel_rfl) ?_)
        | (refine store_bytes (by rfl) 32 _ _ (by rfl) w.heap.size 32 _ (by rfl) a (by rfl) (List.replicate 32 0) h0 (by kernel_rfl) hHl (by simp) ?_; intro w6 h6 g6 z6))
      have g06 := g0.tn g6 (Nat.le_refl _)
      go_wp2
      exact ret_bytes 4 32 (by rfl) 32 5 Try.underlying32 (by kernel_rfl) (by rfl) _ rfl a _ h6 hHl ⟨rfl, vl, F, hF.tr0 g06, by simp, g06.of0, SameNew.refl _ _⟩
    | _ :: _ :: _, h2, _, _ => simp at h2
end Go.Proofs.Ytgepfmofignmfaa
