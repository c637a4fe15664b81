/-
  The law's own .small (hypostylelaw21).
-/
import Derived.Test.YtgepfmofignmfaaTreeS0
import Derived.Test.YtgepfmofignmfaaSoftK
namespace Go.Proofs.Ytgepfmofignmfaa
set_option linter.unusedSimpArgs false
set_option linter.unusedVariables false
open Go.RowKit

set_option maxHeartbeats 8000000 in
set_option maxRecDepth 100000 in
theorem small21_ok (w : World) : Calls Try.prog 13 #[] w fun e w' => e = .returned (.bool true) ∧ Chg [] w w' := by
  go_enter Try.func13, Try.ntmps13
  go_wp2_with fail
  refine (lognew_ok w w.heap.size).mono ?_
  rintro e w1 ⟨rfl, l1, g1⟩
  have z1 : w.heap.size < w1.heap.size := l1.lt
  have c1 : Chg [] w w1 := g1
  clear g1
  generalize hp : w.heap.size = p at *
  replace hp := Lib.hid hp
  obtain ⟨m2, hm2, k2⟩ := run_mark (P := Try.prog) w1.heap.size (w1.alloc (.cells #[.int .u8 120] 5)) 22 5 w1.heap.size 1 1 (Nat.le_refl _) Try.underlying22 Try.underlying5
  have s2 := (Sl.byte1 w1 5 120 120 rfl).keep k2
  have g2 : Chg [] w1 m2 := ((Keep.of (Chg.alloc [] w1 _) (Nat.le_refl _)).trans k2).chg
  go_wp2_with fail
  clear hm2 k2
  have c2 := c1.t0 g2
  refine (leaf_run m2 p p _ [] (l1.tr0 g2) (by have := g2.size; omega) (by simp) pageS (by simp [pageS, maxLen]) 0 2 _ [120] s2 (by simp)).mono ?_
  rintro e w3 ⟨rfl, v3, F3, l3, hF3, g3, sn3⟩
  have c3 := (l1.tr0 g2).chg c2 (by have := hp.out; omega) (by have := hp.out; omega) g3
  have hF3l : F3.length = 1 := by have := congrArg List.length hF3; simpa [logB, pok_a] using this
  have hS3 : Short (F3.map (·.2)) := by rw [hF3]; exact Short.app Short.nil (Short.leaf (by decide) (by decide))
  have hdA : (hashV pageS (leafP 0 2 [120])).length = 32 := hashV_len _ _
  have hdB : (hashV pageS (leafP 1 2 [])).length = 32 := hashV_len _ _
  have hne := page_ne
  obtain ⟨dA, hA⟩ : ∃ d, d = hashV pageS (leafP 0 2 [120]) := ⟨_, rfl⟩
  obtain ⟨dB, hB⟩ : ∃ d, d = hashV pageS (leafP 1 2 []) := ⟨_, rfl⟩
  rw [← hA] at hdA hne ⊢
  rw [← hB] at hdB hne
  replace hA := Lib.hid hA
  replace hB := Lib.hid hB
  replace hF3 := Lib.hid hF3
  replace hS3 := Lib.hid hS3
  clear l1 g2 g3 sn3 c2 s2 z1 c1
  have z3 : p < w3.heap.size := l3.lt
  go_wp2_with (first
    | (refine alloc_bytes (by rfl) 32 (by rfl) 32 (by kernel_rfl) ?_; intro w4 h4 g4 z4; replace z4 : Hid _ := z4)
    | (refine store_bytes (by rfl) 32 (.tmp 2) (.tmp 13) (by rfl) _ 32 _ (by rfl) dA (by rfl) _ h4 (by kernel_rfl) hdA (by rw [List.length_replicate]) ?_; intro w5 h5 g5 z5; replace z5 : Hid _ := z5))
  have g35 : Chg [] w3 w5 := g4.tn g5 (Nat.le_refl _)
  have l5 := l3.tr0 g35
  have c5 := c3.t0 g35
  generalize hp2 : w3.heap.size = p2 at *
  clear h4 g4 g5 z4 z5 g35 l3 c3 hp2
  refine (leaf_run w5 p p _ F3 l5 (by have := l5.lt; omega) (by omega) pageS (by simp [pageS, maxLen]) 1 2 _ [] (Sl.nil w5) (by simp)).mono ?_
  rintro e w6 ⟨rfl, v6, F6, l6, hF6, g6, sn6⟩
  have c6 := l5.chg c5 (by have := hp.out; omega) (by have := hp.out; omega) g6
  have h6 := l5.dig g6 (by omega) h5
  have hF6l : F6.length = 2 := by have := congrArg List.length hF6; simpa [logB, pok_b, hF3l] using this
  have hS6 : Short (F6.map (·.2)) := by rw [hF6]; exact hS3.out.app (Short.leaf (by decide) (by decide))
  replace hS6 := Lib.hid hS6
  rw [← hB.out]
  clear hS3 hF6 l5 g6 sn6 c5 h5 hF3 hF3l
  have z6 : p < w6.heap.size := l6.lt
  go_wp2_with (first
    | (refine alloc_bytes (by rfl) 32 (by rfl) 32 (by kernel_rfl) ?_; intro w7 h7 g7 z7; replace z7 : Hid _ := z7)
    | (refine store_bytes (by rfl) 32 (.tmp 3) (.tmp 15) (by rfl) _ 32 _ (by rfl) dB (by rfl) _ h7 (by kernel_rfl) hdB (by rw [List.length_replicate]) ?_; intro w8 h8 g8 z8; replace z8 : Hid _ := z8; have g68 : Chg [] w6 w8 := g7.tn g8 (Nat.le_refl _); have h68 := g68.heap h6 (by simp); replace h6 := Lib.hid h6; replace h7 := Lib.hid h7)
    | (refine load_ra (by rfl) 32 (.tmp 2) (by rfl) p2 0 (by rfl) (bcs dA) _ (by simpa using ra_block h68) Try.underlying32 (by rfl) (by rw [bcs_length, hdA]; kernel_rfl) ?_)
    | (refine load_ra (by rfl) 32 (.tmp 3) (by rfl) _ 0 (by rfl) (bcs dB) _ (by simpa using ra_block h8) Try.underlying32 (by rfl) (by rw [bcs_length, hdB]; kernel_rfl) ?_)
    | (refine wpList_build_digs (by rfl) 23 32 2 _ (by rfl) [dA, dB] rfl (by simp [hdA, hdB]) (by simp) (by simp) (by rw [Array.toList_map]; rfl) Try.underlying23 (by kernel_rfl) (by kernel_rfl) ?_))
  have l8 := l6.tr0 g68
  have c8 := c6.t0 g68
  generalize hp3 : w6.heap.size = p3 at *
  have hpp : p < p3 ∧ p2 < p3 := ⟨by have := l6.lt; omega, by have := lt_of_heap h6.out; omega⟩
  clear h6 h7 g7 g8 z7 z8 g68 l6 c6 hp3 z6
  have dg8 := Dg.lit w8 [dA, dB] (by simp [hdA, hdB]) (by simp) (by simp) 32 2 rfl
  have ga := Chg.alloc [] w8 (.cells ([dA, dB].flatMap bcs).toArray 32)
  simp only [List.flatMap_cons, List.flatMap_nil, List.append_nil] at dg8 ga
  have l9 := l8.tr0 ga
  have c9 := c8.t0 ga
  have hA9 := ga.heap h68 (by simp)
  have hB9 := ga.heap h8 (by simp)
  have hl8 := l8.lt
  clear l8 c8 h68 h8 ga
  have kR := root_run 2 [dA, dB] rfl _ p p v6 F6 l9 (by have := l9.lt; omega) (by simp [hF6l]) _ dg8 (fun k hk => by
    obtain ⟨_, hk2⟩ := vblk_slice.1 hk
    simp at hk2
    subst hk2
    exact ⟨by omega, fun e => by
      obtain ⟨c1, f1, h1⟩ := ownB_type l9.rows.1 _ e
      rw [heap_alloc_new] at h1
      simp at h1⟩)
  rw [tree2] at kR
  dsimp only at kR
  refine kR.mono ?_
  clear kR dg8
  rintro e w10 ⟨rfl, v10, F10, l10, hF10, g10, sn10⟩
  have c10 := l9.chg c9 (by have := hp.out; omega) (by have := hp.out; omega) g10
  have hA10 := l9.dig g10 (by omega) hA9
  have hB10 := l9.dig g10 (by omega) hB9
  have hF10l : F10.length = 3 := by have := congrArg List.length hF10; simpa [hF6l] using this
  have hS10 : Short (F10.map (·.2)) := by rw [hF10]; exact hS6.out.app (Short.one (by rw [node_len hdA hdB]; decide))
  replace hS10 := Lib.hid hS10
  clear hS6
  have hdR : (hashV nodeS [dA, dB]).length = 32 := hashV_len _ _
  obtain ⟨dR, hR⟩ : ∃ d, d = hashV nodeS [dA, dB] := ⟨_, rfl⟩
  rw [← hR] at hdR ⊢
  replace hR := Lib.hid hR
  clear l9 c9 hA9 hB9 g10 sn10 hF10 hF6l
  go_wp2_with (first
    | (refine alloc_bytes (by rfl) 32 (by rfl) 32 (by kernel_rfl) ?_; intro w11 h11 g11 z11; replace z11 : Hid _ := z11)
    | (refine store_bytes (by rfl) 32 (.tmp 4) (.tmp 20) (by rfl) _ 32 _ (by rfl) dR (by rfl) _ h11 (by kernel_rfl) hdR (by rw [List.length_replicate]) ?_; intro w12 h12 g12 z12; replace z12 : Hid _ := z12))
  have g1012 : Chg [] w10 w12 := g11.tn g12 (Nat.le_refl _)
  have l12 := l10.tr0 g1012
  have c12 := c10.t0 g1012
  have hA12 := g1012.heap hA10 (by simp)
  have hB12 := g1012.heap hB10 (by simp)
  have hp4' := l10.lt
  have hp4'' := lt_of_heap hB10
  generalize hp4 : w10.heap.size = p4 at *
  clear l10 c10 hA10 hB10 g1012 h11 g11 g12 z11 z12 hp4
  have kR := root_run 0 [] rfl _ p p v10 F10 l12 (by have := l12.lt; omega) (by simp [hF10l]) _ (Dg.nil _) (fun k hk => by simp [vblk] at hk)
  rw [treeV_nil] at kR
  dsimp only at kR
  refine kR.mono ?_
  clear kR
  rintro e w13 ⟨rfl, v13, F13, l13, hF13, g13, sn13⟩
  have c13 := l12.chg c12 (by have := hp.out; omega) (by have := hp.out; omega) g13
  have hA13 := l12.dig g13 (by omega) hA12
  have hB13 := l12.dig g13 (by omega) hB12
  have hR13 := l12.dig g13 (by omega) h12
  have hF13l : F13.length = 4 := by have := congrArg List.length hF13; simpa [hF10l] using this
  have hS13 : Short (F13.map (·.2)) := by rw [hF13]; exact hS10.out.app (Short.one short_none)
  replace hS13 := Lib.hid hS13
  clear hS10
  have hdZ : (hashV noneS []).length = 32 := hashV_len _ _
  obtain ⟨dZ, hZ⟩ : ∃ d, d = hashV noneS [] := ⟨_, rfl⟩
  rw [← hZ] at hdZ ⊢
  replace hZ := Lib.hid hZ
  clear l12 c12 hA12 hB12 g13 sn13 hF13 hF10l h12
  go_wp2_with (first
    | (refine alloc_bytes (by rfl) 32 (by rfl) 32 (by kernel_rfl) ?_; intro w14 h14 g14 z14; replace z14 : Hid _ := z14)
    | (refine store_bytes (by rfl) 32 (.tmp 5) (.tmp 22) (by rfl) _ 32 _ (by rfl) dZ (by rfl) _ h14 (by kernel_rfl) hdZ (by rw [List.length_replicate]) ?_; intro w15 h15 g15 z15; replace z15 : Hid _ := z15))
  have g1315 : Chg [] w13 w15 := g14.tn g15 (Nat.le_refl _)
  have l15 := l13.tr0 g1315
  have c15 := c13.t0 g1315
  have hA15 := g1315.heap hA13 (by simp)
  have hB15 := g1315.heap hB13 (by simp)
  have hR15 := g1315.heap hR13 (by simp)
  generalize hp5 : w13.heap.size = p5 at *
  clear l13 c13 hA13 hB13 hR13 g1315 h14 g14 g15 z14 z15 hp5
  refine (frames_ok w15 p p v13 F13 l15 (by omega) hS13.out.rows).mono ?_
  rintro e w16 ⟨v16, rfl, D16, o16, hD16, g16⟩
  have hl16 : D16.length = 4 := by have := congrArg List.length hD16; simpa [hF13l] using this
  obtain ⟨a16, q16, rfl⟩ := o16.shape
  rw [hl16]
  have c16 := c15.t0 g16
  have rA : w16.rangeAt p2 0 (bcs dA) := by simpa using ra_block (g16.heap hA15 (by simp))
  have rB : w16.rangeAt p3 0 (bcs dB) := by simpa using ra_block (g16.heap hB15 (by simp))
  have rR : w16.rangeAt p4 0 (bcs dR) := by simpa using ra_block (g16.heap hR15 (by simp))
  have rZ : w16.rangeAt p5 0 (bcs dZ) := by simpa using ra_block (g16.heap h15 (by simp))
  have xA : Sl w16 (.slice (some ⟨p2, 0, none⟩) 32 32) 32 (bcs dA) := by
    have := Sl.ofBlock (f := (0, 0)) (g16.heap hA15 (by simp)) (by rw [hdA]; decide)
    rw [hdA] at this
    exact this
  have xB : Sl w16 (.slice (some ⟨p3, 0, none⟩) 32 32) 32 (bcs dB) := by
    have := Sl.ofBlock (f := (0, 0)) (g16.heap hB15 (by simp)) (by rw [hdB]; decide)
    rw [hdB] at this
    exact this
  have EQ := fun (d : Bytes) (h : d.length = 32) w => eql_dv (P := Try.prog) w 32 5 32 Try.underlying32 Try.underlying5 (fun w => by go_simp) d d h h
  have GQ := fun (d : Bytes) w x y => eqg_dv (P := Try.prog) w .eql 32 x y d d (by kernel_rfl)
  have NE := fun w => neq_dv (P := Try.prog) w 32 5 32 Try.underlying32 Try.underlying5 (fun w => by go_simp) dA dB hdA hdB
  have NG := fun w x y => eqg_dv (P := Try.prog) w .neq 32 x y dA dB (by kernel_rfl)
  have EA := EQ dA hdA
  have ER := EQ dR hdR
  have EZ := EQ dZ hdZ
  have GA := GQ dA
  have GR := GQ dR
  have GZ := GQ dZ
  unfold dv at NE NG EA ER EZ GA GR GZ
  simp only [beq_self_eq_true] at EA ER EZ
  rw [bne_iff_ne.2 hne] at NE
  have kH : ∀ wx v, Row2 dA dB v wx → Calls Try.prog 35 #[.string { data := #[110, 111, 100, 101] }, v] wx fun e w' => e = .returned (.agg (bcs dR).toArray) ∧ Chg [] wx w' := fun wx v ⟨u1, u2, hs⟩ => by
    have k := taghash_ok wx nodeS v _ hs (by simp [nodeS, maxLen]) (by simp [maxLen]) (by simp [sumL]; omega)
    rw [show (List.map (fun x : Value × Bytes => x.2) [(u1, dA), (u2, dB)]) = [dA, dB] from rfl, ← hR.out] at k
    exact k
  have kZ : ∀ wx, Calls Try.prog 35 #[.string { data := #[110, 111, 110, 101] }, .slice none 0 0] wx fun e w' => e = .returned (.agg (bcs dZ).toArray) ∧ Chg [] wx w' := fun wx => by
    have k := taghash_ok wx noneS _ [] (SlB.nil wx) (by simp [noneS, maxLen]) (by simp) (by simp [sumL])
    rw [List.map_nil, ← hZ.out] at k
    exact k
  have kS : ∀ wx (n m : Int), I64 n → ((splitV n.toNat : Nat) : Int) = m → Calls Try.prog 23 #[.int .i64 n] wx fun e w' => e = .returned (.int .i64 m) ∧ Chg [] wx w' := fun wx n m hn hm => by
    rw [← hm]
    exact (split_ok wx n hn).mono fun e w' ⟨h1, h2⟩ => ⟨h1, h2 ▸ Chg.refl [] _⟩
  have kD : ∀ wx (n m : Int), I64 n → ((depthV n.toNat : Nat) : Int) = m → Calls Try.prog 25 #[.int .i64 n] wx fun e w' => e = .returned (.int .i64 m) ∧ Chg [] wx w' := fun wx n m hn hm => by
    rw [← hm]
    exact (depth_ok wx n hn).mono fun e w' ⟨h1, h2⟩ => ⟨h1, h2 ▸ Chg.refl [] _⟩
  clear hA15 hB15 hR15 h15 l15 c15 hS13 o16 hD16 g16 EQ GQ
  go_wp2_with fail
  refine' region_soft 49 [cst (.slice a16 4 q16), cst (.int .i64 4), cst (.bool true), cst (.bool true), cst (.agg (bcs dA).toArray), cst (.agg (bcs dB).toArray), cst (.bool true), cst (.bool true), cst (.bool true), cst (.agg (bcs dR).toArray), cst (.slice (some ⟨p2, 0, none⟩) 32 32), cst (.slice (some ⟨p3, 0, none⟩) 32 32), Row2 dA dB, cst (.agg (bcs dR).toArray), cst (.bool true), cst (.bool true), cst (.bool true), cst (.agg (bcs dZ).toArray), cst (.agg (bcs dZ).toArray), cst (.bool true), cst (.bool true), cst (.bool true), cst (.pointer (some ⟨p, 0, none⟩)), cst (.agg (bcs dA).toArray), fun v w => Dg w v [dA], cst (.agg (bcs dA).toArray), cst (.agg (bcs dA).toArray), cst (.bool true), cst (.bool true), cst (.bool true), cst (.int .i64 4), cst (.bool true), cst (.bool true), cst (.bool true), cst (.int .i64 2), cst (.bool true), cst (.bool true), cst (.bool true), cst (.int .i64 0), cst (.bool true), cst (.bool true), cst (.bool true), cst (.int .i64 3), cst (.bool true), cst (.bool true), cst (.bool true), cst (.int .i64 0), cst (.bool true), cst (.bool true)] rfl (by kernel_rfl) (by kernel_rfl) (stays_cons (Stays.cst _) (stays_cons (Stays.cst _) (stays_cons (Stays.cst _) (stays_cons (Stays.cst _) (stays_cons (Stays.cst _) (stays_cons (Stays.cst _) (stays_cons (Stays.cst _) (stays_cons (Stays.cst _) (stays_cons (Stays.cst _) (stays_cons (Stays.cst _) (stays_cons (Stays.cst _) (stays_cons (Stays.cst _) (stays_cons (Row2.stays) (stays_cons (Stays.cst _) (stays_cons (Stays.cst _) (stays_cons (Stays.cst _) (stays_cons (Stays.cst _) (stays_cons (Stays.cst _) (stays_cons (Stays.cst _) (stays_cons (Stays.cst _) (stays_cons (Stays.cst _) (stays_cons (Stays.cst _) (stays_cons (Stays.cst _) (stays_cons (Stays.cst _) (stays_cons (fun _ _ _ h g => h.tr0 g) (stays_cons (Stays.cst _) (stays_cons (Stays.cst _) (stays_cons (Stays.cst _) (stays_cons (Stays.cst _) (stays_cons (Stays.cst _) (stays_cons (Stays.cst _) (stays_cons (Stays.cst _) (stays_cons (Stays.cst _) (stays_cons (Stays.cst _) (stays_cons (Stays.cst _) (stays_cons (Stays.cst _) (stays_cons (Stays.cst _) (stays_cons (Stays.cst _) (stays_cons (Stays.cst _) (stays_cons (Stays.cst _) (stays_cons (Stays.cst _) (stays_cons (Stays.cst _) (stays_cons (Stays.cst _) (stays_cons (Stays.cst _) (stays_cons (Stays.cst _) (stays_cons (Stays.cst _) (stays_cons (Stays.cst _) (stays_cons (Stays.cst _) (stays_cons (Stays.cst _) stays_nil))))))))))))))))))))))))))))))))))))))))))))))))) _ (fun V => by simp only [putAll, Act.put, List.take_succ_cons, List.take_zero, List.setIfInBounds_toArray, List.set_cons_zero, List.set_cons_succ, Nat.reduceAdd]; exact rfl) ?hs1 ?ht1
  case hs1 =>
    simp only [List.take_succ_cons, List.take_zero, softs]
    refine ⟨?_, ?_, ?_, ?_, ?_, ?_, ?_, ?_, ?_, ?_, ?_, ?_, ?_, ?_, ?_, ?_, ?_, ?_, ?_, ?_, ?_, ?_, ?_, ?_, ?_, ?_, ?_, ?_, ?_, ?_, ?_, ?_, ?_, ?_, ?_, ?_, ?_, ?_, ?_, ?_, ?_, ?_, ?_, ?_, ?_, ?_, ?_, ?_, ?_, trivial⟩
    · intro V wx hw hd
      simp [phi, Region.binds, cst] at hd
      try simp only [hd]
      first
        | (refine soft_const rfl ?_; go_simp; done)
        | (refine soft_const rfl ?_; go_simp; exact rfl)
        | (exact soft_load rfl hw _ _ rfl _ _ rfl _ _ rA Try.underlying32 rfl (by rw [bcs_length, hdA]; kernel_rfl))
        | (exact soft_load rfl hw _ _ rfl _ _ rfl _ _ rB Try.underlying32 rfl (by rw [bcs_length, hdB]; kernel_rfl))
        | (exact soft_load rfl hw _ _ rfl _ _ rfl _ _ rR Try.underlying32 rfl (by rw [bcs_length, hdR]; kernel_rfl))
        | (exact soft_load rfl hw _ _ rfl _ _ rfl _ _ rZ Try.underlying32 rfl (by rw [bcs_length, hdZ]; kernel_rfl))
        | (exact soft_skip rfl)
    · intro V wx hw hd
      simp [phi, Region.binds, cst] at hd
      try simp only [hd]
      first
        | (refine soft_const rfl ?_; go_simp; done)
        | (refine soft_const rfl ?_; go_simp; exact rfl)
        | (exact soft_load rfl hw _ _ rfl _ _ rfl _ _ rA Try.underlying32 rfl (by rw [bcs_length, hdA]; kernel_rfl))
        | (exact soft_load rfl hw _ _ rfl _ _ rfl _ _ rB Try.underlying32 rfl (by rw [bcs_length, hdB]; kernel_rfl))
        | (exact soft_load rfl hw _ _ rfl _ _ rfl _ _ rR Try.underlying32 rfl (by rw [bcs_length, hdR]; kernel_rfl))
        | (exact soft_load rfl hw _ _ rfl _ _ rfl _ _ rZ Try.underlying32 rfl (by rw [bcs_length, hdZ]; kernel_rfl))
        | (exact soft_skip rfl)
    · intro V wx hw hd
      simp [phi, Region.binds, cst] at hd
      try simp only [hd]
      first
        | (refine soft_const rfl ?_; go_simp; done)
        | (refine soft_const rfl ?_; go_simp; exact rfl)
        | (exact soft_load rfl hw _ _ rfl _ _ rfl _ _ rA Try.underlying32 rfl (by rw [bcs_length, hdA]; kernel_rfl))
        | (exact soft_load rfl hw _ _ rfl _ _ rfl _ _ rB Try.underlying32 rfl (by rw [bcs_length, hdB]; kernel_rfl))
        | (exact soft_load rfl hw _ _ rfl _ _ rfl _ _ rR Try.underlying32 rfl (by rw [bcs_length, hdR]; kernel_rfl))
        | (exact soft_load rfl hw _ _ rfl _ _ rfl _ _ rZ Try.underlying32 rfl (by rw [bcs_length, hdZ]; kernel_rfl))
        | (exact soft_skip rfl)
    · intro V wx hw hd
      simp [phi, Region.binds, cst] at hd
      try simp only [hd]
      first
        | (refine soft_const rfl ?_; go_simp; done)
        | (refine soft_const rfl ?_; go_simp; exact rfl)
        | (exact soft_load rfl hw _ _ rfl _ _ rfl _ _ rA Try.underlying32 rfl (by rw [bcs_length, hdA]; kernel_rfl))
        | (exact soft_load rfl hw _ _ rfl _ _ rfl _ _ rB Try.underlying32 rfl (by rw [bcs_length, hdB]; kernel_rfl))
        | (exact soft_load rfl hw _ _ rfl _ _ rfl _ _ rR Try.underlying32 rfl (by rw [bcs_length, hdR]; kernel_rfl))
        | (exact soft_load rfl hw _ _ rfl _ _ rfl _ _ rZ Try.underlying32 rfl (by rw [bcs_length, hdZ]; kernel_rfl))
        | (exact soft_skip rfl)
    · intro V wx hw hd
      simp [phi, Region.binds, cst] at hd
      try simp only [hd]
      first
        | (refine soft_const rfl ?_; go_simp; done)
        | (refine soft_const rfl ?_; go_simp; exact rfl)
        | (exact soft_load rfl hw _ _ rfl _ _ rfl _ _ rA Try.underlying32 rfl (by rw [bcs_length, hdA]; kernel_rfl))
        | (exact soft_load rfl hw _ _ rfl _ _ rfl _ _ rB Try.underlying32 rfl (by rw [bcs_length, hdB]; kernel_rfl))
        | (exact soft_load rfl hw _ _ rfl _ _ rfl _ _ rR Try.underlying32 rfl (by rw [bcs_length, hdR]; kernel_rfl))
        | (exact soft_load rfl hw _ _ rfl _ _ rfl _ _ rZ Try.underlying32 rfl (by rw [bcs_length, hdZ]; kernel_rfl))
        | (exact soft_skip rfl)
    · intro V wx hw hd
      simp [phi, Region.binds, cst] at hd
      try simp only [hd]
      first
        | (refine soft_const rfl ?_; go_simp; done)
        | (refine soft_const rfl ?_; go_simp; exact rfl)
        | (exact soft_load rfl hw _ _ rfl _ _ rfl _ _ rA Try.underlying32 rfl (by rw [bcs_length, hdA]; kernel_rfl))
        | (exact soft_load rfl hw _ _ rfl _ _ rfl _ _ rB Try.underlying32 rfl (by rw [bcs_length, hdB]; kernel_rfl))
        | (exact soft_load rfl hw _ _ rfl _ _ rfl _ _ rR Try.underlying32 rfl (by rw [bcs_length, hdR]; kernel_rfl))
        | (exact soft_load rfl hw _ _ rfl _ _ rfl _ _ rZ Try.underlying32 rfl (by rw [bcs_length, hdZ]; kernel_rfl))
        | (exact soft_skip rfl)
    · intro V wx hw hd
      simp [phi, Region.binds, cst] at hd
      try simp only [hd]
      first
        | (refine soft_const rfl ?_; go_simp; done)
        | (refine soft_const rfl ?_; go_simp; exact rfl)
        | (exact soft_load rfl hw _ _ rfl _ _ rfl _ _ rA Try.underlying32 rfl (by rw [bcs_length, hdA]; kernel_rfl))
        | (exact soft_load rfl hw _ _ rfl _ _ rfl _ _ rB Try.underlying32 rfl (by rw [bcs_length, hdB]; kernel_rfl))
        | (exact soft_load rfl hw _ _ rfl _ _ rfl _ _ rR Try.underlying32 rfl (by rw [bcs_length, hdR]; kernel_rfl))
        | (exact soft_load rfl hw _ _ rfl _ _ rfl _ _ rZ Try.underlying32 rfl (by rw [bcs_length, hdZ]; kernel_rfl))
        | (exact soft_skip rfl)
    · intro V wx hw hd
      simp [phi, Region.binds, cst] at hd
      try simp only [hd]
      first
        | (refine soft_const rfl ?_; go_simp; done)
        | (refine soft_const rfl ?_; go_simp; exact rfl)
        | (exact soft_load rfl hw _ _ rfl _ _ rfl _ _ rA Try.underlying32 rfl (by rw [bcs_length, hdA]; kernel_rfl))
        | (exact soft_load rfl hw _ _ rfl _ _ rfl _ _ rB Try.underlying32 rfl (by rw [bcs_length, hdB]; kernel_rfl))
        | (exact soft_load rfl hw _ _ rfl _ _ rfl _ _ rR Try.underlying32 rfl (by rw [bcs_length, hdR]; kernel_rfl))
        | (exact soft_load rfl hw _ _ rfl _ _ rfl _ _ rZ Try.underlying32 rfl (by rw [bcs_length, hdZ]; kernel_rfl))
        | (exact soft_skip rfl)
    · intro V wx hw hd
      simp [phi, Region.binds, cst] at hd
      try simp only [hd]
      first
        | (refine soft_const rfl ?_; go_simp; done)
        | (refine soft_const rfl ?_; go_simp; exact rfl)
        | (exact soft_load rfl hw _ _ rfl _ _ rfl _ _ rA Try.underlying32 rfl (by rw [bcs_length, hdA]; kernel_rfl))
        | (exact soft_load rfl hw _ _ rfl _ _ rfl _ _ rB Try.underlying32 rfl (by rw [bcs_length, hdB]; kernel_rfl))
        | (exact soft_load rfl hw _ _ rfl _ _ rfl _ _ rR Try.underlying32 rfl (by rw [bcs_length, hdR]; kernel_rfl))
        | (exact soft_load rfl hw _ _ rfl _ _ rfl _ _ rZ Try.underlying32 rfl (by rw [bcs_length, hdZ]; kernel_rfl))
        | (exact soft_skip rfl)
    · intro V wx hw hd
      simp [phi, Region.binds, cst] at hd
      try simp only [hd]
      first
        | (refine soft_const rfl ?_; go_simp; done)
        | (refine soft_const rfl ?_; go_simp; exact rfl)
        | (exact soft_load rfl hw _ _ rfl _ _ rfl _ _ rA Try.underlying32 rfl (by rw [bcs_length, hdA]; kernel_rfl))
        | (exact soft_load rfl hw _ _ rfl _ _ rfl _ _ rB Try.underlying32 rfl (by rw [bcs_length, hdB]; kernel_rfl))
        | (exact soft_load rfl hw _ _ rfl _ _ rfl _ _ rR Try.underlying32 rfl (by rw [bcs_length, hdR]; kernel_rfl))
        | (exact soft_load rfl hw _ _ rfl _ _ rfl _ _ rZ Try.underlying32 rfl (by rw [bcs_length, hdZ]; kernel_rfl))
        | (exact soft_skip rfl)
    · intro V wx hw hd
      simp [phi, Region.binds, cst] at hd
      try simp only [hd]
      first
        | (refine soft_const rfl ?_; go_simp; done)
        | (refine soft_const rfl ?_; go_simp; exact rfl)
        | (exact soft_load rfl hw _ _ rfl _ _ rfl _ _ rA Try.underlying32 rfl (by rw [bcs_length, hdA]; kernel_rfl))
        | (exact soft_load rfl hw _ _ rfl _ _ rfl _ _ rB Try.underlying32 rfl (by rw [bcs_length, hdB]; kernel_rfl))
        | (exact soft_load rfl hw _ _ rfl _ _ rfl _ _ rR Try.underlying32 rfl (by rw [bcs_length, hdR]; kernel_rfl))
        | (exact soft_load rfl hw _ _ rfl _ _ rfl _ _ rZ Try.underlying32 rfl (by rw [bcs_length, hdZ]; kernel_rfl))
        | (exact soft_skip rfl)
    · intro V wx hw hd
      simp [phi, Region.binds, cst] at hd
      try simp only [hd]
      first
        | (refine soft_const rfl ?_; go_simp; done)
        | (refine soft_const rfl ?_; go_simp; exact rfl)
        | (exact soft_load rfl hw _ _ rfl _ _ rfl _ _ rA Try.underlying32 rfl (by rw [bcs_length, hdA]; kernel_rfl))
        | (exact soft_load rfl hw _ _ rfl _ _ rfl _ _ rB Try.underlying32 rfl (by rw [bcs_length, hdB]; kernel_rfl))
        | (exact soft_load rfl hw _ _ rfl _ _ rfl _ _ rR Try.underlying32 rfl (by rw [bcs_length, hdR]; kernel_rfl))
        | (exact soft_load rfl hw _ _ rfl _ _ rfl _ _ rZ Try.underlying32 rfl (by rw [bcs_length, hdZ]; kernel_rfl))
        | (exact soft_skip rfl)
    · intro V wx hw hd
      simp [phi, Region.binds, cst] at hd
      try simp only [hd]
      exact soft_made (w' := wx.alloc (.cells #[.slice (some ⟨p2, 0, none⟩) 32 32, .slice (some ⟨p3, 0, none⟩) 32 32] 22)) (v := .slice (some ⟨wx.heap.size, 0, none⟩) 2 2) rfl (by go_simp) (Chg.alloc _ _ _) ⟨_, _, SlB.mk2 wx _ _ dA dB (by rw [hdA]; exact xA.tr0 hw) (by rw [hdB]; exact xB.tr0 hw) _⟩
    · intro V wx hw hd
      simp [phi, Region.binds, cst] at hd
      try simp only [hd]
      refine soft_callC rfl _ _ (by go_simp; try exact ⟨rfl, rfl⟩) (kH wx _ hd.1)
    · intro V wx hw hd
      simp [phi, Region.binds, cst] at hd
      try simp only [hd]
      first
        | (refine soft_const rfl ?_; go_simp; done)
        | (refine soft_const rfl ?_; go_simp; exact rfl)
        | (exact soft_load rfl hw _ _ rfl _ _ rfl _ _ rA Try.underlying32 rfl (by rw [bcs_length, hdA]; kernel_rfl))
        | (exact soft_load rfl hw _ _ rfl _ _ rfl _ _ rB Try.underlying32 rfl (by rw [bcs_length, hdB]; kernel_rfl))
        | (exact soft_load rfl hw _ _ rfl _ _ rfl _ _ rR Try.underlying32 rfl (by rw [bcs_length, hdR]; kernel_rfl))
        | (exact soft_load rfl hw _ _ rfl _ _ rfl _ _ rZ Try.underlying32 rfl (by rw [bcs_length, hdZ]; kernel_rfl))
        | (exact soft_skip rfl)
    · intro V wx hw hd
      simp [phi, Region.binds, cst] at hd
      try simp only [hd]
      first
        | (refine soft_const rfl ?_; go_simp; done)
        | (refine soft_const rfl ?_; go_simp; exact rfl)
        | (exact soft_load rfl hw _ _ rfl _ _ rfl _ _ rA Try.underlying32 rfl (by rw [bcs_length, hdA]; kernel_rfl))
        | (exact soft_load rfl hw _ _ rfl _ _ rfl _ _ rB Try.underlying32 rfl (by rw [bcs_length, hdB]; kernel_rfl))
        | (exact soft_load rfl hw _ _ rfl _ _ rfl _ _ rR Try.underlying32 rfl (by rw [bcs_length, hdR]; kernel_rfl))
        | (exact soft_load rfl hw _ _ rfl _ _ rfl _ _ rZ Try.underlying32 rfl (by rw [bcs_length, hdZ]; kernel_rfl))
        | (exact soft_skip rfl)
    · intro V wx hw hd
      simp [phi, Region.binds, cst] at hd
      try simp only [hd]
      first
        | (refine soft_const rfl ?_; go_simp; done)
        | (refine soft_const rfl ?_; go_simp; exact rfl)
        | (exact soft_load rfl hw _ _ rfl _ _ rfl _ _ rA Try.underlying32 rfl (by rw [bcs_length, hdA]; kernel_rfl))
        | (exact soft_load rfl hw _ _ rfl _ _ rfl _ _ rB Try.underlying32 rfl (by rw [bcs_length, hdB]; kernel_rfl))
        | (exact soft_load rfl hw _ _ rfl _ _ rfl _ _ rR Try.underlying32 rfl (by rw [bcs_length, hdR]; kernel_rfl))
        | (exact soft_load rfl hw _ _ rfl _ _ rfl _ _ rZ Try.underlying32 rfl (by rw [bcs_length, hdZ]; kernel_rfl))
        | (exact soft_skip rfl)
    · intro V wx hw hd
      simp [phi, Region.binds, cst] at hd
      try simp only [hd]
      first
        | (refine soft_const rfl ?_; go_simp; done)
        | (refine soft_const rfl ?_; go_simp; exact rfl)
        | (exact soft_load rfl hw _ _ rfl _ _ rfl _ _ rA Try.underlying32 rfl (by rw [bcs_length, hdA]; kernel_rfl))
        | (exact soft_load rfl hw _ _ rfl _ _ rfl _ _ rB Try.underlying32 rfl (by rw [bcs_length, hdB]; kernel_rfl))
        | (exact soft_load rfl hw _ _ rfl _ _ rfl _ _ rR Try.underlying32 rfl (by rw [bcs_length, hdR]; kernel_rfl))
        | (exact soft_load rfl hw _ _ rfl _ _ rfl _ _ rZ Try.underlying32 rfl (by rw [bcs_length, hdZ]; kernel_rfl))
        | (exact soft_skip rfl)
    · intro V wx hw hd
      simp [phi, Region.binds, cst] at hd
      try simp only [hd]
      refine soft_callC rfl _ _ (by go_simp; try exact ⟨rfl, rfl⟩) (kZ wx)
    · intro V wx hw hd
      simp [phi, Region.binds, cst] at hd
      try simp only [hd]
      first
        | (refine soft_const rfl ?_; go_simp; done)
        | (refine soft_const rfl ?_; go_simp; exact rfl)
        | (exact soft_load rfl hw _ _ rfl _ _ rfl _ _ rA Try.underlying32 rfl (by rw [bcs_length, hdA]; kernel_rfl))
        | (exact soft_load rfl hw _ _ rfl _ _ rfl _ _ rB Try.underlying32 rfl (by rw [bcs_length, hdB]; kernel_rfl))
        | (exact soft_load rfl hw _ _ rfl _ _ rfl _ _ rR Try.underlying32 rfl (by rw [bcs_length, hdR]; kernel_rfl))
        | (exact soft_load rfl hw _ _ rfl _ _ rfl _ _ rZ Try.underlying32 rfl (by rw [bcs_length, hdZ]; kernel_rfl))
        | (exact soft_skip rfl)
    · intro V wx hw hd
      simp [phi, Region.binds, cst] at hd
      try simp only [hd]
      first
        | (refine soft_const rfl ?_; go_simp; done)
        | (refine soft_const rfl ?_; go_simp; exact rfl)
        | (exact soft_load rfl hw _ _ rfl _ _ rfl _ _ rA Try.underlying32 rfl (by rw [bcs_length, hdA]; kernel_rfl))
        | (exact soft_load rfl hw _ _ rfl _ _ rfl _ _ rB Try.underlying32 rfl (by rw [bcs_length, hdB]; kernel_rfl))
        | (exact soft_load rfl hw _ _ rfl _ _ rfl _ _ rR Try.underlying32 rfl (by rw [bcs_length, hdR]; kernel_rfl))
        | (exact soft_load rfl hw _ _ rfl _ _ rfl _ _ rZ Try.underlying32 rfl (by rw [bcs_length, hdZ]; kernel_rfl))
        | (exact soft_skip rfl)
    · intro V wx hw hd
      simp [phi, Region.binds, cst] at hd
      try simp only [hd]
      first
        | (refine soft_const rfl ?_; go_simp; done)
        | (refine soft_const rfl ?_; go_simp; exact rfl)
        | (exact soft_load rfl hw _ _ rfl _ _ rfl _ _ rA Try.underlying32 rfl (by rw [bcs_length, hdA]; kernel_rfl))
        | (exact soft_load rfl hw _ _ rfl _ _ rfl _ _ rB Try.underlying32 rfl (by rw [bcs_length, hdB]; kernel_rfl))
        | (exact soft_load rfl hw _ _ rfl _ _ rfl _ _ rR Try.underlying32 rfl (by rw [bcs_length, hdR]; kernel_rfl))
        | (exact soft_load rfl hw _ _ rfl _ _ rfl _ _ rZ Try.underlying32 rfl (by rw [bcs_length, hdZ]; kernel_rfl))
        | (exact soft_skip rfl)
    · intro V wx hw hd
      simp [phi, Region.binds, cst] at hd
      try simp only [hd]
      first
        | (refine soft_const rfl ?_; go_simp; done)
        | (refine soft_const rfl ?_; go_simp; exact rfl)
        | (exact soft_load rfl hw _ _ rfl _ _ rfl _ _ rA Try.underlying32 rfl (by rw [bcs_length, hdA]; kernel_rfl))
        | (exact soft_load rfl hw _ _ rfl _ _ rfl _ _ rB Try.underlying32 rfl (by rw [bcs_length, hdB]; kernel_rfl))
        | (exact soft_load rfl hw _ _ rfl _ _ rfl _ _ rR Try.underlying32 rfl (by rw [bcs_length, hdR]; kernel_rfl))
        | (exact soft_load rfl hw _ _ rfl _ _ rfl _ _ rZ Try.underlying32 rfl (by rw [bcs_length, hdZ]; kernel_rfl))
        | (exact soft_skip rfl)
    · intro V wx hw hd
      simp [phi, Region.binds, cst] at hd
      try simp only [hd]
      first
        | (refine soft_const rfl ?_; go_simp; done)
        | (refine soft_const rfl ?_; go_simp; exact rfl)
        | (exact soft_load rfl hw _ _ rfl _ _ rfl _ _ rA Try.underlying32 rfl (by rw [bcs_length, hdA]; kernel_rfl))
        | (exact soft_load rfl hw _ _ rfl _ _ rfl _ _ rB Try.underlying32 rfl (by rw [bcs_length, hdB]; kernel_rfl))
        | (exact soft_load rfl hw _ _ rfl _ _ rfl _ _ rR Try.underlying32 rfl (by rw [bcs_length, hdR]; kernel_rfl))
        | (exact soft_load rfl hw _ _ rfl _ _ rfl _ _ rZ Try.underlying32 rfl (by rw [bcs_length, hdZ]; kernel_rfl))
        | (exact soft_skip rfl)
    · intro V wx hw hd
      simp [phi, Region.binds, cst] at hd
      try simp only [hd]
      exact soft_made (w' := wx.alloc (.cells ([dA].flatMap bcs).toArray 32)) (v := .slice (some ⟨wx.heap.size, 0, none⟩) 1 1) rfl (exec_build_digs 23 32 1 _ (by rfl) [dA] rfl (by simp [hdA]) (by simp) (by simp) (by rw [Array.toList_map]; rfl) Try.underlying23 (by kernel_rfl) (by kernel_rfl)) (Chg.alloc _ _ _) (Dg.lit wx [dA] (by simp [hdA]) (by simp) (by simp) 32 1 rfl)
    · intro V wx hw hd
      simp [phi, Region.binds, cst] at hd
      try simp only [hd]
      refine soft_callC rfl _ _ (by go_simp; try exact ⟨rfl, rfl⟩) (root1_run wx (.pointer (some ⟨p, 0, none⟩)) _ dA hd.2.1)
    · intro V wx hw hd
      simp [phi, Region.binds, cst] at hd
      try simp only [hd]
      first
        | (refine soft_const rfl ?_; go_simp; done)
        | (refine soft_const rfl ?_; go_simp; exact rfl)
        | (exact soft_load rfl hw _ _ rfl _ _ rfl _ _ rA Try.underlying32 rfl (by rw [bcs_length, hdA]; kernel_rfl))
        | (exact soft_load rfl hw _ _ rfl _ _ rfl _ _ rB Try.underlying32 rfl (by rw [bcs_length, hdB]; kernel_rfl))
        | (exact soft_load rfl hw _ _ rfl _ _ rfl _ _ rR Try.underlying32 rfl (by rw [bcs_length, hdR]; kernel_rfl))
        | (exact soft_load rfl hw _ _ rfl _ _ rfl _ _ rZ Try.underlying32 rfl (by rw [bcs_length, hdZ]; kernel_rfl))
        | (exact soft_skip rfl)
    · intro V wx hw hd
      simp [phi, Region.binds, cst] at hd
      try simp only [hd]
      first
        | (refine soft_const rfl ?_; go_simp; done)
        | (refine soft_const rfl ?_; go_simp; exact rfl)
        | (exact soft_load rfl hw _ _ rfl _ _ rfl _ _ rA Try.underlying32 rfl (by rw [bcs_length, hdA]; kernel_rfl))
        | (exact soft_load rfl hw _ _ rfl _ _ rfl _ _ rB Try.underlying32 rfl (by rw [bcs_length, hdB]; kernel_rfl))
        | (exact soft_load rfl hw _ _ rfl _ _ rfl _ _ rR Try.underlying32 rfl (by rw [bcs_length, hdR]; kernel_rfl))
        | (exact soft_load rfl hw _ _ rfl _ _ rfl _ _ rZ Try.underlying32 rfl (by rw [bcs_length, hdZ]; kernel_rfl))
        | (exact soft_skip rfl)
    · intro V wx hw hd
      simp [phi, Region.binds, cst] at hd
      try simp only [hd]
      first
        | (refine soft_const rfl ?_; go_simp; done)
        | (refine soft_const rfl ?_; go_simp; exact rfl)
        | (exact soft_load rfl hw _ _ rfl _ _ rfl _ _ rA Try.underlying32 rfl (by rw [bcs_length, hdA]; kernel_rfl))
        | (exact soft_load rfl hw _ _ rfl _ _ rfl _ _ rB Try.underlying32 rfl (by rw [bcs_length, hdB]; kernel_rfl))
        | (exact soft_load rfl hw _ _ rfl _ _ rfl _ _ rR Try.underlying32 rfl (by rw [bcs_length, hdR]; kernel_rfl))
        | (exact soft_load rfl hw _ _ rfl _ _ rfl _ _ rZ Try.underlying32 rfl (by rw [bcs_length, hdZ]; kernel_rfl))
        | (exact soft_skip rfl)
    · intro V wx hw hd
      simp [phi, Region.binds, cst] at hd
      try simp only [hd]
      first
        | (refine soft_const rfl ?_; go_simp; done)
        | (refine soft_const rfl ?_; go_simp; exact rfl)
        | (exact soft_load rfl hw _ _ rfl _ _ rfl _ _ rA Try.underlying32 rfl (by rw [bcs_length, hdA]; kernel_rfl))
        | (exact soft_load rfl hw _ _ rfl _ _ rfl _ _ rB Try.underlying32 rfl (by rw [bcs_length, hdB]; kernel_rfl))
        | (exact soft_load rfl hw _ _ rfl _ _ rfl _ _ rR Try.underlying32 rfl (by rw [bcs_length, hdR]; kernel_rfl))
        | (exact soft_load rfl hw _ _ rfl _ _ rfl _ _ rZ Try.underlying32 rfl (by rw [bcs_length, hdZ]; kernel_rfl))
        | (exact soft_skip rfl)
    · intro V wx hw hd
      simp [phi, Region.binds, cst] at hd
      try simp only [hd]
      refine soft_callC rfl _ _ (by go_simp; try exact ⟨rfl, rfl⟩) (kS wx 5 4 ⟨by decide, by decide⟩ sp5)
    · intro V wx hw hd
      simp [phi, Region.binds, cst] at hd
      try simp only [hd]
      first
        | (refine soft_const rfl ?_; go_simp; done)
        | (refine soft_const rfl ?_; go_simp; exact rfl)
        | (exact soft_load rfl hw _ _ rfl _ _ rfl _ _ rA Try.underlying32 rfl (by rw [bcs_length, hdA]; kernel_rfl))
        | (exact soft_load rfl hw _ _ rfl _ _ rfl _ _ rB Try.underlying32 rfl (by rw [bcs_length, hdB]; kernel_rfl))
        | (exact soft_load rfl hw _ _ rfl _ _ rfl _ _ rR Try.underlying32 rfl (by rw [bcs_length, hdR]; kernel_rfl))
        | (exact soft_load rfl hw _ _ rfl _ _ rfl _ _ rZ Try.underlying32 rfl (by rw [bcs_length, hdZ]; kernel_rfl))
        | (exact soft_skip rfl)
    · intro V wx hw hd
      simp [phi, Region.binds, cst] at hd
      try simp only [hd]
      first
        | (refine soft_const rfl ?_; go_simp; done)
        | (refine soft_const rfl ?_; go_simp; exact rfl)
        | (exact soft_load rfl hw _ _ rfl _ _ rfl _ _ rA Try.underlying32 rfl (by rw [bcs_length, hdA]; kernel_rfl))
        | (exact soft_load rfl hw _ _ rfl _ _ rfl _ _ rB Try.underlying32 rfl (by rw [bcs_length, hdB]; kernel_rfl))
        | (exact soft_load rfl hw _ _ rfl _ _ rfl _ _ rR Try.underlying32 rfl (by rw [bcs_length, hdR]; kernel_rfl))
        | (exact soft_load rfl hw _ _ rfl _ _ rfl _ _ rZ Try.underlying32 rfl (by rw [bcs_length, hdZ]; kernel_rfl))
        | (exact soft_skip rfl)
    · intro V wx hw hd
      simp [phi, Region.binds, cst] at hd
      try simp only [hd]
      first
        | (refine soft_const rfl ?_; go_simp; done)
        | (refine soft_const rfl ?_; go_simp; exact rfl)
        | (exact soft_load rfl hw _ _ rfl _ _ rfl _ _ rA Try.underlying32 rfl (by rw [bcs_length, hdA]; kernel_rfl))
        | (exact soft_load rfl hw _ _ rfl _ _ rfl _ _ rB Try.underlying32 rfl (by rw [bcs_length, hdB]; kernel_rfl))
        | (exact soft_load rfl hw _ _ rfl _ _ rfl _ _ rR Try.underlying32 rfl (by rw [bcs_length, hdR]; kernel_rfl))
        | (exact soft_load rfl hw _ _ rfl _ _ rfl _ _ rZ Try.underlying32 rfl (by rw [bcs_length, hdZ]; kernel_rfl))
        | (exact soft_skip rfl)
    · intro V wx hw hd
      simp [phi, Region.binds, cst] at hd
      try simp only [hd]
      refine soft_callC rfl _ _ (by go_simp; try exact ⟨rfl, rfl⟩) (kS wx 4 2 ⟨by decide, by decide⟩ sp4)
    · intro V wx hw hd
      simp [phi, Region.binds, cst] at hd
      try simp only [hd]
      first
        | (refine soft_const rfl ?_; go_simp; done)
        | (refine soft_const rfl ?_; go_simp; exact rfl)
        | (exact soft_load rfl hw _ _ rfl _ _ rfl _ _ rA Try.underlying32 rfl (by rw [bcs_length, hdA]; kernel_rfl))
        | (exact soft_load rfl hw _ _ rfl _ _ rfl _ _ rB Try.underlying32 rfl (by rw [bcs_length, hdB]; kernel_rfl))
        | (exact soft_load rfl hw _ _ rfl _ _ rfl _ _ rR Try.underlying32 rfl (by rw [bcs_length, hdR]; kernel_rfl))
        | (exact soft_load rfl hw _ _ rfl _ _ rfl _ _ rZ Try.underlying32 rfl (by rw [bcs_length, hdZ]; kernel_rfl))
        | (exact soft_skip rfl)
    · intro V wx hw hd
      simp [phi, Region.binds, cst] at hd
      try simp only [hd]
      first
        | (refine soft_const rfl ?_; go_simp; done)
        | (refine soft_const rfl ?_; go_simp; exact rfl)
        | (exact soft_load rfl hw _ _ rfl _ _ rfl _ _ rA Try.underlying32 rfl (by rw [bcs_length, hdA]; kernel_rfl))
        | (exact soft_load rfl hw _ _ rfl _ _ rfl _ _ rB Try.underlying32 rfl (by rw [bcs_length, hdB]; kernel_rfl))
        | (exact soft_load rfl hw _ _ rfl _ _ rfl _ _ rR Try.underlying32 rfl (by rw [bcs_length, hdR]; kernel_rfl))
        | (exact soft_load rfl hw _ _ rfl _ _ rfl _ _ rZ Try.underlying32 rfl (by rw [bcs_length, hdZ]; kernel_rfl))
        | (exact soft_skip rfl)
    · intro V wx hw hd
      simp [phi, Region.binds, cst] at hd
      try simp only [hd]
      first
        | (refine soft_const rfl ?_; go_simp; done)
        | (refine soft_const rfl ?_; go_simp; exact rfl)
        | (exact soft_load rfl hw _ _ rfl _ _ rfl _ _ rA Try.underlying32 rfl (by rw [bcs_length, hdA]; kernel_rfl))
        | (exact soft_load rfl hw _ _ rfl _ _ rfl _ _ rB Try.underlying32 rfl (by rw [bcs_length, hdB]; kernel_rfl))
        | (exact soft_load rfl hw _ _ rfl _ _ rfl _ _ rR Try.underlying32 rfl (by rw [bcs_length, hdR]; kernel_rfl))
        | (exact soft_load rfl hw _ _ rfl _ _ rfl _ _ rZ Try.underlying32 rfl (by rw [bcs_length, hdZ]; kernel_rfl))
        | (exact soft_skip rfl)
    · intro V wx hw hd
      simp [phi, Region.binds, cst] at hd
      try simp only [hd]
      refine soft_callC rfl _ _ (by go_simp; try exact ⟨rfl, rfl⟩) (kS wx 1 0 ⟨by decide, by decide⟩ sp1)
    · intro V wx hw hd
      simp [phi, Region.binds, cst] at hd
      try simp only [hd]
      first
        | (refine soft_const rfl ?_; go_simp; done)
        | (refine soft_const rfl ?_; go_simp; exact rfl)
        | (exact soft_load rfl hw _ _ rfl _ _ rfl _ _ rA Try.underlying32 rfl (by rw [bcs_length, hdA]; kernel_rfl))
        | (exact soft_load rfl hw _ _ rfl _ _ rfl _ _ rB Try.underlying32 rfl (by rw [bcs_length, hdB]; kernel_rfl))
        | (exact soft_load rfl hw _ _ rfl _ _ rfl _ _ rR Try.underlying32 rfl (by rw [bcs_length, hdR]; kernel_rfl))
        | (exact soft_load rfl hw _ _ rfl _ _ rfl _ _ rZ Try.underlying32 rfl (by rw [bcs_length, hdZ]; kernel_rfl))
        | (exact soft_skip rfl)
    · intro V wx hw hd
      simp [phi, Region.binds, cst] at hd
      try simp only [hd]
      first
        | (refine soft_const rfl ?_; go_simp; done)
        | (refine soft_const rfl ?_; go_simp; exact rfl)
        | (exact soft_load rfl hw _ _ rfl _ _ rfl _ _ rA Try.underlying32 rfl (by rw [bcs_length, hdA]; kernel_rfl))
        | (exact soft_load rfl hw _ _ rfl _ _ rfl _ _ rB Try.underlying32 rfl (by rw [bcs_length, hdB]; kernel_rfl))
        | (exact soft_load rfl hw _ _ rfl _ _ rfl _ _ rR Try.underlying32 rfl (by rw [bcs_length, hdR]; kernel_rfl))
        | (exact soft_load rfl hw _ _ rfl _ _ rfl _ _ rZ Try.underlying32 rfl (by rw [bcs_length, hdZ]; kernel_rfl))
        | (exact soft_skip rfl)
    · intro V wx hw hd
      simp [phi, Region.binds, cst] at hd
      try simp only [hd]
      first
        | (refine soft_const rfl ?_; go_simp; done)
        | (refine soft_const rfl ?_; go_simp; exact rfl)
        | (exact soft_load rfl hw _ _ rfl _ _ rfl _ _ rA Try.underlying32 rfl (by rw [bcs_length, hdA]; kernel_rfl))
        | (exact soft_load rfl hw _ _ rfl _ _ rfl _ _ rB Try.underlying32 rfl (by rw [bcs_length, hdB]; kernel_rfl))
        | (exact soft_load rfl hw _ _ rfl _ _ rfl _ _ rR Try.underlying32 rfl (by rw [bcs_length, hdR]; kernel_rfl))
        | (exact soft_load rfl hw _ _ rfl _ _ rfl _ _ rZ Try.underlying32 rfl (by rw [bcs_length, hdZ]; kernel_rfl))
        | (exact soft_skip rfl)
    · intro V wx hw hd
      simp [phi, Region.binds, cst] at hd
      try simp only [hd]
      refine soft_callC rfl _ _ (by go_simp; try exact ⟨rfl, rfl⟩) (kD wx 5 3 ⟨by decide, by decide⟩ dp5)
    · intro V wx hw hd
      simp [phi, Region.binds, cst] at hd
      try simp only [hd]
      first
        | (refine soft_const rfl ?_; go_simp; done)
        | (refine soft_const rfl ?_; go_simp; exact rfl)
        | (exact soft_load rfl hw _ _ rfl _ _ rfl _ _ rA Try.underlying32 rfl (by rw [bcs_length, hdA]; kernel_rfl))
        | (exact soft_load rfl hw _ _ rfl _ _ rfl _ _ rB Try.underlying32 rfl (by rw [bcs_length, hdB]; kernel_rfl))
        | (exact soft_load rfl hw _ _ rfl _ _ rfl _ _ rR Try.underlying32 rfl (by rw [bcs_length, hdR]; kernel_rfl))
        | (exact soft_load rfl hw _ _ rfl _ _ rfl _ _ rZ Try.underlying32 rfl (by rw [bcs_length, hdZ]; kernel_rfl))
        | (exact soft_skip rfl)
    · intro V wx hw hd
      simp [phi, Region.binds, cst] at hd
      try simp only [hd]
      first
        | (refine soft_const rfl ?_; go_simp; done)
        | (refine soft_const rfl ?_; go_simp; exact rfl)
        | (exact soft_load rfl hw _ _ rfl _ _ rfl _ _ rA Try.underlying32 rfl (by rw [bcs_length, hdA]; kernel_rfl))
        | (exact soft_load rfl hw _ _ rfl _ _ rfl _ _ rB Try.underlying32 rfl (by rw [bcs_length, hdB]; kernel_rfl))
        | (exact soft_load rfl hw _ _ rfl _ _ rfl _ _ rR Try.underlying32 rfl (by rw [bcs_length, hdR]; kernel_rfl))
        | (exact soft_load rfl hw _ _ rfl _ _ rfl _ _ rZ Try.underlying32 rfl (by rw [bcs_length, hdZ]; kernel_rfl))
        | (exact soft_skip rfl)
    · intro V wx hw hd
      simp [phi, Region.binds, cst] at hd
      try simp only [hd]
      first
        | (refine soft_const rfl ?_; go_simp; done)
        | (refine soft_const rfl ?_; go_simp; exact rfl)
        | (exact soft_load rfl hw _ _ rfl _ _ rfl _ _ rA Try.underlying32 rfl (by rw [bcs_length, hdA]; kernel_rfl))
        | (exact soft_load rfl hw _ _ rfl _ _ rfl _ _ rB Try.underlying32 rfl (by rw [bcs_length, hdB]; kernel_rfl))
        | (exact soft_load rfl hw _ _ rfl _ _ rfl _ _ rR Try.underlying32 rfl (by rw [bcs_length, hdR]; kernel_rfl))
        | (exact soft_load rfl hw _ _ rfl _ _ rfl _ _ rZ Try.underlying32 rfl (by rw [bcs_length, hdZ]; kernel_rfl))
        | (exact soft_skip rfl)
    · intro V wx hw hd
      simp [phi, Region.binds, cst] at hd
      try simp only [hd]
      refine soft_callC rfl _ _ (by go_simp; try exact ⟨rfl, rfl⟩) (kD wx 1 0 ⟨by decide, by decide⟩ dp1)
    · intro V wx hw hd
      simp [phi, Region.binds, cst] at hd
      try simp only [hd]
      first
        | (refine soft_const rfl ?_; go_simp; done)
        | (refine soft_const rfl ?_; go_simp; exact rfl)
        | (exact soft_load rfl hw _ _ rfl _ _ rfl _ _ rA Try.underlying32 rfl (by rw [bcs_length, hdA]; kernel_rfl))
        | (exact soft_load rfl hw _ _ rfl _ _ rfl _ _ rB Try.underlying32 rfl (by rw [bcs_length, hdB]; kernel_rfl))
        | (exact soft_load rfl hw _ _ rfl _ _ rfl _ _ rR Try.underlying32 rfl (by rw [bcs_length, hdR]; kernel_rfl))
        | (exact soft_load rfl hw _ _ rfl _ _ rfl _ _ rZ Try.underlying32 rfl (by rw [bcs_length, hdZ]; kernel_rfl))
        | (exact soft_skip rfl)
    · intro V wx hw hd
      simp [phi, Region.binds, cst] at hd
      try simp only [hd]
      first
        | (refine soft_const rfl ?_; go_simp; done)
        | (refine soft_const rfl ?_; go_simp; exact rfl)
        | (exact soft_load rfl hw _ _ rfl _ _ rfl _ _ rA Try.underlying32 rfl (by rw [bcs_length, hdA]; kernel_rfl))
        | (exact soft_load rfl hw _ _ rfl _ _ rfl _ _ rB Try.underlying32 rfl (by rw [bcs_length, hdB]; kernel_rfl))
        | (exact soft_load rfl hw _ _ rfl _ _ rfl _ _ rR Try.underlying32 rfl (by rw [bcs_length, hdR]; kernel_rfl))
        | (exact soft_load rfl hw _ _ rfl _ _ rfl _ _ rZ Try.underlying32 rfl (by rw [bcs_length, hdZ]; kernel_rfl))
        | (exact soft_skip rfl)
  intro V w' g hk
  have q := hk 48 (by decide)
  simp [phi, cst] at q
  simp only [q]
  clear hk q
  simp only [List.drop_succ_cons, List.drop_zero]
  go_wp2
  go_ret
  exact ⟨rfl, c16.t0 g⟩
end Go.Proofs.Ytgepfmofignmfaa
