/-
  The document's own log, leaves and nodes (hypostyleref21).
-/
import Derived.Test.YtgepfmofignmfaaTreeRoot
import Derived.Test.YtgepfmofignmfaaTagR
namespace Go.Proofs.Ytgepfmofignmfaa
set_option linter.unusedSimpArgs false
set_option linter.unusedVariables false
open Go.RowKit

/-- A log of the document's at block p. -/
structure LogR (w : World) (p base : Nat) (v : Value) (F : RowsB) : Prop where
  cell : w.heap[p]? = some (.cells #[v] 30 (0, 0))
  rows : OwnsB w base v F
theorem LogR.lt {w : World} {p base : Nat} {v : Value} {F : RowsB} (h : LogR w p base v F) : p < w.heap.size := lt_of_heap h.cell
theorem LogR.tr0 {w w' : World} {p base : Nat} {v : Value} {F : RowsB} (h : LogR w p base v F) (g : Chg [] w w') : LogR w' p base v F := ⟨g.heap h.cell (by simp), h.rows.tr0 g⟩

set_option maxHeartbeats 4000000 in
set_option maxRecDepth 100000 in
theorem rloghash_ok (w : World) (p base : Nat) (vl : Value) (F : RowsB) (hF : LogR w p base vl F) (hbase : base ≤ w.heap.size) (hfl : F.length ≤ 1000000) (s : Bytes) (v : Value) (D : RowsB) (hD : SlB w v D) (hsl : s.length ≤ maxLen) (hdl : D.length ≤ maxLen) (hb : sumL (D.map (·.2)) ≤ 2147480000)
    (hap : ∀ k, (vblk v = some k ∨ ∃ x ∈ D, vblk x.1 = some k) → k ≠ p ∧ vl.ownBlock ≠ some k) :
    Calls Try.prog 38 #[.pointer (some ⟨p, 0, none⟩), .string (bstr s), v] w fun e w' => e = .returned (.agg (bcs (hashV s (D.map (·.2)))).toArray) ∧
      ∃ v' F', LogR w' p base v' F' ∧ F'.map (·.2) = F.map (·.2) ++ logB s (D.map (·.2)) ∧ Chg (p :: vl.ownBlock.toList) w w' ∧ SameNew w vl v' := by
  obtain ⟨a0, c0, rfl⟩ := hD.1.shape
  have hlen := frameV_len s (D.map (·.2))
  obtain ⟨H, hH⟩ : ∃ H, H = hashV s (D.map (·.2)) := ⟨_, rfl⟩
  obtain ⟨LB, hLB⟩ : ∃ LB, LB = logB s (D.map (·.2)) := ⟨_, rfl⟩
  have kH := fun w (h : SlB w (.slice a0 D.length c0) D) => rhash_ok w s _ D h hsl hdl hb
  rw [← hH, ← hLB]
  rw [← hH] at kH
  have hHl : H.length = 32 := by rw [hH]; exact hashV_len _ _
  have hpw := hF.lt
  have hp0 : p ≠ w.heap.size := by omega
  replace hap := Lib.hid hap
  clear hH
  go_enter Try.func38, Try.ntmps38
  go_wp2_with (refine alloc_bytes (by rfl) 32 (by rfl) 32 (by kernel_rfl) ?_; intro w0 h0 g0 s0; replace s0 : Hid _ := s0)
  refine (rframe_ok w0 s _ D (hD.tr0 g0) hsl hdl hb).mono ?_
  rintro e w1 ⟨v1, rfl, o1, g1⟩
  replace h0 := g1.heap h0 (by simp)
  have g01 := g0.t0 g1
  have hF1 := hF.tr0 g01
  cases hf : frameOk s (D.map (·.2))
  · have hL1 : LB = [] := by rw [hLB, logB, if_neg (by rw [hf]; decide)]
    subst hL1
    clear hlen hLB
    go_wp2_with fail
    refine (kH w1 (hD.tr0 g01)).mono ?_
    rintro e w2 ⟨rfl, g2⟩
    replace h0 := g2.heap h0 (by simp)
    replace g01 := g01.t0 g2
    go_wp2_with (refine store_bytes (by rfl) 32 _ _ (by rfl) w.heap.size 32 _ rfl H (by rfl) (List.replicate 32 0) h0 (by kernel_rfl) hHl (by simp) ?_; intro w3 h3 g3 s3)
    have g4 : Chg [] w w3 := g01.tn g3 (Nat.le_refl _)
    go_wp2
    exact ret_bytes 6 32 (by rfl) 32 5 Try.underlying32 (by kernel_rfl) (by rfl) _ rfl H _ h3 hHl ⟨rfl, vl, F, hF.tr0 g4, by simp, g4.of0, SameNew.refl _ _⟩
  · have hL1 : LB = [frameV s (D.map (·.2))] := by rw [hLB, logB, if_pos hf, frameV, if_pos hf]
    have hl := hlen hf hb
    clear hlen hf hLB
    generalize frameV s (D.map (·.2)) = f at *
    obtain ⟨al, cl, rfl⟩ := hF.rows.shape
    obtain ⟨af, cf, rfl⟩ := own_shape o1
    obtain ⟨k0, f0⟩ := cells1 hF1.cell
    have o1' := own_lower o1 (show base ≤ w0.heap.size from Nat.le_trans hbase g0.size)
    have ga := Chg.alloc [] w1 (.cells #[.slice af f.length cf] 22)
    have hFa := hF1.tr0 ga
    have hz1 : w.heap.size ≤ w1.heap.size := g01.size
    go_wp2_with (at_builtin; go_must (refine wpList_append_slF _ rfl (.tmp 20) (.tmp 22) 28 22 1 24 rfl el_row base _ _ _ rfl hFa.rows.1 _ 1 [.slice af f.length cf] rfl (Sl.lit w1 #[.slice af f.length cf] _ 1 (by decide)) rfl (by intro u hu; rw [List.mem_singleton.1 hu]; rfl) (by unfold big; omega) (by simp; omega) ?_))
    intro v2 w2 o2 g2 sn2
    have oD2 := hFa.rows.push (own_tr o1' ga (by simp)) o2 g2
    have hpne : (Value.slice al F.length cl).ownBlock ≠ some p := ownB_not hFa.rows.1 hFa.cell (by decide)
    have hp2 := (Chg.grown g2).heap hFa.cell (by simpa using hpne)
    obtain ⟨k2, f2⟩ := cells1 hp2
    have h02 := (Chg.grown g2).heap (ga.heap h0 (by simp)) (by
      have := hF.rows.1.lt
      intro hm
      have := this w.heap.size (by simpa using hm)
      omega)
    obtain ⟨a2, c2, rfl⟩ := own_shape o2
    have gS := Chg.setCell w2 ⟨p, 0, none⟩ (.slice a2 (F.length + 1) c2)
    have hL3 : LogR (w2.setCell ⟨p, 0, none⟩ (.slice a2 (F.length + 1) c2)) p base (.slice a2 (F.length + 1) c2) (F ++ [(.slice af f.length cf, f)]) :=
      ⟨by rw [heap_setCell_same _ p 0 _ _ _ hp2]; rfl, oD2.trT gS hp2 (by decide) (by decide)⟩
    have h03 := gS.heap h02 (by simpa using hp0.symm)
    have hg1 : Chg (p :: (Value.slice al F.length cl).ownBlock.toList) w (w2.setCell ⟨p, 0, none⟩ (.slice a2 (F.length + 1) c2)) :=
      ((g01.t0 ga).of0.trans (Chg.grown g2) (fun x hx => .inl (List.mem_cons_of_mem _ hx))).trans gS (fun x hx => .inl (by rw [List.mem_singleton.1 hx]; exact List.mem_cons_self ..))
    have sn3 : SameNew w (.slice al F.length cl) (.slice a2 (F.length + 1) c2) := by
      rcases sn2 with h | h
      · exact .inl h
      · exact .inr fun k hk => by have := h k hk; simp at this; omega
    have hS : ∀ k, (vblk (Value.slice a0 D.length c0) = some k ∨ ∃ x ∈ D, vblk x.1 = some k) → k ∉ p :: (Value.slice al F.length cl).ownBlock.toList := by
      intro k hk hm
      have := hap.out k hk
      rcases List.mem_cons.1 hm with h | h
      · exact this.1 h
      · exact this.2 (by simpa using h)
    have hD3 := hD.tr hg1 (fun k hk => hS k (.inl hk)) (fun x hx k hk => hS k (.inr ⟨x, hx, hk⟩))
    replace hS := Lib.hid hS
    go_wp2_with fail
    generalize w2.setCell ⟨p, 0, none⟩ (.slice a2 (F.length + 1) c2) = w3 at *
    clear gS h02 oD2 hpne o2 g2 sn2 hFa ga o1' hF1 hp2 k2 f2 k0 f0
    refine (kH w3 hD3).mono ?_
    rintro e w4 ⟨rfl, g4⟩
    replace h03 := g4.heap h03 (by simp)
    have hL4 := hL3.tr0 g4
    have hg4 := hg1.t0 g4
    clear hL3 hg1 g4
    go_wp2_with (refine store_bytes (by rfl) 32 _ _ (by rfl) w.heap.size 32 _ rfl H (by rfl) (List.replicate 32 0) h03 (by kernel_rfl) hHl (by simp) ?_; intro w5 h5 g5 s5)
    have hL5 : LogR w5 p base (.slice a2 (F.length + 1) c2) (F ++ [(.slice af f.length cf, f)]) := ⟨g5.heap hL4.cell (by simpa using hp0), hL4.rows.trT g5 h03 (by decide) (by decide)⟩
    have hg5 := hg4.tn g5 (Nat.le_refl _)
    go_wp2
    exact ret_bytes 6 32 (by rfl) 32 5 Try.underlying32 (by kernel_rfl) (by rfl) _ rfl H _ h5 hHl ⟨rfl, _, _, hL5, by rw [hL1]; simp, hg5, sn3⟩
set_option maxHeartbeats 4000000 in
set_option maxRecDepth 100000 in
theorem rleaf_run (w : World) (p base : Nat) (vl : Value) (F : RowsB) (hF : LogR w p base vl F) (hbase : base ≤ w.heap.size) (hfl : F.length ≤ 1000000) (s : Bytes) (hsl : s.length ≤ maxLen) (k n : Int) (v : Value) (d : Bytes) (hd : Sl w v d.length (bcs d)) (hdl : d.length ≤ 2147479900) (hdis : ∀ k, vblk v = some k → k ≠ p ∧ vl.ownBlock ≠ some k) :
    Calls Try.prog 16 #[.pointer (some ⟨p, 0, none⟩), .string (bstr s), .int .i64 k, .int .i64 n, v] w fun e w' => e = .returned (.agg (bcs (hashV s (leafP k n d))).toArray) ∧
      ∃ v' F', LogR w' p base v' F' ∧ F'.map (·.2) = F.map (·.2) ++ logB s (leafP k n d) ∧ Chg (p :: vl.ownBlock.toList) w w' ∧ SameNew w vl v' := by
  obtain ⟨a0, c0, rfl⟩ := hd.shape
  obtain ⟨H, hH⟩ : ∃ H, H = hashV s (leafP k n d) := ⟨_, rfl⟩
  have hHl : H.length = 32 := by rw [hH]; exact hashV_len _ _
  rw [← hH]
  replace hH := Lib.hid hH
  have hkw := n64_wrap k
  have hnw := n64_wrap n
  have hpw := hF.lt
  have hsb : ∀ j, vl.ownBlock = some j → j < w.heap.size := fun j hj => (hF.rows.1.lt j hj).2
  go_enter Try.func16, Try.ntmps16
  go_wp2_with (refine alloc_bytes (by rfl) 32 (by rfl) 32 (by kernel_rfl) ?_; intro w0 h0 g0 s0; replace s0 : Hid _ := s0)
  refine (low8_ok w0 (.slice none 0 0) [] (n64 k) (n64_lt k) (Sl.nil w0) (by simp [big])).mono ?_
  rintro e w1 ⟨v1, rfl, o1, g1⟩
  simp only [List.length_nil, Nat.zero_add, List.nil_append] at o1
  replace h0 := g1.heap h0 (by simp)
  have g01 := g0.t0 g1
  have hq01 := g0.size
  clear g0 g1
  go_wp2_with fail
  refine (low8_ok w1 (.slice none 0 0) [] (n64 n) (n64_lt n) (Sl.nil w1) (by simp [big])).mono ?_
  rintro e w2 ⟨v2, rfl, o2, g2⟩
  simp only [List.length_nil, Nat.zero_add, List.nil_append] at o2
  replace h0 := g2.heap h0 (by simp)
  have g02 := g01.t0 g2
  have hq02 := g01.size
  have q1 := o1.lt
  have q2 := o2.lt
  have x1 := (Sl.ofOwns o1).tr0 g2
  have x2 := Sl.ofOwns o2
  have x3 := hd.tr0 g02
  obtain ⟨a1, c1, rfl⟩ := own_shape o1
  obtain ⟨a2, c2, rfl⟩ := own_shape o2
  clear g01 g2 o1 o2
  have ga := Chg.alloc [] w2 (.cells #[.slice a1 8 c1, .slice a2 8 c2, .slice a0 d.length c0] 22)
  have b3 := SlB.mk3 w2 (.slice a1 8 c1) (.slice a2 8 c2) (.slice a0 d.length c0) (lowb (n64 k) 8) (lowb (n64 n) 8) d (by rw [lowb8_len]; exact x1) (by rw [lowb8_len]; exact x2) x3 22
  have g03 := g02.t0 ga
  have kH := rloghash_ok _ p base vl F (hF.tr0 g03) (Nat.le_trans hbase g03.size) hfl s _ _ b3 hsl (by simp [maxLen]) (by simp [sumL, lowb8_len]; omega) (by
    have e0 := g02.size
    intro k hk
    rcases hk with hk | ⟨x, hx, hk⟩
    · obtain ⟨_, hk2⟩ := vblk_slice.1 hk
      simp at hk2
      exact ⟨by omega, fun h => by have := hsb k h; omega⟩
    · simp only [List.mem_cons, List.not_mem_nil, or_false] at hx
      rcases hx with rfl | rfl | rfl
      · have := (q1 k (vblk_own hk)).1
        have := hq01
        exact ⟨by omega, fun h => by have := hsb k h; omega⟩
      · have := (q2 k (vblk_own hk)).1
        have := hq02
        exact ⟨by omega, fun h => by have := hsb k h; omega⟩
      · exact hdis k hk)
  rw [show (List.map (fun x : Value × Bytes => x.2) [(Value.slice a1 8 c1, lowb (n64 k) 8), (Value.slice a2 8 c2, lowb (n64 n) 8), (Value.slice a0 d.length c0, d)]) = leafP k n d from rfl, ← hH.out] at kH
  replace h0 := ga.heap h0 (by simp)
  go_wp2_with fail
  refine kH.mono ?_
  rintro e w4 ⟨rfl, v', F', hL, hF', g4, sn⟩
  have g04 := chg_new g03 g4
  have hne : w.heap.size ∉ p :: vl.ownBlock.toList := by
    intro hm
    rcases List.mem_cons.1 hm with h | h
    · omega
    · have := hsb _ (by simpa using h); omega
  replace h0 := g4.heap h0 hne
  have sn0 := sn_new g03 sn
  clear kH b3 x1 x2 x3 ga g03 g4 sn g02
  go_wp2_with (refine store_bytes (by rfl) 32 _ _ (by rfl) w.heap.size 32 _ rfl H (by rfl) (List.replicate 32 0) h0 (by kernel_rfl) hHl (by simp) ?_; intro w5 h5 g5 s5)
  have hL5 : LogR w5 p base v' F' := ⟨g5.heap hL.cell (by simp; omega), hL.rows.trT g5 h0 (by decide) (by decide)⟩
  have g05 := g04.tn g5 (Nat.le_refl _)
  go_wp2
  exact ret_bytes 10 32 (by rfl) 32 5 Try.underlying32 (by kernel_rfl) (by rfl) _ rfl H _ h5 hHl ⟨rfl, v', F', hL5, hF', g05, sn0⟩
/-- A row of two parts, all of it new. -/
def Row2R (q : Nat) (a b : Bytes) (v : Value) (w : World) : Prop := ∃ u1 u2, SlB w v [(u1, a), (u2, b)] ∧ ∀ k, (vblk v = some k ∨ ∃ x ∈ [(u1, a), (u2, b)], vblk x.1 = some k) → q ≤ k
theorem Row2R.stays {q : Nat} {a b : Bytes} : Stays (Row2R q a b) := fun _ _ _ ⟨u1, u2, h, hq⟩ g => ⟨u1, u2, h.tr0 g, hq⟩
set_option maxHeartbeats 4000000 in
set_option maxRecDepth 100000 in
theorem rnode_run (w : World) (p base : Nat) (vl : Value) (F : RowsB) (hF : LogR w p base vl F) (hbase : base ≤ w.heap.size) (hfl : F.length ≤ 1000000) (a b : Bytes) (ha : a.length = 32) (hb : b.length = 32) :
    Calls Try.prog 18 #[.pointer (some ⟨p, 0, none⟩), .agg (bcs a).toArray, .agg (bcs b).toArray] w fun e w' => e = .returned (.agg (bcs (hashV nodeS [a, b])).toArray) ∧
      ∃ v' F', LogR w' p base v' F' ∧ F'.map (·.2) = F.map (·.2) ++ [frameB nodeS [a, b]] ∧ Chg (p :: vl.ownBlock.toList) w w' ∧ SameNew w vl v' := by
  rw [← log_node]
  obtain ⟨H, hH⟩ : ∃ H, H = hashV nodeS [a, b] := ⟨_, rfl⟩
  have hHl : H.length = 32 := by rw [hH]; exact hashV_len _ _
  rw [← hH]
  replace hH := Lib.hid hH
  have hpw := hF.lt
  have hsb : ∀ j, vl.ownBlock = some j → j < w.heap.size := fun j hj => (hF.rows.1.lt j hj).2
  have x1 : Sl (w.alloc (.cells (bcs a).toArray 32)) (.slice (some ⟨w.heap.size, 0, none⟩) 32 32) 32 (bcs a) := by
    have := Sl.lit w (bcs a).toArray 32 32 (by decide)
    simpa using this
  have x2 : Sl ((w.alloc (.cells (bcs a).toArray 32)).alloc (.cells (bcs b).toArray 32)) (.slice (some ⟨w.heap.size + 1, 0, none⟩) 32 32) 32 (bcs b) := by
    have := Sl.lit (w.alloc (.cells (bcs a).toArray 32)) (bcs b).toArray 32 32 (by decide)
    simpa using this
  have g1 : Chg [] w ((w.alloc (.cells (bcs a).toArray 32)).alloc (.cells (bcs b).toArray 32)) := (Chg.alloc _ _ _).t0 (Chg.alloc _ _ _)
  replace x1 := x1.tr0 (Chg.alloc [] _ (.cells (bcs b).toArray 32))
  have hz : ((w.alloc (.cells (bcs a).toArray 32)).alloc (.cells (bcs b).toArray 32)).heap.size = w.heap.size + 2 := by simp
  go_enter Try.func18, Try.ntmps18
  go_wp2_with (refine alloc_bytes (by rfl) 32 (by rfl) 32 (by kernel_rfl) ?_; intro w0 h0 g0 s0; replace s0 : Hid _ := s0)
  replace x1 := x1.tr0 g0
  replace x2 := x2.tr0 g0
  have g00 := g1.t0 g0
  clear g0 g1
  generalize (w.alloc (.cells (bcs a).toArray 32)).alloc (.cells (bcs b).toArray 32) = wb at *
  generalize wb.heap.size = pr at *
  subst hz
  have kN : ∀ wx v, Chg [] w0 wx → Row2R w.heap.size a b v wx → Calls Try.prog 38 #[.pointer (some ⟨p, 0, none⟩), .string { data := #[110, 111, 100, 101] }, v] wx fun e w' => e = .returned (.agg (bcs H).toArray) ∧ ∃ v' F', LogR w' p base v' F' ∧ F'.map (·.2) = F.map (·.2) ++ logB nodeS [a, b] ∧ Chg (p :: vl.ownBlock.toList) wx w' ∧ SameNew wx vl v' := fun wx v g ⟨u1, u2, hs, hq⟩ => by
    have k := rloghash_ok wx p base vl F (hF.tr0 (g00.t0 g)) (Nat.le_trans hbase (g00.t0 g).size) hfl nodeS v _ hs (by simp [nodeS, maxLen]) (by simp [maxLen]) (by simp [sumL]; omega) (fun j hj => by have := hq j hj; exact ⟨by omega, fun h => by have := hsb j h; omega⟩)
    rw [show (List.map (fun x : Value × Bytes => x.2) [(u1, a), (u2, b)]) = [a, b] from rfl, ← hH.out] at k
    exact k
  generalize hq : w.heap.size = q at *
  replace hq := Lib.hid hq
  refine' region_soft 4 [cst (.pointer (some ⟨p, 0, none⟩)), cst (.slice (some ⟨q, 0, none⟩) 32 32), cst (.slice (some ⟨q + 1, 0, none⟩) 32 32), Row2R q a b] rfl (by kernel_rfl) (by kernel_rfl) (stays_cons (Stays.cst _) (stays_cons (Stays.cst _) (stays_cons (Stays.cst _) (stays_cons (Row2R.stays) stays_nil)))) _ (fun V => by simp only [putAll, Act.put, List.take_succ_cons, List.take_zero, List.setIfInBounds_toArray, List.set_cons_zero, List.set_cons_succ, Nat.reduceAdd]; exact rfl) ?hs1 ?ht1
  case hs1 =>
    simp only [List.take_succ_cons, List.take_zero, softs]
    refine ⟨?_, ?_, ?_, ?_, trivial⟩
    · intro V wx hw hd
      simp [phi, Region.binds, cst] at hd
      try simp only [hd]
      first
        | (refine soft_const rfl ?_; go_simp; done)
        | (refine soft_const rfl ?_; go_simp; exact rfl)
        | (exact soft_skip rfl)
    · intro V wx hw hd
      simp [phi, Region.binds, cst] at hd
      try simp only [hd]
      first
        | (refine soft_const rfl ?_; go_simp; done)
        | (refine soft_const rfl ?_; go_simp; exact rfl)
        | (exact soft_skip rfl)
    · intro V wx hw hd
      simp [phi, Region.binds, cst] at hd
      try simp only [hd]
      first
        | (refine soft_const rfl ?_; go_simp; done)
        | (refine soft_const rfl ?_; go_simp; exact rfl)
        | (exact soft_skip rfl)
    · intro V wx hw hd
      simp [phi, Region.binds, cst] at hd
      try simp only [hd]
      exact soft_made (w' := wx.alloc (.cells #[.slice (some ⟨q, 0, none⟩) 32 32, .slice (some ⟨q + 1, 0, none⟩) 32 32] 22)) (v := .slice (some ⟨wx.heap.size, 0, none⟩) 2 2) rfl (by go_simp) (Chg.alloc _ _ _) ⟨_, _, SlB.mk2 wx _ _ a b (by rw [ha]; exact x1.tr0 hw) (by rw [hb]; exact x2.tr0 hw) _, fun j hj => by
        have hqw := (g00.t0 hw).size
        have hqq := hq.out
        rcases hj with hj | ⟨x, hx, hj⟩
        · obtain ⟨_, hj⟩ := vblk_slice.1 hj
          simp at hj
          omega
        · simp only [List.mem_cons, List.not_mem_nil, or_false] at hx
          rcases hx with rfl | rfl <;> (obtain ⟨_, hj⟩ := vblk_slice.1 hj; simp at hj; omega)⟩
  intro V w1 g1 hk
  have h1 := hk 0 (by decide)
  have h4 := hk 3 (by decide)
  simp [phi, cst] at h1 h4
  simp only [h1, List.drop_succ_cons, List.drop_zero]
  generalize V 3 = v at *
  have g01 := g00.t0 g1
  replace h0 := g1.heap h0 (by simp)
  have kH := kN w1 v g1 h4
  clear hk h1 h4 kN x1 x2 g00 g1
  go_wp2_with fail
  refine kH.mono ?_
  rintro e w4 ⟨rfl, v', F', hL, hF', g4, sn⟩
  have g04 := chg_new g01 g4
  have hne : q + 2 ∉ p :: vl.ownBlock.toList := by
    intro hm
    rcases List.mem_cons.1 hm with h | h
    · omega
    · have := hsb _ (by simpa using h); omega
  replace h0 := g4.heap h0 hne
  have sn0 := sn_new g01 sn
  clear kH g01 g4 sn
  go_wp2_with (refine store_bytes (by rfl) 32 _ _ (by rfl) (q + 2) 32 _ rfl H (by rfl) (List.replicate 32 0) h0 (by kernel_rfl) hHl (by simp) ?_; intro w5 h5 g5 s5)
  have hL5 : LogR w5 p base v' F' := ⟨g5.heap hL.cell (by simp; omega), hL.rows.trT g5 h0 (by decide) (by decide)⟩
  have g05 := g04.tn g5 (by have := hq.out; omega)
  go_wp2
  exact ret_bytes 6 32 (by rfl) 32 5 Try.underlying32 (by kernel_rfl) (by rfl) _ rfl H _ h5 hHl ⟨rfl, v', F', hL5, hF', g05, sn0⟩
end Go.Proofs.Ytgepfmofignmfaa
