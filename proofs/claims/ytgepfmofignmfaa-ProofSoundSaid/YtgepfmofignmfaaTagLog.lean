/-
  Digests of frames, and logs: the contracts of tag.New, (*Log).Hash, (*Log).Frames, tag.Hash and of the document's own .Hash (hypostyleref02).
-/
import Derived.Test.YtgepfmofignmfaaTagParse
import Derived.Test.YtgepfmofignmfaaSha10
namespace Go.Proofs.Ytgepfmofignmfaa
set_option linter.unusedSimpArgs false
set_option linter.unusedVariables false
open Go.RowKit

def zero32 : Bytes := List.replicate 32 0
def hashV (s : Bytes) (ps : List Bytes) : Bytes := if frameOk s ps = true then sumB (frameB s ps) else zero32
theorem hashV_len (s : Bytes) (ps : List Bytes) : (hashV s ps).length = 32 := by
  unfold hashV
  split
  · exact digTo_length _ _
  · exact List.length_replicate
theorem frameV_len (s : Bytes) (ps : List Bytes) (h : frameOk s ps = true) (hb : sumL ps ≤ 2147480000) : (frameV s ps).length ≤ 2147483647 := by
  unfold frameV
  rw [if_pos h, frame_len, flatB_len]
  simp only [frameOk, Bool.and_eq_true, decide_eq_true_eq] at h
  omega

set_option maxHeartbeats 4000000 in
set_option maxRecDepth 100000 in
theorem rhash_ok (w : World) (s : Bytes) (v : Value) (D : RowsB) (hD : SlB w v D) (hsl : s.length ≤ maxLen) (hdl : D.length ≤ maxLen) (hb : sumL (D.map (·.2)) ≤ 2147480000) :
    Calls Try.prog 61 #[.string (bstr s), v] w fun e w' => e = .returned (.agg (bcs (hashV s (D.map (·.2)))).toArray) ∧ Chg [] w w' := by
  obtain ⟨a0, c0, rfl⟩ := hD.1.shape
  have hlen := frameV_len s (D.map (·.2))
  obtain ⟨H, hH⟩ : ∃ H, H = hashV s (D.map (·.2)) := ⟨_, rfl⟩
  rw [← hH]
  have hHl : H.length = 32 := by rw [hH]; exact hashV_len _ _
  go_enter Try.func61, Try.ntmps61
  go_wp2_with (refine alloc_bytes (by rfl) 32 (by rfl) 32 (by kernel_rfl) ?_; intro w0 h0 g0 s0; replace s0 : Hid _ := s0)
  refine (rframe_ok w0 s _ D (hD.tr0 g0) hsl hdl hb).mono ?_
  rintro e w1 ⟨v1, rfl, o1, g1⟩
  replace h0 := g1.heap h0 (by simp)
  have g01 := g0.t0 g1
  cases hf : frameOk s (D.map (·.2))
  · have hH1 : H = zero32 := by rw [hH, hashV, if_neg (by rw [hf]; decide)]
    subst hH1
    clear hH hlen
    go_wp2_with (refine store_bytes (by rfl) 32 _ _ (by rfl) w.heap.size 32 _ rfl zero32 (by rfl) (List.replicate 32 0) h0 (by kernel_rfl) hHl (by simp) ?_; intro w2 h2 g2 s2)
    have g3 : Chg [] w w2 := g01.tn g2 (Nat.le_refl _)
    go_wp2
    exact ret_bytes 4 32 (by rfl) 32 5 Try.underlying32 (by kernel_rfl) (by rfl) _ rfl zero32 _ h2 hHl ⟨rfl, g3⟩
  · have hH1 : H = sumB (frameV s (D.map (·.2))) := by rw [hH, hashV, if_pos hf, frameV, if_pos hf]
    have hl := hlen hf hb
    clear hH hlen hf
    generalize frameV s (D.map (·.2)) = f at *
    go_wp2_with fail
    refine (ref01_sum_ok w1 v1 f (Sl.ofOwns o1) hl).mono ?_
    rintro e w2 ⟨rfl, g2⟩
    replace h0 := g2.heap h0 (by simp)
    have g02 := g01.t0 g2
    rw [← hH1]
    clear hH1
    go_wp2_with (refine store_bytes (by rfl) 32 _ _ (by rfl) w.heap.size 32 _ rfl H (by rfl) (List.replicate 32 0) h0 (by kernel_rfl) hHl (by simp) ?_; intro w3 h3 g3 s3)
    have g4 : Chg [] w w3 := g02.tn g3 (Nat.le_refl _)
    go_wp2
    exact ret_bytes 4 32 (by rfl) 32 5 Try.underlying32 (by kernel_rfl) (by rfl) _ rfl H _ h3 hHl ⟨rfl, g4⟩

/-- A log at block p: its frames' row is v, all of it its own. -/
structure LogAt (w : World) (p base : Nat) (v : Value) (F : RowsB) : Prop where
  cell : w.heap[p]? = some (.cells #[v] 62 (0, 0))
  rows : OwnsB w base v F
theorem ownB_not {w : World} {base e size n p t : Nat} {v : Value} {xs : List Value} {cs : Array Value} {f : Nat × Nat} (h : w.ownsRow base e size v n xs) (hp : w.heap[p]? = some (.cells cs t f)) (he : e ≠ t) : v.ownBlock ≠ some p := by
  intro hk
  obtain ⟨c1, f1, h1⟩ := ownB_type h p hk
  rw [h1] at hp
  simp at hp
  exact he hp.2.1
/-- What is turned is of another type than bytes and rows of them. -/
theorem OwnsB.trT {w w' : World} {base p t : Nat} {v : Value} {D : RowsB} {cs : Array Value} {f : Nat × Nat} (h : OwnsB w base v D) (g : Chg [p] w w') (hp : w.heap[p]? = some (.cells cs t f)) (h1 : 22 ≠ t) (h2 : 5 ≠ t) : OwnsB w' base v D :=
  ⟨ownB_trD h.1 g (by intro k hk; rw [List.mem_singleton.1 hk]; exact ownB_not h.1 hp h1), fun x hx => ownB_trD (h.2 x hx) g (by intro k hk; rw [List.mem_singleton.1 hk]; exact ownB_not (h.2 x hx) hp h2)⟩
theorem LogAt.lt {w : World} {p base : Nat} {v : Value} {F : RowsB} (h : LogAt w p base v F) : p < w.heap.size := lt_of_heap h.cell
theorem LogAt.tr0 {w w' : World} {p base : Nat} {v : Value} {F : RowsB} (h : LogAt w p base v F) (g : Chg [] w w') : LogAt w' p base v F := ⟨g.heap h.cell (by simp), h.rows.tr0 g⟩

set_option maxHeartbeats 4000000 in
theorem lognew_ok (w : World) (base : Nat) : Calls Try.prog 14 #[] w fun e w' => e = .returned (.pointer (some ⟨w.heap.size, 0, none⟩)) ∧ LogAt w' w.heap.size base (.slice none 0 0) [] ∧ Chg [] w w' := by
  go_enter Try.func14, Try.ntmps14
  go_wp2
  go_ret
  exact ⟨rfl, ⟨heap_alloc_new _ _, OwnsB.nil _ _⟩, Chg.alloc [] w _⟩

/-- What a log has behind a tag and parts. -/
def logB (s : Bytes) (ps : List Bytes) : List Bytes := if frameOk s ps = true then [frameB s ps] else []
set_option maxHeartbeats 4000000 in
set_option maxRecDepth 100000 in
theorem loghash_ok (w : World) (p base : Nat) (vl : Value) (F : RowsB) (hF : LogAt w p base vl F) (hbase : base ≤ w.heap.size) (hfl : F.length ≤ 1000000) (s : Bytes) (v : Value) (D : RowsB) (hD : SlB w v D) (hsl : s.length ≤ maxLen) (hdl : D.length ≤ maxLen) (hb : sumL (D.map (·.2)) ≤ 2147480000) :
    Calls Try.prog 36 #[.pointer (some ⟨p, 0, none⟩), .string (bstr s), v] w fun e w' => e = .returned (.agg (bcs (hashV s (D.map (·.2)))).toArray) ∧
      ∃ v' F', LogAt w' p base v' F' ∧ F'.map (·.2) = F.map (·.2) ++ logB s (D.map (·.2)) ∧ Chg (p :: vl.ownBlock.toList) w w' ∧ SameNew w vl v' := by
  obtain ⟨a0, c0, rfl⟩ := hD.1.shape
  have hlen := frameV_len s (D.map (·.2))
  obtain ⟨H, hH⟩ : ∃ H, H = hashV s (D.map (·.2)) := ⟨_, rfl⟩
  obtain ⟨LB, hLB⟩ : ∃ LB, LB = logB s (D.map (·.2)) := ⟨_, rfl⟩
  rw [← hH, ← hLB]
  have hHl : H.length = 32 := by rw [hH]; exact hashV_len _ _
  have hpw := hF.lt
  have hp0 : p ≠ w.heap.size := by omega
  go_enter Try.func36, Try.ntmps36
  go_wp2_with (refine alloc_bytes (by rfl) 32 (by rfl) 32 (by kernel_rfl) ?_; intro w0 h0 g0 s0; replace s0 : Hid _ := s0)
  refine (frame_ok w0 s _ D (hD.tr0 g0) hsl hdl hb).mono ?_
  rintro e w1 ⟨v1, rfl, o1, g1⟩
  replace h0 := g1.heap h0 (by simp)
  have g01 := g0.t0 g1
  have hF1 := hF.tr0 g01
  cases hf : frameOk s (D.map (·.2))
  · have hH1 : H = zero32 := by rw [hH, hashV, if_neg (by rw [hf]; decide)]
    have hL1 : LB = [] := by rw [hLB, logB, if_neg (by rw [hf]; decide)]
    subst hH1 hL1
    clear hH hlen hLB
    go_wp2_with (refine store_bytes (by rfl) 32 _ _ (by rfl) w.heap.size 32 _ rfl zero32 (by rfl) (List.replicate 32 0) h0 (by kernel_rfl) hHl (by simp) ?_; intro w2 h2 g2 s2)
    have g3 : Chg [] w w2 := g01.tn g2 (Nat.le_refl _)
    go_wp2
    exact ret_bytes 6 32 (by rfl) 32 5 Try.underlying32 (by kernel_rfl) (by rfl) _ rfl zero32 _ h2 hHl ⟨rfl, vl, F, hF.tr0 g3, by simp, g3.of0, SameNew.refl _ _⟩
  · have hH1 : H = sumB (frameV s (D.map (·.2))) := by rw [hH, hashV, if_pos hf, frameV, if_pos hf]
    have hL1 : LB = [frameV s (D.map (·.2))] := by rw [hLB, logB, if_pos hf, frameV, if_pos hf]
    have hl := hlen hf hb
    clear hH hlen hf hLB
    generalize frameV s (D.map (·.2)) = f at *
    obtain ⟨al, cl, rfl⟩ := hF.rows.shape
    obtain ⟨af, cf, rfl⟩ := own_shape o1
    obtain ⟨k0, f0⟩ := cells1 hF1.cell
    have o1' := own_lower o1 (show base ≤ w0.heap.size from Nat.le_trans hbase g0.size)
    have ga := Chg.alloc [] w1 (.cells #[.slice af f.length cf] 22)
    have hFa := hF1.tr0 ga
    have hz1 : w.heap.size ≤ w1.heap.size := g01.size
    go_wp2_with (at_builtin; go_must (refine wpList_append_slF _ rfl (.tmp 22) (.tmp 24) 28 22 1 24 rfl el_row base _ _ _ rfl hFa.rows.1 _ 1 [.slice af f.length cf] rfl (Sl.lit w1 #[.slice af f.length cf] _ 1 (by decide)) rfl (by intro u hu; rw [List.mem_singleton.1 hu]; rfl) (by unfold big; omega) (by simp; omega) ?_))
    intro v2 w2 o2 g2 sn2
    have oD2 := hFa.rows.push (own_tr o1' ga (by simp)) o2 g2
    have hpne : (Value.slice al F.length cl).ownBlock ≠ some p := ownB_not hFa.rows.1 hFa.cell (by decide)
    have hp2 := (Chg.grown g2).heap hFa.cell (by simpa using hpne)
    obtain ⟨k2, f2⟩ := cells1 hp2
    have h02 := (Chg.grown g2).heap (ga.heap h0 (by simp)) (by
      have := hF.rows.1.lt
      intro hm
      have := this w.heap.size (by simpa using hm)
      omega)
    obtain ⟨a2, c2, rfl⟩ := own_shape o2
    have gS := Chg.setCell w2 ⟨p, 0, none⟩ (.slice a2 (F.length + 1) c2)
    have o1n := own_tr o1' ga (by simp)
    have s1 : Sl (w2.setCell ⟨p, 0, none⟩ (.slice a2 (F.length + 1) c2)) (.slice af f.length cf) f.length (bcs f) := by
      have h1 := ownB_trD o1n (Chg.grown g2) (ownB_apart hFa.rows.1 o1n (by decide))
      exact Sl.ofOwns (ownB_trD h1 gS (by intro k hk; rw [List.mem_singleton.1 hk]; exact ownB_not h1 hp2 (by decide)))
    have hL3 : LogAt (w2.setCell ⟨p, 0, none⟩ (.slice a2 (F.length + 1) c2)) p base (.slice a2 (F.length + 1) c2) (F ++ [(.slice af f.length cf, f)]) :=
      ⟨by rw [heap_setCell_same _ p 0 _ _ _ hp2]; rfl, oD2.trT gS hp2 (by decide) (by decide)⟩
    have h03 := gS.heap h02 (by simpa using hp0.symm)
    have hg1 : Chg (p :: (Value.slice al F.length cl).ownBlock.toList) w (w2.setCell ⟨p, 0, none⟩ (.slice a2 (F.length + 1) c2)) :=
      ((g01.t0 ga).of0.trans (Chg.grown g2) (fun x hx => .inl (List.mem_cons_of_mem _ hx))).trans gS (fun x hx => .inl (by rw [List.mem_singleton.1 hx]; exact List.mem_cons_self ..))
    have sn3 : SameNew w (.slice al F.length cl) (.slice a2 (F.length + 1) c2) := by
      rcases sn2 with h | h
      · exact .inl h
      · exact .inr fun k hk => by have := h k hk; simp at this; omega
    go_wp2_with fail
    generalize w2.setCell ⟨p, 0, none⟩ (.slice a2 (F.length + 1) c2) = w3 at *
    clear gS o1n h02 oD2 hpne o2 g2 sn2 hFa ga o1' hF1 hp2 k2 f2 k0 f0
    refine (sum_ok w3 _ f s1 hl).mono ?_
    rintro e w4 ⟨rfl, g4⟩
    replace h03 := g4.heap h03 (by simp)
    rw [← hH1]
    have hL4 := hL3.tr0 g4
    have hg4 := hg1.t0 g4
    clear hH1 hL3 hg1 g4 s1
    go_wp2_with (refine store_bytes (by rfl) 32 _ _ (by rfl) w.heap.size 32 _ rfl H (by rfl) (List.replicate 32 0) h03 (by kernel_rfl) hHl (by simp) ?_; intro w5 h5 g5 s5)
    have hL5 : LogAt w5 p base (.slice a2 (F.length + 1) c2) (F ++ [(.slice af f.length cf, f)]) := ⟨g5.heap hL4.cell (by simpa using hp0), hL4.rows.trT g5 h03 (by decide) (by decide)⟩
    have hg5 := hg4.tn g5 (Nat.le_refl _)
    go_wp2
    exact ret_bytes 6 32 (by rfl) 32 5 Try.underlying32 (by kernel_rfl) (by rfl) _ rfl H _ h5 hHl ⟨rfl, _, _, hL5, by rw [hL1]; simp, hg5, sn3⟩
end Go.Proofs.Ytgepfmofignmfaa
