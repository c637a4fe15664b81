/-
  The contracts of tag.Hash, (*Log).Frames and of the law's own .Few (hypostylelaw02).
-/
import Derived.Test.YtgepfmofignmfaaTagLog
namespace Go.Proofs.Ytgepfmofignmfaa
set_option linter.unusedSimpArgs false
set_option linter.unusedVariables false
open Go.RowKit

set_option maxHeartbeats 4000000 in
set_option maxRecDepth 100000 in
theorem taghash_ok (w : World) (s : Bytes) (v : Value) (D : RowsB) (hD : SlB w v D) (hsl : s.length ≤ maxLen) (hdl : D.length ≤ maxLen) (hb : sumL (D.map (·.2)) ≤ 2147480000) :
    Calls Try.prog 35 #[.string (bstr s), v] w fun e w' => e = .returned (.agg (bcs (hashV s (D.map (·.2)))).toArray) ∧ Chg [] w w' := by
  obtain ⟨H, hH⟩ : ∃ H, H = hashV s (D.map (·.2)) := ⟨_, rfl⟩
  rw [← hH]
  have hHl : H.length = 32 := by rw [hH]; exact hashV_len _ _
  go_enter Try.func35, Try.ntmps35
  go_wp2_with (refine alloc_bytes (by rfl) 32 (by rfl) 32 (by kernel_rfl) ?_; intro w0 h0 g0 s0; replace s0 : Hid _ := s0)
  refine (lognew_ok w0 w0.heap.size).mono ?_
  rintro e w1 ⟨rfl, l1, g1⟩
  replace h0 := g1.heap h0 (by simp)
  have hw1 := g1.size
  go_wp2_with fail
  have key := loghash_ok w1 w0.heap.size w0.heap.size _ [] l1 g1.size (by simp) s v D (hD.tr0 (g0.t0 g1)) hsl hdl hb
  rw [← hH] at key
  clear hH
  refine key.mono ?_
  rintro e w2 ⟨rfl, v', F', _, _, g2, _⟩
  have g3 : Chg [] w w2 := (g0.t0 g1).tn (p := w0.heap.size) (g2.mono (by simp [Value.ownBlock])) (by have := s0.out; omega)
  have h2 := g2.heap h0 (by have := s0.out; simp [Value.ownBlock]; omega)
  go_wp2_with (refine store_bytes (by rfl) 32 _ _ (by rfl) w.heap.size 32 _ rfl H (by rfl) (List.replicate 32 0) h2 (by kernel_rfl) hHl (by simp) ?_; intro w5 h5 g5 s5)
  have g6 := g3.tn g5 (Nat.le_refl _)
  go_wp2
  exact ret_bytes 4 32 (by rfl) 32 5 Try.underlying32 (by kernel_rfl) (by rfl) _ rfl H _ h5 hHl ⟨rfl, g6⟩

set_option maxHeartbeats 4000000 in
set_option maxRecDepth 100000 in
theorem frames_ok (w : World) (p base : Nat) (v : Value) (F : RowsB) (hF : LogAt w p base v F) (hl : F.length ≤ 1000000) (hx : ∀ x ∈ F, x.2.length ≤ 2147483647) :
    Calls Try.prog 22 #[.pointer (some ⟨p, 0, none⟩)] w fun e w' => ∃ v', e = .returned v' ∧ ∃ D, OwnsB w' w.heap.size v' D ∧ D.map (·.2) = F.map (·.2) ∧ Chg [] w w' := by
  obtain ⟨k0, f0⟩ := cells1 hF.cell
  have hS := hF.rows.sl
  obtain ⟨a0, c0, rfl⟩ := hS.1.shape
  go_enter Try.func22, Try.ntmps22
  go_wp2_with fail
  go_loopw [3, 11] (fun ov iv wr => ∃ (k : Nat) (D : RowsB), k ≤ F.length ∧ iv = .int .i64 k ∧ OwnsB wr w.heap.size ov D ∧ D.length = k ∧ D.map (·.2) = (F.take k).map (·.2) ∧ Chg [] w wr) (fun _ iv _ => F.length - (intOf iv).toNat)
  case atStart => exact ⟨0, [], Nat.zero_le _, rfl, OwnsB.nil _ _, rfl, by simp, Chg.refl _ _⟩
  case round =>
    obtain ⟨k, D, hk, rfl, oD, rfl, hm, hc⟩ := hrel
    by_cases hlt : D.length < F.length
    · obtain ⟨b, off, c, e, hbl, x1, sx⟩ := (hS.tr0 hc).cell D.length hlt
      cases e
      have hkd : (D.length : Int) < F.length := by omega
      have hfl := hx _ (List.getElem_mem hlt)
      have hnx : (F.take (D.length + 1)).map (·.2) = (F.take D.length).map (·.2) ++ [F[D.length].2] := by rw [List.take_succ_eq_append_getElem hlt, List.map_append]; rfl
      obtain ⟨ax, cx, ex⟩ := sx.shape
      rw [ex] at x1 sx
      generalize F[D.length].2 = f at *
      replace hnx := Lib.hid hnx
      replace hm := Lib.hid hm
      go_wp2_with fail
      refine (cloneb_ok wr _ f sx (by unfold big; omega)).mono ?_
      rintro e w5 ⟨u5, rfl, o5, g5⟩
      obtain ⟨a5, c5, rfl⟩ := own_shape o5
      have ga := Chg.alloc [] w5 (.cells #[.slice a5 f.length c5] 22)
      have oD5 := oD.tr0 (g5.t0 ga)
      have hc5 := hc.t0 (g5.t0 ga)
      have o5' := own_lower (own_tr o5 ga (by simp)) hc.size
      go_wp2_with (at_builtin; go_must (refine wpList_append_sl _ rfl (.tmp 15) (.tmp 18) 28 22 1 24 rfl el_row w.heap.size _ _ _ rfl oD5.1 _ 1 [.slice a5 f.length c5] rfl (Sl.lit w5 #[.slice a5 f.length c5] _ 1 (by decide)) rfl (by intro u hu; rw [List.mem_singleton.1 hu]; rfl) (by unfold big; omega) hc5.size ?_))
      intro v6 w6 o6 g6
      have oD6 := oD5.push o5' o6 g6
      have hc6 : Chg [] w w6 := hc5.grownOwn g6 oD5.1 (Nat.le_refl _)
      clear o6 g6 o5 o5' oD5 oD ga g5 hc5 hc
      go_wp2
      go_roundw
      case rel => exact ⟨D.length + 1, D ++ [(.slice a5 f.length c5, f)], by omega, by go_num, oD6, by simp, by rw [hnx.out, ← hm.out]; simp, hc6⟩
      case measure => simp [intOf]; omega
    · have hkl : D.length = F.length := by omega
      rw [hkl, List.take_of_length_le (Nat.le_refl _)] at hm
      replace hkl := Lib.hid hkl
      replace hm := Lib.hid hm
      go_wp2
      go_ret
      exact ⟨_, rfl, D, oD, hm.out, hc⟩

/-- Are parts few, and short? -/
def fewB (ps : List Bytes) : Bool := decide (ps.length ≤ 260) && decide (sumL ps ≤ 1500)
theorem sumL_take (ps : List Bytes) (k : Nat) (h : k < ps.length) : sumL (ps.take (k + 1)) = sumL (ps.take k) + ps[k].length := by
  unfold sumL
  rw [List.take_succ_eq_append_getElem h, List.map_append, List.sum_append]; simp
theorem sumL_le (ps : List Bytes) (M : Nat) (h : ∀ p ∈ ps, p.length ≤ M) : sumL ps ≤ ps.length * M := by
  induction ps with
  | nil => simp [sumL]
  | cons p ps ih =>
    have h1 := h p (List.mem_cons_self ..)
    have h2 := ih fun q hq => h q (List.mem_cons_of_mem _ hq)
    simp only [sumL, List.map_cons, List.sum_cons, List.length_cons, Nat.add_mul, Nat.one_mul] at *
    omega

end Go.Proofs.Ytgepfmofignmfaa
