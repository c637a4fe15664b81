/-
  The contracts of tag.Hash, (*Log).Frames and of the law's own .Few (hypostylelaw02).
-/
import Derived.Test.YtfodlkofjmbolaaTagLog
namespace Go.Proofs.Ytfodlkofjmbolaa
set_option linter.unusedSimpArgs false
set_option linter.unusedVariables false
open Go.RowKit

set_option maxHeartbeats 4000000 in
set_option maxRecDepth 100000 in
theorem taghash_ok (w : World) (s : Bytes) (v : Value) (D : RowsB) (hD : SlB w v D) (hsl : s.length ≤ maxLen) (hdl : D.length ≤ maxLen) (hb : sumL (D.map (·.2)) ≤ 2147480000) :
    Calls Try.prog 30 #[.string (bstr s), v] w fun e w' => e = .returned (.agg (bcs (hashV s (D.map (·.2)))).toArray) ∧ Chg [] w w' := by
  obtain ⟨H, hH⟩ : ∃ H, H = hashV s (D.map (·.2)) := ⟨_, rfl⟩
  rw [← hH]
  have hHl : H.length = 32 := by rw [hH]; exact hashV_len _ _
  go_enter Try.func30, Try.ntmps30
  go_wp2_with (refine alloc_bytes (by rfl) 25 (by rfl) 32 (by kernel_rfl) ?_; intro w0 h0 g0 s0; replace s0 : Hid _ := s0)
  refine (lognew_ok w0 w0.heap.size).mono ?_
  rintro e w1 ⟨rfl, l1, g1⟩
  replace h0 := g1.heap h0 (by simp)
  have hw1 := g1.size
  go_wp2_with fail
  have key := loghash_ok w1 w0.heap.size w0.heap.size _ [] l1 g1.size (by simp) s v D (hD.tr0 (g0.t0 g1)) hsl hdl hb
  rw [← hH] at key
  clear hH
  refine key.mono ?_
  rintro e w2 ⟨rfl, v', F', _, _, g2, _⟩
  have g3 : Chg [] w w2 := (g0.t0 g1).tn (p := w0.heap.size) (g2.mono (by simp [Value.ownBlock])) (by have := s0.out; omega)
  have h2 := g2.heap h0 (by have := s0.out; simp [Value.ownBlock]; omega)
  go_wp2_with (refine store_bytes (by rfl) 25 _ _ (by rfl) w.heap.size 32 _ rfl H (by rfl) (List.replicate 32 0) h2 (by kernel_rfl) hHl (by simp) ?_; intro w5 h5 g5 s5)
  have g6 := g3.tn g5 (Nat.le_refl _)
  go_wp2
  exact ret_bytes 4 25 (by rfl) 32 5 Try.underlying25 (by kernel_rfl) (by rfl) _ rfl H _ h5 hHl ⟨rfl, g6⟩

set_option maxHeartbeats 4000000 in
set_option maxRecDepth 100000 in
theorem frames_ok (w : World) (p base : Nat) (v : Value) (F : RowsB) (hF : LogAt w p base v F) (hl : F.length ≤ 1000000) (hx : ∀ x ∈ F, x.2.length ≤ 2147483647) :
    Calls Try.prog 34 #[.pointer (some ⟨p, 0, none⟩)] w fun e w' => ∃ v', e = .returned v' ∧ ∃ D, OwnsB w' w.heap.size v' D ∧ D.map (·.2) = F.map (·.2) ∧ Chg [] w w' := by
  obtain ⟨k0, f0⟩ := cells1 hF.cell
  have hS := hF.rows.sl
  obtain ⟨a0, c0, rfl⟩ := hS.1.shape
  go_enter Try.func34, Try.ntmps34
  go_wp2_with fail
  go_loopw [3, 11] (fun ov iv wr => ∃ (k : Nat) (D : RowsB), k ≤ F.length ∧ iv = .int .i64 k ∧ OwnsB wr w.heap.size ov D ∧ D.length = k ∧ D.map (·.2) = (F.take k).map (·.2) ∧ Chg [] w wr) (fun _ iv _ => F.length - (intOf iv).toNat)
  case atStart => exact ⟨0, [], Nat.zero_le _, rfl, OwnsB.nil _ _, rfl, by simp, Chg.refl _ _⟩
  case round =>
    obtain ⟨k, D, hk, rfl, oD, rfl, hm, hc⟩ := hrel
    by_cases hlt : D.length < F.length
    · obtain ⟨b, off, c, e, hbl, x1, sx⟩ := (hS.tr0 hc).cell D.length hlt
      cases e
      have hkd : (D.length : Int) < F.length := by omega
      have hfl := hx _ (List.getElem_mem hlt)
      have hnx : (F.take (D.length + 1)).map (·.2) = (F.take D.length).map (·.2) ++ [F[D.length].2] := by rw [List.take_succ_eq_append_getElem hlt, List.map_append]; rfl
      obtain ⟨ax, cx, ex⟩ := sx.shape
      rw [ex] at x1 sx
      generalize F[D.length].2 = f at *
      replace hnx := Lib.hid hnx
      replace hm := Lib.hid hm
      go_wp2_with fail
      refine (cloneb_ok wr _ f sx (by unfold big; omega)).mono ?_
      rintro e w5 ⟨u5, rfl, o5, g5⟩
      obtain ⟨a5, c5, rfl⟩ := own_shape o5
      have ga := Chg.alloc [] w5 (.cells #[.slice a5 f.length c5] 22)
      have oD5 := oD.tr0 (g5.t0 ga)
      have hc5 := hc.t0 (g5.t0 ga)
      have o5' := own_lower (own_tr o5 ga (by simp)) hc.size
      go_wp2_with (at_builtin; go_must (refine wpList_append_sl _ rfl (.tmp 15) (.tmp 18) 38 22 1 24 rfl el_row w.heap.size _ _ _ rfl oD5.1 _ 1 [.slice a5 f.length c5] rfl (Sl.lit w5 #[.slice a5 f.length c5] _ 1 (by decide)) rfl (by intro u hu; rw [List.mem_singleton.1 hu]; rfl) (by unfold big; omega) hc5.size ?_))
      intro v6 w6 o6 g6
      have oD6 := oD5.push o5' o6 g6
      have hc6 : Chg [] w w6 := hc5.grownOwn g6 oD5.1 (Nat.le_refl _)
      clear o6 g6 o5 o5' oD5 oD ga g5 hc5 hc
      go_wp2
      go_roundw
      case rel => exact ⟨D.length + 1, D ++ [(.slice a5 f.length c5, f)], by omega, by go_num, oD6, by simp, by rw [hnx.out, ← hm.out]; simp, hc6⟩
      case measure => simp [intOf]; omega
    · have hkl : D.length = F.length := by omega
      rw [hkl, List.take_of_length_le (Nat.le_refl _)] at hm
      replace hkl := Lib.hid hkl
      replace hm := Lib.hid hm
      go_wp2
      go_ret
      exact ⟨_, rfl, D, oD, hm.out, hc⟩

/-- Are parts few, and short? -/
def fewB (ps : List Bytes) : Bool := decide (ps.length ≤ 260) && decide (sumL ps ≤ 1500)
theorem sumL_take (ps : List Bytes) (k : Nat) (h : k < ps.length) : sumL (ps.take (k + 1)) = sumL (ps.take k) + ps[k].length := by
  unfold sumL
  rw [List.take_succ_eq_append_getElem h, List.map_append, List.sum_append]; simp
theorem sumL_le (ps : List Bytes) (M : Nat) (h : ∀ p ∈ ps, p.length ≤ M) : sumL ps ≤ ps.length * M := by
  induction ps with
  | nil => simp [sumL]
  | cons p ps ih =>
    have h1 := h p (List.mem_cons_self ..)
    have h2 := ih fun q hq => h q (List.mem_cons_of_mem _ hq)
    simp only [sumL, List.map_cons, List.sum_cons, List.length_cons, Nat.add_mul, Nat.one_mul] at *
    omega

set_option maxHeartbeats 4000000 in
set_option maxRecDepth 100000 in
theorem fewB_ok (w : World) (v : Value) (D : RowsB) (hD : SlB w v D) (hb : D.length ≤ maxLen) (hx : ∀ x ∈ D, x.2.length ≤ big) :
    Calls Try.prog 24 #[v] w fun e w' => e = .returned (.bool (fewB (D.map (·.2)))) ∧ Chg [] w w' := by
  obtain ⟨a0, c0, rfl⟩ := hD.1.shape
  obtain ⟨B, hB⟩ : ∃ B, B = fewB (D.map (·.2)) := ⟨_, rfl⟩
  rw [← hB]
  replace hB := Lib.hid hB
  unfold maxLen at hb
  go_enter Try.func24, Try.ntmps24
  go_wp2_with fail
  go_loop [3, 4] (fun nv iv => ∃ (z : Int) (k : Nat), k ≤ D.length ∧ nv = .int .i64 z ∧ iv = .int .i64 k ∧ (D.length ≤ 260 → z = sumL ((D.map (·.2)).take k))) (fun nv iv => D.length - (intOf iv).toNat)
  case atStart => exact ⟨0, 0, Nat.zero_le _, rfl, rfl, fun _ => by simp [sumL]⟩
  case round =>
    obtain ⟨z, k, hk, rfl, rfl, hz⟩ := hrel
    by_cases hlt : k < D.length
    · obtain ⟨b, off, c, e, hbl, x1, sx⟩ := hD.cell k hlt
      cases e
      have hkd : (k : Int) < D.length := by omega
      have hlm := sx.le
      have hpl := hx _ (List.getElem_mem hlt)
      have hnx := sumL_take (D.map (·.2)) k (by simpa using hlt)
      rw [List.getElem_map] at hnx
      have hsb := fun h260 : D.length ≤ 260 => show sumL ((D.map (·.2)).take (k + 1)) ≤ 260 * big by
        have h1 := sumL_le ((D.map (·.2)).take (k + 1)) big (fun p hp => by
          obtain ⟨x, hx1, rfl⟩ := List.mem_map.1 (List.mem_of_mem_take hp)
          exact hx x hx1)
        have h2 : ((D.map (·.2)).take (k + 1)).length ≤ 260 := by simp; omega
        exact Nat.le_trans h1 (Nat.mul_le_mul_right _ h2)
      obtain ⟨ax, cx, ex⟩ := sx.shape
      rw [ex] at x1 sx
      generalize D[k].2 = f at *
      replace hnx := Lib.hid hnx
      replace hz := Lib.hid hz
      replace hsb := Lib.hid hsb
      go_wp2
      go_round
      case rel => exact ⟨_, k + 1, by omega, rfl, by go_num, fun h260 => by
        have h1 := hsb.out h260
        rw [hz.out h260, hnx.out] at *
        unfold big at h1
        unfold wrap64
        omega⟩
      case measure => simp [intOf]; omega
    · obtain rfl : k = D.length := by omega
      rw [List.take_of_length_le (by simp)] at hz
      have hB' : B = (decide (D.length ≤ 260) && decide (sumL (D.map (·.2)) ≤ 1500)) := by rw [hB.out, fewB, List.length_map]
      by_cases h260 : D.length ≤ 260
      · have hz1 := hz h260
        subst hz1
        clear hz
        replace hB' := Lib.hid hB'
        go_wp2
        go_ret
        refine ⟨?_, Chg.refl _ _⟩
        rw [hB'.out, decide_eq_true h260, Bool.true_and]
        simp
        omega
      · replace hz := Lib.hid hz
        replace hB' := Lib.hid hB'
        go_wp2
        go_ret
        refine ⟨?_, Chg.refl _ _⟩
        rw [hB'.out, decide_eq_false h260, Bool.false_and]
        simp
end Go.Proofs.Ytfodlkofjmbolaa
