/-
  The contract of the document's own .Parse (hypostyleref02).
-/
import Derived.Test.YtfodlkofjmbolaaTagParse
namespace Go.Proofs.Ytfodlkofjmbolaa
set_option linter.unusedSimpArgs false
set_option linter.unusedVariables false
open Go.RowKit

theorem eight {l : Bytes} (h : 8 ≤ l.length) : ∃ x0 x1 x2 x3 x4 x5 x6 x7 r, l = x0 :: x1 :: x2 :: x3 :: x4 :: x5 :: x6 :: x7 :: r := by
  match l, h with
  | x0 :: x1 :: x2 :: x3 :: x4 :: x5 :: x6 :: x7 :: r, _ => exact ⟨x0, x1, x2, x3, x4, x5, x6, x7, r, rfl⟩
def low4 (x0 x1 x2 x3 : UInt8) : Nat := x0.toNat + 256 * x1.toNat + 65536 * x2.toNat + 16777216 * x3.toNat
theorem lenum8 (x0 x1 x2 x3 x4 x5 x6 x7 : UInt8) : lenum [x0, x1, x2, x3, x4, x5, x6, x7] = low4 x0 x1 x2 x3 + 4294967296 * (x4.toNat + 256 * x5.toNat + 65536 * x6.toNat + 16777216 * x7.toNat) := by
  simp only [lenum, low4]; omega
theorem partV_hi {x0 x1 x2 x3 x4 x5 x6 x7 : UInt8} {r : Bytes} (hr : r.length ≤ 2147483647) (h : ¬ (x4 = 0 ∧ x5 = 0 ∧ x6 = 0 ∧ x7 = 0)) : partV (x0 :: x1 :: x2 :: x3 :: x4 :: x5 :: x6 :: x7 :: r) = ([], [], false) := by
  unfold partV
  rw [if_pos (by simp)]
  refine if_neg ?_
  rw [show (x0 :: x1 :: x2 :: x3 :: x4 :: x5 :: x6 :: x7 :: r).take 8 = [x0, x1, x2, x3, x4, x5, x6, x7] from rfl, show (x0 :: x1 :: x2 :: x3 :: x4 :: x5 :: x6 :: x7 :: r).drop 8 = r from rfl, lenum8]
  have : 0 < x4.toNat ∨ 0 < x5.toNat ∨ 0 < x6.toNat ∨ 0 < x7.toNat := by
    refine Decidable.byContradiction fun hn => h ?_
    have e : ∀ x : UInt8, ¬ 0 < x.toNat → x = 0 := fun x hx => UInt8.toNat_inj.1 (by simpa using hx)
    simp only [not_or] at hn
    exact ⟨e _ hn.1, e _ hn.2.1, e _ hn.2.2.1, e _ hn.2.2.2⟩
  omega
theorem partV_lo {x0 x1 x2 x3 : UInt8} {r : Bytes} : partV (x0 :: x1 :: x2 :: x3 :: 0 :: 0 :: 0 :: 0 :: r) = cutV r (low4 x0 x1 x2 x3) := by
  unfold partV
  rw [if_pos (by simp)]
  rw [show (x0 :: x1 :: x2 :: x3 :: 0 :: 0 :: 0 :: 0 :: r).take 8 = [x0, x1, x2, x3, 0, 0, 0, 0] from rfl, show (x0 :: x1 :: x2 :: x3 :: 0 :: 0 :: 0 :: 0 :: r).drop 8 = r from rfl, lenum8]
  rfl
theorem partV_short {l : Bytes} (h : ¬ 8 ≤ l.length) : partV l = ([], [], false) := if_neg h
/-- A row of rows of bytes; the row is the call's own, what it holds lies anywhere that is old. -/
def HoldsB (w0 w : World) (v : Value) (D : RowsB) : Prop := w.ownsRow w0.heap.size 22 1 v D.length (D.map (·.1)) ∧ ∀ x ∈ D, Sl w0 x.1 x.2.length (bcs x.2)
theorem HoldsB.sl {w0 w : World} {v : Value} {D : RowsB} (h : HoldsB w0 w v D) (g : Chg [] w0 w) : SlB w v D := ⟨Sl.ofOwns h.1, fun x hx => (h.2 x hx).tr0 g⟩
theorem HoldsB.tr0 {w0 w w' : World} {v : Value} {D : RowsB} (h : HoldsB w0 w v D) (g : Chg [] w w') : HoldsB w0 w' v D := ⟨own_tr h.1 g (by simp), h.2⟩

theorem Sl.midB {w : World} {a : Option Addr} {c k i : Nat} {l : Bytes} (h : Sl w (.slice a l.length c) l.length (bcs l)) (hk : k ≤ l.length) (hi : i ≤ k) (hc : ¬ c = i) : Sl w (.slice (a.map fun x => x.add i) (k - i) (c - i)) ((l.take k).drop i).length (bcs ((l.take k).drop i)) := by
  have h2 := (h.take hk k).dropN hi hc 1
  rw [List.length_drop, List.length_take, Nat.min_eq_left hk]
  simpa [bcs, List.map_take, List.map_drop] using h2
set_option maxHeartbeats 8000000 in
set_option maxRecDepth 100000 in
theorem rparse_ok (w : World) (v : Value) (l : Bytes) (hs : Sl w v l.length (bcs l)) (hb : l.length ≤ 2147483647) :
    Calls Try.prog 28 #[v] w fun e w' => ∃ v', e = .returned (.tuple #[.string (bstr (parseT l).1), v', .bool (parseT l).2.2]) ∧ ∃ D, HoldsB w w' v' D ∧ D.map (·.2) = (parseT l).2.1 ∧ Chg [] w w' := by
  obtain ⟨R, hR⟩ : ∃ R, R = parseT l := ⟨_, rfl⟩
  rw [← hR]
  replace hR := Lib.hid hR
  have hno : ∀ w' : World, HoldsB w w' (.slice none 0 0) [] := fun w' => ⟨World.ownsRow_nil _ _ _ _, by simp⟩
  have hb0 : bstr [] = { data := #[] } := rfl
  obtain ⟨a0, c0, rfl⟩ := hs.shape
  have hcap : l.length ≤ c0 ∧ c0 ≤ maxLen := by obtain ⟨_, _, e, h1, h2, _⟩ := hs; cases e; exact ⟨h1, h2⟩
  obtain ⟨hc1, hc2⟩ := hcap
  unfold maxLen at hc2
  cases l with
  | nil =>
    have hR1 : R = ([], [], false) := by rw [hR.out]; rfl
    subst hR1
    go_enter Try.func28, Try.ntmps28
    go_wp2
    go_ret3
    exact ⟨_, rfl, [], hno _, rfl, Chg.refl _ _⟩
  | cons h t =>
    cases t with
    | nil =>
      have hR1 : R = ([], [], false) := by
        rw [hR.out]
        by_cases h0 : h = 0
        · exact parseT_one h0
        · exact parseT_two (by
            intro e
            exact h0 (UInt8.toNat_inj.1 (by simpa using e)))
      subst hR1
      go_enter Try.func28, Try.ntmps28
      go_wp2
      go_ret3
      exact ⟨_, rfl, [], hno _, rfl, Chg.refl _ _⟩
    | cons h' t =>
      obtain ⟨b, off, c, e, hbl, x1⟩ := byte_cell hs 0 (by simp)
      cases e
      simp only [List.getElem_cons_zero, Nat.add_zero] at x1
      have htl : (h' :: t).length = (h :: h' :: t).length - 1 := rfl
      have hL2 : 2 ≤ (h :: h' :: t).length := by simp
      have h255 := h.toNat_lt
      obtain ⟨L, hL⟩ : ∃ L, L = h :: h' :: t := ⟨_, rfl⟩
      rw [← hL] at hs hc1 hb hL2 htl hR ⊢
      by_cases h0 : h = 0
      · have hR1 := hR.out
        rw [hL, parseT_one h0] at hR1
        subst hR1 h0
        replace hL := Lib.hid hL
        have hLi : (2 : Int) ≤ L.length := by omega
        go_enter Try.func28, Try.ntmps28
        go_wp2
        go_ret3
        exact ⟨_, rfl, [], hno _, rfl, Chg.refl _ _⟩
      · have h0' : ((h.toNat : Int) == 0) = false := by
          simp only [beq_eq_false_iff_ne]
          intro e
          exact h0 (UInt8.toNat_inj.1 (by simpa using e))
        have h0'' : ¬ (h.toNat : Int) = 0 := by simpa using h0'
        by_cases h1 : 2 + h.toNat ≤ L.length
        · have hd : (h' :: t).drop h.toNat = L[1 + h.toNat]'(by omega) :: L.drop (2 + h.toNat) := by
            rw [show h' :: t = L.drop 1 by rw [hL]; rfl, List.drop_drop, show 2 + h.toNat = 1 + h.toNat + 1 by omega]
            exact List.drop_eq_getElem_cons (by omega)
          have hR1 := hR.out
          rw [hL, parseT_four h0 (by omega) hd] at hR1
          rw [show (h' :: t).take h.toNat = (L.take (1 + h.toNat)).drop 1 by rw [hL, Nat.add_comm, List.take_succ_cons]; rfl] at hR1
          replace hR1 := Lib.hid hR1
          obtain ⟨b', off', c', e, hbl', x2⟩ := byte_cell hs (1 + h.toNat) (by omega)
          cases e
          have sT := hs.midB (k := 1 + h.toNat) (i := 1) (by omega) (by omega) (by omega)
          have sR := fun (hne : ¬ c0 = 2 + h.toNat) => hs.dropB (k := 2 + h.toNat) h1 hne
          have sRE := fun (hne : c0 = 2 + h.toNat) => hs.dropBE (k := 2 + h.toNat) h1 hne
          have hx1 : (L.drop (2 + h.toNat)).length ≤ 2147483647 := by rw [List.length_drop]; omega
          have htd : ((L.take (1 + h.toNat)).drop 1).length = h.toNat := by rw [List.length_drop, List.length_take]; omega
          rw [htd] at sT
          generalize (L.take (1 + h.toNat)).drop 1 = T at *
          have hdl : (L.drop (2 + h.toNat)).length = L.length - (2 + h.toNat) := List.length_drop
          replace hdl := Lib.hid hdl
          generalize L.drop (2 + h.toNat) = r at *
          generalize L[1 + h.toNat]'(by omega) = m at *
          have hm255 := m.toNat_lt
          replace hL := Lib.hid hL
          clear hd hR htl
          have hLi : (2 : Int) ≤ L.length := by omega
          have hLj : ¬ (L.length : Int) < 2 + h.toNat := by omega
          have hn1 : ¬ c0 = 1 := by omega
          have hlm := hs.le
          unfold maxLen at hlm
          go_enter Try.func28, Try.ntmps28
          simp only [Option.map_some, Addr.add_lit, Nat.add_sub_cancel_left] at sT sR sRE
          have OL := hs.lt
          have Or : ∀ rv, Within rv (.slice (some ⟨b, off, none⟩) L.length c0) → Old w rv := fun rv h => h.old hs.lt
          rcases Classical.em (c0 = 2 + h.toNat) with hcc | hcc
          focus
            have sr := sRE hcc
            rw [show L.length - (2 + h.toNat) = 0 by omega] at sr
            clear sR sRE Or OL
            subst hcc
            rw [show 2 + h.toNat - 1 = 1 + h.toNat by omega] at sT
            have hcv := run_str (P := Try.prog) Try.underlying22 Try.underlying5 Try.underlying9 sT htd.symm
            go_wp2_with fail
            generalize (Value.slice (some ⟨b, off, none⟩) 0 0) = rv at *
          rotate_left
          focus
            have sr := sR hcc
            clear sR sRE Or OL
            have hcv := run_str (P := Try.prog) Try.underlying22 Try.underlying5 Try.underlying9 sT htd.symm
            go_wp2_with fail
            generalize (Value.slice (some ⟨b, off + (2 + h.toNat), none⟩) (L.length - (2 + h.toNat)) (c0 - (2 + h.toNat))) = rv at *
          all_goals
            have hm0 : ((m.toNat : Nat) : Int) < 256 := by omega
            clear hcv sT hs hLi hLj hn1 hlm h1 h0' h0'' x1 x2 hdl hL htd hL2 hb hc1 hc2
            go_loopw [0, 7, 8] (fun rv ov iv wr => ∃ (k : Nat) (rr : Bytes) (D : RowsB), k ≤ m.toNat ∧ iv = .int .i64 k ∧ Sl w rv rr.length (bcs rr) ∧ HoldsB w wr ov D ∧ D.length = k ∧ partsV m.toNat r = (partsV (m.toNat - k) rr).map (fun x => (D.map (·.2) ++ x.1, x.2)) ∧ rr.length ≤ 2147483647 ∧ Chg [] w wr) (fun _ _ iv _ => m.toNat - (intOf iv).toNat)
            case atStart => exact ⟨0, r, [], Nat.zero_le _, rfl, sr, hno _, rfl, by simp, hx1, Chg.refl _ _⟩
            case round =>
              clear sr
              obtain ⟨k, rr, D, hk, rfl, sr, oD, hDl, hpv, hrl, hc⟩ := hrel
              by_cases hlt : k < m.toNat
              · have hki : (k : Int) < m.toNat := by omega
                obtain ⟨hF, hT⟩ := partsV_step hlt hpv
                clear hpv
                have hfail : (partV rr).2.2 = false → R = ([], [], false) := fun h => by
                  have := hR1.out
                  rw [hF h] at this
                  exact this
                by_cases h8 : 8 ≤ rr.length
                · obtain ⟨x0, x1, x2, x3, x4, x5, x6, x7, q, hrr⟩ := eight h8
                  obtain ⟨b2, off2, cr, rfl, hcr1, hcr2, hb2, hcell⟩ := (sr.tr0 hc).at (by simp [bcs]; omega)
                  have hbc : bcs rr = bcs (x0 :: x1 :: x2 :: x3 :: x4 :: x5 :: x6 :: x7 :: q) := by rw [hrr]
                  have y0 := hcell 0 _ (by rw [hbc]; rfl)
                  have y1 := hcell 1 _ (by rw [hbc]; rfl)
                  have y2 := hcell 2 _ (by rw [hbc]; rfl)
                  have y3 := hcell 3 _ (by rw [hbc]; rfl)
                  have y4 := hcell 4 _ (by rw [hbc]; rfl)
                  have y5 := hcell 5 _ (by rw [hbc]; rfl)
                  have y6 := hcell 6 _ (by rw [hbc]; rfl)
                  have y7 := hcell 7 _ (by rw [hbc]; rfl)
                  rw [Nat.add_zero] at y0
                  have hql : rr.length = q.length + 8 := by rw [hrr]; rfl
                  have hqd : q = rr.drop 8 := by rw [hrr]; rfl
                  clear hcell hbc
                  have h8i : (8 : Int) ≤ rr.length := by omega
                  have h8j : ¬ (rr.length : Int) < 8 := by omega
                  unfold maxLen at hcr2
                  by_cases hz : x4 = 0 ∧ x5 = 0 ∧ x6 = 0 ∧ x7 = 0
                  · obtain ⟨rfl, rfl, rfl, rfl⟩ := hz
                    rw [hrr, partV_lo] at hF hT hfail
                    have b0 := x0.toNat_lt
                    have b1 := x1.toNat_lt
                    have b2' := x2.toNat_lt
                    have b3 := x3.toNat_lt
                    obtain ⟨N, hN⟩ : ∃ N, N = low4 x0 x1 x2 x3 := ⟨_, rfl⟩
                    rw [← hN] at hF hT hfail
                    have hNi : (x0.toNat : Int) + 256 * x1.toNat + 65536 * x2.toNat + 16777216 * x3.toNat = (N : Int) := by rw [hN]; unfold low4; omega
                    replace hql := Lib.hid hql
                    clear hN hrr
                    go_wp2_with fail
                    go_quiet (fail)
                    have hc' := hc.t0 (Chg.drewN [] wr nq)
                    have oD' := oD.tr0 (Chg.drewN [] wr nq)
                    by_cases hN2 : N ≤ q.length
                    · rw [cutV_yes hN2] at hT
                      have hS := hT rfl
                      dsimp only at hS
                      have hp1 : (q.drop N).length ≤ 2147483647 := by rw [List.length_drop]; have := hql.out; omega
                      have hNr : 8 + N ≤ rr.length := by have := hql.out; omega
                      have hNi2 : (8 : Int) + N ≤ rr.length := by omega
                      have hNi3 : ¬ (rr.length : Int) - 8 < N := by omega
                      have eP : q.take N = (rr.take (8 + N)).drop 8 := by rw [hqd, List.drop_take, Nat.add_sub_cancel_left]
                      have eQ : q.drop N = rr.drop (8 + N) := by rw [hqd, List.drop_drop]
                      have lP : (q.take N).length = N := by rw [List.length_take, Nat.min_eq_left hN2]
                      have lQ : (q.drop N).length = rr.length - (8 + N) := by rw [List.length_drop]; have := hql.out; omega
                      have sP := fun (hne : ¬ cr = 8) => sr.midB (k := 8 + N) (i := 8) hNr (by omega) hne
                      have sQ := fun (hne : ¬ cr = 8 + N) => sr.dropB (k := 8 + N) hNr hne
                      have sQE := fun (hne : cr = 8 + N) => sr.dropBE (k := 8 + N) hNr hne
                      simp only [Option.map_some, Addr.add_lit, Nat.add_sub_cancel_left] at sP sQ sQE
                      rw [← eP] at sP
                      rw [← eQ] at sQ sQE
                      rw [← lQ] at sQ sQE
                      rw [lP] at sP
                      rcases Classical.em (cr = 8) with e8 | e8
                      · skip
                        have hN0 : N = 0 := by have := hql.out; omega
                        have hl8 : rr.length = 8 := by have := hql.out; omega
                        have sE := sr.dropBE (k := 8) h8 e8
                        rw [← hqd, hl8] at sE
                        have hq0 : q = [] := List.eq_nil_of_length_eq_zero (by have := hql.out; omega)
                        have sE' : Sl w (.slice (some ⟨b2, off2, none⟩) 0 0) 0 (bcs []) := by rw [hq0] at sE; exact sE
                        clear sP sQ sQE sr eP eQ hqd
                        replace hq0 := Lib.hid hq0
                        replace hl8 := Lib.hid hl8
                        subst hN0 e8
                        have sPw := (by rw [hq0.out]; exact sE' : Sl w (.slice (some ⟨b2, off2, none⟩) 0 0) 0 (bcs (q.take 0)))
                        have sQw := (by rw [hq0.out]; exact sE' : Sl w (.slice (some ⟨b2, off2, none⟩) 0 0) (q.drop 0).length (bcs (q.drop 0)))
                        have ga := Chg.alloc [] (wr.drewN nq) (.cells #[.slice (some ⟨b2, off2, none⟩) 0 0] 22)
                        have oA := oD'.tr0 ga
                        have hcA := hc'.t0 ga
                        go_wp2_with (at_builtin; go_must (refine wpList_append_sl _ rfl (.tmp 112) (.tmp 117) 38 22 1 24 rfl el_row w.heap.size _ _ _ rfl oA.1 _ 1 [.slice (some ⟨b2, off2, none⟩) 0 0] rfl (Sl.lit _ #[.slice (some ⟨b2, off2, none⟩) 0 0] _ 1 (by decide)) rfl (by intro u hu; rw [List.mem_singleton.1 hu]; rfl) (by unfold big; omega) hcA.size ?_))
                        intro v6 w6 o6 g6
                        have hc6 : Chg [] w w6 := hcA.grownOwn g6 oA.1 (Nat.le_refl _)
                        have oD6 : HoldsB w w6 v6 (D ++ [(.slice (some ⟨b2, off2, none⟩) 0 0, q.take 0)]) := ⟨by simpa [hDl] using o6, fun x hx => by
                          rcases List.mem_append.1 hx with hx | hx
                          · exact oD.2 x hx
                          · rw [List.mem_singleton.1 hx, lP]; exact sPw⟩
                        clear o6 g6 oA oD' hcA hc' ga oD hc y0 y1 y2 y3 y4 y5 y6 y7
                        go_wp2
                        go_roundw
                        case rel => exact ⟨k + 1, q.drop 0, D ++ [(.slice (some ⟨b2, off2, none⟩) 0 0, q.take 0)], by omega, by go_num, sQw, oD6, by simp [hDl], by rw [hS]; simp, hp1, hc6⟩
                        case measure => simp [intOf]; omega
                      · rcases Classical.em (cr = 8 + N) with e9 | e9
                        · skip
                          have hl8 : rr.length = 8 + N := by omega
                          have sP' := sP e8
                          have sQ' := sQE e9
                          have lQ0 : (q.drop N).length = 0 := by omega
                          rw [lQ0] at sQ'
                          clear sP sQ sQE sr eP eQ hqd
                          replace hl8 := Lib.hid hl8
                          subst e9
                          rw [Nat.add_sub_cancel_left] at sP'
                          replace lQ0 := Lib.hid lQ0
                          replace lQ := Lib.hid lQ
                          have sPw := sP'
                          have sQw := (by rw [lQ0.out, Nat.sub_self, show rr.length - (8 + N) = 0 by have := hl8.out; omega]; exact sQ' : Sl w (.slice (some ⟨b2, off2, none⟩) (rr.length - (8 + N)) (8 + N - (8 + N))) (q.drop N).length (bcs (q.drop N)))
                          have ga := Chg.alloc [] (wr.drewN nq) (.cells #[.slice (some ⟨b2, off2 + 8, none⟩) N N] 22)
                          have oA := oD'.tr0 ga
                          have hcA := hc'.t0 ga
                          go_wp2_with (at_builtin; go_must (refine wpList_append_sl _ rfl (.tmp 112) (.tmp 117) 38 22 1 24 rfl el_row w.heap.size _ _ _ rfl oA.1 _ 1 [.slice (some ⟨b2, off2 + 8, none⟩) N N] rfl (Sl.lit _ #[.slice (some ⟨b2, off2 + 8, none⟩) N N] _ 1 (by decide)) rfl (by intro u hu; rw [List.mem_singleton.1 hu]; rfl) (by unfold big; omega) hcA.size ?_))
                          intro v6 w6 o6 g6
                          have hc6 : Chg [] w w6 := hcA.grownOwn g6 oA.1 (Nat.le_refl _)
                          have oD6 : HoldsB w w6 v6 (D ++ [(.slice (some ⟨b2, off2 + 8, none⟩) N N, q.take N)]) := ⟨by simpa [hDl] using o6, fun x hx => by
                            rcases List.mem_append.1 hx with hx | hx
                            · exact oD.2 x hx
                            · rw [List.mem_singleton.1 hx, lP]; exact sPw⟩
                          clear o6 g6 oA oD' hcA hc' ga oD hc y0 y1 y2 y3 y4 y5 y6 y7
                          go_wp2
                          go_roundw
                          case rel => exact ⟨k + 1, q.drop N, D ++ [(.slice (some ⟨b2, off2 + 8, none⟩) N N, q.take N)], by omega, by go_num, sQw, oD6, by simp [hDl], by rw [hS]; simp, hp1, hc6⟩
                          case measure => simp [intOf]; omega
                        · skip
                          have sP' := sP e8
                          have sQ' := sQ e9
                          rw [lQ] at sQ'
                          clear sP sQ sQE sr eP eQ hqd
                          replace lQ := Lib.hid lQ
                          have sPw := sP'
                          have sQw := (by rw [lQ.out]; exact sQ' : Sl w (.slice (some ⟨b2, off2 + (8 + N), none⟩) (rr.length - (8 + N)) (cr - (8 + N))) (q.drop N).length (bcs (q.drop N)))
                          have ga := Chg.alloc [] (wr.drewN nq) (.cells #[.slice (some ⟨b2, off2 + 8, none⟩) N (cr - 8)] 22)
                          have oA := oD'.tr0 ga
                          have hcA := hc'.t0 ga
                          go_wp2_with (at_builtin; go_must (refine wpList_append_sl _ rfl (.tmp 112) (.tmp 117) 38 22 1 24 rfl el_row w.heap.size _ _ _ rfl oA.1 _ 1 [.slice (some ⟨b2, off2 + 8, none⟩) N (cr - 8)] rfl (Sl.lit _ #[.slice (some ⟨b2, off2 + 8, none⟩) N (cr - 8)] _ 1 (by decide)) rfl (by intro u hu; rw [List.mem_singleton.1 hu]; rfl) (by unfold big; omega) hcA.size ?_))
                          intro v6 w6 o6 g6
                          have hc6 : Chg [] w w6 := hcA.grownOwn g6 oA.1 (Nat.le_refl _)
                          have oD6 : HoldsB w w6 v6 (D ++ [(.slice (some ⟨b2, off2 + 8, none⟩) N (cr - 8), q.take N)]) := ⟨by simpa [hDl] using o6, fun x hx => by
                            rcases List.mem_append.1 hx with hx | hx
                            · exact oD.2 x hx
                            · rw [List.mem_singleton.1 hx, lP]; exact sPw⟩
                          clear o6 g6 oA oD' hcA hc' ga oD hc y0 y1 y2 y3 y4 y5 y6 y7
                          go_wp2
                          go_roundw
                          case rel => exact ⟨k + 1, q.drop N, D ++ [(.slice (some ⟨b2, off2 + 8, none⟩) N (cr - 8), q.take N)], by omega, by go_num, sQw, oD6, by simp [hDl], by rw [hS]; simp, hp1, hc6⟩
                          case measure => simp [intOf]; omega
                    · rw [cutV_no hN2] at hfail
                      have hR2 := hfail rfl
                      subst hR2
                      have hNi3 : (rr.length : Int) - 8 < N := by have := hql.out; omega
                      go_wp2
                      go_ret3
                      exact ⟨_, rfl, [], hno _, rfl, hc'⟩
                  · have hR2 := hfail (by rw [hrr, partV_hi (by omega) hz])
                    subst hR2
                    replace hql := Lib.hid hql
                    clear hF hT hfail hR1 hrr hqd
                    have hx : ∀ x : UInt8, x = 0 ∨ (((x.toNat : Int) == 0) = false ∧ ¬ (x.toNat : Int) = 0) := fun x => by
                      by_cases h : x = 0
                      · exact .inl h
                      · have : ¬ (x.toNat : Int) = 0 := fun e => h (UInt8.toNat_inj.1 (by simpa using e))
                        exact .inr ⟨by simpa using this, this⟩
                    rcases hx x4 with rfl | ⟨e1, e2⟩
                    · rcases hx x5 with rfl | ⟨e1, e2⟩
                      · rcases hx x6 with rfl | ⟨e1, e2⟩
                        · rcases hx x7 with rfl | ⟨e1, e2⟩
                          · exact absurd ⟨rfl, rfl, rfl, rfl⟩ hz
                          · clear hz hx
                            go_wp2
                            go_ret3
                            exact ⟨_, rfl, [], hno _, rfl, hc⟩
                        · clear hz hx
                          go_wp2
                          go_ret3
                          exact ⟨_, rfl, [], hno _, rfl, hc⟩
                      · clear hz hx
                        go_wp2
                        go_ret3
                        exact ⟨_, rfl, [], hno _, rfl, hc⟩
                    · clear hz hx
                      go_wp2
                      go_ret3
                      exact ⟨_, rfl, [], hno _, rfl, hc⟩
                · have hR2 := hfail (by rw [partV_short h8])
                  subst hR2
                  clear hF hT hfail hR1
                  have h8i : (rr.length : Int) < 8 := by omega
                  obtain ⟨ar, cr, rfl⟩ := sr.shape
                  go_wp2
                  go_ret3
                  exact ⟨_, rfl, [], hno _, rfl, hc⟩
              · obtain rfl : k = m.toNat := by omega
                rw [Nat.sub_self, partsV] at hpv
                have hR2 := hR1.out
                rw [hpv] at hR2
                obtain ⟨ar, cr, rfl⟩ := sr.shape
                clear hpv hR1
                cases rr with
                | nil =>
                  simp only [Option.map_some, List.append_nil] at hR2
                  subst hR2
                  go_wp2
                  go_ret3
                  exact ⟨_, rfl, D, oD, rfl, hc⟩
                | cons y rr =>
                  simp only [Option.map_some] at hR2
                  subst hR2
                  go_wp2
                  go_ret3
                  exact ⟨_, rfl, [], hno _, rfl, hc⟩
        · have hR1 := hR.out
          have hx : parseT L = ([], [], false) := by
            rw [hL]
            by_cases h2 : h.toNat ≤ (h' :: t).length
            · exact parseT_three (List.drop_of_length_le (by omega))
            · exact parseT_two h2
          rw [hx] at hR1
          subst hR1
          clear hx
          replace hL := Lib.hid hL
          have hLi : (2 : Int) ≤ L.length := by omega
          have hLj : (L.length : Int) < 2 + h.toNat := by omega
          go_enter Try.func28, Try.ntmps28
          go_wp2
          go_ret3
          exact ⟨_, rfl, [], hno _, rfl, Chg.refl _ _⟩
end Go.Proofs.Ytfodlkofjmbolaa
