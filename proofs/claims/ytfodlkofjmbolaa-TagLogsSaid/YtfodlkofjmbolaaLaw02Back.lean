/-
  TagBack: the walk.
-/
import Derived.Test.YtfodlkofjmbolaaLaw02Frames
namespace Go.Proofs.Ytfodlkofjmbolaa
set_option linter.unusedSimpArgs false
set_option linter.unusedVariables false
open Go.RowKit

theorem backT (b : Bytes) (h : (parseT b).2.2 = true) : frameOk (parseT b).1 (parseT b).2.1 = true ∧ frameV (parseT b).1 (parseT b).2.1 = b := by
  unfold parseT at *
  cases hp : parseV b with
  | none => rw [hp] at h; cases h
  | some x =>
    obtain ⟨h1, h2⟩ := frame_parse hp
    exact ⟨h1, by rw [frameV, if_pos h1]; exact h2⟩
theorem backN (b : Bytes) (h : (parseT b).2.2 = false) : (parseT b).1 = [] ∧ (parseT b).2.1 = [] := by
  unfold parseT at *
  cases hp : parseV b with
  | none => exact ⟨rfl, rfl⟩
  | some x => rw [hp] at h; cases h
set_option maxHeartbeats 8000000 in
set_option maxRecDepth 100000 in
theorem back2_run (w : World) (s : Bytes) (vp : Value) (D : RowsB) (vb : Value) (b : Bytes) (hs : s.length ≤ 140737488351232) (hD : SlB w vp D) (hDl : D.length ≤ 140737488351232) (hx : ∀ x ∈ D, x.2.length ≤ 140737488351232) (hb : Sl w vb b.length (bcs b)) (hbl : b.length ≤ 140737488351232) :
    Calls Try.prog 9 #[.string (bstr s), vp, vb] w fun e w' => e = .returned (.bool true) ∧ Chg [] w w' := by
  obtain ⟨ap, cp, rfl⟩ := hD.1.shape
  obtain ⟨ab, cb, rfl⟩ := hb.shape
  go_enter Try.func9, Try.ntmps9
  go_wp2_with fail
  refine (small02_ok w).mono ?_
  rintro e w1 ⟨rfl, g1⟩
  go_wp2_with fail
  refine (fewB_ok w1 _ D (hD.tr0 g1) (by unfold maxLen; omega) (fun x h => Nat.le_trans (hx x h) (by decide))).mono ?_
  rintro e w2 ⟨rfl, g2⟩
  replace g1 := g1.t0 g2
  clear g2
  cases hf : fewB (D.map (·.2))
  · go_wp2
    go_ret
    exact ⟨rfl, g1⟩
  obtain ⟨hf1, hf2⟩ := fewB_sum hf
  rw [List.length_map] at hf1
  clear hf
  by_cases h3 : 300 < s.length
  · go_wp2
    go_ret
    exact ⟨rfl, g1⟩
  by_cases h4 : 2000 < b.length
  · go_wp2
    go_ret
    exact ⟨rfl, g1⟩
  replace hD := hD.tr0 g1
  replace hb := hb.tr0 g1
  have hpl : ∀ p ∈ D.map (·.2), p.length < 2 ^ 64 := fun p hp => by
    obtain ⟨x, hx1, rfl⟩ := List.mem_map.1 hp
    have := hx x hx1; omega
  have hFl := frameV_len s (D.map (·.2))
  have hfo : frameOk s (D.map (·.2)) = (decide (0 < s.length) && decide (s.length < 256) && decide (D.length < 256)) := by
    unfold frameOk
    rw [List.length_map, show decide (s.length ≤ 255) = decide (s.length < 256) from decide_eq_decide.2 (by omega), show decide (D.length ≤ 255) = decide (D.length < 256) from decide_eq_decide.2 (by omega)]
  have hpf : frameOk s (D.map (·.2)) = true → parseT (frameV s (D.map (·.2))) = (s, D.map (·.2), true) := fun h => by
    unfold frameV parseT
    rw [if_pos h, parse_frame h hpl]
  have hbk := backT b
  have hbn := backN b
  obtain ⟨hp1, hp2, hp3⟩ := parseT_small b
  go_wp2_with fail
  refine (frame_ok w2 s _ D hD (by unfold maxLen; omega) (by unfold maxLen; omega) (by omega)).mono ?_
  rintro e w3 ⟨v3, rfl, o3, g3⟩
  have s3 := Sl.ofOwns o3
  obtain ⟨a3, c3, rfl⟩ := own_shape o3
  clear o3
  generalize frameV s (D.map (·.2)) = FV at *
  have kP := fun w' (g : Chg [] w2 w') => parse_ok w' _ b (hb.tr0 g) (by omega)
  have kS := fun w' (g : Chg [] w2 w') u (E : RowsB) (hE : SlB w' u E) (hl : E.length ≤ maxLen) => rsameB_ok w' u _ E D hE (hD.tr0 g) hl
  generalize frameOk s (D.map (·.2)) = FO at *
  generalize (parseT b).1 = PT at *
  generalize (parseT b).2.1 = PS at *
  generalize (parseT b).2.2 = PO at *
  cases FO
  · rcases (by
        by_cases e1 : 0 < s.length
        · by_cases e2 : s.length < 256
          · by_cases e3 : D.length < 256
            · simp [e1, e2, e3] at hfo
            · exact .inr (.inr ⟨e1, e2, e3⟩)
          · exact .inr (.inl ⟨e1, e2⟩)
        · exact .inl e1 : ¬ 0 < s.length ∨ (0 < s.length ∧ ¬ s.length < 256) ∨ (0 < s.length ∧ s.length < 256 ∧ ¬ D.length < 256)) with e1 | ⟨e1, e2⟩ | ⟨e1, e2, e3⟩
    all_goals
      replace hfo := Lib.hid hfo
      go_wp2_with fail
      have G := g3
      clear kS hpf hFl s3 g3 hpl
      refine (kP _ G).mono ?_
      rintro e w5 ⟨v5, rfl, D5, o5, e5, g5⟩
      have s5 := o5.sl
      have G5 := G.t0 g5
      have hb5 := hb.tr0 G5
      clear o5 g5 kP G
      cases PO
      · obtain ⟨n1, n2⟩ := hbn rfl
        subst n1 n2
        obtain rfl : D5 = [] := by simpa using e5
        obtain ⟨a5, c5, rfl⟩ := s5.1.shape
        have hb0 : bstr [] = { data := #[] } := rfl
        go_wp2
        go_ret
        exact ⟨by simp, g1.t0 G5⟩
      · obtain ⟨q1, q2⟩ := hbk rfl
        have kf := frame_ok w5 PT v5 D5 s5 (by unfold maxLen; omega) (by have := congrArg List.length e5; simp at this; unfold maxLen; omega) (by rw [e5]; have := sumL_le PS b.length hp3; have : PS.length * b.length ≤ 255 * 2000 := Nat.mul_le_mul hp1 (by omega); omega)
        rw [e5, q1, q2] at kf
        clear e5 q1 q2 hbk hbn hp1 hp2 hp3
        go_wp2_with fail
        refine kf.mono ?_
        rintro e w6 ⟨v6, rfl, o6, g6⟩
        have s6 := Sl.ofOwns o6
        have G6 := G5.t0 g6
        have c6 := run_str (P := Try.prog) Try.underlying22 Try.underlying5 Try.underlying9 (hb5.tr0 g6) rfl
        obtain ⟨a6, c6', rfl⟩ := own_shape o6
        have c7 := run_str (P := Try.prog) Try.underlying22 Try.underlying5 Try.underlying9 s6 rfl
        clear o6 s6 g6 G5 hb5 kf
        go_wp2
        go_ret
        exact ⟨by simp, g1.t0 G6⟩
  · replace hfo := hfo.symm
    rw [Bool.and_eq_true, Bool.and_eq_true] at hfo
    obtain ⟨⟨e1, e2⟩, e3⟩ := hfo
    replace e1 := of_decide_eq_true e1
    replace e2 := of_decide_eq_true e2
    replace e3 := of_decide_eq_true e3
    have e2' : (s.length : Int) < 256 := by omega
    have e3' : (D.length : Int) < 256 := by omega
    have e4' : ¬ s = [] := fun e => by rw [e] at e1; simp at e1
    have e5' : (0 : Int) < s.length := by omega
    have e6' : s.isEmpty = false := by simpa using e4'
    have kp := parse_ok w3 _ FV s3 (hFl rfl (by omega))
    rw [hpf rfl] at kp
    clear hpf hFl s3 hpl
    replace kS := Lib.hid kS
    replace kp := Lib.hid kp
    go_wp2_with fail
    refine kp.out.mono ?_
    rintro e w4 ⟨v4, rfl, D4, o4, e4, g4⟩
    have s4 := o4.sl
    have g24 := g3.t0 g4
    have ks := kS.out w4 g24 v4 D4 s4 (by have := congrArg List.length e4; simp at this; unfold maxLen; omega)
    rw [e4] at ks
    simp only [sameB, decide_true] at ks
    clear kp o4 g3 g4 s4 kS e4
    go_wp2_with fail
    refine ks.mono ?_
    rintro e w4' ⟨rfl, g4'⟩
    have G := g24.t0 g4'
    clear ks g24 g4'
    go_wp2_with fail
    refine (kP _ G).mono ?_
    rintro e w5 ⟨v5, rfl, D5, o5, e5, g5⟩
    have s5 := o5.sl
    have G5 := G.t0 g5
    have hb5 := hb.tr0 G5
    clear o5 g5 kP G
    cases PO
    · obtain ⟨n1, n2⟩ := hbn rfl
      subst n1 n2
      obtain rfl : D5 = [] := by simpa using e5
      obtain ⟨a5, c5, rfl⟩ := s5.1.shape
      have hb0 : bstr [] = { data := #[] } := rfl
      go_wp2
      go_ret
      exact ⟨by simp, g1.t0 G5⟩
    · obtain ⟨q1, q2⟩ := hbk rfl
      have kf := frame_ok w5 PT v5 D5 s5 (by unfold maxLen; omega) (by have := congrArg List.length e5; simp at this; unfold maxLen; omega) (by rw [e5]; have := sumL_le PS b.length hp3; have : PS.length * b.length ≤ 255 * 2000 := Nat.mul_le_mul hp1 (by omega); omega)
      rw [e5, q1, q2] at kf
      clear e5 q1 q2 hbk hbn hp1 hp2 hp3
      go_wp2_with fail
      refine kf.mono ?_
      rintro e w6 ⟨v6, rfl, o6, g6⟩
      have s6 := Sl.ofOwns o6
      have G6 := G5.t0 g6
      have c6 := run_str (P := Try.prog) Try.underlying22 Try.underlying5 Try.underlying9 (hb5.tr0 g6) rfl
      obtain ⟨a6, c6', rfl⟩ := own_shape o6
      have c7 := run_str (P := Try.prog) Try.underlying22 Try.underlying5 Try.underlying9 s6 rfl
      clear o6 s6 g6 G5 hb5 kf
      go_wp2
      go_ret
      exact ⟨by simp, g1.t0 G6⟩
theorem tagBack_run (w : World) (s : ByteArray) (vp : Value) (D : RowsB) (vb : Value) (b : Bytes) (hs : s.size ≤ 140737488351232) (hD : Sl w vp D.length (D.flatMap fun x : Value × List UInt8 => [x.1])) (hx : ∀ x ∈ D, Sl w x.1 x.2.length (bcs x.2) ∧ x.2.length ≤ 140737488351232) (hDl : D.length * 24 ≤ 140737488351232) (hb : Sl w vb b.length (bcs b)) (hbl : b.length * 1 ≤ 140737488351232) :
    Calls Try.prog 9 #[.string s, vp, vb] w fun e w' => e = .returned (.bool true) ∧ Chg [] w w' := by
  have h := back2_run w s.data.toList vp D vb b (by rw [Array.length_toList]; exact hs) (SlB.of hD hx) (by omega) (fun x h => (hx x h).2) hb (by omega)
  rw [bstr_data] at h
  exact h
end Go.Proofs.Ytfodlkofjmbolaa
