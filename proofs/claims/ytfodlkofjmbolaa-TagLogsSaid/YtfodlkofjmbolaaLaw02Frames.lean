/-
  TagFrames: the walk.
-/
import Derived.Test.YtfodlkofjmbolaaTagSmall
import Derived.Test.YtfodlkofjmbolaaTagParseR
import Derived.Test.YtfodlkofjmbolaaOpenB
namespace Go.Proofs.Ytfodlkofjmbolaa
set_option linter.unusedSimpArgs false
set_option linter.unusedVariables false
open Go.RowKit

theorem fewB_sum {ps : List Bytes} (h : fewB ps = true) : ps.length ≤ 260 ∧ sumL ps ≤ 1500 := by
  simp only [fewB, Bool.and_eq_true, decide_eq_true_eq] at h
  exact h
theorem parseT_small (b : Bytes) : (parseT b).2.1.length ≤ 255 ∧ (parseT b).1.length ≤ b.length ∧ ∀ p ∈ (parseT b).2.1, p.length ≤ b.length := by
  unfold parseT
  cases h : parseV b with
  | none => simp
  | some x => exact parse_small h
set_option maxHeartbeats 8000000 in
set_option maxRecDepth 100000 in
theorem frames2_run (w : World) (s : Bytes) (vp : Value) (D : RowsB) (vb : Value) (b : Bytes) (hs : s.length ≤ 140737488351232) (hD : SlB w vp D) (hDl : D.length ≤ 140737488351232) (hx : ∀ x ∈ D, x.2.length ≤ 140737488351232) (hb : Sl w vb b.length (bcs b)) (hbl : b.length ≤ 140737488351232) :
    Calls Try.prog 8 #[.string (bstr s), vp, vb] w fun e w' => e = .returned (.bool true) ∧ Chg [] w w' := by
  obtain ⟨ap, cp, rfl⟩ := hD.1.shape
  obtain ⟨ab, cb, rfl⟩ := hb.shape
  go_enter Try.func8, Try.ntmps8
  go_wp2_with fail
  refine (small02_ok w).mono ?_
  rintro e w1 ⟨rfl, g1⟩
  go_wp2_with fail
  refine (fewB_ok w1 _ D (hD.tr0 g1) (by unfold maxLen; omega) (fun x h => Nat.le_trans (hx x h) (by decide))).mono ?_
  rintro e w2 ⟨rfl, g2⟩
  replace g1 := g1.t0 g2
  clear g2
  cases hf : fewB (D.map (·.2))
  · go_wp2
    go_ret
    exact ⟨rfl, g1⟩
  obtain ⟨hf1, hf2⟩ := fewB_sum hf
  rw [List.length_map] at hf1
  clear hf
  by_cases h3 : 300 < s.length
  · go_wp2
    go_ret
    exact ⟨rfl, g1⟩
  by_cases h4 : 2000 < b.length
  · go_wp2
    go_ret
    exact ⟨rfl, g1⟩
  replace hD := hD.tr0 g1
  replace hb := hb.tr0 g1
  have kF := fun w' (g : Chg [] w2 w') => frame_ok w' s _ D (hD.tr0 g) (by unfold maxLen; omega) (by unfold maxLen; omega) (by omega)
  have kG := fun w' (g : Chg [] w2 w') => rframe_ok w' s _ D (hD.tr0 g) (by unfold maxLen; omega) (by unfold maxLen; omega) (by omega)
  have kH := fun w' (g : Chg [] w2 w') => taghash_ok w' s _ D (hD.tr0 g) (by unfold maxLen; omega) (by unfold maxLen; omega) (by omega)
  have kI := fun w' (g : Chg [] w2 w') => rhash_ok w' s _ D (hD.tr0 g) (by unfold maxLen; omega) (by unfold maxLen; omega) (by omega)
  have hl32 := hashV_len s (D.map (·.2))
  generalize hashV s (D.map (·.2)) = HV at *
  generalize frameV s (D.map (·.2)) = FV at *
  generalize frameOk s (D.map (·.2)) = FO at *
  go_wp2_with fail
  refine (kF w2 (Chg.refl _ _)).mono ?_
  rintro e w3 ⟨v3, rfl, o3, g3⟩
  have s3 := Sl.ofOwns o3
  go_wp2_with fail
  refine (kG w3 g3).mono ?_
  rintro e w4 ⟨v4, rfl, o4, g4⟩
  have s4 := Sl.ofOwns o4
  replace s3 := s3.tr0 g4
  have g24 := g3.t0 g4
  clear o3 o4 g3 g4
  go_wp2_with fail
  refine (parse_ok w4 _ b (hb.tr0 g24) (by omega)).mono ?_
  rintro e w5 ⟨v5, rfl, D5, o5, e5, g5⟩
  have s5 := o5.sl
  replace s3 := s3.tr0 g5
  replace s4 := s4.tr0 g5
  have g25 := g24.t0 g5
  clear o5 g24 g5
  go_wp2_with fail
  refine (rparse_ok w5 _ b (hb.tr0 g25) (by omega)).mono ?_
  rintro e w6 ⟨v6, rfl, D6, o6, e6, g6⟩
  have s6 := o6.sl g6
  replace s3 := s3.tr0 g6
  replace s4 := s4.tr0 g6
  replace s5 := s5.tr0 g6
  have g26 := g25.t0 g6
  clear o6 g25 g6
  have hps : (parseT b).2.1.length ≤ 255 := (parseT_small b).1
  have h5l : D5.length ≤ maxLen := by have := congrArg List.length e5; simp at this; unfold maxLen; omega
  rw [← e6] at e5
  generalize (parseT b).1 = PT at *
  generalize (parseT b).2.2 = PO at *
  have kS := fun w' (g : Chg [] w6 w') => rsameB_ok w' _ _ D5 D6 (s5.tr0 g) (s6.tr0 g) h5l
  rw [e5] at kS
  simp only [sameB, decide_true] at kS
  obtain ⟨a3, c3, rfl⟩ := s3.shape
  obtain ⟨a4, c4, rfl⟩ := s4.shape
  have c3' := run_str (P := Try.prog) Try.underlying22 Try.underlying5 Try.underlying9 s3 rfl
  have c4' := run_str (P := Try.prog) Try.underlying22 Try.underlying5 Try.underlying9 s4 rfl
  have E := fun w => eql_dv (P := Try.prog) w 25 5 32 Try.underlying25 Try.underlying5 (fun w => by go_simp) HV HV hl32 hl32
  have G := fun w x y => eqg_dv (P := Try.prog) w .eql 25 x y HV HV (by kernel_rfl)
  unfold dv at E G
  simp only [beq_self_eq_true] at E
  clear kF kG
  go_wp2_with fail
  refine (kS w6 (Chg.refl _ _)).mono ?_
  rintro e w7 ⟨rfl, g7⟩
  cases PO
  all_goals
    go_wp2_with fail
    refine (kH w7 (g26.t0 g7)).mono ?_
    rintro e w8 ⟨rfl, g8⟩
    go_wp2_with fail
    refine (kI w8 ((g26.t0 g7).t0 g8)).mono ?_
    rintro e w9 ⟨rfl, g9⟩
    go_wp2
    go_ret
    exact ⟨by simp, g1.t0 (((g26.t0 g7).t0 g8).t0 g9)⟩
theorem tagFrames_run (w : World) (s : ByteArray) (vp : Value) (D : RowsB) (vb : Value) (b : Bytes) (hs : s.size ≤ 140737488351232) (hD : Sl w vp D.length (D.flatMap fun x : Value × List UInt8 => [x.1])) (hx : ∀ x ∈ D, Sl w x.1 x.2.length (bcs x.2) ∧ x.2.length ≤ 140737488351232) (hDl : D.length * 24 ≤ 140737488351232) (hb : Sl w vb b.length (bcs b)) (hbl : b.length * 1 ≤ 140737488351232) :
    Calls Try.prog 8 #[.string s, vp, vb] w fun e w' => e = .returned (.bool true) ∧ Chg [] w w' := by
  have h := frames2_run w s.data.toList vp D vb b (by rw [Array.length_toList]; exact hs) (SlB.of hD hx) (by omega) (fun x h => (hx x h).2) hb (by omega)
  rw [bstr_data] at h
  exact h
end Go.Proofs.Ytfodlkofjmbolaa
