/-
  TagApart: the walk.
-/
import Derived.Test.YtfodlkofjmbolaaLaw02Frames
namespace Go.Proofs.Ytfodlkofjmbolaa
set_option linter.unusedSimpArgs false
set_option linter.unusedVariables false
open Go.RowKit

theorem cells2q {w : World} {p : Nat} {x y : Value} {e : TypeId} (h : w.heap[p]? = some (.cells #[x, y] e (0, 0))) : w.cell? ⟨p, 0, none⟩ = some x ∧ w.cell? ⟨p, 1, none⟩ = some y := ⟨(cells2 h).1, (cells2 h).2.1⟩
theorem apart_pure {s t : Bytes} {ps qs : List Bytes} (h : frameOk s ps = true) (h' : frameOk t qs = true) (hp : ∀ p ∈ ps, p.length < 2 ^ 64) (hq : ∀ p ∈ qs, p.length < 2 ^ 64) : (frameV s ps == frameV t qs) = (s == t && sameB ps qs) := by
  unfold frameV
  rw [if_pos h, if_pos h', Bool.eq_iff_iff]
  simp only [beq_iff_eq, Bool.and_eq_true, sameB, decide_eq_true_eq]
  constructor
  · exact frame_inj h h' hp hq
  · rintro ⟨rfl, rfl⟩; rfl
set_option maxHeartbeats 8000000 in
set_option maxRecDepth 100000 in
theorem apart2_run (w : World) (s t : Bytes) (vp vq : Value) (D E : RowsB) (h1 : okR w (s, vp, D)) (h2 : okR w (t, vq, E)) :
    Calls Try.prog 12 #[.agg #[.string (bstr s), vp], .agg #[.string (bstr t), vq]] w fun e w' => e = .returned (.bool true) ∧ Chg [] w w' := by
  obtain ⟨hs, hD, hx, hDl⟩ := h1
  obtain ⟨ht, hE, hy, hEl⟩ := h2
  dsimp only at *
  obtain ⟨ap, cp, rfl⟩ := hD.1.shape
  obtain ⟨aq, cq, rfl⟩ := hE.1.shape
  have g0 := (Chg.alloc [] w (.cells #[.string (bstr s), .slice ap D.length cp] 53)).t0 (Chg.alloc [] _ (.cells #[.string (bstr t), .slice aq E.length cq] 53))
  have b0 := (Chg.alloc [] (w.alloc (.cells #[.string (bstr s), .slice ap D.length cp] 53)) (.cells #[.string (bstr t), .slice aq E.length cq] 53)).heap (heap_alloc_new w (.cells #[.string (bstr s), .slice ap D.length cp] 53)) (by simp)
  have b1 := heap_lit_new (w.alloc (.cells #[.string (bstr s), .slice ap D.length cp] 53)) (.cells #[.string (bstr t), .slice aq E.length cq] 53) (w.heap.size + 1) (by simp)
  go_enter Try.func12, Try.ntmps12
  go_wp2_with fail
  generalize (w.alloc (.cells #[.string (bstr s), .slice ap D.length cp] 53)).alloc (.cells #[.string (bstr t), .slice aq E.length cq] 53) = w1 at *
  refine (small02_ok w1).mono ?_
  rintro e w2 ⟨rfl, g⟩
  replace g0 := g0.t0 g
  replace b0 := g.heap b0 (by simp)
  replace b1 := g.heap b1 (by simp)
  clear g
  obtain ⟨k0, k1⟩ := cells2q b0
  obtain ⟨k2, k3⟩ := cells2q b1
  go_wp2_with fail
  refine (fewB_ok w2 _ D (hD.tr0 g0) (by unfold maxLen; omega) (fun x h => Nat.le_trans (hx x h) (by decide))).mono ?_
  rintro e w3 ⟨rfl, g⟩
  replace g0 := g0.t0 g
  replace b0 := g.heap b0 (by simp)
  replace b1 := g.heap b1 (by simp)
  clear g k0 k1 k2 k3
  obtain ⟨k0, k1⟩ := cells2q b0
  obtain ⟨k2, k3⟩ := cells2q b1
  go_wp2_with fail
  refine (fewB_ok w3 _ E (hE.tr0 g0) (by unfold maxLen; omega) (fun x h => Nat.le_trans (hy x h) (by decide))).mono ?_
  rintro e w4 ⟨rfl, g⟩
  replace g0 := g0.t0 g
  replace b0 := g.heap b0 (by simp)
  replace b1 := g.heap b1 (by simp)
  clear g k0 k1 k2 k3
  obtain ⟨k0, k1⟩ := cells2q b0
  obtain ⟨k2, k3⟩ := cells2q b1
  cases hf : fewB (D.map (·.2))
  · go_wp2
    go_ret
    exact ⟨rfl, g0⟩
  cases hf' : fewB (E.map (·.2))
  · go_wp2
    go_ret
    exact ⟨rfl, g0⟩
  obtain ⟨hf1, hf2⟩ := fewB_sum hf
  obtain ⟨hf3, hf4⟩ := fewB_sum hf'
  rw [List.length_map] at hf1 hf3
  clear hf hf'
  by_cases h3 : 300 < s.length
  · go_wp2
    go_ret
    exact ⟨rfl, g0⟩
  by_cases h4 : 300 < t.length
  · go_wp2
    go_ret
    exact ⟨rfl, g0⟩
  have hpure := fun h h' => @apart_pure s t (D.map (·.2)) (E.map (·.2)) h h' (fun p hp => by obtain ⟨x, hx1, rfl⟩ := List.mem_map.1 hp; have := hx x hx1; omega) (fun p hp => by obtain ⟨x, hx1, rfl⟩ := List.mem_map.1 hp; have := hy x hx1; omega)
  have kF := fun w' (g : Chg [] w w') => frame_ok w' s _ D (hD.tr0 g) (by unfold maxLen; omega) (by unfold maxLen; omega) (by omega)
  have kG := fun w' (g : Chg [] w w') => frame_ok w' t _ E (hE.tr0 g) (by unfold maxLen; omega) (by unfold maxLen; omega) (by omega)
  have kS := fun w' (g : Chg [] w w') => rsameB_ok w' _ _ D E (hD.tr0 g) (hE.tr0 g) (by unfold maxLen; omega)
  generalize frameV s (D.map (·.2)) = FV at *
  generalize frameV t (E.map (·.2)) = GV at *
  generalize frameOk s (D.map (·.2)) = FO at *
  generalize frameOk t (E.map (·.2)) = GO at *
  generalize sameB (D.map (·.2)) (E.map (·.2)) = SB at *
  replace hpure := Lib.hid hpure
  go_wp2_with fail
  refine (kF w4 g0).mono ?_
  rintro e w5 ⟨v5, rfl, o5, g5⟩
  have s5 := Sl.ofOwns o5
  replace g0 := g0.t0 g5
  replace b0 := g5.heap b0 (by simp)
  replace b1 := g5.heap b1 (by simp)
  clear o5 g5 k0 k1 k2 k3 kF
  obtain ⟨k0, k1⟩ := cells2q b0
  obtain ⟨k2, k3⟩ := cells2q b1
  go_wp2_with fail
  refine (kG w5 g0).mono ?_
  rintro e w6 ⟨v6, rfl, o6, g6⟩
  have s6 := Sl.ofOwns o6
  replace s5 := s5.tr0 g6
  replace g0 := g0.t0 g6
  replace b0 := g6.heap b0 (by simp)
  replace b1 := g6.heap b1 (by simp)
  clear o6 g6 k0 k1 k2 k3 kG
  obtain ⟨k0, k1⟩ := cells2q b0
  obtain ⟨k2, k3⟩ := cells2q b1
  obtain ⟨a5, c5, rfl⟩ := s5.shape
  obtain ⟨a6, c6, rfl⟩ := s6.shape
  by_cases hst : s = t
  · have hst' : (s == t) = true := by simpa using hst
    have hbs : bstr s = bstr t := by rw [hst]
    replace hst := Lib.hid hst
    go_wp2_with fail
    refine (kS w6 g0).mono ?_
    rintro e w7 ⟨rfl, g7⟩
    have c7 := run_str (P := Try.prog) Try.underlying22 Try.underlying5 Try.underlying9 (s5.tr0 g7) rfl
    have c8 := run_str (P := Try.prog) Try.underlying22 Try.underlying5 Try.underlying9 (s6.tr0 g7) rfl
    cases FO
    · cases GO
      all_goals
        go_wp2
        go_ret
        exact ⟨by simp, g0.t0 g7⟩
    · cases GO
      · go_wp2
        go_ret
        exact ⟨by simp, g0.t0 g7⟩
      · have hp := hpure.out rfl rfl
        rw [hst', Bool.true_and] at hp
        go_wp2
        go_ret
        exact ⟨by simp [hp], g0.t0 g7⟩
  · have hst' : (s == t) = false := by simpa using hst
    have c7 := run_str (P := Try.prog) Try.underlying22 Try.underlying5 Try.underlying9 s5 rfl
    have c8 := run_str (P := Try.prog) Try.underlying22 Try.underlying5 Try.underlying9 s6 rfl
    cases FO
    · cases GO
      all_goals
        go_wp2
        go_ret
        exact ⟨by simp, g0⟩
    · cases GO
      · go_wp2
        go_ret
        exact ⟨by simp, g0⟩
      · have hp := hpure.out rfl rfl
        rw [hst', Bool.false_and] at hp
        go_wp2
        go_ret
        exact ⟨by simp [hp], g0⟩
theorem tagApart_run (w : World) (x y : RowR) (hx : okR w x) (hy : okR w y) :
    Calls Try.prog 12 #[.agg (rowc x).toArray, .agg (rowc y).toArray] w fun e w' => e = .returned (.bool true) ∧ Chg [] w w' :=
  apart2_run w x.1 y.1 x.2.1 y.2.1 x.2.2 y.2.2 hx hy
end Go.Proofs.Ytfodlkofjmbolaa
