/-
  TagExtracts: the walk.
-/
import Derived.Test.YtfodlkofjmbolaaRowsR
import Derived.Test.YtfodlkofjmbolaaTagExtR
import Derived.Test.YtfodlkofjmbolaaLaw02Frames
namespace Go.Proofs.Ytfodlkofjmbolaa
set_option linter.unusedSimpArgs false
set_option linter.unusedVariables false
open Go.RowKit

theorem same_len {D F : RowsB} {n : Nat} (h : D.map (·.2) = F.map (·.2)) (hF : ∀ x ∈ F, x.2.length ≤ n) : ∀ x ∈ D, x.2.length ≤ n := fun x hx => by
  have h1 : x.2 ∈ D.map (·.2) := List.mem_map.2 ⟨x, hx, rfl⟩
  rw [h] at h1
  obtain ⟨y, hy, e⟩ := List.mem_map.1 h1
  rw [← e]; exact hF y hy
theorem extT_true (A B : List Bytes) (h : (extT A B).2.2 = true) : (extT A B).1 ≠ (extT A B).2.1 ∧ sumB (extT A B).2.1 = sumB (extT A B).1 := by
  unfold extT at *
  cases he : extractV A B with
  | none => rw [he] at h; cases h
  | some x =>
    obtain ⟨_, _, h1, h2⟩ := extractV_some he
    exact ⟨fun e => h2 e.symm, h1⟩
theorem extT_len {A B : List Bytes} (hA : ShortB A) (hB : ShortB B) : (extT A B).1.length ≤ 10000 ∧ (extT A B).2.1.length ≤ 10000 := by
  unfold extT
  cases he : extractV A B with
  | none => simp
  | some x =>
    obtain ⟨h1, h2, _, _⟩ := extractV_some he
    exact ⟨hA _ h1, hB _ h2⟩
set_option maxHeartbeats 8000000 in
set_option maxRecDepth 100000 in
theorem extracts2_run (w : World) (va vb : Value) (A B : List RowR) (hA : Sl w va A.length (A.flatMap rowc)) (okA : ∀ x ∈ A, okR w x) (hB : Sl w vb B.length (B.flatMap rowc)) (okB : ∀ x ∈ B, okR w x) :
    Calls Try.prog 11 #[va, vb] w fun e w' => e = .returned (.bool true) ∧ Chg [] w w' := by
  obtain ⟨aa, ca, rfl⟩ := hA.shape
  obtain ⟨ab, cb, rfl⟩ := hB.shape
  have hal := hA.le
  have hbl0 := hB.le
  unfold maxLen at hal hbl0
  go_enter Try.func11, Try.ntmps11
  go_wp2_with fail
  refine (small02_ok w).mono ?_
  rintro e w1 ⟨rfl, g1⟩
  go_wp2_with fail
  refine (lognew_ok w1 w1.heap.size).mono ?_
  rintro e w2 ⟨rfl, lx, g2⟩
  have zx : w1.heap.size < w2.heap.size := lx.lt
  go_wp2_with fail
  refine (lognew_ok w2 w2.heap.size).mono ?_
  rintro e w3 ⟨rfl, ly, g3⟩
  have zy : w2.heap.size < w3.heap.size := ly.lt
  replace lx := lx.tr0 g3
  have zw := g1.size
  have hc := (g1.t0 g2).t0 g3
  clear g1 g2 g3
  generalize w1.heap.size = px at *
  generalize w2.heap.size = py at *
  by_cases h12 : 12 < A.length
  · go_wp2
    go_ret
    exact ⟨rfl, hc⟩
  by_cases h13 : 12 < B.length
  · go_wp2
    go_ret
    exact ⟨rfl, hc⟩
  have hpxy : px ≠ py := by omega
  replace hpxy := Lib.hid hpxy
  go_wp2_with fail
  go_loopw [8] (fun iv wr => ∃ (k : Nat) (vx : Value) (F : RowsB), k ≤ A.length ∧ iv = .int .i64 k ∧ LogAt wr px px vx F ∧ F.map (·.2) = logsB (A.take k) ∧ ShortB (F.map (·.2)) ∧ LogAt wr py py (.slice none 0 0) [] ∧ w3.heap.size ≤ wr.heap.size ∧ Chg [] w wr) (fun iv _ => A.length - (intOf iv).toNat)
  case atStart => exact ⟨0, _, [], Nat.zero_le _, rfl, lx, rfl, by unfold ShortB; simp, ly, Nat.le_refl _, hc⟩
  case round =>
    clear lx ly hc
    obtain ⟨k, vx, F, hk, rfl, lx, hF, hSh, ly, hsz, hc⟩ := hrel
    by_cases hlt : k < A.length
    · skip
      obtain ⟨b, off, c, e, hbl, y0, y1⟩ := row_cells (hA.tr0 hc) k hlt
      cases e
      obtain ⟨ot, oD, oD2, oD3⟩ := okA _ (List.getElem_mem hlt)
      have hkd : (k : Int) < A.length := by omega
      have hk0 : (0 : Int) ≤ k := by omega
      have hnx := logsB_take A k hlt
      obtain ⟨ap, cp, ep⟩ := oD.1.shape
      rw [ep] at y1 oD
      have hDl : A[k].2.2.length ≤ maxLen := by unfold maxLen; omega
      unfold partsR at hnx
      generalize A[k].1 = s at *
      generalize A[k].2.2 = D at *
      clear ep
      replace hnx := Lib.hid hnx
      go_wp2_with fail
      refine (fewB_ok _ _ D (oD.tr0 hc) hDl (fun x h => Nat.le_trans (oD2 x h) (by decide))).mono ?_
      rintro e wf ⟨rfl, g3⟩
      replace hc := hc.t0 g3
      replace lx := lx.tr0 g3
      replace ly := ly.tr0 g3
      have z0 := g3.cellv y0 (by simp)
      have z1 := g3.cellv y1 (by simp)
      have zsz := g3.size
      clear y0 y1 g3
      cases hf : fewB (D.map (·.2))
      · go_wp2
        go_ret
        exact ⟨rfl, hc⟩
      obtain ⟨hf1, hf2⟩ := fewB_sum hf
      clear hf
      by_cases h3 : 300 < s.length
      · go_wp2
        go_ret
        exact ⟨rfl, hc⟩
      go_wp2_with fail
      refine region_quiet_tailC 11 (by kernel_rfl) (by kernel_rfl) ?_
      simp only [List.take_succ_cons, List.take_zero, List.drop_succ_cons, List.drop_zero]
      repeat (first
        | (refine quiet_cellC rfl _ _ rfl _ rfl _ _ z0 Try.underlying9 rfl ?_)
        | (refine quiet_cellC rfl _ _ rfl _ rfl _ _ z1 Try.underlying38 rfl ?_)
        | quiet_step ((intro hx; first | rfl)))
      refine wpQuiet_nil ?_
      intro w4 g4
      replace hc := hc.t0 g4
      replace lx := lx.tr0 g4
      replace ly := ly.tr0 g4
      go_wp2_with fail
      have hFl : F.length ≤ 1000000 := by have h := congrArg List.length hF; have h2 := logsB_len (A.take k); simp at h h2; omega
      refine (loghash_ok w4 px px vx F lx (by have := lx.lt; omega) hFl s _ D (oD.tr0 hc) (by unfold maxLen; omega) hDl (by omega)).mono ?_
      rintro e w5 ⟨rfl, vx', F', lx', hF', g5, _⟩
      have ly' : LogAt w5 py py (.slice none 0 0) [] := ly.other lx hpxy.out.symm (by intro j hj; exact ⟨by simp [Value.ownBlock], by simp⟩) g5
      have hc5 : Chg [] w w5 := hc.trans g5 (fun x hx => .inr (by
        rcases List.mem_cons.1 hx with rfl | hx
        · omega
        · have := (lx.rows.1.lt x (by simpa using hx)).1; omega))
      have hS5 : ShortB (F'.map (·.2)) := by rw [hF']; exact hSh.add hf2
      have hF5 : F'.map (·.2) = logsB (A.take (k + 1)) := by rw [hF', hF, hnx.out]
      have hz5 : w3.heap.size ≤ w5.heap.size := by have := g5.size; have := g4.size; omega
      clear lx ly hc g5 g4 hF hSh hF' z0 z1
      go_wp2
      go_roundw
      case rel => exact ⟨k + 1, vx', F', by omega, by go_num, lx', hF5, hS5, ly', hz5, hc5⟩
      case measure => simp [intOf]; omega
    · obtain rfl : k = A.length := by omega
      rw [List.take_length] at hF
      replace hF := Lib.hid hF
      obtain ⟨W2, hW2⟩ : ∃ W, W = wr := ⟨_, rfl⟩
      have hlx := lx
      rw [← hW2] at hlx
      have hcW := hc
      rw [← hW2] at hcW
      replace hW2 := Lib.hid hW2
      go_wp2_with fail
      go_loopw [10] (fun iv wq => ∃ (k : Nat) (vy : Value) (G : RowsB), k ≤ B.length ∧ iv = .int .i64 k ∧ LogAt wq py W2.heap.size vy G ∧ G.map (·.2) = logsB (B.take k) ∧ ShortB (G.map (·.2)) ∧ LogAt wq px px vx F ∧ W2.heap.size ≤ wq.heap.size ∧ Chg [] w wq) (fun iv _ => B.length - (intOf iv).toNat)
      case atStart => exact ⟨0, _, [], Nat.zero_le _, rfl, ⟨ly.cell, OwnsB.nil _ _⟩, rfl, by unfold ShortB; simp, lx, by rw [hW2.out]; exact Nat.le_refl _, hc⟩
      case round =>
        clear lx ly hc
        obtain ⟨k, vy, G, hk, rfl, ly, hG, hSg, lx, hsz2, hc⟩ := hrel
        by_cases hlt : k < B.length
        · skip
          obtain ⟨b, off, c, e, hbl, y0, y1⟩ := row_cells (hB.tr0 hc) k hlt
          cases e
          obtain ⟨ot, oD, oD2, oD3⟩ := okB _ (List.getElem_mem hlt)
          have hkd : (k : Int) < B.length := by omega
          have hk0 : (0 : Int) ≤ k := by omega
          have hnx := logsB_take B k hlt
          obtain ⟨ap, cp, ep⟩ := oD.1.shape
          rw [ep] at y1 oD
          have hDl : B[k].2.2.length ≤ maxLen := by unfold maxLen; omega
          unfold partsR at hnx
          generalize B[k].1 = s at *
          generalize B[k].2.2 = D at *
          clear ep
          replace hnx := Lib.hid hnx
          go_wp2_with fail
          refine (fewB_ok _ _ D (oD.tr0 hc) hDl (fun x h => Nat.le_trans (oD2 x h) (by decide))).mono ?_
          rintro e wf ⟨rfl, g3⟩
          replace hc := hc.t0 g3
          replace lx := lx.tr0 g3
          replace ly := ly.tr0 g3
          have z0 := g3.cellv y0 (by simp)
          have z1 := g3.cellv y1 (by simp)
          have zsz := g3.size
          clear y0 y1 g3
          cases hf : fewB (D.map (·.2))
          · go_wp2
            go_ret
            exact ⟨rfl, hc⟩
          obtain ⟨hf1, hf2⟩ := fewB_sum hf
          clear hf
          by_cases h3 : 300 < s.length
          · go_wp2
            go_ret
            exact ⟨rfl, hc⟩
          go_wp2_with fail
          refine region_quiet_tailC 11 (by kernel_rfl) (by kernel_rfl) ?_
          simp only [List.take_succ_cons, List.take_zero, List.drop_succ_cons, List.drop_zero]
          repeat (first
            | (refine quiet_cellC rfl _ _ rfl _ rfl _ _ z0 Try.underlying9 rfl ?_)
            | (refine quiet_cellC rfl _ _ rfl _ rfl _ _ z1 Try.underlying38 rfl ?_)
            | quiet_step ((intro hx; first | rfl)))
          refine wpQuiet_nil ?_
          intro w4 g4
          replace hc := hc.t0 g4
          replace lx := lx.tr0 g4
          replace ly := ly.tr0 g4
          go_wp2_with fail
          have hGl : G.length ≤ 1000000 := by have h := congrArg List.length hG; have h2 := logsB_len (B.take k); simp at h h2; omega
          refine (loghash_ok w4 py W2.heap.size vy G ly (by have := g4.size; omega) hGl s _ D (oD.tr0 hc) (by unfold maxLen; omega) hDl (by omega)).mono ?_
          rintro e w5 ⟨rfl, vy', G', ly', hG', g5, _⟩
          have lx' : LogAt w5 px px vx F := lx.other ly hpxy.out (by
            intro j hj
            have h1 := (ly.rows.1.lt j hj).1
            exact ⟨fun e => by have := (hlx.rows.1.lt j e).2; omega, fun x hx e => by have := ((hlx.rows.2 x hx).lt j e).2; omega⟩) g5
          have hc5 : Chg [] w w5 := hc.trans g5 (fun x hx => .inr (by
            rcases List.mem_cons.1 hx with rfl | hx
            · omega
            · have := (ly.rows.1.lt x (by simpa using hx)).1; have := hcW.size; omega))
          have hS5 : ShortB (G'.map (·.2)) := by rw [hG']; exact hSg.add hf2
          have hG5 : G'.map (·.2) = logsB (B.take (k + 1)) := by rw [hG', hG, hnx.out]
          have hz5 : W2.heap.size ≤ w5.heap.size := by have := g5.size; have := g4.size; omega
          clear lx ly hc g5 g4 hG hSg hG' z0 z1
          go_wp2
          go_roundw
          case rel => exact ⟨k + 1, vy', G', by omega, by go_num, ly', hG5, hS5, lx', hz5, hc5⟩
          case measure => simp [intOf]; omega
        · obtain rfl : k = B.length := by omega
          rw [List.take_length] at hG
          have hFl : F.length ≤ 1000000 := by have h := congrArg List.length hF.out; have h2 := logsB_len A; simp at h h2; omega
          have hGl : G.length ≤ 1000000 := by have h := congrArg List.length hG; have h2 := logsB_len B; simp at h h2; omega
          replace hG := Lib.hid hG
          have hxF := hSh.rows
          have hxG := hSg.rows
          have hT := extT_true (F.map (·.2)) (G.map (·.2))
          have hT1 := extT_len hSh hSg
          clear hsz hsz2 hcW hlx hW2 hSh hSg
          go_wp2_with fail
          refine (extract_ok _ px py px W2.heap.size vx vy F G lx ly hFl hGl hxF hxG).mono ?_
          rintro e w6 ⟨v1, v2, rfl, o1, o2, g6⟩
          have s1 := Sl.ofOwns o1
          have s2 := Sl.ofOwns o2
          replace lx := lx.tr0 g6
          replace ly := ly.tr0 g6
          replace hc := hc.t0 g6
          clear o1 o2 g6
          go_wp2_with fail
          refine (frames_ok w6 px px vx F lx hFl hxF).mono ?_
          rintro e w7 ⟨v7, rfl, DX, oX, eX, g7⟩
          have sX := oX.sl
          replace s1 := s1.tr0 g7
          replace s2 := s2.tr0 g7
          replace ly := ly.tr0 g7
          replace hc := hc.t0 g7
          clear oX g7 lx
          go_wp2_with fail
          refine (frames_ok w7 py W2.heap.size vy G ly hGl hxG).mono ?_
          rintro e w8 ⟨v8, rfl, DY, oY, eY, g8⟩
          have sY := oY.sl
          replace sX := sX.tr0 g8
          replace s1 := s1.tr0 g8
          replace s2 := s2.tr0 g8
          replace hc := hc.t0 g8
          clear oY g8 ly
          have kr := rext_ok w8 v7 v8 DX DY sX sY (same_len eX hxF) (same_len eY hxG)
          rw [eX, eY] at kr
          clear eX eY hxF hxG hF hG
          generalize (extT (F.map (·.2)) (G.map (·.2))).1 = T1 at *
          generalize (extT (F.map (·.2)) (G.map (·.2))).2.1 = T2 at *
          generalize (extT (F.map (·.2)) (G.map (·.2))).2.2 = TO at *
          go_wp2_with fail
          refine kr.mono ?_
          rintro e w9 ⟨v3, v4, rfl, s3, s4, g9⟩
          replace s1 := s1.tr0 g9
          replace s2 := s2.tr0 g9
          replace s3 := s3.tr0 g9
          replace s4 := s4.tr0 g9
          replace hc := hc.t0 g9
          clear g9 sX sY kr
          have c1 := run_str (P := Try.prog) Try.underlying22 Try.underlying5 Try.underlying9 s1 rfl
          have c2 := run_str (P := Try.prog) Try.underlying22 Try.underlying5 Try.underlying9 s2 rfl
          have c3 := run_str (P := Try.prog) Try.underlying22 Try.underlying5 Try.underlying9 s3 rfl
          have c4 := run_str (P := Try.prog) Try.underlying22 Try.underlying5 Try.underlying9 s4 rfl
          obtain ⟨a1, k1, rfl⟩ := s1.shape
          obtain ⟨a2, k2, rfl⟩ := s2.shape
          obtain ⟨a3, k3, rfl⟩ := s3.shape
          obtain ⟨a4, k4, rfl⟩ := s4.shape
          cases TO
          · go_wp2
            go_ret
            exact ⟨by simp, hc⟩
          · obtain ⟨q1, q2⟩ := hT rfl
            obtain ⟨q3, q4⟩ := hT1
            have hne : (T1 == T2) = false := by simpa using fun e => q1 (by rw [e])
            have kp := fun wx (g : Chg [] w9 wx) => sum_ok wx _ T1 (s1.tr0 g) (by omega)
            have kq := fun wx (g : Chg [] w9 wx) => sum_ok wx _ T2 (s2.tr0 g) (by omega)
            have L1 := sumB_len T1
            rw [q2] at kq
            have E := fun w => eql_dv (P := Try.prog) w 25 5 32 Try.underlying25 Try.underlying5 (fun w => by go_simp) (sumB T1) (sumB T1) L1 L1
            have GG := fun w x y => eqg_dv (P := Try.prog) w .eql 25 x y (sumB T1) (sumB T1) (by kernel_rfl)
            unfold dv at E GG
            simp only [beq_self_eq_true] at E
            generalize sumB T1 = H1 at *
            clear hT q2 q1
            go_wp2_with fail
            refine (kp w9 (Chg.refl _ _)).mono ?_
            rintro e w10 ⟨rfl, g10⟩
            go_wp2_with fail
            refine (kq w10 g10).mono ?_
            rintro e w11 ⟨rfl, g11⟩
            go_wp2
            go_ret
            exact ⟨by simp, (hc.t0 g10).t0 g11⟩
theorem tagExtracts_run (w : World) (va : Value) (A : List RowR) (vb : Value) (B : List RowR) (hA : Sl w va A.length (A.flatMap rowc)) (okA : ∀ x ∈ A, okR w x) (_ : A.length * 40 ≤ 140737488351232) (hB : Sl w vb B.length (B.flatMap rowc)) (okB : ∀ x ∈ B, okR w x) (_ : B.length * 40 ≤ 140737488351232) :
    Calls Try.prog 11 #[va, vb] w fun e w' => e = .returned (.bool true) ∧ Chg [] w w' := extracts2_run w va vb A B hA okA hB okB
end Go.Proofs.Ytfodlkofjmbolaa
