/-
  The contract of the document's Check (hypostyleref07).
-/
import Derived.Test.YtfnfcioofkeanaaTab2
namespace Go.Proofs.Ytfnfcioofkeanaa
set_option linter.unusedSimpArgs false
set_option linter.unusedVariables false
open Go.RowKit

theorem badLen_no {rows : Int} {D : Rows2} (h : ∀ x ∈ D, (x.2.length : Int) = rows) : badLen rows (D.map (·.2)) = false := by
  refine decide_eq_false ?_
  rintro ⟨l, hl, hne⟩
  obtain ⟨x, hx, rfl⟩ := List.mem_map.1 hl
  exact hne (h x hx)
theorem badLen_yes {rows : Int} {D : Rows2} {x : Value × List Cell} (hx : x ∈ D) (h : ¬ (x.2.length : Int) = rows) : badLen rows (D.map (·.2)) = true :=
  decide_eq_true ⟨x.2, List.mem_map.2 ⟨x, hx, rfl⟩, h⟩

set_option maxHeartbeats 8000000 in
set_option maxRecDepth 100000 in
theorem rcheck_ok (w : World) (vc vd : Value) (t : Tab) (D : Rows2) (hc : Sl w vc t.cols.length (t.cols.flatMap colc)) (hd : Sl2 w vd D) (hD : t.data = D.map (·.2))
    (hL : ∀ c ∈ t.cols, c.name.length ≤ maxLen ∧ -9223372036854775808 ≤ c.typ ∧ c.typ ≤ 9223372036854775807) (hcl : t.cols.length ≤ maxLen) (hdl : D.length ≤ maxLen) :
    Calls Try.prog 25 #[.agg #[vc, .int .i64 t.rows, vd]] w fun e w' => e = .returned (.int .i64 (checkV t)) ∧ Chg [] w w' := by
  obtain ⟨R, hR⟩ : ∃ R, R = checkV t := ⟨_, rfl⟩
  rw [← hR]
  unfold checkV at hR
  obtain ⟨L, rows, data⟩ := t
  dsimp only at *
  subst hD
  obtain ⟨a0, c0, rfl⟩ := hc.shape
  obtain ⟨a1, c1, rfl⟩ := hd.1.shape
  have hcl' := hcl
  unfold maxLen at hcl hdl
  rw [List.length_map] at hR
  replace hR := Lib.hid hR
  go_enter Try.func25, Try.ntmps25
  go_wp2_with fail
  have gA := Chg.alloc [] w (.cells #[.slice a0 L.length c0, .int .i64 rows, .slice a1 D.length c1] 42)
  have ba := heap_alloc_new w (.cells #[.slice a0 L.length c0, .int .i64 rows, .slice a1 D.length c1] 42)
  refine (rcols_ok _ (.slice a0 L.length c0) L hL (hc.tr0 gA) hcl').mono ?_
  rintro e w2 ⟨rfl, g2⟩
  replace ba := g2.heap ba (by simp)
  have g02 := gA.t0 g2
  clear gA g2
  obtain ⟨k0, k1, k2⟩ := cells3'' ba
  by_cases hv : colsV L = 0
  · rw [hv]
    have hR1 := hR.out
    rw [if_neg (by simp [hv])] at hR1
    clear hR hv
    by_cases h1 : 65536 < rows
    · rw [if_pos h1] at hR1
      subst hR1
      go_wp2
      go_ret
      exact ⟨rfl, g02⟩
    rw [if_neg h1] at hR1
    by_cases h2 : rows < 0
    · rw [if_pos (.inl h2)] at hR1
      subst hR1
      go_wp2
      go_ret
      exact ⟨rfl, g02⟩
    by_cases h3 : D.length = L.length
    · replace hR1 := Lib.hid hR1
      have h3f : ((D.length : Int) != L.length) = false := by simpa using (by omega : (D.length : Int) = L.length)
      replace h3 := Lib.hid h3
      have hd2 := hd.tr0 g02
      go_wp2_with fail
      go_loopw [4] (fun iv wr => ∃ (k : Nat), k ≤ D.length ∧ iv = .int .i64 k ∧ (∀ x ∈ D.take k, (x.2.length : Int) = rows) ∧ Chg [] w2 wr) (fun iv _ => D.length - (intOf iv).toNat)
      case atStart => exact ⟨0, Nat.zero_le _, rfl, by simp, Chg.refl _ _⟩
      case round =>
        obtain ⟨k, hk, rfl, hok, hch⟩ := hrel
        have gg := g02.t0 hch
        have kk0 := hch.cellv k0 (by simp)
        have kk1 := hch.cellv k1 (by simp)
        have kk2 := hch.cellv k2 (by simp)
        by_cases hkD : k < D.length
        · obtain ⟨b, off, cc, e, hbl, x1, s1⟩ := (hd2.tr0 hch).cell k hkD
          cases e
          obtain ⟨a2, c2, e2⟩ := s1.shape
          rw [e2] at x1
          have htk : D.take (k + 1) = D.take k ++ [D[k]] := List.take_succ_eq_append_getElem hkD
          have hmem : D[k] ∈ D := List.getElem_mem hkD
          replace htk := Lib.hid htk
          have hkd : (k : Int) < D.length := by omega
          have hk00 : (0 : Int) ≤ k := by omega
          clear s1 e2 hd2 hd hc k0 k1 k2
          by_cases hx : (D[k].2.length : Int) = rows
          · have hx' : ((D[k].2.length : Int) != rows) = false := by simpa using hx
            replace hx := Lib.hid hx
            go_wp2_with fail
            refine region_quietC (by kernel_rfl) (by kernel_rfl) ?_
            repeat (first
              | (refine quiet_cellC rfl _ _ rfl _ rfl _ _ kk2 Try.underlying40 rfl ?_)
              | (refine quiet_cellC rfl _ _ rfl _ rfl _ _ x1 Try.underlying50 rfl ?_)
              | (refine quiet_cellC rfl _ _ rfl _ rfl _ _ kk1 Try.underlying3 rfl ?_)
              | quiet_step ((intro hx; first | rfl)))
            refine wpQuiet_nil ?_
            intro w' g
            go_wp2
            go_roundw
            case rel => exact ⟨k + 1, by omega, by go_num, by rw [htk.out]; intro y hy; rcases List.mem_append.1 hy with hy | hy; exact hok y hy; rw [List.mem_singleton.1 hy]; exact hx.out, hch.t0 g⟩
            case measure => simp [intOf]; omega
          · have hx' : ((D[k].2.length : Int) != rows) = true := by simpa using hx
            have hRR : R = 2 := by rw [hR1.out, if_pos (.inr (.inr (badLen_yes hmem hx)))]
            subst hRR
            clear hx
            go_wp2_with fail
            refine region_quietC (by kernel_rfl) (by kernel_rfl) ?_
            repeat (first
              | (refine quiet_cellC rfl _ _ rfl _ rfl _ _ kk2 Try.underlying40 rfl ?_)
              | (refine quiet_cellC rfl _ _ rfl _ rfl _ _ x1 Try.underlying50 rfl ?_)
              | (refine quiet_cellC rfl _ _ rfl _ rfl _ _ kk1 Try.underlying3 rfl ?_)
              | quiet_step ((intro hx; first | rfl)))
            refine wpQuiet_nil ?_
            intro w' g
            go_wp2
            go_ret
            exact ⟨rfl, gg.t0 g⟩
        · obtain rfl : k = D.length := by omega
          rw [List.take_length] at hok
          have hR2 := hR1.out
          rw [if_neg (by simp only [not_or]; exact ⟨by omega, by simp [h3.out], by rw [badLen_no hok]; simp⟩)] at hR2
          replace hR2 := Lib.hid hR2
          have hd3 := hd2.tr0 hch
          have hc3 := hc.tr0 gg
          clear hR1 k0 k1 k2 hd2 hd hc hch
          go_wp2_with fail
          go_loopw [5] (fun iv wu => ∃ (k : Nat), k ≤ D.length ∧ iv = .int .i64 k ∧ okTo L (D.map (·.2)) k ∧ Chg [] w wu ∧ wu.cell? ⟨w.heap.size, 0, none⟩ = some (.slice a0 L.length c0) ∧ wu.cell? ⟨w.heap.size, 1, none⟩ = some (.int .i64 rows) ∧ wu.cell? ⟨w.heap.size, 2, none⟩ = some (.slice a1 D.length c1) ∧ Sl2 wu (.slice a1 D.length c1) D ∧ Sl wu (.slice a0 L.length c0) L.length (L.flatMap colc)) (fun iv _ => D.length - (intOf iv).toNat)
          case atStart => exact ⟨0, Nat.zero_le _, rfl, by intro p hp; simp at hp, gg, kk0, kk1, kk2, hd3, hc3⟩
          case round =>
            clear kk0 kk1 kk2 hd3 hc3 gg
            obtain ⟨k, hk, rfl, hokc, gg3, m0, m1, m2, hd3, hc3⟩ := hrel
            by_cases hkD : k < D.length
            · have hlt : k < L.length := by rw [← h3.out]; exact hkD
              have hlen := hok _ (List.getElem_mem hkD)
              have hkd : (k : Int) < D.length := by omega
              have hkl : (k : Int) < L.length := by omega
              have hk00 : (0 : Int) ≤ k := by omega
              have hmk : (D.map (·.2))[k]'(by simpa using hkD) = D[k].2 := by simp
              have hsucc := fun h => okTo_succ hlt (by simpa using hkD) hokc (by rw [hmk]; exact h)
              have hbad := fun h => hasBad_of (data := D.map (·.2)) hlt (by simpa using hkD) (by rw [hmk]; exact h)
              have hlenm : D[k].2.length ≤ maxLen := (hd3.2 _ (List.getElem_mem hkD)).le
              unfold maxLen at hlenm
              replace hlen := Lib.hid hlen
              clear hmk hokc hok
              go_wp2_with fail
              go_loopw [6] (fun jv wu => ∃ (j : Nat), j ≤ D[k].2.length ∧ jv = .int .i64 j ∧ (∀ c ∈ D[k].2.take j, badCell L[k] c = false) ∧ Chg [] w wu ∧ wu.cell? ⟨w.heap.size, 0, none⟩ = some (.slice a0 L.length c0) ∧ wu.cell? ⟨w.heap.size, 1, none⟩ = some (.int .i64 rows) ∧ wu.cell? ⟨w.heap.size, 2, none⟩ = some (.slice a1 D.length c1) ∧ Sl2 wu (.slice a1 D.length c1) D ∧ Sl wu (.slice a0 L.length c0) L.length (L.flatMap colc)) (fun jv _ => D[k].2.length - (intOf jv).toNat)
              case atStart => exact ⟨0, Nat.zero_le _, rfl, by simp, gg3, m0, m1, m2, hd3, hc3⟩
              case round =>
                clear m0 m1 m2 hd3 hc3
                obtain ⟨j, hj, rfl, hno, gw, m0, m1, m2, hd4, hc4⟩ := hrel
                by_cases hjl : j < D[k].2.length
                · have hjr : (j : Int) < rows := by rw [← hlen.out]; omega
                  have hjr2 : (j : Int) < (D[k].2.length : Int) := by omega
                  have hj00 : (0 : Int) ≤ j := by omega
                  obtain ⟨b, off, cc, e, hbl, x1, s1⟩ := hd4.cell k hkD
                  cases e
                  obtain ⟨a2, c2, e2⟩ := s1.shape
                  rw [e2] at x1 s1
                  obtain ⟨b2, off2, cc2, e3, hbl2, r1⟩ := cell_cells s1 j hjl
                  cases e3
                  obtain ⟨b3, off3, cc3, e4, hbl3, y1, y2, y3⟩ := cols_cells hc4 k hlt
                  cases e4
                  have rc := ra3 y1 y2 y3
                  have r5 : wr.rangeAt b2 (off2 + j * 5) [.bool D[k].2[j].null, .int .i64 D[k].2[j].int, .string (bstr D[k].2[j].text), .int .i64 D[k].2[j].x, .int .i64 D[k].2[j].y] := r1
                  have htk : D[k].2.take (j + 1) = D[k].2.take j ++ [D[k].2[j]] := List.take_succ_eq_append_getElem hjl
                  have hmem : D[k].2[j] ∈ D[k].2 := List.getElem_mem hjl
                  have kR : ∀ w', Calls Try.prog 51 #[.agg #[.bool D[k].2[j].null, .int .i64 D[k].2[j].int, .string (bstr D[k].2[j].text), .int .i64 D[k].2[j].x, .int .i64 D[k].2[j].y], .agg #[.string (bstr L[k].name), .int .i64 L[k].typ, .bool L[k].null]] w' fun e w'' => e = .returned (.bool (rightC D[k].2[j] L[k].typ L[k].null)) ∧ Chg [] w' w'' := fun w' => rcright_ok w' D[k].2[j] L[k]
                  have hbc : badCell L[k] D[k].2[j] = !rightC D[k].2[j] L[k].typ L[k].null := rfl
                  replace htk := Lib.hid htk
                  generalize rightC D[k].2[j] L[k].typ L[k].null = RC at *
                  replace hbc := Lib.hid hbc
                  clear y1 y2 y3 s1 e2
                  go_wp2_with fail
                  refine region_quietC (by kernel_rfl) (by kernel_rfl) ?_
                  repeat (first
                    | (refine quiet_loadC rfl _ _ rfl _ _ rfl _ _ r5 Try.underlying54 rfl (by kernel_rfl) ?_)
                    | (refine quiet_loadC rfl _ _ rfl _ _ rfl _ _ rc Try.underlying58 rfl (by kernel_rfl) ?_)
                    | (refine quiet_cellC rfl _ _ rfl _ rfl _ _ m2 Try.underlying40 rfl ?_)
                    | (refine quiet_cellC rfl _ _ rfl _ rfl _ _ x1 Try.underlying50 rfl ?_)
                    | (refine quiet_cellC rfl _ _ rfl _ rfl _ _ m0 Try.underlying25 rfl ?_)
                    | quiet_step ((intro hx; first | rfl | with_reducible exact Calls.quietC hx (kR _))))
                  refine wpQuiet_nil ?_
                  intro w' g
                  have m0' := g.cellv m0 (by simp)
                  have m1' := g.cellv m1 (by simp)
                  have m2' := g.cellv m2 (by simp)
                  cases RC
                  · have hRR : R = 3 := by rw [hR2.out, if_pos (hbad ⟨_, hmem, by rw [hbc.out]; rfl⟩)]
                    subst hRR
                    clear hbad hsucc
                    go_wp2
                    go_ret
                    exact ⟨rfl, gw.t0 g⟩
                  · have hnew : ∀ c ∈ D[k].2.take (j + 1), badCell L[k] c = false := by
                      rw [htk.out]; intro c hc
                      rcases List.mem_append.1 hc with hc | hc
                      · exact hno c hc
                      · rw [List.mem_singleton.1 hc, hbc.out]; rfl
                    have hd5 := hd4.tr0 g
                    have hc5 := hc4.tr0 g
                    clear hbad hsucc hno hd4 hc4 r1 r5 rc x1 kR m0 m1 m2
                    go_wp2
                    go_roundw
                    case rel => exact ⟨j + 1, by omega, by go_num, hnew, gw.t0 g, m0', m1', m2', hd5, hc5⟩
                    case measure => simp [intOf]; omega
                · obtain rfl : j = D[k].2.length := by omega
                  have hjr : ¬ ((D[k].2.length : Int) < rows) := by rw [← hlen.out]; omega
                  rw [List.take_length] at hno
                  have hs := hsucc hno
                  clear hno hsucc hbad
                  go_wp2
                  go_roundw
                  case rel => exact ⟨k + 1, by omega, by go_num, hs, gw, m0, m1, m2, hd4, hc4⟩
                  case measure => simp [intOf]; omega
            · obtain rfl : k = D.length := by omega
              have hRR : R = 0 := by rw [hR2.out, if_neg (by rw [okTo_end hokc (by simp)]; simp)]
              subst hRR
              clear hokc hok hd3 hc3
              go_wp2
              go_ret
              exact ⟨rfl, gg3⟩
    · rw [if_pos (.inr (.inl h3))] at hR1
      subst hR1
      have h3' : ((D.length : Int) != L.length) = true := by simpa using (by omega : ¬ (D.length : Int) = L.length)
      go_wp2
      go_ret
      exact ⟨rfl, g02⟩
  · have hR1 := hR.out
    rw [if_pos hv] at hR1
    subst hR1
    clear hR
    have hv' : (colsV L != 0) = true := by simpa using hv
    go_wp2
    go_ret
    exact ⟨rfl, g02⟩
end Go.Proofs.Ytfnfcioofkeanaa
