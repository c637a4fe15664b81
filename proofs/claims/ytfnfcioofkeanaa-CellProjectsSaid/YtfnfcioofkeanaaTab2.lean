/-
  The contracts of cell.Check and of the document's Check (hypostyleref07).
-/
import Derived.Test.YtfnfcioofkeanaaTab
namespace Go.Proofs.Ytfnfcioofkeanaa
set_option linter.unusedSimpArgs false
set_option linter.unusedVariables false
open Go.RowKit

/-- What is wrong of a table. -/
def hasBad (cols : List Col) (data : List (List Cell)) : Bool := decide (∃ p ∈ cols.zip data, ∃ c ∈ p.2, badCell p.1 c = true)
def badLen (rows : Int) (data : List (List Cell)) : Bool := decide (∃ l ∈ data, (l.length : Int) ≠ rows)
def checkV (t : Tab) : Int :=
  if colsV t.cols ≠ 0 then colsV t.cols else if 65536 < t.rows then 4
  else if t.rows < 0 ∨ t.data.length ≠ t.cols.length ∨ badLen t.rows t.data = true then 2
  else if hasBad t.cols t.data = true then 3 else 0
theorem badLen_map (rows : Int) (D : Rows2) : decide (∃ x ∈ D, (x.2.length : Int) ≠ rows) = badLen rows (D.map (·.2)) := by
  unfold badLen
  rw [decide_eq_decide]
  constructor
  · rintro ⟨x, hx, h⟩; exact ⟨x.2, List.mem_map.2 ⟨x, hx, rfl⟩, h⟩
  · rintro ⟨l, hl, h⟩
    obtain ⟨x, hx, rfl⟩ := List.mem_map.1 hl
    exact ⟨x, hx, h⟩
/-- No bad cell in the first k columns. -/
def okTo (cols : List Col) (data : List (List Cell)) (k : Nat) : Prop := ∀ p ∈ (cols.zip data).take k, ∀ c ∈ p.2, badCell p.1 c = false
theorem okTo_succ {cols : List Col} {data : List (List Cell)} {k : Nat} (h1 : k < cols.length) (h2 : k < data.length) (h : okTo cols data k) (hk : ∀ c ∈ data[k], badCell cols[k] c = false) : okTo cols data (k + 1) := by
  have hz : k < (cols.zip data).length := by simp; omega
  intro p hp
  rw [List.take_succ_eq_append_getElem hz] at hp
  rcases List.mem_append.1 hp with hp | hp
  · exact h p hp
  · rw [List.mem_singleton.1 hp, List.getElem_zip]
    exact hk
theorem hasBad_of {cols : List Col} {data : List (List Cell)} {k : Nat} (h1 : k < cols.length) (h2 : k < data.length) (h : ∃ c ∈ data[k], badCell cols[k] c = true) : hasBad cols data = true := by
  obtain ⟨c, hc, hb⟩ := h
  have hz : k < (cols.zip data).length := by simp; omega
  refine decide_eq_true ⟨(cols.zip data)[k], List.getElem_mem hz, c, ?_, ?_⟩
  · rw [List.getElem_zip]; exact hc
  · rw [List.getElem_zip]; exact hb
theorem okTo_end {cols : List Col} {data : List (List Cell)} {k : Nat} (h : okTo cols data k) (hk : data.length ≤ k) : hasBad cols data = false := by
  refine decide_eq_false ?_
  rintro ⟨p, hp, c, hc, hb⟩
  have := h p (by rw [List.take_of_length_le (by simp; omega)]; exact hp) c hc
  rw [this] at hb; cases hb

set_option maxHeartbeats 8000000 in
set_option maxRecDepth 100000 in
theorem check_ok (w : World) (vc vd : Value) (t : Tab) (D : Rows2) (hc : Sl w vc t.cols.length (t.cols.flatMap colc)) (hd : Sl2 w vd D) (hD : t.data = D.map (·.2))
    (hL : ∀ c ∈ t.cols, c.name.length ≤ maxLen ∧ -9223372036854775808 ≤ c.typ ∧ c.typ ≤ 9223372036854775807) (hcl : t.cols.length ≤ maxLen) (hdl : D.length ≤ maxLen) :
    Calls Try.prog 24 #[.agg #[vc, .int .i64 t.rows, vd]] w fun e w' => e = .returned (.int .i64 (checkV t)) ∧ Chg [] w w' := by
  obtain ⟨R, hR⟩ : ∃ R, R = checkV t := ⟨_, rfl⟩
  rw [← hR]
  unfold checkV at hR
  obtain ⟨L, rows, data⟩ := t
  dsimp only at *
  subst hD
  obtain ⟨a0, c0, rfl⟩ := hc.shape
  obtain ⟨a1, c1, rfl⟩ := hd.1.shape
  have hcl' := hcl
  have hdl' := hdl
  unfold maxLen at hcl hdl
  rw [List.length_map] at hR
  replace hR := Lib.hid hR
  go_enter Try.func24, Try.ntmps24
  go_wp2_with fail
  have gA := Chg.alloc [] w (.cells #[.slice a0 L.length c0, .int .i64 rows, .slice a1 D.length c1] 42)
  have ba := heap_alloc_new w (.cells #[.slice a0 L.length c0, .int .i64 rows, .slice a1 D.length c1] 42)
  refine (cols_ok _ (.slice a0 L.length c0) L hL (hc.tr0 gA) hcl').mono ?_
  rintro e w2 ⟨rfl, g2⟩
  replace ba := g2.heap ba (by simp)
  have g02 := gA.t0 g2
  clear gA g2
  obtain ⟨k0, k1, k2⟩ := cells3'' ba
  by_cases hv : colsV L = 0
  · rw [hv]
    have hR1 := hR.out
    rw [if_neg (by simp [hv])] at hR1
    clear hR hv
    by_cases h1 : 65536 < rows
    · rw [if_pos h1] at hR1
      subst hR1
      go_wp2
      go_ret
      exact ⟨rfl, g02⟩
    rw [if_neg h1] at hR1
    by_cases h2 : rows < 0
    · rw [if_pos (.inl h2)] at hR1
      subst hR1
      go_wp2
      go_ret
      exact ⟨rfl, g02⟩
    by_cases h3 : D.length = L.length
    · replace hR1 := Lib.hid hR1
      have h3f : ((D.length : Int) != L.length) = false := by simpa using (by omega : (D.length : Int) = L.length)
      replace h3 := Lib.hid h3
      have hd2 := hd.tr0 g02
      go_wp2_with fail
      refine (contains_c1 w2 (.slice a1 D.length c1) D _ rows k1 hd2 hdl').mono ?_
      rintro e w2' ⟨rfl, rfl⟩
      rw [badLen_map]
      cases hb : badLen rows (D.map (·.2))
      · have hR2 := hR1.out
        rw [if_neg (by simp only [not_or]; exact ⟨by omega, by simp [h3.out], by rw [hb]; simp⟩)] at hR2
        replace hR2 := Lib.hid hR2
        clear hR1 hb
        go_wp2_with fail
        go_loopw [36] (fun iv wr => ∃ (k : Nat), k ≤ D.length ∧ iv = .int .i64 k ∧ okTo L (D.map (·.2)) k ∧ Chg [] w2' wr) (fun iv _ => D.length - (intOf iv).toNat)
        case atStart => exact ⟨0, Nat.zero_le _, rfl, by intro p hp; simp at hp, Chg.refl _ _⟩
        case round =>
          obtain ⟨k, hk, rfl, hok, hch⟩ := hrel
          have gg := g02.t0 hch
          by_cases hkD : k < D.length
          · have hlt : k < L.length := by rw [← h3.out]; exact hkD
            obtain ⟨b, off, cc, e, hbl, x1, s1⟩ := (hd2.tr0 hch).cell k hkD
            cases e
            obtain ⟨a2, c2, e2⟩ := s1.shape
            rw [e2] at x1 s1
            have hkl : (k : Int) < L.length := by omega
            have hkd : (k : Int) < D.length := by omega
            have hlen : D[k].2.length ≤ maxLen := s1.le
            have hmk : (D.map (·.2))[k]'(by simpa using hkD) = D[k].2 := by simp
            have gK := Chg.alloc [] wr (.cells #[.int .i64 k] 3)
            have bK := heap_alloc_new wr (.cells #[.int .i64 k] 3)
            have kC := contains_c2 (wr.alloc (.cells #[.int .i64 k] 3)) (.slice a2 D[k].2.length c2) D[k].2 w.heap.size wr.heap.size (.slice a0 L.length c0) L k hlt ((hch.t0 gK).cellv k0 (by simp)) (cells1 bK).1 (hc.tr0 (gg.t0 gK)) (s1.tr0 gK) hlen
            have hsucc := fun h => okTo_succ hlt (by simpa using hkD) hok (by rw [hmk]; exact h)
            have hbad := fun h => hasBad_of (data := D.map (·.2)) hlt (by simpa using hkD) (by rw [hmk]; exact h)
            generalize D[k].2 = C at *
            clear s1 e2 hmk bK hbl hd2
            go_wp2_with fail
            refine kC.mono ?_
            rintro e w5 ⟨rfl, g5⟩
            have gf := (hch.t0 gK).t0 g5
            by_cases hx : ∃ c ∈ C, badCell L[k] c = true
            · rw [decide_eq_true hx]
              have hRR : R = 3 := by rw [hR2.out, if_pos (hbad hx)]
              subst hRR
              clear hx hbad hsucc
              go_wp2
              go_ret
              exact ⟨rfl, g02.t0 gf⟩
            · rw [decide_eq_false hx]
              have hs := hsucc (fun c hcm => by cases hb : badCell L[k] c; rfl; exact absurd ⟨c, hcm, hb⟩ hx)
              clear hx hbad hsucc hok
              go_wp2
              go_roundw
              case rel => exact ⟨k + 1, by omega, by go_num, hs, gf⟩
              case measure => simp [intOf]; omega
          · obtain rfl : k = D.length := by omega
            have hRR : R = 0 := by rw [hR2.out, if_neg (by rw [okTo_end hok (by simp)]; simp)]
            subst hRR
            clear hok hd2 hd hc
            go_wp2
            go_ret
            exact ⟨rfl, gg⟩
      · have hR2 := hR1.out
        rw [if_pos (.inr (.inr hb))] at hR2
        subst hR2
        clear hb
        go_wp2
        go_ret
        exact ⟨rfl, g02⟩
    · rw [if_pos (.inr (.inl h3))] at hR1
      subst hR1
      have h3' : ((D.length : Int) != L.length) = true := by simpa using (by omega : ¬ (D.length : Int) = L.length)
      go_wp2
      go_ret
      exact ⟨rfl, g02⟩
  · have hR1 := hR.out
    rw [if_pos hv] at hR1
    subst hR1
    clear hR
    have hv' : (colsV L != 0) = true := by simpa using hv
    go_wp2
    go_ret
    exact ⟨rfl, g02⟩
end Go.Proofs.Ytfnfcioofkeanaa
