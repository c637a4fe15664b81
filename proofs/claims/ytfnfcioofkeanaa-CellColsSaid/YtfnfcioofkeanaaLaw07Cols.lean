/-
  CellCols: the walk.
-/
import Derived.Test.YtfnfcioofkeanaaColPure
import Derived.Test.YtfnfcioofkeanaaFresh
import Derived.Test.YtfnfcioofkeanaaOpenT
import Derived.Test.YtfnfcioofkeanaaSmall7
namespace Go.Proofs.Ytfnfcioofkeanaa
set_option linter.unusedSimpArgs false
set_option linter.unusedVariables false
open Go.RowKit

def hadB (l : List Col) (c : Col) : Bool := decide (c.name ∈ l.map (·.name))
theorem hadB_succ (l : List Col) (c d : Col) : hadB (l ++ [d]) c = (hadB l c || decide (d.name = c.name)) := by
  unfold hadB
  simp [eq_comm]

set_option maxHeartbeats 8000000 in
set_option maxRecDepth 100000 in
theorem cols7_run (w : World) (v : Value) (L : List Col) (nm : List UInt8) (ty : Int) (nu : Bool) (hs : Sl w v L.length (L.flatMap colc)) (hL : ∀ c ∈ L, okCol c) (hc : okCol ⟨nm, ty, nu⟩) (hb : L.length * 32 ≤ 140737488351232) :
    Calls Try.prog 12 #[v, .agg #[.string (bstr nm), .int .i64 ty, .bool nu]] w fun e w' => e = .returned (.bool true) ∧ Chg [] w w' := by
  have hLw := okCol.wide hL
  have hlen : L.length ≤ maxLen := by unfold maxLen; omega
  have hpure := colsV_snoc L ⟨nm, ty, nu⟩
  have kL := fun w' (g : Chg [] w w') => cols_ok w' v L hLw (hs.tr0 g) hlen
  have hcw := okCol.wide (L := [⟨nm, ty, nu⟩]) (by intro c h; rw [List.mem_singleton.1 h]; exact hc)
  have hLc := okCol.wide (L := L ++ [⟨nm, ty, nu⟩]) (by
    intro c h
    rcases List.mem_append.1 h with h | h
    · exact hL c h
    · rw [List.mem_singleton.1 h]; exact hc)
  have kC := fun w' v' (h : Sl w' v' 1 [.string (bstr nm), .int .i64 ty, .bool nu]) => cols_ok w' v' [⟨nm, ty, nu⟩] hcw h (by unfold maxLen; simp)
  have kM := fun w' v' (h : Sl w' v' (L.length + 1) (L.flatMap colc ++ [.string (bstr nm), .int .i64 ty, .bool nu])) => cols_ok w' v' (L ++ [⟨nm, ty, nu⟩]) hLc (by simpa [colc] using h) (by unfold maxLen; simp; omega)
  obtain ⟨a0, c0, rfl⟩ := hs.shape
  have hlen' : L.length ≤ 9223372036854775807 := by unfold maxLen at hlen; omega
  clear hLw hcw hLc hL hc
  have g0 := Chg.alloc [] w (.cells #[.string (bstr nm), .int .i64 ty, .bool nu] 58)
  have ba := heap_alloc_new w (.cells #[.string (bstr nm), .int .i64 ty, .bool nu] 58)
  go_enter Try.func12, Try.ntmps12
  go_wp2_with fail
  generalize w.alloc (.cells #[.string (bstr nm), .int .i64 ty, .bool nu] 58) = w1 at *
  refine (small07_ok _).mono ?_
  rintro e w2 ⟨rfl, g⟩
  replace ba := g.heap ba (by simp)
  replace g0 := g0.t0 g
  clear g
  obtain ⟨k0, k1, k2⟩ := cells3'' ba
  have ra := ra_block ba
  by_cases h70 : 70 < L.length
  · go_wp2
    go_ret
    exact ⟨rfl, g0⟩
  go_wp2_with fail
  go_loopw [6, 7] (fun hv iv wr => ∃ k : Nat, k ≤ L.length ∧ hv = .bool (hadB (L.take k) ⟨nm, ty, nu⟩) ∧ iv = .int .i64 k ∧ Chg [] w2 wr) (fun hv iv _ => L.length - (intOf iv).toNat)
  case atStart => exact ⟨0, Nat.zero_le _, rfl, rfl, Chg.refl _ _⟩
  case round =>
    obtain ⟨k, hk, rfl, rfl, hch⟩ := hrel
    by_cases hlt : k < L.length
    · obtain ⟨b, off, c', e, hbl, y1, y2, y3⟩ := cols_cells (hs.tr0 (g0.t0 hch)) k hlt
      cases e
      have z0 := hch.cellv k0 (by simp)
      have hkd : (k : Int) < L.length := by omega
      have hk0 : (0 : Int) ≤ k := by omega
      have hnx : hadB (L.take (k + 1)) ⟨nm, ty, nu⟩ = (hadB (L.take k) ⟨nm, ty, nu⟩ || decide (L[k].name = nm)) := by
        rw [List.take_succ_eq_append_getElem hlt, hadB_succ]
      replace hnx := Lib.hid hnx
      generalize hadB (L.take k) ⟨nm, ty, nu⟩ = B at *
      generalize L[k].name = nk at *
      generalize L[k].typ = tk at *
      generalize L[k].null = uk at *
      cases B
      · go_wp2_with fail
        refine region_quiet_tailC 11 (by kernel_rfl) (by kernel_rfl) ?_
        simp only [List.take_succ_cons, List.take_zero, List.drop_succ_cons, List.drop_zero]
        repeat (first
          | (refine quiet_cellC rfl _ _ rfl _ rfl _ _ y1 Try.underlying9 rfl ?_)
          | (refine quiet_cellC rfl _ _ rfl _ rfl _ _ z0 Try.underlying9 rfl ?_)
          | quiet_step ((intro hx; first | rfl)))
        refine wpQuiet_nil ?_
        intro w' g
        go_wp2
        go_roundw
        case rel => exact ⟨k + 1, by omega, by rw [hnx.out]; congr 1; by_cases h : nk = nm <;> simp [h], by go_num, hch.t0 g⟩
        case measure => simp [intOf]; omega
      · go_wp2_with fail
        go_quiet (fail)
        go_wp2
        go_roundw
        case rel => exact ⟨k + 1, by omega, by rw [hnx.out]; simp, by go_num, hch.t0 (Chg.drewN [] _ _)⟩
        case measure => simp [intOf]; omega
    · obtain rfl : k = L.length := by omega
      rw [List.take_length]
      have hB : hadB L ⟨nm, ty, nu⟩ = decide (nm ∈ L.map (·.name)) := rfl
      rw [← hB] at hpure
      clear hB
      generalize hadB L ⟨nm, ty, nu⟩ = B at *
      clear k0 k1 k2 ra
      replace g0 := g0.t0 hch
      replace ba := hch.heap ba (by simp)
      clear hch
      obtain ⟨k0, k1, k2⟩ := cells3'' ba
      have ra := ra_block ba
      go_wp2_with fail
      refine (kC _ _ (Sl.lit _ _ _ 1 (by decide))).mono ?_
      rintro e w3 ⟨rfl, g⟩
      have g3 : Chg [] wr w3 := (Chg.alloc [] _ _).t0 g
      clear g kC
      have ba3 := g3.heap ba (by simp)
      have hs3 := hs.tr0 (g0.t0 g3)
      clear k0 k1 k2 ra
      go_wp2_with fail
      refine (kL _ (g0.t0 g3)).mono ?_
      rintro e w4 ⟨rfl, g⟩
      have ba4 := g.heap ba3 (by simp)
      have hs4 := hs3.tr0 g
      have g4 := (g0.t0 g3).t0 g
      clear g kL ba3 hs3 g3 g0 ba
      have ra := ra_block ba4
      obtain ⟨k0, k1, k2⟩ := cells3'' ba4
      generalize colsV L = A at *
      generalize colsV [⟨nm, ty, nu⟩] = C at *
      generalize colsV (L ++ [⟨nm, ty, nu⟩]) = M at *
      go_wp2_with fail
      refine' region_soft 5 [OwnE w4.heap.size 58 3, cst _, OwnF w4.heap.size 58 3 L.length (L.flatMap colc), cst (.agg #[.string (bstr nm), .int .i64 ty, .bool nu]), SlF 1 [.string (bstr nm), .int .i64 ty, .bool nu]] rfl (by kernel_rfl) (by kernel_rfl) (stays_cons (OwnE.stays) (stays_cons (Stays.cst _) (stays_cons (OwnF.stays) (stays_cons (Stays.cst _) (stays_cons (SlF.stays) stays_nil))))) _ (fun V => by simp only [putAll, Act.put, List.take_succ_cons, List.take_zero, List.setIfInBounds_toArray, List.set_cons_zero, List.set_cons_succ, Nat.reduceAdd]; exact rfl) ?hs1 ?ht1
      case hs1 =>
        simp only [List.take_succ_cons, List.take_zero, softs]
        refine ⟨?_, ?_, ?_, ?_, ?_, trivial⟩
        · intro V wx hw hd
          simp [phi, Region.binds, cst] at hd
          try simp only [hd]
          exact soft_made (w' := wx.alloc (.cells #[] 58)) (v := .slice (some ⟨wx.heap.size, 0, none⟩) 0 0) rfl (by go_simp) (Chg.alloc _ _ _) (OwnE.lit hw.size)
        · intro V wx hw hd
          simp [phi, Region.binds, cst] at hd
          try simp only [hd]
          first
            | (refine soft_const rfl ?_; go_simp; done)
            | (refine soft_const rfl ?_; go_simp; exact rfl)
            | (exact soft_load rfl hw _ _ rfl _ _ rfl _ _ ra Try.underlying58 rfl (by kernel_rfl))
            | (exact soft_skip rfl)
        · intro V wx hw hd
          simp [phi, Region.binds, cst] at hd
          try simp only [hd]
          obtain ⟨h0, h00⟩ := hd.1
          obtain ⟨v', w', hr, h2, h3, h4, h5⟩ := run_append_sl (P := Try.prog) wx 25 _ _ 3 32 el_colP w4.heap.size (V 0) 0 [] h0 (.slice a0 L.length c0) L.length (L.flatMap colc) (hs4.tr0 hw) (flat_length colc 3 L (fun _ _ => rfl)) (colc_oneP L) (by unfold big; omega) hw.size
          refine soft_made rfl (exec_append _ _ _ rfl _ _ _ rfl rfl hr) (h5 h00) (by simpa [OwnF] using h2)
        · intro V wx hw hd
          simp [phi, Region.binds, cst] at hd
          try simp only [hd]
          exact soft_load rfl hw _ _ rfl _ _ rfl _ _ ra Try.underlying58 rfl (by kernel_rfl)
        · intro V wx hw hd
          simp [phi, Region.binds, cst] at hd
          try simp only [hd]
          exact soft_made (w' := wx.alloc (.cells #[.string (bstr nm), .int .i64 ty, .bool nu] 58)) (v := .slice (some ⟨wx.heap.size, 0, none⟩) 1 1) rfl (by go_simp) (Chg.alloc _ _ _) (Sl.lit _ _ _ 1 (by decide))
      intro V w' hg hk
      have q2 : OwnF _ _ _ _ _ (V 2) w' := hk 2 (by decide)
      have q4 : SlF _ _ (V 4) w' := hk 4 (by decide)
      clear hk
      simp only [List.drop_succ_cons, List.drop_zero]
      generalize V 0 = v0
      generalize V 1 = v1
      generalize V 2 = v2 at *
      generalize V 3 = v3
      generalize V 4 = v4 at *
      clear V
      go_wp2_with (at_builtin; refine wpList_append_sl _ rfl (.tmp 42) (.tmp 44) 25 58 3 32 rfl el_colP w4.heap.size v2 L.length (L.flatMap colc) rfl q2 v4 1 _ rfl q4 rfl (by intro u hu; simp at hu; rcases hu with rfl | rfl | rfl <;> rfl) (by unfold big; omega) hg.size ?_)
      intro v5 w5 o5 gr5
      have g5 : Chg [] w4 w5 := Chg.grownOwn hg gr5 q2 (Nat.le_refl _)
      have s5 := Sl.ofOwns o5
      obtain ⟨a5, c5, rfl⟩ := s5.shape
      go_wp2_with fail
      refine (kM _ _ s5).mono ?_
      rintro e w6 ⟨rfl, g⟩
      have g6 := g4.t0 (g5.t0 g)
      clear g kM g5 s5 o5 gr5 q2 q4 hg hs4 ra ba4 g4 k0 k1 k2 hs
      by_cases hA : A = 0
      · subst hA
        by_cases hC : C = 0
        · subst hC
          by_cases hl : L.length < 64
          · have hli : (L.length : Int) < 64 := by omega
            by_cases hM : M = 0
            · subst hM
              simp [hl] at hpure
              subst hpure
              go_wp2
              go_ret
              exact ⟨by simp, g6⟩
            · simp [hl, hM] at hpure
              subst hpure
              go_wp2
              go_ret
              exact ⟨by simp [hM], g6⟩
          · have hli : ¬ (L.length : Int) < 64 := by omega
            simp [hl] at hpure
            cases B
            all_goals
              go_wp2
              go_ret
              exact ⟨by first | (simp [hpure]; done) | (rw [show (M == 0) = false by simpa using hpure, show decide ((L.length : Int) < 64) = false from decide_eq_false (by omega)]; rfl), g6⟩
        · simp [hC] at hpure
          cases B
          all_goals
            go_wp2
            go_ret
            exact ⟨by simp [hpure, hC], g6⟩
      · simp [hA] at hpure
        by_cases hC : C = 0
        · subst hC
          cases B
          all_goals
            go_wp2
            go_ret
            exact ⟨by simp [hpure, hA], g6⟩
        · cases B
          all_goals
            go_wp2
            go_ret
            exact ⟨by simp [hpure, hA, hC], g6⟩
theorem cellCols_run (w : World) (v : Value) (L : List Col) (c : Col) (hs : Sl w v L.length (L.flatMap colc)) (hL : ∀ c ∈ L, okCol c) (hb : L.length * 32 ≤ 140737488351232) (hc : okCol c) :
    Calls Try.prog 12 #[v, .agg (colc c).toArray] w fun e w' => e = .returned (.bool true) ∧ Chg [] w w' :=
  cols7_run w v L c.name c.typ c.null hs hL hc hb
end Go.Proofs.Ytfnfcioofkeanaa
