/-
  QueryTwice: the walk.
-/
import Derived.Test.YtfnfcioofkeanaaLaw24A
namespace Go.Proofs.Ytfnfcioofkeanaa
open Go.RowKit

theorem colsOk_snoc (m : Int) (l : List Int) (x : Int) : colsOk m (l ++ [x]) [] = (((colsOk m l [] && decide (0 ≤ x)) && decide (x < m)) && decide (x ∉ l)) := by
  rw [Bool.eq_iff_iff]
  simp only [Bool.and_eq_true, decide_eq_true_eq, colsOk_nil, List.nodup_append, List.mem_append, List.mem_singleton]
  constructor
  · rintro ⟨⟨h1, _, h2⟩, h3⟩
    exact ⟨⟨⟨⟨h1, fun c hc => h3 c (.inl hc)⟩, (h3 x (.inr rfl)).1⟩, (h3 x (.inr rfl)).2⟩, fun hx => h2 x hx x rfl rfl⟩
  · rintro ⟨⟨⟨⟨h1, h2⟩, h3⟩, h4⟩, h5⟩
    refine ⟨⟨h1, by simp, fun a ha b hb e => h5 (by rw [← hb, ← e]; exact ha)⟩, fun c hc => ?_⟩
    rcases hc with hc | rfl
    · exact h2 c hc
    · exact ⟨h3, h4⟩

set_option maxRecDepth 100000 in
set_option maxHeartbeats 8000000 in
theorem queryTwice_run (w : World) (v : Value) (l : List Int) (hs : Sl w v l.length (ics .i64 l)) (hI : ∀ n ∈ l, -9223372036854775808 ≤ n ∧ n ≤ 9223372036854775807) (hb : l.length * 8 ≤ 140737488351232) :
    Calls Try.prog 6 #[v] w fun e w' => e = .returned (.bool true) ∧ Chg [] w w' := by
  obtain ⟨a0, c0, rfl⟩ := hs.shape
  clear hI
  go_enter Try.func6, Try.ntmps6
  go_wp2_with fail
  refine (small24_ok w).mono ?_
  rintro e w1 ⟨rfl, g1⟩
  by_cases hl : 100 < l.length
  · go_wp2
    go_ret
    exact ⟨rfl, g1⟩
  have hm : mayQ ⟨l, 0, 0⟩ = colsOk 64 l [] := by
    unfold mayQ
    rw [fitsV_eq]
    simp
  go_wp2_with fail
  refine (enc_ok w1 (.slice a0 l.length c0) ⟨l, 0, 0⟩ (hs.tr0 g1) (by unfold maxLen; dsimp only; omega)).mono ?_
  rintro e w2 ⟨va, rfl, _, g2⟩
  rw [hm]
  have g02 := g1.t0 g2
  clear g1 g2 hm
  obtain ⟨RES, hRES⟩ : ∃ B, B = colsOk 64 l [] := ⟨_, rfl⟩
  rw [← hRES]
  replace hRES := Lib.hid hRES
  go_wp2_with fail
  go_loopw [6, 7] (fun bv iv wr => ∃ (k : Nat), k ≤ l.length ∧ iv = .int .i64 k ∧ bv = .bool (colsOk 64 (l.take k) []) ∧ Chg [] w wr) (fun _ iv _ => l.length - (intOf iv).toNat)
  case atStart => exact ⟨0, Nat.zero_le _, rfl, rfl, g02⟩
  case round =>
    clear g02
    obtain ⟨k, hk, rfl, rfl, hch⟩ := hrel
    by_cases hlt : k < l.length
    · obtain ⟨b, off, c, e, hbl, hc1⟩ := int_cells (hs.tr0 hch) k hlt
      cases e
      have htk : colsOk 64 (l.take (k + 1)) [] = (((colsOk 64 (l.take k) [] && decide (0 ≤ l[k])) && decide (l[k] < 64)) && decide (l[k] ∉ l.take k)) := by
        rw [List.take_succ_eq_append_getElem hlt, colsOk_snoc]
      replace htk := Lib.hid htk
      generalize hx : l[k] = x at *
      generalize colsOk 64 (l.take k) [] = B0 at *
      obtain ⟨B1, hB1⟩ : ∃ B1, B1 = ((B0 && decide (0 ≤ x)) && decide (x < 64)) := ⟨_, rfl⟩
      have hB1' := hB1
      replace hB1 := Lib.hid hB1
      have hkl' : (k : Int) < l.length := by omega
      have hk0 : (0 : Int) ≤ k := by omega
      have inner : ∀ {G : Prop}, G → G := fun h => h
      clear inner
      have hcase : (B0 = false ∧ B1 = false) ∨ (B0 = true ∧ x < 0 ∧ B1 = false) ∨ (B0 = true ∧ 0 ≤ x ∧ B1 = decide (x < 64)) := by
        cases B0
        · left; exact ⟨rfl, by rw [hB1']; rfl⟩
        · right
          by_cases h : 0 ≤ x
          · right; exact ⟨rfl, h, by rw [hB1', decide_eq_true h]; rfl⟩
          · left; exact ⟨rfl, by omega, by rw [hB1', decide_eq_false h]; rfl⟩
      clear hB1'
      rcases hcase with ⟨rfl, hbb⟩ | ⟨rfl, hx0, hbb⟩ | ⟨rfl, hx0, hbb⟩
      all_goals
        replace hbb := Lib.hid hbb
        go_wp2_with fail
        go_loopw [6, 8] (fun bv jv wq => ∃ j : Nat, j ≤ k ∧ jv = .int .i64 j ∧ bv = .bool (B1 && decide (x ∉ l.take j)) ∧ Chg [] w wq) (fun _ jv _ => k - (intOf jv).toNat)
        case atStart => exact ⟨0, Nat.zero_le _, rfl, by rw [hbb.out]; simp, hch⟩
        case round =>
          clear hch
          obtain ⟨j, hj, rfl, rfl, hch⟩ := hrel
          by_cases hjt : j < k
          · obtain ⟨b', off', c', e, hbl', d1⟩ := int_cells (hs.tr0 hch) j (by omega)
            cases e
            obtain ⟨b', off', c', e, hbl', e1⟩ := int_cells (hs.tr0 hch) k hlt
            cases e
            rw [hx] at e1
            have hjl : j < l.length := by omega
            have hjl' : (j : Int) < l.length := by omega
            have hj0 : (0 : Int) ≤ j := by omega
            have htj : (B1 && decide (x ∉ l.take (j + 1))) = ((B1 && decide (x ∉ l.take j)) && decide (x ≠ l[j])) := by
              have h1 : l.take (j + 1) = l.take j ++ [l[j]] := List.take_succ_eq_append_getElem hjl
              have h2 : decide (x ∉ l.take (j + 1)) = (decide (x ∉ l.take j) && decide (x ≠ l[j])) := by
                rw [h1, Bool.eq_iff_iff]
                simp only [List.mem_append, List.mem_singleton, not_or, Bool.and_eq_true, decide_eq_true_eq, ne_eq]
              rw [h2, Bool.and_assoc]
            replace htj := Lib.hid htj
            generalize (B1 && decide (x ∉ l.take j)) = BJ at *
            generalize l[j] = y at *
            cases BJ
            · go_wp2_with fail
              go_quiet (fail)
              go_wp2
              go_roundw
              case rel => exact ⟨j + 1, by omega, by go_num, by rw [htj.out]; simp, hch.t0 (Chg.drewN [] _ _)⟩
              case measure => simp [intOf]; omega
            · by_cases hxy : x = y
              · subst hxy
                have hxy2 : (x != x) = false := by simp
                go_wp2_with fail
                refine region_quietC (by kernel_rfl) (by kernel_rfl) ?_
                repeat (first
                  | (refine quiet_cellC rfl _ _ rfl _ rfl _ _ d1 Try.underlying3 rfl ?_)
                  | (refine quiet_cellC rfl _ _ rfl _ rfl _ _ e1 Try.underlying3 rfl ?_)
                  | quiet_step ((intro hx; first | rfl)))
                refine wpQuiet_nil ?_
                intro w' g
                go_wp2
                go_roundw
                case rel => exact ⟨j + 1, by omega, by go_num, by rw [htj.out]; simp, hch.t0 g⟩
                case measure => simp [intOf]; omega
              · have hxy2 : (x != y) = true := by simpa using hxy
                go_wp2_with fail
                refine region_quietC (by kernel_rfl) (by kernel_rfl) ?_
                repeat (first
                  | (refine quiet_cellC rfl _ _ rfl _ rfl _ _ d1 Try.underlying3 rfl ?_)
                  | (refine quiet_cellC rfl _ _ rfl _ rfl _ _ e1 Try.underlying3 rfl ?_)
                  | quiet_step ((intro hx; first | rfl)))
                refine wpQuiet_nil ?_
                intro w' g
                go_wp2
                go_roundw
                case rel => exact ⟨j + 1, by omega, by go_num, by rw [htj.out]; simp [hxy], hch.t0 g⟩
                case measure => simp [intOf]; omega
          · obtain rfl : j = k := by omega
            have hfin : (B1 && decide (x ∉ l.take j)) = colsOk 64 (l.take (j + 1)) [] := by rw [htk.out, hB1.out]
            rw [hfin]
            clear hfin
            go_wp2
            go_roundw
            case rel => exact ⟨j + 1, by omega, by go_num, rfl, hch⟩
            case measure => simp [intOf]; omega
    · obtain rfl : k = l.length := by omega
      rw [List.take_length, ← hRES.out]
      go_wp2
      go_ret
      exact ⟨rfl, hch⟩
end Go.Proofs.Ytfnfcioofkeanaa
