/-
  Rows of texts: what they are in memory; the contract of front.few.
-/
import Derived.Test.YtdclbhmmpdngpaaDoorShared
import Derived.Test.YtdclbhmmpdngpaaDoorFresh
namespace Go.Proofs.YtdclbhmmpdngpaaDoor
set_option linter.unusedSimpArgs false
set_option linter.unusedVariables false
open Go.RowKit

/-- The cells of texts. -/
def tcs (l : List (List UInt8)) : List Value := l.map fun s => Value.string (bstr s)
theorem tcs_length (l : List (List UInt8)) : (tcs l).length = l.length := by simp [tcs]
theorem tcs_append (l m : List (List UInt8)) : tcs (l ++ m) = tcs l ++ tcs m := by simp [tcs]
theorem tcs_one (l : List (List UInt8)) : ∀ u ∈ tcs l, u.oneCell' = true := by
  intro u hu
  obtain ⟨_, _, rfl⟩ := List.mem_map.1 hu
  rfl
theorem text_cells {w : World} {v : Value} {l : List (List UInt8)} (h : Sl w v l.length (tcs l)) (k : Nat) (hk : k < l.length) :
    ∃ b off c, v = .slice (some ⟨b, off, none⟩) l.length c ∧ b < w.heap.size ∧ w.cell? ⟨b, off + k, none⟩ = some (.string (bstr l[k])) := by
  obtain ⟨b, off, c, rfl, _, _, hb, hc⟩ := h.at (by rw [tcs_length]; omega)
  exact ⟨b, off, c, rfl, hb, hc k _ (by simp [tcs, hk])⟩
theorem el_text : ElemT Tryd.prog 22 9 1 16 := by
  obtain ⟨i, hi, hz, h1, h2⟩ := info_parts (P := Tryd.prog) (e := 9) (z := .string { data := #[] }) (size := 1) (bytes := 16) (by kernel_rfl)
  exact ⟨Tryd.underlying22, ⟨i, _, hi, hz, h1, h2, rfl⟩, by decide, by decide⟩

set_option maxHeartbeats 4000000 in
set_option maxRecDepth 100000 in
theorem fewt_ok (w : World) (v : Value) (l : List (List UInt8)) (hs : Sl w v l.length (tcs l)) (hl : l.length * 16 ≤ big) (hb : ∀ s ∈ l, s.length ≤ big) :
    Calls Tryd.prog 17 #[v] w fun e w' => e = .returned (.bool (fewT l)) ∧ Chg [] w w' := by
  obtain ⟨R, hR⟩ : ∃ R, R = fewT l := ⟨_, rfl⟩
  rw [← hR]
  replace hR := Lib.hid hR
  replace hb := Lib.hid hb
  unfold big at hl
  obtain ⟨a0, c0, rfl⟩ := hs.shape
  go_enter Tryd.func17, Tryd.ntmps17
  go_wp2_with fail
  go_loopw [3, 8] (fun av iv wr => ∃ k : Nat, k ≤ l.length ∧ iv = .int .i64 k ∧ av = .int .i64 (sumT (l.take k) : Nat) ∧ (∀ s ∈ l.take k, s.length ≤ 65536) ∧ Chg [] w wr) (fun _ iv _ => l.length - (intOf iv).toNat)
  case atStart => exact ⟨0, Nat.zero_le _, rfl, by simp [sumT], by simp, Chg.refl _ _⟩
  case round =>
    obtain ⟨k, hk, rfl, rfl, hsm, hch⟩ := hrel
    have hbd := sumT_bound _ _ hsm
    rw [List.length_take] at hbd
    replace hsm := Lib.hid hsm
    by_cases hlt : k < l.length
    · have hki : (k : Int) < l.length := by omega
      obtain ⟨b, off, c, e, hbl, x1⟩ := text_cells (hs.tr0 hch) k hlt
      cases e
      have htk : l.take (k + 1) = l.take k ++ [l[k]] := List.take_succ_eq_append_getElem hlt
      have hmem := List.getElem_mem hlt
      have hxb : l[k].length ≤ 140737488355328 := hb.out _ hmem
      replace htk := Lib.hid htk
      generalize hS : sumT (l.take k) = S at *
      replace hS := Lib.hid hS
      have hwS : wrap64 ((S : Int) + (l[k].length : Nat)) = ((S + l[k].length : Nat) : Int) := by unfold wrap64; omega
      by_cases hx : l[k].length ≤ 65536
      · have hxi : (l[k].length : Int) ≤ 65536 := by omega
        replace hmem := Lib.hid hmem
        generalize l[k] = x at *
        go_wp2_with fail
        go_roundw
        case rel => exact ⟨k + 1, by omega, by go_num, by rw [htk.out, sumT_snoc, hS.out, Int.natCast_add], by rw [htk.out]; intro s hs; rcases List.mem_append.1 hs with h | h; exact hsm.out s h; rw [List.mem_singleton.1 h]; exact hx, hch⟩
        case measure => simp [intOf]; omega
      · have hxi : (65536 : Int) < l[k].length := by omega
        have hR2 : R = false := by
          rw [hR.out]
          refine decide_eq_false fun h => ?_
          exact hx (h.2.1 _ hmem)
        subst hR2
        replace hmem := Lib.hid hmem
        generalize l[k] = x at *
        go_wp2_with fail
        go_ret
        exact ⟨rfl, hch⟩
    · obtain rfl : k = l.length := by omega
      have hsm := hsm.out
      rw [List.take_length] at hsm ⊢
      have hR2 : R = (decide ((l.length : Int) ≤ 65536) && decide ((sumT l : Int) ≤ 16777216)) := by
        rw [hR.out]
        unfold fewT
        rw [Bool.eq_iff_iff]
        simp only [decide_eq_true_eq, Bool.and_eq_true]
        constructor
        · rintro ⟨h1, _, h3⟩; omega
        · rintro ⟨h1, h3⟩; exact ⟨by omega, hsm, by omega⟩
      subst hR2
      replace hsm := Lib.hid hsm
      by_cases h1 : (l.length : Int) ≤ 65536
      · go_wp2
        go_ret
        exact ⟨by simp [h1], hch⟩
      · go_wp2
        go_ret
        exact ⟨by simp [h1]; intro h; omega, hch⟩
end Go.Proofs.YtdclbhmmpdngpaaDoor
