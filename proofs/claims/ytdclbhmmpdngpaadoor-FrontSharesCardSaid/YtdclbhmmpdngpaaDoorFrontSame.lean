/-
  The contracts of hypostyleref13.Same and of hypostylelaw13.Few.
-/
import Derived.Test.YtdclbhmmpdngpaaDoorTexts
namespace Go.Proofs.YtdclbhmmpdngpaaDoor
set_option linter.unusedSimpArgs false
set_option linter.unusedVariables false
open Go.RowKit

set_option maxHeartbeats 4000000 in
set_option maxRecDepth 100000 in
theorem samet_ok (w : World) (v1 v2 : Value) (L M : List (List UInt8)) (h1 : Sl w v1 L.length (tcs L)) (h2 : Sl w v2 M.length (tcs M)) (hb : L.length ≤ maxLen) (hb2 : M.length ≤ maxLen) :
    Calls Tryd.prog 16 #[v1, v2] w fun e w' => e = .returned (.bool (decide (L = M))) ∧ Chg [] w w' := by
  obtain ⟨R, hR⟩ : ∃ R, R = decide (L = M) := ⟨_, rfl⟩
  rw [← hR]
  replace hR := Lib.hid hR
  obtain ⟨a1, c1, rfl⟩ := h1.shape
  obtain ⟨a2, c2, rfl⟩ := h2.shape
  unfold maxLen at hb hb2
  go_enter Tryd.func16, Tryd.ntmps16
  by_cases hl : L.length = M.length
  · have hli : (L.length : Int) = M.length := by omega
    have hle : ((L.length : Int) != M.length) = false := by simp [hli]
    clear hli
    replace hl := Lib.hid hl
    go_wp2_with fail
    clear hle
    go_loopw [5] (fun iv wr => ∃ (k : Nat), k ≤ L.length ∧ iv = .int .i64 k ∧ L.take k = M.take k ∧ Chg [] w wr) (fun iv _ => L.length - (intOf iv).toNat)
    case atStart => exact ⟨0, Nat.zero_le _, rfl, rfl, Chg.refl _ _⟩
    case round =>
      obtain ⟨k, hk, rfl, heq, hch⟩ := hrel
      replace heq := Lib.hid heq
      by_cases hlt : k < L.length
      · have hlt2 : k < M.length := by have := hl.out; omega
        obtain ⟨b, off, c, e, hbl, r1⟩ := text_cells (h1.tr0 hch) k hlt
        cases e
        obtain ⟨b2, off2, c, e, hbl2, r2⟩ := text_cells (h2.tr0 hch) k hlt2
        cases e
        have hkl : (k : Int) < L.length := by omega
        have hkm : (k : Int) < M.length := by omega
        by_cases he : L[k] = M[k]
        · have htk : L.take (k + 1) = M.take (k + 1) := by rw [List.take_succ_eq_append_getElem hlt, List.take_succ_eq_append_getElem hlt2, heq.out, he]
          have hne : (L[k] == M[k]) = true := by simpa using he
          replace htk := Lib.hid htk
          clear he
          generalize L[k] = x at *
          generalize M[k] = y at *
          go_wp2_with fail
          refine region_quietC (by kernel_rfl) (by kernel_rfl) ?_
          repeat (first
            | (refine quiet_cellC rfl _ _ rfl _ rfl _ _ r1 Tryd.underlying9 rfl ?_)
            | (refine quiet_cellC rfl _ _ rfl _ rfl _ _ r2 Tryd.underlying9 rfl ?_)
            | quiet_step ((intro hx; first | rfl)))
          refine wpQuiet_nil ?_
          intro w' g
          go_wp2
          go_roundw
          case rel => exact ⟨k + 1, by omega, by go_num, htk.out, hch.t0 g⟩
          case measure => simp [intOf]; omega
        · have hRf : R = false := by
            rw [hR.out]
            refine decide_eq_false fun h => he ?_
            subst h; rfl
          have hne : (L[k] == M[k]) = false := by simpa using he
          subst hRf
          clear he
          generalize L[k] = x at *
          generalize M[k] = y at *
          go_wp2_with fail
          refine region_quietC (by kernel_rfl) (by kernel_rfl) ?_
          repeat (first
            | (refine quiet_cellC rfl _ _ rfl _ rfl _ _ r1 Tryd.underlying9 rfl ?_)
            | (refine quiet_cellC rfl _ _ rfl _ rfl _ _ r2 Tryd.underlying9 rfl ?_)
            | quiet_step ((intro hx; first | rfl)))
          refine wpQuiet_nil ?_
          intro w' g
          go_wp2
          go_ret
          exact ⟨rfl, hch.t0 g⟩
      · obtain rfl : k = L.length := by omega
        have hRt : R = true := by
          rw [hR.out]
          have := heq.out
          rw [List.take_length, hl.out, List.take_length] at this
          exact decide_eq_true this
        subst hRt
        go_wp2
        go_ret
        exact ⟨rfl, hch⟩
  · have hle : ((L.length : Int) != M.length) = true := by simp; omega
    have hRf : R = false := by
      rw [hR.out]
      exact decide_eq_false fun h => hl (by rw [h])
    subst hRf
    clear hl
    go_wp2
    go_ret
    exact ⟨rfl, Chg.refl _ _⟩
/-- Few, as the law asks it. -/
def fewL (l : List (List UInt8)) : Bool := decide (l.length ≤ 200) && decide (sumT l ≤ 3000)
theorem fewL_few {l : List (List UInt8)} (h : fewL l = true) : l.length ≤ 200 ∧ sumT l ≤ 3000 := by
  unfold fewL at h; simpa using h
/-- What Few answers, as far as it is needed. -/
def FewSays (l : List (List UInt8)) (e : Ending) : Prop := ∃ b, e = .returned (.bool b) ∧ (b = true → l.length ≤ 200 ∧ sumT l ≤ 3000)
set_option maxHeartbeats 4000000 in
set_option maxRecDepth 100000 in
theorem fewl_ok (w : World) (v : Value) (l : List (List UInt8)) (hs : Sl w v l.length (tcs l)) (hl : l.length * 16 ≤ big) (hb : ∀ s ∈ l, s.length ≤ 140737488351232) :
    Calls Tryd.prog 9 #[v] w fun e w' => FewSays l e ∧ Chg [] w w' := by
  obtain ⟨a0, c0, rfl⟩ := hs.shape
  replace hb := Lib.hid hb
  unfold big at hl
  go_enter Tryd.func9, Tryd.ntmps9
  go_wp2_with fail
  go_loopw [3, 4] (fun av iv wr => ∃ (k : Nat) (x : Int), k ≤ l.length ∧ iv = .int .i64 k ∧ av = .int .i64 x ∧ (l.length ≤ 200 → x = sumT (l.take k)) ∧ Chg [] w wr) (fun _ iv _ => l.length - (intOf iv).toNat)
  case atStart => exact ⟨0, 0, Nat.zero_le _, rfl, rfl, fun _ => by simp [sumT], Chg.refl _ _⟩
  case round =>
    obtain ⟨k, x, hk, rfl, rfl, hx, hch⟩ := hrel
    replace hx := Lib.hid hx
    by_cases hlt : k < l.length
    · have hki : (k : Int) < l.length := by omega
      obtain ⟨b, off, c, e, hbl, x1⟩ := text_cells (hs.tr0 hch) k hlt
      cases e
      have htk : l.take (k + 1) = l.take k ++ [l[k]] := List.take_succ_eq_append_getElem hlt
      have hxb : l[k].length ≤ 140737488351232 := hb.out _ (List.getElem_mem hlt)
      have hbd : l.length ≤ 200 → sumT (l.take k) ≤ 200 * 140737488351232 := fun h => by
        have h2 := sumT_bound (l.take k) 140737488351232 fun s hs => hb.out s (List.mem_of_mem_take hs)
        have h3 : (l.take k).length ≤ 200 := by rw [List.length_take]; omega
        exact Nat.le_trans h2 (Nat.mul_le_mul_right _ h3)
      have hxn : l.length ≤ 200 → wrap64 (x + (l[k].length : Int)) = (sumT (l.take (k + 1)) : Nat) := fun h => by
        have h1 := hx.out h
        have h2 := hbd h
        rw [htk, sumT_snoc, h1]
        unfold wrap64
        omega
      replace hxn := Lib.hid hxn
      clear htk hbd
      generalize l[k] = t at *
      go_wp2
      go_roundw
      case rel => exact ⟨k + 1, _, by omega, by go_num, rfl, hxn.out, hch⟩
      case measure => simp [intOf]; omega
    · obtain rfl : k = l.length := by omega
      have hx := hx.out
      rw [List.take_length] at hx
      replace hx := Lib.hid hx
      by_cases h2 : (l.length : Int) ≤ 200
      · go_wp2
        go_ret
        refine ⟨⟨_, rfl, fun h => ?_⟩, hch⟩
        have h3 := hx.out (by omega)
        simp at h
        exact ⟨by omega, by omega⟩
      · go_wp2
        go_ret
        refine ⟨⟨_, rfl, fun h => ?_⟩, hch⟩
        simp at h
        try omega
end Go.Proofs.YtdclbhmmpdngpaaDoor
