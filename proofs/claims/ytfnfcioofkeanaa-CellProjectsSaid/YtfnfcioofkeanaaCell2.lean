/-
  The contract of the document's Right (hypostyleref07).
-/
import Derived.Test.YtfnfcioofkeanaaCell
namespace Go.Proofs.Ytfnfcioofkeanaa
set_option linter.unusedSimpArgs false
set_option linter.unusedVariables false
open Go.RowKit

theorem rightB_zero : rightB 0 0 = true := by decide +kernel
theorem rightC_null (c : Cell) (typ : Int) (nul : Bool) (h : c.null = true) : rightC c typ nul = (nul && decide (c = nullC)) := by
  unfold rightC
  rw [if_pos (.inr (.inr h)), Bool.and_comm]
theorem rightC_out (c : Cell) (typ : Int) (nul : Bool) (h : c.null = false) (ht : typ < 0 ∨ 4 ≤ typ) : rightC c typ nul = false := by
  unfold rightC
  rw [if_pos (by rcases ht with h | h; exact .inl h; exact .inr (.inl h))]
  have : ¬ c = nullC := by rintro rfl; cases h
  rw [decide_eq_false this]; rfl
theorem rightC_in (c : Cell) (typ : Int) (nul : Bool) (h : c.null = false) (h0 : 0 ≤ typ) (h4 : typ < 4) :
    rightC c typ nul = (decide (c = plainC c typ) && (decide (c.text.length ≤ 65536) && (rightB c.x c.y && (decide (typ ≠ 1) || (decide (c.int = 0) || decide (c.int = 1)))))) := by
  unfold rightC
  rw [if_neg (by simp only [not_or]; exact ⟨by omega, by omega, by simp [h]⟩)]
  by_cases h1 : c = plainC c typ
  · by_cases h2 : c.text.length ≤ 65536
    · rw [if_neg (by simp only [not_or]; exact ⟨by simp [← h1], by omega⟩), decide_eq_true h1, decide_eq_true h2]; rfl
    · rw [if_pos (.inr (by omega)), decide_eq_false h2, Bool.false_and, Bool.and_false]
  · rw [if_pos (.inl (by simpa using h1)), decide_eq_false h1]; rfl
theorem rightC_0 (i : Int) (t : List UInt8) (x y : Int) (nul : Bool) : rightC ⟨false, i, t, x, y⟩ 0 nul = decide ((⟨false, i, t, x, y⟩ : Cell) = ⟨false, i, [], 0, 0⟩) := by
  rw [rightC_in _ _ _ rfl (by decide) (by decide)]
  have e : plainC ⟨false, i, t, x, y⟩ 0 = ⟨false, i, [], 0, 0⟩ := rfl
  rw [e]
  by_cases h : (⟨false, i, t, x, y⟩ : Cell) = ⟨false, i, [], 0, 0⟩
  · simp only [Cell.mk.injEq, true_and] at h
    obtain ⟨rfl, rfl, rfl⟩ := h
    simp [rightB_zero]
  · rw [decide_eq_false h]; rfl
theorem rightC_1 (i : Int) (t : List UInt8) (x y : Int) (nul : Bool) : rightC ⟨false, i, t, x, y⟩ 1 nul = (decide ((⟨false, i, t, x, y⟩ : Cell) = ⟨false, i, [], 0, 0⟩) && (decide (i = 0) || decide (i = 1))) := by
  rw [rightC_in _ _ _ rfl (by decide) (by decide)]
  have e : plainC ⟨false, i, t, x, y⟩ 1 = ⟨false, i, [], 0, 0⟩ := rfl
  rw [e]
  by_cases h : (⟨false, i, t, x, y⟩ : Cell) = ⟨false, i, [], 0, 0⟩
  · simp only [Cell.mk.injEq, true_and] at h
    obtain ⟨rfl, rfl, rfl⟩ := h
    simp [rightB_zero]
  · rw [decide_eq_false h]; rfl
theorem rightC_2 (i : Int) (t : List UInt8) (x y : Int) (nul : Bool) : rightC ⟨false, i, t, x, y⟩ 2 nul = (decide ((⟨false, i, t, x, y⟩ : Cell) = ⟨false, 0, t, 0, 0⟩) && decide (t.length ≤ 65536)) := by
  rw [rightC_in _ _ _ rfl (by decide) (by decide)]
  have e : plainC ⟨false, i, t, x, y⟩ 2 = ⟨false, 0, t, 0, 0⟩ := rfl
  rw [e]
  by_cases h : (⟨false, i, t, x, y⟩ : Cell) = ⟨false, 0, t, 0, 0⟩
  · simp only [Cell.mk.injEq, true_and] at h
    obtain ⟨rfl, rfl, rfl⟩ := h
    simp [rightB_zero]
  · rw [decide_eq_false h]; rfl
theorem rightC_3 (i : Int) (t : List UInt8) (x y : Int) (nul : Bool) : rightC ⟨false, i, t, x, y⟩ 3 nul = (rightB x y && decide ((⟨false, i, t, x, y⟩ : Cell) = ⟨false, 0, [], x, y⟩)) := by
  rw [rightC_in _ _ _ rfl (by decide) (by decide)]
  have e : plainC ⟨false, i, t, x, y⟩ 3 = ⟨false, 0, [], x, y⟩ := rfl
  rw [e]
  by_cases h : (⟨false, i, t, x, y⟩ : Cell) = ⟨false, 0, [], x, y⟩
  · simp only [Cell.mk.injEq, true_and, and_true] at h
    obtain ⟨rfl, rfl⟩ := h
    simp
  · rw [decide_eq_false h, Bool.and_false]; rfl

set_option maxHeartbeats 8000000 in
set_option maxRecDepth 100000 in
theorem rcright_ok (w : World) (c : Cell) (col : Col) :
    Calls Try.prog 51 #[.agg (cellc c).toArray, .agg (colc col).toArray] w fun e w' => e = .returned (.bool (rightC c col.typ col.null)) ∧ Chg [] w w' := by
  have hb0 : bstr [] = { data := #[] } := rfl
  obtain ⟨n, i, t, x, y⟩ := c
  obtain ⟨nm, ty, nu⟩ := col
  cases n with
  | true =>
    have EQ := fun w => eql_cell w ⟨true, i, t, x, y⟩ nullC
    have EG := fun w p q => run_eqGuard_agg (P := Try.prog) w .eql 54 p q (cellc ⟨true, i, t, x, y⟩).toArray (cellc nullC).toArray (by kernel_rfl)
    rw [rightC_null _ _ _ rfl]
    generalize decide ((⟨true, i, t, x, y⟩ : Cell) = nullC) = D at *
    simp only [cellc, nullC, hb0] at EQ EG
    unfold cellc colc
    go_enter Try.func51, Try.ntmps51
    cases nu
    · go_wp2
      go_ret
      exact ⟨rfl, (Chg.alloc _ _ _).t0 (Chg.alloc _ _ _)⟩
    · go_wp2
      go_ret
      exact ⟨by simp, (Chg.alloc _ _ _).t0 (Chg.alloc _ _ _)⟩
  | false =>
    by_cases h0 : ty = 0
    · subst h0
      have EQ := fun w => eql_cell w ⟨false, i, t, x, y⟩ ⟨false, i, [], 0, 0⟩
      have EG := fun w p q => run_eqGuard_agg (P := Try.prog) w .eql 54 p q (cellc ⟨false, i, t, x, y⟩).toArray (cellc ⟨false, i, [], 0, 0⟩).toArray (by kernel_rfl)
      rw [rightC_0]
      generalize decide ((⟨false, i, t, x, y⟩ : Cell) = ⟨false, i, [], 0, 0⟩) = D at *
      simp only [cellc, hb0] at EQ EG
      unfold cellc colc
      go_enter Try.func51, Try.ntmps51
      go_wp2
      go_ret
      exact ⟨rfl, (Chg.alloc _ _ _).t0 (Chg.alloc _ _ _)⟩
    by_cases h1 : ty = 1
    · subst h1
      have EQ := fun w => eql_cell w ⟨false, i, t, x, y⟩ ⟨false, i, [], 0, 0⟩
      have EG := fun w p q => run_eqGuard_agg (P := Try.prog) w .eql 54 p q (cellc ⟨false, i, t, x, y⟩).toArray (cellc ⟨false, i, [], 0, 0⟩).toArray (by kernel_rfl)
      rw [rightC_1]
      generalize decide ((⟨false, i, t, x, y⟩ : Cell) = ⟨false, i, [], 0, 0⟩) = D at *
      simp only [cellc, hb0] at EQ EG
      unfold cellc colc
      go_enter Try.func51, Try.ntmps51
      cases D
      · go_wp2
        go_ret
        exact ⟨rfl, (Chg.alloc _ _ _).t0 (Chg.alloc _ _ _)⟩
      · by_cases e2 : i = 0
        · subst e2
          go_wp2
          go_ret
          exact ⟨rfl, (Chg.alloc _ _ _).t0 (Chg.alloc _ _ _)⟩
        · have e2' : (i == 0) = false := by simpa using e2
          have e3 : (true && (decide (i = 0) || decide (i = 1))) = (i == 1) := by rw [decide_eq_false e2]; by_cases h : i = 1 <;> simp [h]
          rw [e3]
          clear e2 e3
          go_wp2
          go_ret
          exact ⟨rfl, (Chg.alloc _ _ _).t0 (Chg.alloc _ _ _)⟩
    by_cases h2 : ty = 2
    · subst h2
      have EQ := fun w => eql_cell w ⟨false, i, t, x, y⟩ ⟨false, 0, t, 0, 0⟩
      have EG := fun w p q => run_eqGuard_agg (P := Try.prog) w .eql 54 p q (cellc ⟨false, i, t, x, y⟩).toArray (cellc ⟨false, 0, t, 0, 0⟩).toArray (by kernel_rfl)
      rw [rightC_2]
      generalize decide ((⟨false, i, t, x, y⟩ : Cell) = ⟨false, 0, t, 0, 0⟩) = D at *
      simp only [cellc, hb0] at EQ EG
      unfold cellc colc
      go_enter Try.func51, Try.ntmps51
      cases D
      · go_wp2
        go_ret
        exact ⟨rfl, (Chg.alloc _ _ _).t0 (Chg.alloc _ _ _)⟩
      · have e3 : (true && decide (t.length ≤ 65536)) = decide ((t.length : Int) ≤ 65536) := by rw [Bool.true_and, decide_eq_decide]; omega
        rw [e3]
        clear e3
        go_wp2
        go_ret
        exact ⟨rfl, (Chg.alloc _ _ _).t0 (Chg.alloc _ _ _)⟩
    by_cases h3 : ty = 3
    · subst h3
      have EQ := fun w => eql_cell w ⟨false, i, t, x, y⟩ ⟨false, 0, [], x, y⟩
      have EG := fun w p q => run_eqGuard_agg (P := Try.prog) w .eql 54 p q (cellc ⟨false, i, t, x, y⟩).toArray (cellc ⟨false, 0, [], x, y⟩).toArray (by kernel_rfl)
      rw [rightC_3]
      generalize decide ((⟨false, i, t, x, y⟩ : Cell) = ⟨false, 0, [], x, y⟩) = D at *
      simp only [cellc, hb0] at EQ EG
      unfold cellc colc
      go_enter Try.func51, Try.ntmps51
      go_wp2_with fail
      have ba := (Chg.alloc [] (w.alloc (.cells #[.bool false, .int .i64 i, .string (bstr t), .int .i64 x, .int .i64 y] 54)) (.cells #[.string (bstr nm), .int .i64 3, .bool nu] 58)).heap (heap_alloc_new w (.cells #[.bool false, .int .i64 i, .string (bstr t), .int .i64 x, .int .i64 y] 54)) (by simp)
      have g0 : Chg [] w ((w.alloc (.cells #[.bool false, .int .i64 i, .string (bstr t), .int .i64 x, .int .i64 y] 54)).alloc (.cells #[.string (bstr nm), .int .i64 3, .bool nu] 58)) := (Chg.alloc _ _ _).t0 (Chg.alloc _ _ _)
      refine (rright_ok _ x y).mono ?_
      rintro e w4 ⟨rfl, g4⟩
      replace ba := g4.heap ba (by simp)
      obtain ⟨t0, t1, t2, t3, t4⟩ := cell5 ba
      cases hr : rightB x y
      · go_wp2
        go_ret
        exact ⟨by rw [hr]; rfl, g0.t0 g4⟩
      · go_wp2
        go_ret
        exact ⟨by rw [hr]; rfl, g0.t0 g4⟩
    · have hout : ty < 0 ∨ 4 ≤ ty := by omega
      rw [rightC_out _ _ _ rfl hout]
      have h0' : (ty == 0) = false := by simpa using h0
      have h1' : (ty == 1) = false := by simpa using h1
      have h2' : (ty == 2) = false := by simpa using h2
      have h3' : (ty == 3) = false := by simpa using h3
      clear h0 h1 h2 h3 hout
      unfold cellc colc
      go_enter Try.func51, Try.ntmps51
      go_wp2
      go_ret
      exact ⟨rfl, (Chg.alloc _ _ _).t0 (Chg.alloc _ _ _)⟩
end Go.Proofs.Ytfnfcioofkeanaa
