/-
  Cells: what they are in memory; the contracts of cell.plain, cell.Right and of the document's Right (hypostyleref07).
-/
import Derived.Test.YtfnfcioofkeanaaCols2
import Derived.Test.YtfnfcioofkeanaaPoint3
import Derived.Test.YtfnfcioofkeanaaSkip
namespace Go.Proofs.Ytfnfcioofkeanaa
set_option linter.unusedSimpArgs false
set_option linter.unusedVariables false
open Go.RowKit

structure Cell where
  null : Bool
  int : Int
  text : List UInt8
  x : Int
  y : Int
deriving DecidableEq
def cellc (c : Cell) : List Value := [.bool c.null, .int .i64 c.int, .string (bstr c.text), .int .i64 c.x, .int .i64 c.y]
def nullC : Cell := ⟨true, 0, [], 0, 0⟩
def plainC (c : Cell) (typ : Int) : Cell := if typ = 0 ∨ typ = 1 then ⟨false, c.int, [], 0, 0⟩ else if typ = 2 then ⟨false, 0, c.text, 0, 0⟩ else ⟨false, 0, [], c.x, c.y⟩
/-- Which cells may stand in a column. -/
def rightC (c : Cell) (typ : Int) (nul : Bool) : Bool :=
  if typ < 0 ∨ 4 ≤ typ ∨ c.null = true then decide (c = nullC) && nul
  else if decide (c ≠ plainC c typ) = true ∨ 65536 < c.text.length then false
  else rightB c.x c.y && (decide (typ ≠ 1) || (decide (c.int = 0) || decide (c.int = 1)))

theorem eql_cell (w : World) (c d : Cell) : (binOp .eql 54 (.agg (cellc c).toArray) (.agg (cellc d).toArray)).run Try.prog w = .ok (.bool (decide (c = d))) w := by
  obtain ⟨n, i, t, x, y⟩ := c
  obtain ⟨m, j, s, u, v⟩ := d
  unfold cellc
  by_cases h1 : n = m
  · subst h1
    by_cases h2 : i = j
    · subst h2
      by_cases h3 : t = s
      · subst h3
        by_cases h4 : x = u
        · subst h4
          by_cases h5 : y = v
          · subst h5; go_simp
          · go_simp
        · go_simp
      · go_simp
    · go_simp
  · go_simp
theorem neq_cell (w : World) (c d : Cell) : (binOp .neq 54 (.agg (cellc c).toArray) (.agg (cellc d).toArray)).run Try.prog w = .ok (.bool (decide (c ≠ d))) w := by
  obtain ⟨n, i, t, x, y⟩ := c
  obtain ⟨m, j, s, u, v⟩ := d
  unfold cellc
  by_cases h1 : n = m
  · subst h1
    by_cases h2 : i = j
    · subst h2
      by_cases h3 : t = s
      · subst h3
        by_cases h4 : x = u
        · subst h4
          by_cases h5 : y = v
          · subst h5; go_simp
          · go_simp
        · go_simp
      · go_simp
    · go_simp
  · go_simp

theorem heap_new1 (w : World) (o p : Obj) : ((w.alloc o).alloc p).heap[w.heap.size + 1]? = some p := by
  have h := heap_alloc_new (w.alloc o) p
  have e : (w.alloc o).heap.size = w.heap.size + 1 := by simp
  rwa [e] at h

set_option maxHeartbeats 4000000 in
set_option maxRecDepth 100000 in
theorem plain_ok (w : World) (c : Cell) (typ : Int) :
    Calls Try.prog 55 #[.agg (cellc c).toArray, .int .i64 typ] w fun e w' => e = .returned (.agg (cellc (plainC c typ)).toArray) ∧ Chg [] w w' := by
  obtain ⟨n, i, t, x, y⟩ := c
  unfold cellc
  go_enter Try.func55, Try.ntmps55
  by_cases h0 : typ = 0
  · subst h0
    go_wp2
    exact ret_row 4 54 rfl _ Try.underlying54 rfl (cellc ⟨false, i, [], 0, 0⟩) (by kernel_rfl) rfl _ rfl (ra_block (heap_new1 _ _ _)) ⟨rfl, (Chg.alloc _ _ _).t0 (Chg.alloc _ _ _)⟩
  by_cases h1 : typ = 1
  · subst h1
    go_wp2
    exact ret_row 4 54 rfl _ Try.underlying54 rfl (cellc ⟨false, i, [], 0, 0⟩) (by kernel_rfl) rfl _ rfl (ra_block (heap_new1 _ _ _)) ⟨rfl, (Chg.alloc _ _ _).t0 (Chg.alloc _ _ _)⟩
  by_cases h2 : typ = 2
  · subst h2
    go_wp2
    exact ret_row 4 54 rfl _ Try.underlying54 rfl (cellc ⟨false, 0, t, 0, 0⟩) (by kernel_rfl) rfl _ rfl (ra_block (heap_new1 _ _ _)) ⟨rfl, (Chg.alloc _ _ _).t0 (Chg.alloc _ _ _)⟩
  · have e : plainC ⟨n, i, t, x, y⟩ typ = ⟨false, 0, [], x, y⟩ := by unfold plainC; rw [if_neg (by simp [h0, h1]), if_neg h2]
    replace e := Lib.hid e
    have h0' : (typ == 0) = false := by simpa using h0
    have h1' : (typ == 1) = false := by simpa using h1
    have h2' : (typ == 2) = false := by simpa using h2
    clear h0 h1 h2
    go_wp2
    exact ret_row 4 54 rfl _ Try.underlying54 rfl (cellc ⟨false, 0, [], x, y⟩) (by kernel_rfl) rfl _ rfl (ra_block (heap_new1 _ _ _)) ⟨by rw [e.out]; rfl, (Chg.alloc _ _ _).t0 (Chg.alloc _ _ _)⟩

theorem cells3'' {w : World} {p : Nat} {x y z : Value} {e : TypeId} (h : w.heap[p]? = some (.cells #[x, y, z] e (0, 0))) : w.cell? ⟨p, 0, none⟩ = some x ∧ w.cell? ⟨p, 1, none⟩ = some y ∧ w.cell? ⟨p, 2, none⟩ = some z :=
  ⟨by rw [cell_of_row w p 0 _ _ _ h]; rfl, by rw [cell_of_row w p 1 _ _ _ h]; rfl, by rw [cell_of_row w p 2 _ _ _ h]; rfl⟩
theorem cell5 {w : World} {p : Nat} {a b c d f : Value} {e : TypeId} (h : w.heap[p]? = some (.cells #[a, b, c, d, f] e (0, 0))) : w.cell? ⟨p, 0, none⟩ = some a ∧ w.cell? ⟨p, 1, none⟩ = some b ∧ w.cell? ⟨p, 2, none⟩ = some c ∧ w.cell? ⟨p, 3, none⟩ = some d ∧ w.cell? ⟨p, 4, none⟩ = some f :=
  ⟨by rw [cell_of_row w p 0 _ _ _ h]; rfl, by rw [cell_of_row w p 1 _ _ _ h]; rfl, by rw [cell_of_row w p 2 _ _ _ h]; rfl, by rw [cell_of_row w p 3 _ _ _ h]; rfl, by rw [cell_of_row w p 4 _ _ _ h]; rfl⟩

set_option maxHeartbeats 8000000 in
set_option maxRecDepth 100000 in
theorem cright_ok (w : World) (c : Cell) (col : Col) :
    Calls Try.prog 31 #[.agg (cellc c).toArray, .agg (colc col).toArray] w fun e w' => e = .returned (.bool (rightC c col.typ col.null)) ∧ Chg [] w w' := by
  have EQ := fun w => eql_cell w c nullC
  have EQ2 := fun w => neq_cell w c (plainC c col.typ)
  have EG1 := fun w x y => run_eqGuard_agg (P := Try.prog) w .eql 54 x y (cellc c).toArray (cellc nullC).toArray (by kernel_rfl)
  have EG2 := fun w x y => run_eqGuard_agg (P := Try.prog) w .neq 54 x y (cellc c).toArray (cellc (plainC c col.typ)).toArray (by kernel_rfl)
  have kP := fun w => plain_ok w c col.typ
  have hb0 : bstr [] = { data := #[] } := rfl
  obtain ⟨VR, hV⟩ : ∃ VR, VR = rightC c col.typ col.null := ⟨_, rfl⟩
  rw [← hV]
  unfold rightC at hV
  generalize hD1 : decide (c = nullC) = D1 at *
  generalize decide (c ≠ plainC c col.typ) = D2 at *
  obtain ⟨n, i, t, x, y⟩ := c
  obtain ⟨nm, ty, nu⟩ := col
  dsimp only at *
  generalize (plainC ⟨n, i, t, x, y⟩ ty) = PC at *
  obtain ⟨pn, pi, pt, px, py⟩ := PC
  simp only [cellc, nullC, hb0] at EQ EQ2 EG1 EG2 kP
  unfold cellc colc
  replace hV := Lib.hid hV
  clear hD1
  go_enter Try.func31, Try.ntmps31
  by_cases h0 : ty < 0
  · have hV2 : VR = (D1 && nu) := by rw [hV.out, if_pos (.inl h0)]
    subst hV2
    cases D1
    · go_wp2
      go_ret
      exact ⟨rfl, (Chg.alloc _ _ _).t0 (Chg.alloc _ _ _)⟩
    · go_wp2
      go_ret
      exact ⟨rfl, (Chg.alloc _ _ _).t0 (Chg.alloc _ _ _)⟩
  by_cases h4 : 4 ≤ ty
  · have hV2 : VR = (D1 && nu) := by rw [hV.out, if_pos (.inr (.inl h4))]
    subst hV2
    cases D1
    · go_wp2
      go_ret
      exact ⟨rfl, (Chg.alloc _ _ _).t0 (Chg.alloc _ _ _)⟩
    · go_wp2
      go_ret
      exact ⟨rfl, (Chg.alloc _ _ _).t0 (Chg.alloc _ _ _)⟩
  cases n with
  | true =>
    have hV2 : VR = (D1 && nu) := by rw [hV.out, if_pos (.inr (.inr rfl))]
    subst hV2
    cases D1
    · go_wp2
      go_ret
      exact ⟨rfl, (Chg.alloc _ _ _).t0 (Chg.alloc _ _ _)⟩
    · go_wp2
      go_ret
      exact ⟨rfl, (Chg.alloc _ _ _).t0 (Chg.alloc _ _ _)⟩
  | false =>
    have ba := heap_alloc_new w (.cells #[.bool false, .int .i64 i, .string (bstr t), .int .i64 x, .int .i64 y] 54)
    have bc := heap_new1 w (.cells #[.bool false, .int .i64 i, .string (bstr t), .int .i64 x, .int .i64 y] 54) (.cells #[.string (bstr nm), .int .i64 ty, .bool nu] 58)
    have gA := Chg.alloc [] w (.cells #[.bool false, .int .i64 i, .string (bstr t), .int .i64 x, .int .i64 y] 54)
    have gC := Chg.alloc [] (w.alloc (.cells #[.bool false, .int .i64 i, .string (bstr t), .int .i64 x, .int .i64 y] 54)) (.cells #[.string (bstr nm), .int .i64 ty, .bool nu] 58)
    replace ba := gC.heap ba (by simp)
    have g0 := gA.t0 gC
    clear gA gC
    go_wp2_with fail
    generalize (w.alloc (.cells #[.bool false, .int .i64 i, .string (bstr t), .int .i64 x, .int .i64 y] 54)).alloc (.cells #[.string (bstr nm), .int .i64 ty, .bool nu] 58) = w2 at *
    have ra := ra_block ba
    have c1 := (cells3'' bc).2.1
    have kP2 : ∀ w', Chg [] w2 w' → Calls Try.prog 55 #[.agg #[.bool false, .int .i64 i, .string (bstr t), .int .i64 x, .int .i64 y], .int .i64 ty] w' fun e w'' => e = .returned (.agg #[.bool pn, .int .i64 pi, .string (bstr pt), .int .i64 px, .int .i64 py]) ∧ Chg [] w' w'' := fun w' _ => kP w'
    have ct := cell5 ba
    by_cases hl : 65536 < t.length
    · have hV2 : VR = false := by rw [hV.out, if_neg (by simp; omega), if_pos (.inr hl)]
      subst hV2
      have hl' : (65536 : Int) < t.length := by omega
      cases D2
      · skip
        refine' region_soft 12 [cst (.agg #[.bool false, .int .i64 i, .string (bstr t), .int .i64 x, .int .i64 y]), cst (.agg #[.bool false, .int .i64 i, .string (bstr t), .int .i64 x, .int .i64 y]), cst _, cst (.int .i64 ty), cst (.agg #[.bool pn, .int .i64 pi, .string (bstr pt), .int .i64 px, .int .i64 py]), cst (.bool false), cst (.bool false), cst _, cst (.string (bstr t)), cst (.int .i64 t.length), cst (.bool true), cst (.bool true)] rfl (by kernel_rfl) (by kernel_rfl) (stays_cons (Stays.cst _) (stays_cons (Stays.cst _) (stays_cons (Stays.cst _) (stays_cons (Stays.cst _) (stays_cons (Stays.cst _) (stays_cons (Stays.cst _) (stays_cons (Stays.cst _) (stays_cons (Stays.cst _) (stays_cons (Stays.cst _) (stays_cons (Stays.cst _) (stays_cons (Stays.cst _) (stays_cons (Stays.cst _) stays_nil)))))))))))) _ (fun V => by simp only [putAll, Act.put, List.take_succ_cons, List.take_zero, List.setIfInBounds_toArray, List.set_cons_zero, List.set_cons_succ, Nat.reduceAdd]; exact rfl) ?hs1 ?ht1
        case hs1 =>
          simp only [List.take_succ_cons, List.take_zero, softs]
          refine ⟨?_, ?_, ?_, ?_, ?_, ?_, ?_, ?_, ?_, ?_, ?_, ?_, trivial⟩
          · intro V w hw hd
            simp [phi, Region.binds, cst] at hd
            try simp only [hd]
            first
              | (refine soft_const rfl ?_; go_simp; done)
              | (refine soft_const rfl ?_; go_simp; exact rfl)
              | (exact soft_load rfl hw _ _ rfl _ _ rfl _ _ ra Try.underlying54 rfl (by kernel_rfl))
              | (exact soft_cell rfl hw _ _ rfl _ rfl _ _ c1 Try.underlying3 rfl)
              | (exact soft_cell rfl hw _ _ rfl _ rfl _ _ ct.2.2.1 Try.underlying9 rfl)
              | (exact soft_skip rfl)
          · intro V w hw hd
            simp [phi, Region.binds, cst] at hd
            try simp only [hd]
            first
              | (refine soft_const rfl ?_; go_simp; done)
              | (refine soft_const rfl ?_; go_simp; exact rfl)
              | (exact soft_load rfl hw _ _ rfl _ _ rfl _ _ ra Try.underlying54 rfl (by kernel_rfl))
              | (exact soft_cell rfl hw _ _ rfl _ rfl _ _ c1 Try.underlying3 rfl)
              | (exact soft_cell rfl hw _ _ rfl _ rfl _ _ ct.2.2.1 Try.underlying9 rfl)
              | (exact soft_skip rfl)
          · intro V w hw hd
            simp [phi, Region.binds, cst] at hd
            try simp only [hd]
            first
              | (refine soft_const rfl ?_; go_simp; done)
              | (refine soft_const rfl ?_; go_simp; exact rfl)
              | (exact soft_load rfl hw _ _ rfl _ _ rfl _ _ ra Try.underlying54 rfl (by kernel_rfl))
              | (exact soft_cell rfl hw _ _ rfl _ rfl _ _ c1 Try.underlying3 rfl)
              | (exact soft_cell rfl hw _ _ rfl _ rfl _ _ ct.2.2.1 Try.underlying9 rfl)
              | (exact soft_skip rfl)
          · intro V w hw hd
            simp [phi, Region.binds, cst] at hd
            try simp only [hd]
            first
              | (refine soft_const rfl ?_; go_simp; done)
              | (refine soft_const rfl ?_; go_simp; exact rfl)
              | (exact soft_load rfl hw _ _ rfl _ _ rfl _ _ ra Try.underlying54 rfl (by kernel_rfl))
              | (exact soft_cell rfl hw _ _ rfl _ rfl _ _ c1 Try.underlying3 rfl)
              | (exact soft_cell rfl hw _ _ rfl _ rfl _ _ ct.2.2.1 Try.underlying9 rfl)
              | (exact soft_skip rfl)
          · intro V w hw hd
            simp [phi, Region.binds, cst] at hd
            try simp only [hd]
            refine soft_callC rfl _ _ (by go_simp; try exact ⟨rfl, rfl⟩) (kP2 w hw)
          · intro V w hw hd
            simp [phi, Region.binds, cst] at hd
            try simp only [hd]
            first
              | (refine soft_const rfl ?_; go_simp; done)
              | (refine soft_const rfl ?_; go_simp; exact rfl)
              | (exact soft_load rfl hw _ _ rfl _ _ rfl _ _ ra Try.underlying54 rfl (by kernel_rfl))
              | (exact soft_cell rfl hw _ _ rfl _ rfl _ _ c1 Try.underlying3 rfl)
              | (exact soft_cell rfl hw _ _ rfl _ rfl _ _ ct.2.2.1 Try.underlying9 rfl)
              | (exact soft_skip rfl)
          · intro V w hw hd
            simp [phi, Region.binds, cst] at hd
            try simp only [hd]
            first
              | (refine soft_const rfl ?_; go_simp; done)
              | (refine soft_const rfl ?_; go_simp; exact rfl)
              | (exact soft_load rfl hw _ _ rfl _ _ rfl _ _ ra Try.underlying54 rfl (by kernel_rfl))
              | (exact soft_cell rfl hw _ _ rfl _ rfl _ _ c1 Try.underlying3 rfl)
              | (exact soft_cell rfl hw _ _ rfl _ rfl _ _ ct.2.2.1 Try.underlying9 rfl)
              | (exact soft_skip rfl)
          · intro V w hw hd
            simp [phi, Region.binds, cst] at hd
            try simp only [hd]
            first
              | (refine soft_const rfl ?_; go_simp; done)
              | (refine soft_const rfl ?_; go_simp; exact rfl)
              | (exact soft_load rfl hw _ _ rfl _ _ rfl _ _ ra Try.underlying54 rfl (by kernel_rfl))
              | (exact soft_cell rfl hw _ _ rfl _ rfl _ _ c1 Try.underlying3 rfl)
              | (exact soft_cell rfl hw _ _ rfl _ rfl _ _ ct.2.2.1 Try.underlying9 rfl)
              | (exact soft_skip rfl)
          · intro V w hw hd
            simp [phi, Region.binds, cst] at hd
            try simp only [hd]
            first
              | (refine soft_const rfl ?_; go_simp; done)
              | (refine soft_const rfl ?_; go_simp; exact rfl)
              | (exact soft_load rfl hw _ _ rfl _ _ rfl _ _ ra Try.underlying54 rfl (by kernel_rfl))
              | (exact soft_cell rfl hw _ _ rfl _ rfl _ _ c1 Try.underlying3 rfl)
              | (exact soft_cell rfl hw _ _ rfl _ rfl _ _ ct.2.2.1 Try.underlying9 rfl)
              | (exact soft_skip rfl)
          · intro V w hw hd
            simp [phi, Region.binds, cst] at hd
            try simp only [hd]
            first
              | (refine soft_const rfl ?_; go_simp; done)
              | (refine soft_const rfl ?_; go_simp; exact rfl)
              | (exact soft_load rfl hw _ _ rfl _ _ rfl _ _ ra Try.underlying54 rfl (by kernel_rfl))
              | (exact soft_cell rfl hw _ _ rfl _ rfl _ _ c1 Try.underlying3 rfl)
              | (exact soft_cell rfl hw _ _ rfl _ rfl _ _ ct.2.2.1 Try.underlying9 rfl)
              | (exact soft_skip rfl)
          · intro V w hw hd
            simp [phi, Region.binds, cst] at hd
            try simp only [hd]
            first
              | (refine soft_const rfl ?_; go_simp; done)
              | (refine soft_const rfl ?_; go_simp; exact rfl)
              | (exact soft_load rfl hw _ _ rfl _ _ rfl _ _ ra Try.underlying54 rfl (by kernel_rfl))
              | (exact soft_cell rfl hw _ _ rfl _ rfl _ _ c1 Try.underlying3 rfl)
              | (exact soft_cell rfl hw _ _ rfl _ rfl _ _ ct.2.2.1 Try.underlying9 rfl)
              | (exact soft_skip rfl)
          · intro V w hw hd
            simp [phi, Region.binds, cst] at hd
            try simp only [hd]
            first
              | (refine soft_const rfl ?_; go_simp; done)
              | (refine soft_const rfl ?_; go_simp; exact rfl)
              | (exact soft_load rfl hw _ _ rfl _ _ rfl _ _ ra Try.underlying54 rfl (by kernel_rfl))
              | (exact soft_cell rfl hw _ _ rfl _ rfl _ _ c1 Try.underlying3 rfl)
              | (exact soft_cell rfl hw _ _ rfl _ rfl _ _ ct.2.2.1 Try.underlying9 rfl)
              | (exact soft_skip rfl)
        intro V w3 g3 hk
        have h11 := hk 11 (by decide)
        simp [phi, cst] at h11
        simp only [h11, List.drop_succ_cons, List.drop_zero]
        clear hk
        go_wp2
        go_ret
        exact ⟨rfl, g0.t0 g3⟩
      · skip
        refine' region_soft 12 [cst (.agg #[.bool false, .int .i64 i, .string (bstr t), .int .i64 x, .int .i64 y]), cst (.agg #[.bool false, .int .i64 i, .string (bstr t), .int .i64 x, .int .i64 y]), cst _, cst (.int .i64 ty), cst (.agg #[.bool pn, .int .i64 pi, .string (bstr pt), .int .i64 px, .int .i64 py]), cst (.bool true), cst (.bool true), cst undef, cst undef, cst undef, cst undef, cst (.bool true)] rfl (by kernel_rfl) (by kernel_rfl) (stays_cons (Stays.cst _) (stays_cons (Stays.cst _) (stays_cons (Stays.cst _) (stays_cons (Stays.cst _) (stays_cons (Stays.cst _) (stays_cons (Stays.cst _) (stays_cons (Stays.cst _) (stays_cons (Stays.cst _) (stays_cons (Stays.cst _) (stays_cons (Stays.cst _) (stays_cons (Stays.cst _) (stays_cons (Stays.cst _) stays_nil)))))))))))) _ (fun V => by simp only [putAll, Act.put, List.take_succ_cons, List.take_zero, List.setIfInBounds_toArray, List.set_cons_zero, List.set_cons_succ, Nat.reduceAdd]; exact rfl) ?hs2 ?ht2
        case hs2 =>
          simp only [List.take_succ_cons, List.take_zero, softs]
          refine ⟨?_, ?_, ?_, ?_, ?_, ?_, ?_, ?_, ?_, ?_, ?_, ?_, trivial⟩
          · intro V w hw hd
            simp [phi, Region.binds, cst] at hd
            try simp only [hd]
            first
              | (refine soft_const rfl ?_; go_simp; done)
              | (refine soft_const rfl ?_; go_simp; exact rfl)
              | (exact soft_load rfl hw _ _ rfl _ _ rfl _ _ ra Try.underlying54 rfl (by kernel_rfl))
              | (exact soft_cell rfl hw _ _ rfl _ rfl _ _ c1 Try.underlying3 rfl)
              | (exact soft_cell rfl hw _ _ rfl _ rfl _ _ ct.2.2.1 Try.underlying9 rfl)
              | (exact soft_skip rfl)
          · intro V w hw hd
            simp [phi, Region.binds, cst] at hd
            try simp only [hd]
            first
              | (refine soft_const rfl ?_; go_simp; done)
              | (refine soft_const rfl ?_; go_simp; exact rfl)
              | (exact soft_load rfl hw _ _ rfl _ _ rfl _ _ ra Try.underlying54 rfl (by kernel_rfl))
              | (exact soft_cell rfl hw _ _ rfl _ rfl _ _ c1 Try.underlying3 rfl)
              | (exact soft_cell rfl hw _ _ rfl _ rfl _ _ ct.2.2.1 Try.underlying9 rfl)
              | (exact soft_skip rfl)
          · intro V w hw hd
            simp [phi, Region.binds, cst] at hd
            try simp only [hd]
            first
              | (refine soft_const rfl ?_; go_simp; done)
              | (refine soft_const rfl ?_; go_simp; exact rfl)
              | (exact soft_load rfl hw _ _ rfl _ _ rfl _ _ ra Try.underlying54 rfl (by kernel_rfl))
              | (exact soft_cell rfl hw _ _ rfl _ rfl _ _ c1 Try.underlying3 rfl)
              | (exact soft_cell rfl hw _ _ rfl _ rfl _ _ ct.2.2.1 Try.underlying9 rfl)
              | (exact soft_skip rfl)
          · intro V w hw hd
            simp [phi, Region.binds, cst] at hd
            try simp only [hd]
            first
              | (refine soft_const rfl ?_; go_simp; done)
              | (refine soft_const rfl ?_; go_simp; exact rfl)
              | (exact soft_load rfl hw _ _ rfl _ _ rfl _ _ ra Try.underlying54 rfl (by kernel_rfl))
              | (exact soft_cell rfl hw _ _ rfl _ rfl _ _ c1 Try.underlying3 rfl)
              | (exact soft_cell rfl hw _ _ rfl _ rfl _ _ ct.2.2.1 Try.underlying9 rfl)
              | (exact soft_skip rfl)
          · intro V w hw hd
            simp [phi, Region.binds, cst] at hd
            try simp only [hd]
            refine soft_callC rfl _ _ (by go_simp; try exact ⟨rfl, rfl⟩) (kP2 w hw)
          · intro V w hw hd
            simp [phi, Region.binds, cst] at hd
            try simp only [hd]
            first
              | (refine soft_const rfl ?_; go_simp; done)
              | (refine soft_const rfl ?_; go_simp; exact rfl)
              | (exact soft_load rfl hw _ _ rfl _ _ rfl _ _ ra Try.underlying54 rfl (by kernel_rfl))
              | (exact soft_cell rfl hw _ _ rfl _ rfl _ _ c1 Try.underlying3 rfl)
              | (exact soft_cell rfl hw _ _ rfl _ rfl _ _ ct.2.2.1 Try.underlying9 rfl)
              | (exact soft_skip rfl)
          · intro V w hw hd
            simp [phi, Region.binds, cst] at hd
            try simp only [hd]
            first
              | (refine soft_const rfl ?_; go_simp; done)
              | (refine soft_const rfl ?_; go_simp; exact rfl)
              | (exact soft_load rfl hw _ _ rfl _ _ rfl _ _ ra Try.underlying54 rfl (by kernel_rfl))
              | (exact soft_cell rfl hw _ _ rfl _ rfl _ _ c1 Try.underlying3 rfl)
              | (exact soft_cell rfl hw _ _ rfl _ rfl _ _ ct.2.2.1 Try.underlying9 rfl)
              | (exact soft_skip rfl)
          · intro V w hw hd
            simp [phi, Region.binds, cst] at hd
            try simp only [hd]
            first
              | (refine soft_const rfl ?_; go_simp; done)
              | (refine soft_const rfl ?_; go_simp; exact rfl)
              | (exact soft_load rfl hw _ _ rfl _ _ rfl _ _ ra Try.underlying54 rfl (by kernel_rfl))
              | (exact soft_cell rfl hw _ _ rfl _ rfl _ _ c1 Try.underlying3 rfl)
              | (exact soft_cell rfl hw _ _ rfl _ rfl _ _ ct.2.2.1 Try.underlying9 rfl)
              | (exact soft_skip rfl)
          · intro V w hw hd
            simp [phi, Region.binds, cst] at hd
            try simp only [hd]
            first
              | (refine soft_const rfl ?_; go_simp; done)
              | (refine soft_const rfl ?_; go_simp; exact rfl)
              | (exact soft_load rfl hw _ _ rfl _ _ rfl _ _ ra Try.underlying54 rfl (by kernel_rfl))
              | (exact soft_cell rfl hw _ _ rfl _ rfl _ _ c1 Try.underlying3 rfl)
              | (exact soft_cell rfl hw _ _ rfl _ rfl _ _ ct.2.2.1 Try.underlying9 rfl)
              | (exact soft_skip rfl)
          · intro V w hw hd
            simp [phi, Region.binds, cst] at hd
            try simp only [hd]
            first
              | (refine soft_const rfl ?_; go_simp; done)
              | (refine soft_const rfl ?_; go_simp; exact rfl)
              | (exact soft_load rfl hw _ _ rfl _ _ rfl _ _ ra Try.underlying54 rfl (by kernel_rfl))
              | (exact soft_cell rfl hw _ _ rfl _ rfl _ _ c1 Try.underlying3 rfl)
              | (exact soft_cell rfl hw _ _ rfl _ rfl _ _ ct.2.2.1 Try.underlying9 rfl)
              | (exact soft_skip rfl)
          · intro V w hw hd
            simp [phi, Region.binds, cst] at hd
            try simp only [hd]
            first
              | (refine soft_const rfl ?_; go_simp; done)
              | (refine soft_const rfl ?_; go_simp; exact rfl)
              | (exact soft_load rfl hw _ _ rfl _ _ rfl _ _ ra Try.underlying54 rfl (by kernel_rfl))
              | (exact soft_cell rfl hw _ _ rfl _ rfl _ _ c1 Try.underlying3 rfl)
              | (exact soft_cell rfl hw _ _ rfl _ rfl _ _ ct.2.2.1 Try.underlying9 rfl)
              | (exact soft_skip rfl)
          · intro V w hw hd
            simp [phi, Region.binds, cst] at hd
            try simp only [hd]
            first
              | (refine soft_const rfl ?_; go_simp; done)
              | (refine soft_const rfl ?_; go_simp; exact rfl)
              | (exact soft_load rfl hw _ _ rfl _ _ rfl _ _ ra Try.underlying54 rfl (by kernel_rfl))
              | (exact soft_cell rfl hw _ _ rfl _ rfl _ _ c1 Try.underlying3 rfl)
              | (exact soft_cell rfl hw _ _ rfl _ rfl _ _ ct.2.2.1 Try.underlying9 rfl)
              | (exact soft_skip rfl)
        intro V w3 g3 hk
        have h11 := hk 11 (by decide)
        simp [phi, cst] at h11
        simp only [h11, List.drop_succ_cons, List.drop_zero]
        clear hk
        go_wp2
        go_ret
        exact ⟨rfl, g0.t0 g3⟩
    · have hl' : ¬ (65536 : Int) < t.length := by omega
      cases D2
      · have hV2 : VR = (rightB x y && (decide (ty ≠ 1) || (decide (i = 0) || decide (i = 1)))) := by rw [hV.out, if_neg (by simp; omega), if_neg (by simp; omega)]
        refine' region_soft 12 [cst (.agg #[.bool false, .int .i64 i, .string (bstr t), .int .i64 x, .int .i64 y]), cst (.agg #[.bool false, .int .i64 i, .string (bstr t), .int .i64 x, .int .i64 y]), cst _, cst (.int .i64 ty), cst (.agg #[.bool pn, .int .i64 pi, .string (bstr pt), .int .i64 px, .int .i64 py]), cst (.bool false), cst (.bool false), cst _, cst (.string (bstr t)), cst (.int .i64 t.length), cst (.bool false), cst (.bool false)] rfl (by kernel_rfl) (by kernel_rfl) (stays_cons (Stays.cst _) (stays_cons (Stays.cst _) (stays_cons (Stays.cst _) (stays_cons (Stays.cst _) (stays_cons (Stays.cst _) (stays_cons (Stays.cst _) (stays_cons (Stays.cst _) (stays_cons (Stays.cst _) (stays_cons (Stays.cst _) (stays_cons (Stays.cst _) (stays_cons (Stays.cst _) (stays_cons (Stays.cst _) stays_nil)))))))))))) _ (fun V => by simp only [putAll, Act.put, List.take_succ_cons, List.take_zero, List.setIfInBounds_toArray, List.set_cons_zero, List.set_cons_succ, Nat.reduceAdd]; exact rfl) ?hs3 ?ht3
        case hs3 =>
          simp only [List.take_succ_cons, List.take_zero, softs]
          refine ⟨?_, ?_, ?_, ?_, ?_, ?_, ?_, ?_, ?_, ?_, ?_, ?_, trivial⟩
          · intro V w hw hd
            simp [phi, Region.binds, cst] at hd
            try simp only [hd]
            first
              | (refine soft_const rfl ?_; go_simp; done)
              | (refine soft_const rfl ?_; go_simp; exact rfl)
              | (exact soft_load rfl hw _ _ rfl _ _ rfl _ _ ra Try.underlying54 rfl (by kernel_rfl))
              | (exact soft_cell rfl hw _ _ rfl _ rfl _ _ c1 Try.underlying3 rfl)
              | (exact soft_cell rfl hw _ _ rfl _ rfl _ _ ct.2.2.1 Try.underlying9 rfl)
              | (exact soft_skip rfl)
          · intro V w hw hd
            simp [phi, Region.binds, cst] at hd
            try simp only [hd]
            first
              | (refine soft_const rfl ?_; go_simp; done)
              | (refine soft_const rfl ?_; go_simp; exact rfl)
              | (exact soft_load rfl hw _ _ rfl _ _ rfl _ _ ra Try.underlying54 rfl (by kernel_rfl))
              | (exact soft_cell rfl hw _ _ rfl _ rfl _ _ c1 Try.underlying3 rfl)
              | (exact soft_cell rfl hw _ _ rfl _ rfl _ _ ct.2.2.1 Try.underlying9 rfl)
              | (exact soft_skip rfl)
          · intro V w hw hd
            simp [phi, Region.binds, cst] at hd
            try simp only [hd]
            first
              | (refine soft_const rfl ?_; go_simp; done)
              | (refine soft_const rfl ?_; go_simp; exact rfl)
              | (exact soft_load rfl hw _ _ rfl _ _ rfl _ _ ra Try.underlying54 rfl (by kernel_rfl))
              | (exact soft_cell rfl hw _ _ rfl _ rfl _ _ c1 Try.underlying3 rfl)
              | (exact soft_cell rfl hw _ _ rfl _ rfl _ _ ct.2.2.1 Try.underlying9 rfl)
              | (exact soft_skip rfl)
          · intro V w hw hd
            simp [phi, Region.binds, cst] at hd
            try simp only [hd]
            first
              | (refine soft_const rfl ?_; go_simp; done)
              | (refine soft_const rfl ?_; go_simp; exact rfl)
              | (exact soft_load rfl hw _ _ rfl _ _ rfl _ _ ra Try.underlying54 rfl (by kernel_rfl))
              | (exact soft_cell rfl hw _ _ rfl _ rfl _ _ c1 Try.underlying3 rfl)
              | (exact soft_cell rfl hw _ _ rfl _ rfl _ _ ct.2.2.1 Try.underlying9 rfl)
              | (exact soft_skip rfl)
          · intro V w hw hd
            simp [phi, Region.binds, cst] at hd
            try simp only [hd]
            refine soft_callC rfl _ _ (by go_simp; try exact ⟨rfl, rfl⟩) (kP2 w hw)
          · intro V w hw hd
            simp [phi, Region.binds, cst] at hd
            try simp only [hd]
            first
              | (refine soft_const rfl ?_; go_simp; done)
              | (refine soft_const rfl ?_; go_simp; exact rfl)
              | (exact soft_load rfl hw _ _ rfl _ _ rfl _ _ ra Try.underlying54 rfl (by kernel_rfl))
              | (exact soft_cell rfl hw _ _ rfl _ rfl _ _ c1 Try.underlying3 rfl)
              | (exact soft_cell rfl hw _ _ rfl _ rfl _ _ ct.2.2.1 Try.underlying9 rfl)
              | (exact soft_skip rfl)
          · intro V w hw hd
            simp [phi, Region.binds, cst] at hd
            try simp only [hd]
            first
              | (refine soft_const rfl ?_; go_simp; done)
              | (refine soft_const rfl ?_; go_simp; exact rfl)
              | (exact soft_load rfl hw _ _ rfl _ _ rfl _ _ ra Try.underlying54 rfl (by kernel_rfl))
              | (exact soft_cell rfl hw _ _ rfl _ rfl _ _ c1 Try.underlying3 rfl)
              | (exact soft_cell rfl hw _ _ rfl _ rfl _ _ ct.2.2.1 Try.underlying9 rfl)
              | (exact soft_skip rfl)
          · intro V w hw hd
            simp [phi, Region.binds, cst] at hd
            try simp only [hd]
            first
              | (refine soft_const rfl ?_; go_simp; done)
              | (refine soft_const rfl ?_; go_simp; exact rfl)
              | (exact soft_load rfl hw _ _ rfl _ _ rfl _ _ ra Try.underlying54 rfl (by kernel_rfl))
              | (exact soft_cell rfl hw _ _ rfl _ rfl _ _ c1 Try.underlying3 rfl)
              | (exact soft_cell rfl hw _ _ rfl _ rfl _ _ ct.2.2.1 Try.underlying9 rfl)
              | (exact soft_skip rfl)
          · intro V w hw hd
            simp [phi, Region.binds, cst] at hd
            try simp only [hd]
            first
              | (refine soft_const rfl ?_; go_simp; done)
              | (refine soft_const rfl ?_; go_simp; exact rfl)
              | (exact soft_load rfl hw _ _ rfl _ _ rfl _ _ ra Try.underlying54 rfl (by kernel_rfl))
              | (exact soft_cell rfl hw _ _ rfl _ rfl _ _ c1 Try.underlying3 rfl)
              | (exact soft_cell rfl hw _ _ rfl _ rfl _ _ ct.2.2.1 Try.underlying9 rfl)
              | (exact soft_skip rfl)
          · intro V w hw hd
            simp [phi, Region.binds, cst] at hd
            try simp only [hd]
            first
              | (refine soft_const rfl ?_; go_simp; done)
              | (refine soft_const rfl ?_; go_simp; exact rfl)
              | (exact soft_load rfl hw _ _ rfl _ _ rfl _ _ ra Try.underlying54 rfl (by kernel_rfl))
              | (exact soft_cell rfl hw _ _ rfl _ rfl _ _ c1 Try.underlying3 rfl)
              | (exact soft_cell rfl hw _ _ rfl _ rfl _ _ ct.2.2.1 Try.underlying9 rfl)
              | (exact soft_skip rfl)
          · intro V w hw hd
            simp [phi, Region.binds, cst] at hd
            try simp only [hd]
            first
              | (refine soft_const rfl ?_; go_simp; done)
              | (refine soft_const rfl ?_; go_simp; exact rfl)
              | (exact soft_load rfl hw _ _ rfl _ _ rfl _ _ ra Try.underlying54 rfl (by kernel_rfl))
              | (exact soft_cell rfl hw _ _ rfl _ rfl _ _ c1 Try.underlying3 rfl)
              | (exact soft_cell rfl hw _ _ rfl _ rfl _ _ ct.2.2.1 Try.underlying9 rfl)
              | (exact soft_skip rfl)
          · intro V w hw hd
            simp [phi, Region.binds, cst] at hd
            try simp only [hd]
            first
              | (refine soft_const rfl ?_; go_simp; done)
              | (refine soft_const rfl ?_; go_simp; exact rfl)
              | (exact soft_load rfl hw _ _ rfl _ _ rfl _ _ ra Try.underlying54 rfl (by kernel_rfl))
              | (exact soft_cell rfl hw _ _ rfl _ rfl _ _ c1 Try.underlying3 rfl)
              | (exact soft_cell rfl hw _ _ rfl _ rfl _ _ ct.2.2.1 Try.underlying9 rfl)
              | (exact soft_skip rfl)
        intro V w3 g3 hk
        have h11 := hk 11 (by decide)
        simp [phi, cst] at h11
        simp only [h11, List.drop_succ_cons, List.drop_zero]
        clear hk
        replace ba := g3.heap ba (by simp)
        replace bc := g3.heap bc (by simp)
        replace g0 := g0.t0 g3
        clear ra c1 ct kP kP2 g3 hV EQ EQ2 EG1 EG2
        obtain ⟨t0, t1, t2, t3, t4⟩ := cell5 ba
        have c1 := (cells3'' bc).2.1
        replace hV2 := Lib.hid hV2
        go_wp2_with fail
        refine (right_ok w3 x y).mono ?_
        rintro e w4 ⟨rfl, g4⟩
        replace ba := g4.heap ba (by simp)
        replace bc := g4.heap bc (by simp)
        replace g0 := g0.t0 g4
        clear t0 t1 t2 t3 t4 c1 g4
        obtain ⟨t0, t1, t2, t3, t4⟩ := cell5 ba
        have c1 := (cells3'' bc).2.1
        cases hr : rightB x y
        · have hV3 : VR = false := by rw [hV2.out, hr]; rfl
          subst hV3
          clear hV2 hr
          go_wp2
          go_ret
          exact ⟨rfl, g0⟩
        · have hV3 : VR = (decide (ty ≠ 1) || (decide (i = 0) || decide (i = 1))) := by rw [hV2.out, hr, Bool.true_and]
          clear hV2 hr
          by_cases e1 : ty = 1
          · subst e1
            by_cases e2 : i = 0
            · subst e2
              have hV4 : VR = true := by rw [hV3]; rfl
              subst hV4
              clear hV3
              go_wp2
              go_ret
              exact ⟨rfl, g0⟩
            · have hV4 : VR = decide (i = 1) := by rw [hV3, decide_eq_false e2]; rfl
              subst hV4
              have e2' : (i == 0) = false := by simpa using e2
              clear hV3 e2
              go_wp2
              go_ret
              refine ⟨?_, g0⟩
              by_cases e3 : i = 1 <;> simp [e3]
          · have hV4 : VR = true := by rw [hV3]; simp [e1]
            subst hV4
            have e1' : (ty != 1) = true := by simpa using e1
            clear hV3 e1
            go_wp2
            go_ret
            exact ⟨rfl, g0⟩
      · have hV2 : VR = false := by rw [hV.out, if_neg (by simp; omega), if_pos (.inl rfl)]
        subst hV2
        refine' region_soft 12 [cst (.agg #[.bool false, .int .i64 i, .string (bstr t), .int .i64 x, .int .i64 y]), cst (.agg #[.bool false, .int .i64 i, .string (bstr t), .int .i64 x, .int .i64 y]), cst _, cst (.int .i64 ty), cst (.agg #[.bool pn, .int .i64 pi, .string (bstr pt), .int .i64 px, .int .i64 py]), cst (.bool true), cst (.bool true), cst undef, cst undef, cst undef, cst undef, cst (.bool true)] rfl (by kernel_rfl) (by kernel_rfl) (stays_cons (Stays.cst _) (stays_cons (Stays.cst _) (stays_cons (Stays.cst _) (stays_cons (Stays.cst _) (stays_cons (Stays.cst _) (stays_cons (Stays.cst _) (stays_cons (Stays.cst _) (stays_cons (Stays.cst _) (stays_cons (Stays.cst _) (stays_cons (Stays.cst _) (stays_cons (Stays.cst _) (stays_cons (Stays.cst _) stays_nil)))))))))))) _ (fun V => by simp only [putAll, Act.put, List.take_succ_cons, List.take_zero, List.setIfInBounds_toArray, List.set_cons_zero, List.set_cons_succ, Nat.reduceAdd]; exact rfl) ?hs4 ?ht4
        case hs4 =>
          simp only [List.take_succ_cons, List.take_zero, softs]
          refine ⟨?_, ?_, ?_, ?_, ?_, ?_, ?_, ?_, ?_, ?_, ?_, ?_, trivial⟩
          · intro V w hw hd
            simp [phi, Region.binds, cst] at hd
            try simp only [hd]
            first
              | (refine soft_const rfl ?_; go_simp; done)
              | (refine soft_const rfl ?_; go_simp; exact rfl)
              | (exact soft_load rfl hw _ _ rfl _ _ rfl _ _ ra Try.underlying54 rfl (by kernel_rfl))
              | (exact soft_cell rfl hw _ _ rfl _ rfl _ _ c1 Try.underlying3 rfl)
              | (exact soft_cell rfl hw _ _ rfl _ rfl _ _ ct.2.2.1 Try.underlying9 rfl)
              | (exact soft_skip rfl)
          · intro V w hw hd
            simp [phi, Region.binds, cst] at hd
            try simp only [hd]
            first
              | (refine soft_const rfl ?_; go_simp; done)
              | (refine soft_const rfl ?_; go_simp; exact rfl)
              | (exact soft_load rfl hw _ _ rfl _ _ rfl _ _ ra Try.underlying54 rfl (by kernel_rfl))
              | (exact soft_cell rfl hw _ _ rfl _ rfl _ _ c1 Try.underlying3 rfl)
              | (exact soft_cell rfl hw _ _ rfl _ rfl _ _ ct.2.2.1 Try.underlying9 rfl)
              | (exact soft_skip rfl)
          · intro V w hw hd
            simp [phi, Region.binds, cst] at hd
            try simp only [hd]
            first
              | (refine soft_const rfl ?_; go_simp; done)
              | (refine soft_const rfl ?_; go_simp; exact rfl)
              | (exact soft_load rfl hw _ _ rfl _ _ rfl _ _ ra Try.underlying54 rfl (by kernel_rfl))
              | (exact soft_cell rfl hw _ _ rfl _ rfl _ _ c1 Try.underlying3 rfl)
              | (exact soft_cell rfl hw _ _ rfl _ rfl _ _ ct.2.2.1 Try.underlying9 rfl)
              | (exact soft_skip rfl)
          · intro V w hw hd
            simp [phi, Region.binds, cst] at hd
            try simp only [hd]
            first
              | (refine soft_const rfl ?_; go_simp; done)
              | (refine soft_const rfl ?_; go_simp; exact rfl)
              | (exact soft_load rfl hw _ _ rfl _ _ rfl _ _ ra Try.underlying54 rfl (by kernel_rfl))
              | (exact soft_cell rfl hw _ _ rfl _ rfl _ _ c1 Try.underlying3 rfl)
              | (exact soft_cell rfl hw _ _ rfl _ rfl _ _ ct.2.2.1 Try.underlying9 rfl)
              | (exact soft_skip rfl)
          · intro V w hw hd
            simp [phi, Region.binds, cst] at hd
            try simp only [hd]
            refine soft_callC rfl _ _ (by go_simp; try exact ⟨rfl, rfl⟩) (kP2 w hw)
          · intro V w hw hd
            simp [phi, Region.binds, cst] at hd
            try simp only [hd]
            first
              | (refine soft_const rfl ?_; go_simp; done)
              | (refine soft_const rfl ?_; go_simp; exact rfl)
              | (exact soft_load rfl hw _ _ rfl _ _ rfl _ _ ra Try.underlying54 rfl (by kernel_rfl))
              | (exact soft_cell rfl hw _ _ rfl _ rfl _ _ c1 Try.underlying3 rfl)
              | (exact soft_cell rfl hw _ _ rfl _ rfl _ _ ct.2.2.1 Try.underlying9 rfl)
              | (exact soft_skip rfl)
          · intro V w hw hd
            simp [phi, Region.binds, cst] at hd
            try simp only [hd]
            first
              | (refine soft_const rfl ?_; go_simp; done)
              | (refine soft_const rfl ?_; go_simp; exact rfl)
              | (exact soft_load rfl hw _ _ rfl _ _ rfl _ _ ra Try.underlying54 rfl (by kernel_rfl))
              | (exact soft_cell rfl hw _ _ rfl _ rfl _ _ c1 Try.underlying3 rfl)
              | (exact soft_cell rfl hw _ _ rfl _ rfl _ _ ct.2.2.1 Try.underlying9 rfl)
              | (exact soft_skip rfl)
          · intro V w hw hd
            simp [phi, Region.binds, cst] at hd
            try simp only [hd]
            first
              | (refine soft_const rfl ?_; go_simp; done)
              | (refine soft_const rfl ?_; go_simp; exact rfl)
              | (exact soft_load rfl hw _ _ rfl _ _ rfl _ _ ra Try.underlying54 rfl (by kernel_rfl))
              | (exact soft_cell rfl hw _ _ rfl _ rfl _ _ c1 Try.underlying3 rfl)
              | (exact soft_cell rfl hw _ _ rfl _ rfl _ _ ct.2.2.1 Try.underlying9 rfl)
              | (exact soft_skip rfl)
          · intro V w hw hd
            simp [phi, Region.binds, cst] at hd
            try simp only [hd]
            first
              | (refine soft_const rfl ?_; go_simp; done)
              | (refine soft_const rfl ?_; go_simp; exact rfl)
              | (exact soft_load rfl hw _ _ rfl _ _ rfl _ _ ra Try.underlying54 rfl (by kernel_rfl))
              | (exact soft_cell rfl hw _ _ rfl _ rfl _ _ c1 Try.underlying3 rfl)
              | (exact soft_cell rfl hw _ _ rfl _ rfl _ _ ct.2.2.1 Try.underlying9 rfl)
              | (exact soft_skip rfl)
          · intro V w hw hd
            simp [phi, Region.binds, cst] at hd
            try simp only [hd]
            first
              | (refine soft_const rfl ?_; go_simp; done)
              | (refine soft_const rfl ?_; go_simp; exact rfl)
              | (exact soft_load rfl hw _ _ rfl _ _ rfl _ _ ra Try.underlying54 rfl (by kernel_rfl))
              | (exact soft_cell rfl hw _ _ rfl _ rfl _ _ c1 Try.underlying3 rfl)
              | (exact soft_cell rfl hw _ _ rfl _ rfl _ _ ct.2.2.1 Try.underlying9 rfl)
              | (exact soft_skip rfl)
          · intro V w hw hd
            simp [phi, Region.binds, cst] at hd
            try simp only [hd]
            first
              | (refine soft_const rfl ?_; go_simp; done)
              | (refine soft_const rfl ?_; go_simp; exact rfl)
              | (exact soft_load rfl hw _ _ rfl _ _ rfl _ _ ra Try.underlying54 rfl (by kernel_rfl))
              | (exact soft_cell rfl hw _ _ rfl _ rfl _ _ c1 Try.underlying3 rfl)
              | (exact soft_cell rfl hw _ _ rfl _ rfl _ _ ct.2.2.1 Try.underlying9 rfl)
              | (exact soft_skip rfl)
          · intro V w hw hd
            simp [phi, Region.binds, cst] at hd
            try simp only [hd]
            first
              | (refine soft_const rfl ?_; go_simp; done)
              | (refine soft_const rfl ?_; go_simp; exact rfl)
              | (exact soft_load rfl hw _ _ rfl _ _ rfl _ _ ra Try.underlying54 rfl (by kernel_rfl))
              | (exact soft_cell rfl hw _ _ rfl _ rfl _ _ c1 Try.underlying3 rfl)
              | (exact soft_cell rfl hw _ _ rfl _ rfl _ _ ct.2.2.1 Try.underlying9 rfl)
              | (exact soft_skip rfl)
        intro V w3 g3 hk
        have h11 := hk 11 (by decide)
        simp [phi, cst] at h11
        simp only [h11, List.drop_succ_cons, List.drop_zero]
        clear hk
        go_wp2
        go_ret
        exact ⟨rfl, g0.t0 g3⟩
end Go.Proofs.Ytfnfcioofkeanaa
