/-
  Projections: pure, and the contract of slices.Clone at []Cell.
-/
import Derived.Test.YtfnfcioofkeanaaTab2
import Derived.Test.YtfnfcioofkeanaaQuery
import Derived.Test.YtfnfcioofkeanaaSoftW
namespace Go.Proofs.Ytfnfcioofkeanaa
set_option linter.unusedSimpArgs false
set_option linter.unusedVariables false
open Go.RowKit

def noT : Tab := ⟨[], 0, []⟩
def pickT (t : Tab) (cols : List Int) (lo hi : Int) : Tab :=
  ⟨cols.map fun k => t.cols.getD k.toNat ⟨[], 0, false⟩, hi - lo, cols.map fun k => ((t.data.getD k.toNat []).take hi.toNat).drop lo.toNat⟩
/-- A table of some columns and rows, or what is wrong. -/
def projV (t : Tab) (cols : List Int) (lo hi : Int) : Tab × Int :=
  if checkV t ≠ 0 then (noT, checkV t) else if fitsV cols lo hi t.cols.length t.rows = true then (pickT t cols lo hi, 0) else (noT, 7)
/-- What a good table is. -/
theorem checkV_zero {t : Tab} (h : checkV t = 0) : colsV t.cols = 0 ∧ 0 ≤ t.rows ∧ t.rows ≤ 65536 ∧ t.data.length = t.cols.length ∧ (∀ l ∈ t.data, (l.length : Int) = t.rows) ∧ hasBad t.cols t.data = false := by
  unfold checkV at h
  split at h
  · rename_i h1; exact absurd h h1
  rename_i h1
  split at h
  · cases h
  rename_i h2
  split at h
  · cases h
  rename_i h3
  split at h
  · cases h
  rename_i h4
  simp only [not_or] at h3
  obtain ⟨h5, h6, h7⟩ := h3
  refine ⟨by simpa using h1, by omega, by omega, by simpa using h6, fun l hl => ?_, by simpa using h4⟩
  refine Decidable.byContradiction fun hne => h7 (decide_eq_true ⟨l, hl, hne⟩)
theorem el_cell : ElemT Try.prog 50 54 5 48 := by
  obtain ⟨i, hi, hz, h1, h2⟩ := info_parts (P := Try.prog) (e := 54) (z := .agg #[.bool false, .int .i64 0, .string { data := #[] }, .int .i64 0, .int .i64 0]) (size := 5) (bytes := 48) (by kernel_rfl)
  exact ⟨Try.underlying50, ⟨i, _, hi, hz, h1, h2, rfl⟩, by decide, by decide⟩
theorem cellc_one (l : List Cell) : ∀ u ∈ l.flatMap cellc, u.oneCell' = true := by
  intro u hu
  obtain ⟨c, _, hc⟩ := List.mem_flatMap.1 hu
  simp only [cellc, List.mem_cons, List.not_mem_nil, or_false] at hc
  rcases hc with rfl | rfl | rfl | rfl | rfl <;> rfl
theorem cellc_length (l : List Cell) : (l.flatMap cellc).length = l.length * 5 := flat_length cellc 5 l (fun _ _ => rfl)

set_option maxHeartbeats 4000000 in
theorem clonec_ok (w : World) (v : Value) (l : List Cell) (hs : Sl w v l.length (l.flatMap cellc)) (hb : l.length * 48 ≤ big) :
    Calls Try.prog 52 #[v] w fun e w' => ∃ v', e = .returned v' ∧ w'.ownsRow w.heap.size 54 5 v' l.length (l.flatMap cellc) ∧ Chg [] w w' := by
  have hs0 := hs
  obtain ⟨a, c, rfl, q1, q2, q3, q4, q6, q5⟩ := hs
  have keq : ∀ (w : World) (a : Option Addr) (n c : Nat), (binOp .eql 50 (.slice a n c) (.slice none 0 0)).run Try.prog w = .ok (.bool a.isNone) w := fun w a n c => Lib.run_eql_slice_nil w _ _ a n c 0 0 Try.underlying50
  cases a with
  | none =>
    have hc : c = 0 := q3 rfl
    have hl : l = [] := by have : l.length = 0 := by omega
                           simpa using this
    subst hc hl
    clear q1 q2 q3 q4 q5 q6
    go_enter Try.func52, Try.ntmps52
    go_wp2
    go_ret
    exact ⟨_, rfl, World.ownsRow_nil _ _ _ _, Chg.refl _ _⟩
  | some x =>
    clear q1 q2 q3 q4 q5 q6
    go_enter Try.func52, Try.ntmps52
    go_wp2_with (at_builtin; refine wpList_append_sl _ rfl (.tmp 5) (.tmp 6) 50 54 5 48 rfl el_cell w.heap.size _ 0 [] rfl (own_lit w #[] 54 0 5 _ (Nat.le_refl _) (Nat.zero_le _) rfl) _ l.length (l.flatMap cellc) rfl (hs0.tr0 (Chg.alloc _ _ _)) (cellc_length l) (cellc_one l) (by simpa using hb) (by simp) ?_)
    intro v' w1 hown hg
    try simp only [Nat.zero_add, List.nil_append] at hown
    go_wp2
    go_ret
    exact ⟨_, rfl, hown, (Chg.alloc [] w _).trans (Chg.grown hg) (by simp [Value.ownBlock])⟩
/-- Blocks that are turned elsewhere. -/
theorem flat_takeN {α : Type} (f : α → List Value) (size : Nat) (h : ∀ a, (f a).length = size) : ∀ (l : List α) (n : Nat), (l.take n).flatMap f = (l.flatMap f).take (n * size)
  | [], n => by simp
  | a :: l, 0 => by simp
  | a :: l, n + 1 => by
    simp only [List.take_succ_cons, List.flatMap_cons]
    rw [flat_takeN f size h l n, List.take_append, h a, List.take_of_length_le (l := f a) (by rw [h a, Nat.add_mul]; omega), Nat.add_mul, Nat.one_mul, Nat.add_sub_cancel]
theorem flat_dropN {α : Type} (f : α → List Value) (size : Nat) (h : ∀ a, (f a).length = size) : ∀ (l : List α) (n : Nat), (l.drop n).flatMap f = (l.flatMap f).drop (n * size)
  | [], n => by simp
  | a :: l, 0 => by simp
  | a :: l, n + 1 => by
    simp only [List.drop_succ_cons, List.flatMap_cons]
    rw [flat_dropN f size h l n, List.drop_append, h a, List.drop_of_length_le (l := f a) (by rw [h a, Nat.add_mul]; omega), List.nil_append, Nat.add_mul, Nat.one_mul, Nat.add_sub_cancel]
theorem own_trD {w w' : World} {base e size n : Nat} {v : Value} {xs : List Value} {S : List Nat} (h : w.ownsRow base e size v n xs) (hc : Chg S w w') (hn : ∀ k ∈ S, v.ownBlock ≠ some k) : w'.ownsRow base e size v n xs := by
  obtain ⟨h1, h2 | ⟨g, cap, cur, rfl, hb, hg, r⟩⟩ := h
  · exact ⟨h1, .inl h2⟩
  · exact ⟨h1, .inr ⟨g, cap, cur, rfl, hb, hc.heap hg (fun hm => hn g hm (by simp [Value.ownBlock])), r⟩⟩
theorem own_type {w : World} {base e size n : Nat} {v : Value} {xs : List Value} (h : w.ownsRow base e size v n xs) : ∀ k, v.ownBlock = some k → ∃ cs f, w.heap[k]? = some (.cells cs e f) := by
  obtain ⟨_, ⟨rfl, rfl⟩ | ⟨g, cap, cur, rfl, _, hg, _⟩⟩ := h
  · intro k hk; simp [Value.ownBlock] at hk
  · intro k hk; simp [Value.ownBlock] at hk; subst hk; exact ⟨_, _, hg⟩
theorem own_apart {w : World} {b1 b2 e1 e2 s1 s2 n1 n2 : Nat} {v1 v2 : Value} {x1 x2 : List Value} (h1 : w.ownsRow b1 e1 s1 v1 n1 x1) (h2 : w.ownsRow b2 e2 s2 v2 n2 x2) (he : e1 ≠ e2) : ∀ k, v1.ownBlock = some k → v2.ownBlock ≠ some k := by
  intro k hk hk2
  obtain ⟨c1, f1, h1⟩ := own_type h1 k hk
  obtain ⟨c2, f2, h2⟩ := own_type h2 k hk2
  rw [h1] at h2
  simp at h2
  exact he h2.2.1
theorem own_not {w : World} {base e size n p t : Nat} {v : Value} {xs : List Value} {cs : Array Value} {f : Nat × Nat} (h : w.ownsRow base e size v n xs) (hp : w.heap[p]? = some (.cells cs t f)) (he : e ≠ t) : v.ownBlock ≠ some p := by
  intro hk
  obtain ⟨c1, f1, h1⟩ := own_type h p hk
  rw [h1] at hp
  simp at hp
  exact he hp.2.1
/-- What the writers of Project's region turn. -/
def SmP (A B : List Nat) (P : Nat) : Nat → List Nat
  | 0 => A
  | 2 => B
  | 3 => [P]
  | 4 => [P]
  | _ => []
theorem SmP_lt {A B : List Nat} {P H : Nat} (hA : ∀ j ∈ A, j < H) (hB : ∀ j ∈ B, j < H) (hP : P < H) : ∀ m, ∀ j ∈ SmP A B P m, j < H
  | 0, j, h => hA j h
  | 1, j, h => by simp [SmP] at h
  | 2, j, h => hB j h
  | 3, j, h => by simp [SmP] at h; omega
  | 4, j, h => by simp [SmP] at h; omega
  | m + 5, j, h => by simp [SmP] at h
theorem SmP_from {A B : List Nat} {P b : Nat} (hA : ∀ j ∈ A, b ≤ j) (hB : ∀ j ∈ B, b ≤ j) (hP : b ≤ P) : ∀ m, ∀ j ∈ SmP A B P m, b ≤ j
  | 0, j, h => hA j h
  | 1, j, h => by simp [SmP] at h
  | 2, j, h => hB j h
  | 3, j, h => by simp [SmP] at h; omega
  | 4, j, h => by simp [SmP] at h; omega
  | m + 5, j, h => by simp [SmP] at h
theorem SmP_0 {A B : List Nat} {P m : Nat} (h : 0 < m) : ∀ j ∈ SmP A B P m, j ∈ B ∨ j = P := by
  intro j hj
  match m, h with
  | 1, _ => simp [SmP] at hj
  | 2, _ => exact .inl hj
  | 3, _ => simp [SmP] at hj; exact .inr hj
  | 4, _ => simp [SmP] at hj; exact .inr hj
  | m + 5, _ => simp [SmP] at hj
theorem SmP_2 {A B : List Nat} {P m : Nat} (h : 2 < m) : ∀ j ∈ SmP A B P m, j = P := by
  intro j hj
  match m, h with
  | 3, _ => simpa [SmP] using hj
  | 4, _ => simpa [SmP] using hj
  | m + 5, _ => simp [SmP] at hj
theorem wstep_skip {P : Program} {ops : Array Oper} {Q : Exit → Act → World → Prop} {o : Oper} {a : Act} {w w' : World} {Post : Value → World → Prop} (hw : Region.wanted o (yielded ops a.tmps) = true) (hr : (execOp a.eval o).run P w = .ok .skip w') (h : Post undef w') : wStep P ops Q o a w Post := by
  unfold wStep
  rw [if_pos hw]
  unfold Oper.wp
  rw [hr]
  exact ⟨undef, rfl, h⟩
theorem colc_oneP (l : List Col) : ∀ u ∈ l.flatMap colc, u.oneCell' = true := by
  intro u hu
  obtain ⟨c, _, hc⟩ := List.mem_flatMap.1 hu
  simp only [colc, List.mem_cons, List.not_mem_nil, or_false] at hc
  rcases hc with rfl | rfl | rfl <;> rfl
theorem cells3f {w : World} {p : Nat} {x y z : Value} {e : TypeId} (h : w.heap[p]? = some (.cells #[x, y, z] e (0, 0))) :
    w.cell? ⟨p, 0, none⟩ = some x ∧ w.cell? ⟨p, 1, none⟩ = some y ∧ w.cell? ⟨p, 2, none⟩ = some z ∧ w.frozen? ⟨p, 0, none⟩ = false ∧ w.frozen? ⟨p, 1, none⟩ = false ∧ w.frozen? ⟨p, 2, none⟩ = false :=
  ⟨by rw [cell_of_row w p 0 _ _ _ h]; rfl, by rw [cell_of_row w p 1 _ _ _ h]; rfl, by rw [cell_of_row w p 2 _ _ _ h]; rfl, frozen_of_row w p 0 _ _ h, frozen_of_row w p 1 _ _ h, frozen_of_row w p 2 _ _ h⟩
theorem el_colP : ElemT Try.prog 25 58 3 32 := by
  obtain ⟨i, hi, hz, h1, h2⟩ := info_parts (P := Try.prog) (e := 58) (z := .agg #[.string { data := #[] }, .int .i64 0, .bool false]) (size := 3) (bytes := 32) (by kernel_rfl)
  exact ⟨Try.underlying25, ⟨i, _, hi, hz, h1, h2, rfl⟩, by decide, by decide⟩
theorem el_cells : ElemT Try.prog 40 50 1 24 := by
  obtain ⟨i, hi, hz, h1, h2⟩ := info_parts (P := Try.prog) (e := 50) (z := .slice none 0 0) (size := 1) (bytes := 24) (by kernel_rfl)
  exact ⟨Try.underlying40, ⟨i, _, hi, hz, h1, h2, rfl⟩, by decide, by decide⟩
end Go.Proofs.Ytfnfcioofkeanaa
