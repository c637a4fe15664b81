/-
  Laws at operations on whole structs and arrays, what is known of the world behind each said in words (Chg, a block's cells). No program in sight.
-/
import Derived.Test.YtdclbhmmpdngpaaDoorQuietTail
import Derived.Laws.Rows
import Derived.Laws.Tables
import Derived.Deep.WholeRow
import Derived.Great.BuildSlice
import Derived.WalkLawsBesides
import Derived.Lib.Hide
namespace Go.Proofs.YtdclbhmmpdngpaaDoor
set_option linter.unusedSimpArgs false
set_option linter.unusedVariables false
open Go.RowKit

/-- The one result lies in a variable that holds a struct or an array. -/
theorem ret_row {P : Program} {fn : Func} {R : Ending → World → Prop} {a : Act} {w : World} (s : Tmp) (ty : TypeId) (hf : fn.results = #[.cell s ty]) (d : TypeDesc) (hu : P.underlying ty = some d) (hr : d.isRow = true) (cs : List Value) (hi : (P.info? ty).map (·.size) = some cs.length)
    (hd : a.defers = []) (p : Nat) (hp : a.tmps.getD s undef = .pointer (some ⟨p, 0, none⟩)) (hw : w.rangeAt p 0 cs) (hR : R (.returned (.agg cs.toArray)) w) : bodyPost P fn R .ret a w := by
  refine bodyPost_ret (v := .agg cs.toArray) ?_ hd hR
  rw [Array.getD_eq_getD_getElem?] at hp
  have hl := run_loadVar_mid (P := P) w p 0 ty cs d hw hu hr hi
  simp [results, hf, hp, asAddr, hl]
/-- Two results; the first lies in a variable that holds a struct or an array. -/
theorem ret_row2 {P : Program} {fn : Func} {R : Ending → World → Prop} {a : Act} {w : World} (s t : Tmp) (ty : TypeId) (hf : fn.results = #[.cell s ty, .tmp t]) (d : TypeDesc) (hu : P.underlying ty = some d) (hr : d.isRow = true) (cs : List Value) (hi : (P.info? ty).map (·.size) = some cs.length)
    (hd : a.defers = []) (p : Nat) (hp : a.tmps.getD s undef = .pointer (some ⟨p, 0, none⟩)) (hw : w.rangeAt p 0 cs) (hR : R (.returned (.tuple #[.agg cs.toArray, a.tmps.getD t undef])) w) : bodyPost P fn R .ret a w := by
  refine bodyPost_ret (v := .tuple #[.agg cs.toArray, a.tmps.getD t undef]) ?_ hd hR
  rw [Array.getD_eq_getD_getElem?] at hp
  have hl := run_loadVar_mid (P := P) w p 0 ty cs d hw hu hr hi
  simp [results, hf, hp, asAddr, Result.andThen, hl]

theorem store_rowC {P : Program} {ops : Array Oper} {rest : List Oper} {o : Oper} {a : Act} {w : World} {Q : Exit → Act → World → Prop} (hg : o.guard = none) (ty : TypeId) (x y : Operand) (ho : o.op = .store ty x y) (p : Nat) (e : TypeId)
    (hx : a.eval x = .pointer (some ⟨p, 0, none⟩)) (cs : List Value) (hy : a.eval y = .agg cs.toArray) (old : Array Value) (hp : w.heap[p]? = some (.cells old e (0, 0))) (hi : (P.info? ty).map (·.size) = some cs.length) (hold : old.size = cs.length) (h1 : cs.all (·.oneCell') = true)
    (h : ∀ w', w'.heap[p]? = some (.cells cs.toArray e (0, 0)) → Chg [p] w w' → w'.heap.size = w.heap.size → wpList P ops Q rest (a.put o.dst undef) w') : wpList P ops Q (o :: rest) a w := by
  refine wpList_store_row hg ty x y ho p cs.toArray hx hy e _ hp (by rw [hi]; simp) (by simp [hold]) (by simpa using h1) (h _ (setRow_heap w p _ _ e _ hp) ?_ (by simp))
  exact ⟨rfl, rfl, rfl, by simp, fun k _ hk => setRow_other w p k _ (fun e => hk (by simp [e]))⟩

/-- A literal []T of parts that are one cell each, in a plain list: a new row. -/
theorem Chg.old {W w w' : World} {p : Nat} (h : Chg [] W w) (k : Chg [p] w w') (hp : W.heap.size ≤ p) : Chg [] W w' := h.tn k hp

theorem run_load_cell {P : Program} (w : World) (p : Addr) (ty : TypeId) (d : TypeDesc) (v : Value) (hc : w.cell? p = some v) (hu : P.underlying ty = some d) (hd : d.isRow = false) :
    (Instr.loadAt ty (.pointer (some p))).run P w = .ok v w := by
  have hagg : (isAgg ty).run P w = .ok false w := by
    unfold isAgg
    rw [Sem.run_bind, run_underlying hu w]
    cases d <;> simp_all
  simp [Instr.loadAt, Instr.sureAddr, loadVar, Sem.run_bind, hagg, Result.andThen, hc]
/-- In a quiet head: one cell is loaded, which lies so in the base world. -/
theorem quiet_cellC {P : Program} {ops : Array Oper} {W : World} {R : Act → Prop} {rest : List Oper} {a : Act} {o : Oper} (hw : Region.wanted o (yielded ops a.tmps) = true) (ty : TypeId) (x : Operand) (ho : o.op = .load ty x) (p : Addr) (hx : a.eval x = .pointer (some p))
    (v : Value) (d : TypeDesc) (hc : W.cell? p = some v) (hu : P.underlying ty = some d) (hd : d.isRow = false) (h : wpQuiet P ops (fun w' => Chg [] W w') R rest (a.put o.dst v)) : wpQuiet P ops (fun w' => Chg [] W w') R (o :: rest) a := by
  refine wpQuiet_step fun K hK => ?_
  rw [if_pos hw]
  refine ⟨v, fun w hw => ?_, hK _ h⟩
  unfold Oper.quietAt execOp
  simp only [ho, hx, Sem.run_bind, run_load_cell w p ty d v (hw.cellv hc (by simp)) hu hd]
  exact ⟨rfl, rfl⟩
end Go.Proofs.YtdclbhmmpdngpaaDoor
