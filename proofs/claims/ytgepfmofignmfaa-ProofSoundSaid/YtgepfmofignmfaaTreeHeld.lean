/-
  A new block of 32 bytes in a region that draws its order; what a log's call keeps of digests.
-/
import Derived.Test.YtgepfmofignmfaaTreeSmall
import Derived.Test.YtgepfmofignmfaaSoftR
namespace Go.Proofs.Ytgepfmofignmfaa
set_option linter.unusedSimpArgs false
set_option linter.unusedVariables false
open Go.RowKit


theorem exec_alloc_z {P : Program} {o : Oper} {a : Act} {w : World} (t : TypeId) (ho : o.op = .alloc t) (z : Value) (hz : (P.info? t).map (·.zero) = some (some z)) :
    (execOp a.eval o).run P w = .ok (.value (.pointer (some ⟨w.heap.size, 0, none⟩))) (w.alloc (.cells z.cells t)) := by
  cases hq : P.info? t with
  | none => simp [hq] at hz
  | some i =>
    have hi : i.zero = some z := by simpa [hq] using hz
    unfold execOp
    simp [ho, Sem.run_bind, Instr.alloc, newVar, newRow, run_newObj_alloc, Sem.run_pure, Result.andThen, zeroValue, typeInfo, hq, hi]
/-- A block of 32 bytes, newer than some size. -/
def New32 (B : Nat) (v : Value) (w : World) : Prop := ∃ q, v = .pointer (some ⟨q, 0, none⟩) ∧ B ≤ q ∧ w.heap[q]? = some (.cells (bcs (List.replicate 32 0)).toArray 32 (0, 0))
theorem New32.tr {B : Nat} {v : Value} {w w' : World} {S : List Nat} (h : New32 B v w) (g : Chg S w w') (hS : ∀ j ∈ S, j < B) : New32 B v w' := by
  obtain ⟨q, h1, h2, h3⟩ := h
  exact ⟨q, h1, h2, g.heap h3 fun hm => by have := hS _ hm; omega⟩
theorem soft_new32 {ops : Array Oper} {Q : Exit → Act → World → Prop} {o : Oper} {a : Act} {w : World} {B : Nat} (hw : Region.wanted o (yielded ops a.tmps) = true) (ho : o.op = .alloc 32) (hB : B ≤ w.heap.size) : softStep Try.prog ops Q o a w (New32 B) := by
  refine soft_made hw (exec_alloc_z 32 ho (.agg (Array.replicate 32 (.int .u8 0))) (by kernel_rfl)) (Chg.alloc [] w _) ⟨_, rfl, hB, ?_⟩
  rw [heap_alloc_new]
  have e : (bcs (List.replicate 32 0)).toArray = Array.replicate 32 (Value.int .u8 0) := by
    apply Array.ext'
    simp [bcs]
  rw [e]; rfl
/-- What a log's call keeps: blocks of digests. -/
def LogRel (p : Nat) (w w' : World) : Prop := ∀ q (l : Bytes), q ≠ p → w.heap[q]? = some (.cells (bcs l).toArray 32 (0, 0)) → w'.heap[q]? = some (.cells (bcs l).toArray 32 (0, 0))
theorem LogAt.rel {w w' : World} {p base : Nat} {v : Value} {F : RowsB} (hL : LogAt w p base v F) (g : Chg (p :: v.ownBlock.toList) w w') : LogRel p w w' := fun _ _ hq h => hL.dig g hq h
theorem New32.rel {B p : Nat} {v : Value} {w w' : World} (h : New32 B v w) (hp : p < B) (g : LogRel p w w') : New32 B v w' := by
  obtain ⟨q, h1, h2, h3⟩ := h
  exact ⟨q, h1, h2, g q _ (by omega) h3⟩
theorem New32.staysR {B p : Nat} (hp : p < B) : Stays (New32 B) ∧ ∀ (m : Nat) v w w', New32 B v w → (fun _ => LogRel p) m w w' → New32 B v w' :=
  ⟨fun _ _ _ h g => h.tr g (by simp), fun _ _ _ _ h g => h.rel hp g⟩
/-- 'load t p' of what lies somewhere, guarded or not. -/
theorem load_raG {P : Program} {ops : Array Oper} {rest : List Oper} {o : Oper} {a : Act} {w : World} {Q : Exit → Act → World → Prop} (hw : Region.wanted o (yielded ops a.tmps) = true) (ty : TypeId) (x : Operand) (ho : o.op = .load ty x) (p off : Nat) (hx : a.eval x = .pointer (some ⟨p, off, none⟩))
    (cs : List Value) (d : TypeDesc) (hr : w.rangeAt p off cs) (hu : P.underlying ty = some d) (hd : d.isRow = true) (hi : (P.info? ty).map (·.size) = some cs.length) (h : wpList P ops Q rest (a.put o.dst (.agg cs.toArray)) w) : wpList P ops Q (o :: rest) a w := by
  refine wpList_step fun K hK => ?_
  rw [if_pos hw]
  unfold Oper.wp execOp
  simp only [ho, hx, Instr.loadAt, Instr.sureAddr, Sem.run_bind, Sem.run_pure, Result.andThen_ok, run_loadVar_mid w p off ty cs d hr hu hd hi]
  exact hK _ _ h
end Go.Proofs.Ytgepfmofignmfaa
