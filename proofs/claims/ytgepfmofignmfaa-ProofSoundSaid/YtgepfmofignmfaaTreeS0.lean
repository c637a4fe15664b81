/-
  Small leaves, reckoned; contracts of package tree at them.
-/
import Derived.Test.YtgepfmofignmfaaTreeRoot
import Derived.Test.YtgepfmofignmfaaSha12
import Derived.Great.BuildSlice
namespace Go.Proofs.Ytgepfmofignmfaa
set_option linter.unusedSimpArgs false
set_option linter.unusedVariables false
open Go.RowKit

/-- A slice literal of digests. -/
theorem run_build_digs {P : Program} (w : World) (t e : TypeId) (n : Nat) (Ls : List Bytes) (hn : n = Ls.length) (h32 : ∀ x ∈ Ls, x.length = 32) (h0 : 0 < Ls.length) (hs : Ls.length ≤ 1000) (parts : Array (Nat × Value)) (hp : parts.toList = ((Ls.map dv).zipIdx 0).map fun x => (x.2, x.1))
    (hu : P.underlying t = some (.slice e)) (hsz : (P.info? e).map (·.size) = some 32) (hz : ((P.info? e).bind (·.zero)).isSome = true) :
    (Instr.buildSlice t n parts).run P w = .ok (.slice (some ⟨w.heap.size, 0, none⟩) n n) (w.alloc (.cells (Ls.flatMap bcs).toArray e)) := by
  subst hn
  cases hie : P.info? e with
  | none => simp [hie] at hsz
  | some ie =>
    simp only [hie, Option.map_some, Option.some.injEq, Option.bind_some] at hsz hz
    obtain ⟨z, hzz⟩ := Option.isSome_iff_exists.1 hz
    refine run_buildSlice w t e Ls.length parts _ ie z hu hie hzz (by rw [hsz]; omega) (by rw [hsz]; omega) ?_
    rw [hp, hsz]
    have h1 : ∀ v ∈ Ls.map dv, v.cells.size = 32 := fun v hv => by
      obtain ⟨x, hx, rfl⟩ := List.mem_map.1 hv
      simp [dv, Value.cells, bcs_length, h32 x hx]
    rw [Great.fill_whole (by decide) (Ls.map dv) _ h1 (by simp)]
    congr 2
    rw [List.flatMap_map]
    rfl
theorem wpList_build_digs {P : Program} {ops : Array Oper} {rest : List Oper} {o : Oper} {a : Act} {w : World} {Q : Exit → Act → World → Prop} (hg : o.guard = none) (t e : TypeId) (n : Nat) (parts : Array (Nat × Operand)) (ho : o.op = .buildSlice t n parts) (Ls : List Bytes) (hn : n = Ls.length) (h32 : ∀ x ∈ Ls, x.length = 32) (h0 : 0 < Ls.length) (hs : Ls.length ≤ 1000)
    (hp : (parts.map fun (i, x) => (i, a.eval x)).toList = ((Ls.map dv).zipIdx 0).map fun x => (x.2, x.1))
    (hu : P.underlying t = some (.slice e)) (hsz : (P.info? e).map (·.size) = some 32) (hz : ((P.info? e).bind (·.zero)).isSome = true)
    (h : wpList P ops Q rest (a.put o.dst (.slice (some ⟨w.heap.size, 0, none⟩) n n)) (w.alloc (.cells (Ls.flatMap bcs).toArray e))) : wpList P ops Q (o :: rest) a w := by
  refine wpList_plain hg fun K hK => ?_
  unfold Oper.wp execOp
  simp only [ho, Sem.run_bind, run_build_digs w t e n Ls hn h32 h0 hs _ hp hu hsz hz, Result.andThen_ok]
  exact hK _ _ h
theorem exec_build_digs {P : Program} {o : Oper} {a : Act} {w : World} (t e : TypeId) (n : Nat) (parts : Array (Nat × Operand)) (ho : o.op = .buildSlice t n parts) (Ls : List Bytes) (hn : n = Ls.length) (h32 : ∀ x ∈ Ls, x.length = 32) (h0 : 0 < Ls.length) (hs : Ls.length ≤ 1000)
    (hp : (parts.map fun (i, x) => (i, a.eval x)).toList = ((Ls.map dv).zipIdx 0).map fun x => (x.2, x.1))
    (hu : P.underlying t = some (.slice e)) (hsz : (P.info? e).map (·.size) = some 32) (hz : ((P.info? e).bind (·.zero)).isSome = true) :
    (execOp a.eval o).run P w = .ok (.value (.slice (some ⟨w.heap.size, 0, none⟩) n n)) (w.alloc (.cells (Ls.flatMap bcs).toArray e)) := by
  unfold execOp
  simp only [ho, Sem.run_bind, run_build_digs w t e n Ls hn h32 h0 hs _ hp hu hsz hz, Result.andThen_ok]
  rfl
theorem Dg.lit (w : World) (Ls : List Bytes) (h32 : ∀ x ∈ Ls, x.length = 32) (h0 : 0 < Ls.length) (hs : Ls.length ≤ 1000) (e n : Nat) (hn : n = Ls.length) : Dg (w.alloc (.cells (Ls.flatMap bcs).toArray e)) (.slice (some ⟨w.heap.size, 0, none⟩) n n) Ls := by
  subst hn
  refine ⟨?_, h32⟩
  have := Sl.lit w (Ls.flatMap bcs).toArray e Ls.length (by unfold maxLen; omega) (fun h => by omega)
  simpa using this

def pageS : Bytes := [112, 97, 103, 101]
def PA : Bytes := [4, 112, 97, 103, 101, 3, 8, 0, 0, 0, 0, 0, 0, 0, 0, 0, 0, 0, 0, 0, 0, 0, 8, 0, 0, 0, 0, 0, 0, 0, 2, 0, 0, 0, 0, 0, 0, 0, 1, 0, 0, 0, 0, 0, 0, 0, 120]
def PB : Bytes := [4, 112, 97, 103, 101, 3, 8, 0, 0, 0, 0, 0, 0, 0, 1, 0, 0, 0, 0, 0, 0, 0, 8, 0, 0, 0, 0, 0, 0, 0, 2, 0, 0, 0, 0, 0, 0, 0, 0, 0, 0, 0, 0, 0, 0, 0]
theorem page_a : frameB pageS (leafP 0 2 [120]) = PA := by decide +kernel
theorem page_b : frameB pageS (leafP 1 2 []) = PB := by decide +kernel
theorem pok_a : frameOk pageS (leafP 0 2 [120]) = true := by decide +kernel
theorem pok_b : frameOk pageS (leafP 1 2 []) = true := by decide +kernel
theorem sum_pa : (sumB PA).getD 0 0 = 0xd8 := by
  rw [← sumR_eq PA (by decide)]
  decide +kernel
theorem sum_pb : (sumB PB).getD 0 0 = 0x0d := by
  rw [← sumR_eq PB (by decide)]
  decide +kernel
theorem page_ne : hashV pageS (leafP 0 2 [120]) ≠ hashV pageS (leafP 1 2 []) := fun e => by
  rw [hashV, hashV, if_pos pok_a, if_pos pok_b, page_a, page_b] at e
  have h1 := sum_pa
  rw [e, sum_pb] at h1
  exact absurd h1 (by decide)
theorem pa_len : (frameB pageS (leafP 0 2 [120])).length ≤ 1000 := by rw [page_a]; decide
theorem pb_len : (frameB pageS (leafP 1 2 [])).length ≤ 1000 := by rw [page_b]; decide
theorem sp5 : ((splitV (5 : Int).toNat : Nat) : Int) = 4 := by decide +kernel
theorem sp4 : ((splitV (4 : Int).toNat : Nat) : Int) = 2 := by decide +kernel
theorem sp1 : ((splitV (1 : Int).toNat : Nat) : Int) = 0 := by decide +kernel
theorem dp5 : ((depthV (5 : Int).toNat : Nat) : Int) = 3 := by decide +kernel
theorem dp1 : ((depthV (1 : Int).toNat : Nat) : Int) = 0 := by decide +kernel
theorem split2 : splitV 2 = 1 := by decide +kernel
theorem tree2 (a b : Bytes) : treeV [a, b] = (hashV nodeS [a, b], [frameB nodeS [a, b]]) := by
  rw [treeV_many (by simp)]
  simp [split2, treeV_one]
/-- Two digests in a row of their own. -/
theorem Dg.mk2 (w : World) (a b : Bytes) (ha : a.length = 32) (hb : b.length = 32) (e : Nat) (C : Array Value) (hC : C = (bcs a ++ bcs b).toArray) : Dg (w.alloc (.cells C e)) (.slice (some ⟨w.heap.size, 0, none⟩) 2 2) [a, b] := by
  subst hC
  refine ⟨?_, by simp [ha, hb]⟩
  have := Sl.lit w (bcs a ++ bcs b).toArray e 2 (by decide)
  simpa using this
theorem Dg.mk1 (w : World) (a : Bytes) (ha : a.length = 32) (e : Nat) (C : Array Value) (hC : C = (bcs a).toArray) : Dg (w.alloc (.cells C e)) (.slice (some ⟨w.heap.size, 0, none⟩) 1 1) [a] := by
  subst hC
  refine ⟨?_, by simp [ha]⟩
  have := Sl.lit w (bcs a).toArray e 1 (by decide)
  simpa using this
/-- A digest's block is none of the log's. -/
theorem LogAt.dig {w w' : World} {p base q : Nat} {v : Value} {F : RowsB} {l : Bytes} (hL : LogAt w p base v F) (g : Chg (p :: v.ownBlock.toList) w w') (hq : q ≠ p) (h : w.heap[q]? = some (.cells (bcs l).toArray 32 (0, 0))) : w'.heap[q]? = some (.cells (bcs l).toArray 32 (0, 0)) := by
  refine g.heap h fun hm => ?_
  rcases List.mem_cons.1 hm with e | e
  · exact hq e
  · exact ownB_not hL.rows.1 h (by decide) (by simpa using e)
theorem LogAt.chg {W w w' : World} {p base : Nat} {v : Value} {F : RowsB} (hL : LogAt w p base v F) (c : Chg [] W w) (hp : W.heap.size ≤ p) (hb : W.heap.size ≤ base) (g : Chg (p :: v.ownBlock.toList) w w') : Chg [] W w' := by
  refine c.trans g fun x hx => .inr ?_
  rcases List.mem_cons.1 hx with rfl | e
  · exact hp
  · exact Nat.le_trans hb (hL.rows.1.lt x (by simpa using e)).1
theorem LogAt.store {w w' : World} {p base q : Nat} {v : Value} {F : RowsB} {cs : Array Value} {f : Nat × Nat} (hL : LogAt w p base v F) (g : Chg [q] w w') (hq : p ≠ q) (h : w.heap[q]? = some (.cells cs 32 f)) : LogAt w' p base v F :=
  ⟨g.heap hL.cell (by simpa using hq), hL.rows.trT g h (by decide) (by decide)⟩
/-- A slice that was there before the log is none of the log's. -/
theorem LogAt.apart {W w : World} {p base : Nat} {v u : Value} {F : RowsB} {n : Nat} {cs : List Value} (hL : LogAt w p base v F) (hs : Sl W u n cs) (hp : W.heap.size ≤ p) (hb : W.heap.size ≤ base) : ∀ k, vblk u = some k → k ≠ p ∧ v.ownBlock ≠ some k := by
  intro k hk
  have h := hs.lt k hk
  exact ⟨by omega, fun e => by have := (hL.rows.1.lt k e).1; omega⟩
/-- Frames that are short. -/
def Short (L : List Bytes) : Prop := ∀ f ∈ L, f.length ≤ 10000
theorem Short.app {A B : List Bytes} (h : Short A) (k : Short B) : Short (A ++ B) := fun f hf => by
  rcases List.mem_append.1 hf with hf | hf
  · exact h f hf
  · exact k f hf
theorem Short.nil : Short [] := fun _ h => absurd h (by simp)
theorem Short.one {f : Bytes} (h : f.length ≤ 1000) : Short [f] := fun g hg => by rw [List.mem_singleton.1 hg]; omega
theorem Short.rows {F : RowsB} (h : Short (F.map (·.2))) : ∀ x ∈ F, x.2.length ≤ 2147483647 := fun x hx => Nat.le_trans (h x.2 (List.mem_map.2 ⟨x, hx, rfl⟩)) (by decide)
theorem Short.tree {L : List Bytes} (h : ∀ x ∈ L, x.length = 32) : Short (treeV L).2 := fun f hf => Nat.le_trans (treeV_short h f hf) (by decide)
theorem Short.leaf {s d : Bytes} {k n : Int} (hs : s.length ≤ 400) (hd : d.length ≤ 1000) : Short (logB s (leafP k n d)) := fun f hf => by
  unfold logB at hf
  split at hf
  · rw [List.mem_singleton.1 hf]
    simp [frameB, leafP, partB_len, lowb8_len]
    omega
  · simp at hf
theorem short_none : (frameB noneS []).length ≤ 1000 := by decide
end Go.Proofs.Ytgepfmofignmfaa
