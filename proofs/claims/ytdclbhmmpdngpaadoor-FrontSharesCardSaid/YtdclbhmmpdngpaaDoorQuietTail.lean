/-
  A region that draws its order: all operations but the last few read, or call what only reads; the last few stand in one forced order. One walk serves: the quiet head in the text's order, then the tail as a list.
  (The head's invariant and the Bool over the region are Derived/StillTail.lean's own; the class of worlds is Derived/Deep/Quiet.lean's.)
-/
import Derived.StillTail
import Derived.Deep.QuietTactic
import Derived.BigQuiet
import Derived.Deep.MidRow
import Derived.Test.YtdclbhmmpdngpaaDoorBase
namespace Go.Proofs.YtdclbhmmpdngpaaDoor
set_option linter.unusedSimpArgs false
set_option linter.unusedVariables false
open Go.RowKit

section
variable {P : Program} {ops : Array Oper} {md : Region.Mode} {C : World → Prop}

/-- f operations of the head are still to come, in whatever order; then L. -/
def headQ (P : Program) (md : Region.Mode) (ops : Array Oper) (C : World → Prop) (n : Nat) (L : Array Bool → Act → Prop) : Nat → Array Bool → Act → Prop
  | 0, done, a => L done a
  | f + 1, done, a => Region.ready md ops done ≠ [] ∧ ∀ i ∈ Region.ready md ops done, i < n ∧ qOp P ops C i (headQ P md ops C n L f (done.setIfInBounds i true)) a

theorem headQ_any {n g : Nat} {L : Array Bool → Act → Prop} {R : Exit → Act → World → Prop} (hL : ∀ done a w, C w → L done a → wpAny P md ops R g done a w) (f : Nat) :
    ∀ (done : Array Bool) (a : Act) (w : World), C w → headQ P md ops C n L f done a → wpAny P md ops R (f + g) done a w := by
  induction f with
  | zero =>
    intro done a w hw h
    rw [Nat.zero_add]
    exact hL _ _ _ hw h
  | succ f ih =>
    intro done a w hw h
    rw [Nat.succ_add]
    refine ⟨fun e => absurd e h.1, fun i hi => ?_⟩
    exact wpOp_of_qOp hw (fun a' w' hw' h' => ih _ a' w' hw' h') (h.2 i hi).2

/-- Nothing of the tail comes up while an operation of the head is still to come. -/
theorem head_only {n i : Nat} {done : Array Bool} (hs : Region.sinkB md ops n = true) (hc : Region.chainB md ops n = true) (hn : n < ops.size) (inv : HeadInv md ops n done) (hin : i < n) (hun : done.getD i true = false) :
    ∀ j ∈ Region.ready md ops done, j < n := by
  intro j hj
  refine Decidable.byContradiction fun h => ?_
  exact tail_waits hs hc hn inv _ i rfl hin hun j (by omega) hj

theorem headQ_first {n i : Nat} {oi : Oper} {v : Value} {L : Array Bool → Act → Prop} (hi : ops[i]? = some oi) (hsel : ∀ (j : Nat) (o : Oper) cs b, ops[j]? = some o → o.op ≠ .select cs b)
    (hs : Region.sinkB md ops n = true) (hc : Region.chainB md ops n = true) (hn : n < ops.size) (hin : i < n) (hL : ∀ done a, L done a → ∀ j ∈ Region.ready md ops done, n ≤ j) (f : Nat) :
    ∀ (done : Array Bool) (a : Act), HeadInv md ops n done →
      (∀ j oj, ops[j]? = some oj → j ≠ i → done.getD j true = false → (∀ e ∈ oj.after, Region.binds md e = true → e.on ≠ i) → oi.apart ops oj = true) →
      i ∈ Region.ready md ops done → YieldsIn P ops C oi v a → headQ P md ops C n L f (done.setIfInBounds i true) (a.put oi.dst v) → headQ P md ops C n L (f + 1) done a := by
  have start : ∀ {done : Array Bool}, i ∈ Region.ready md ops done → Region.ready md ops done ≠ [] := fun h e => by rw [e] at h; cases h
  induction f with
  | zero =>
    intro done a inv _ hr hy h
    refine ⟨start hr, fun j hj => ⟨head_only hs hc hn inv hin (mem_ready.1 hr).1 j hj, ?_⟩⟩
    by_cases e : j = i
    · subst e; exact hy.qOp hi h
    · have h1 := hL _ _ h j (ready_mono hj e)
      have h2 := head_only hs hc hn inv hin (mem_ready.1 hr).1 j hj
      omega
  | succ f ih =>
    intro done a inv free hr hy h
    refine ⟨start hr, fun j hj => ?_⟩
    have hjn := head_only hs hc hn inv hin (mem_ready.1 hr).1 j hj
    refine ⟨hjn, ?_⟩
    by_cases e : j = i
    · subst e; exact hy.qOp hi h
    · obtain ⟨hjun, oj, hoj, hall⟩ := mem_ready.1 hj
      have away : ∀ d ∈ oj.after, Region.binds md d = true → d.on ≠ i := by
        intro d hd hb heq
        have h1 := hall d hd hb
        rw [heq, getD_both (mem_ready.1 hr).1] at h1
        cases h1
      have h2 := qOp_put hoj (free j oj hoj e hjun away) (fun cs b => hsel i oi cs b hi) (fun cs b => hsel j oj cs b hoj) hy (h.2 j (ready_mono hj e)).2
      refine qOp_mono (fun a' h3 => ?_) h2
      refine ih (done.setIfInBounds j true) a' (inv.set hj hjn) (fun k ok hk hki hun hno => ?_) (ready_mono hr (Ne.symm e)) h3.1 ?_
      · refine free k ok hk hki ?_ hno
        by_cases ejk : j = k
        · subst ejk; exact hjun
        · rwa [getD_set_ne true ejk] at hun
      · rw [Array.setIfInBounds_comm _ _ e]
        exact h3.2

theorem headQ_lex {n g : Nat} {R : Act → Prop} (hsel : Region.noSelect ops = true) (hs : Region.sinkB md ops n = true) (hc : Region.chainB md ops n = true) (hn : n < ops.size) (l : List Oper) :
    ∀ (k : Nat) (done : Array Bool) (a : Act), (∀ j, j < l.length → l[j]? = ops[k + j]?) → k + l.length = n → HeadInv md ops n done → Region.lexHead md ops g l.length k done = true → wpQuiet P ops C R l a →
    headQ P md ops C n (fun d a' => Region.seqB md ops g n d = true ∧ R a') l.length done a := by
  induction l with
  | nil =>
    intro k done a _ hk _ hB h
    obtain rfl : k = n := by simpa using hk
    exact ⟨hB, h⟩
  | cons o l ih =>
    intro k done a hl hk inv hB h
    have h0 : ops[k]? = some o := by
      have := hl 0 (by simp)
      simpa using this.symm
    rw [List.length_cons] at hB hk
    simp only [Region.lexHead, Bool.and_eq_true] at hB
    obtain ⟨⟨hr, hf⟩, hB'⟩ := hB
    have hkr : k ∈ Region.ready md ops done := List.contains_iff_mem.1 hr
    have hq : qOp P ops C k (wpQuiet P ops C R l) a := by
      unfold qOp
      simp only [h0]
      exact h
    obtain ⟨v, hy, hK⟩ := yieldsIn_of_qOp h0 hq
    refine headQ_first h0 (Region.noSelect_spec hsel) hs hc hn (by omega) (fun d a' h' => seqB_ready h'.1) l.length done a inv (Region.free_spec h0 hf) hkr hy ?_
    refine ih (k + 1) _ _ (fun j hj => ?_) (by omega) (inv.set hkr (by omega)) hB' hK
    have := hl (j + 1) (by simp; omega)
    rw [List.getElem?_cons_succ] at this
    rw [this, Nat.add_assoc, Nat.add_comm 1 j]

theorem region_quiet_tail {id : Nat} {Q : Exit → Act → World → Prop} {a : Act} {w : World} {l : List Oper} (n : Nat) (hm : P.follows .mixedOrders = true) (hB : Region.lexTailB .any l.toArray n = true)
    (h : wpQuiet P l.toArray (fun w' => ∃ m, w' = w.drewN m) (fun a' => ∀ m, wpList P l.toArray Q (l.drop n) a' (w.drewN m)) (l.take n) a) : (Code.region id l.toArray true).wp P Q a w := by
  simp only [Region.lexTailB, Bool.and_eq_true, decide_eq_true_eq] at hB
  obtain ⟨⟨⟨⟨hsel, hn⟩, hs⟩, hc⟩, hlex⟩ := hB
  have hn' : n < l.length := by simpa using hn
  have ht : (l.take n).length = n := List.length_take_of_le (by omega)
  have hd : (l.drop n).length = l.toArray.size - n := by simp
  have inv : HeadInv .any l.toArray n (Array.replicate l.toArray.size false) :=
    ⟨by simp, fun j oj _ hl => absurd hl (by rw [getD_replicate_false]; simp), fun t _ ht => getD_in (by simpa using ht) (getD_replicate_false _ _)⟩
  have H := headQ_lex (md := .any) (g := l.toArray.size - n) hsel hs hc hn (l.take n) 0 _ a (fun j hj => by
    have : j < n := by omega
    simp [this]) (by omega) inv (by rw [ht]; exact hlex) h
  refine wp_region_any hm ?_
  have fin := headQ_any (R := Q) (g := l.toArray.size - n) (fun d a' w' hw' hL => by
    obtain ⟨m, rfl⟩ := hw'
    have := wpAny_of_seq (md := .any) (Q' := Q) (l.drop n) n d a' (w.drewN m) (fun j => by simp [List.getElem?_drop]) (by rw [hd]; exact hL.1) (hL.2 m)
    rwa [hd] at this) _ _ _ { w with drawn := w.drawn + 1 } ⟨1, rfl⟩ H
  rw [ht, show n + (l.toArray.size - n) = l.toArray.size by omega] at fin
  exact fin

/-- The same, where the head's callees may make new memory. -/
theorem region_quiet_tailC {id : Nat} {Q : Exit → Act → World → Prop} {a : Act} {w : World} {l : List Oper} (n : Nat) (hm : P.follows .mixedOrders = true) (hB : Region.lexTailB .any l.toArray n = true)
    (h : wpQuiet P l.toArray (fun w' => Chg [] w w') (fun a' => ∀ w', Chg [] w w' → wpList P l.toArray Q (l.drop n) a' w') (l.take n) a) : (Code.region id l.toArray true).wp P Q a w := by
  simp only [Region.lexTailB, Bool.and_eq_true, decide_eq_true_eq] at hB
  obtain ⟨⟨⟨⟨hsel, hn⟩, hs⟩, hc⟩, hlex⟩ := hB
  have hn' : n < l.length := by simpa using hn
  have ht : (l.take n).length = n := List.length_take_of_le (by omega)
  have hd : (l.drop n).length = l.toArray.size - n := by simp
  have inv : HeadInv .any l.toArray n (Array.replicate l.toArray.size false) :=
    ⟨by simp, fun j oj _ hl => absurd hl (by rw [getD_replicate_false]; simp), fun t _ ht => getD_in (by simpa using ht) (getD_replicate_false _ _)⟩
  have H := headQ_lex (md := .any) (g := l.toArray.size - n) hsel hs hc hn (l.take n) 0 _ a (fun j hj => by
    have : j < n := by omega
    simp [this]) (by omega) inv (by rw [ht]; exact hlex) h
  refine wp_region_any hm ?_
  have fin := headQ_any (R := Q) (g := l.toArray.size - n) (fun d a' w' hw' hL => by
    have := wpAny_of_seq (md := .any) (Q' := Q) (l.drop n) n d a' w' (fun j => by simp [List.getElem?_drop]) (by rw [hd]; exact hL.1) (hL.2 w' hw')
    rwa [hd] at this) _ _ _ { w with drawn := w.drawn + 1 } (Chg.drew [] w) H
  rw [ht, show n + (l.toArray.size - n) = l.toArray.size by omega] at fin
  exact fin
/-- A region all of whose operations read, or call what at most makes new memory and hands back what holds no address of it. -/
theorem region_quietC {id : Nat} {Q : Exit → Act → World → Prop} {a : Act} {w : World} {l : List Oper} (hm : P.follows .mixedOrders = true) (hB : Region.lexB .any l.toArray = true)
    (h : wpQuiet P l.toArray (fun w' => Chg [] w w') (fun a' => ∀ w', Chg [] w w' → Q .normal a' w') l a) : (Code.region id l.toArray true).wp P Q a w :=
  wp_region_quiet (C := fun w' => Chg [] w w') hm hB (Chg.drew [] w) (by simpa using h)
/-- A contract, met in a world of the class. -/
theorem Calls.quietC {f : FuncId} {args : Array Value} {w wx : World} {v : Value} (hx : Chg [] w wx)
    (h : Calls P f args wx fun e w' => e = .returned v ∧ Chg [] wx w') : Calls P f args wx fun e w'' => e = .returned v ∧ Chg [] w w'' :=
  h.mono fun _ _ ⟨he, hm⟩ => ⟨he, hx.t0 hm⟩

theorem Chg.range {w w' : World} {S : List Nat} (h : Chg S w w') {p off : Nat} {cs : List Value} (hc : w.rangeAt p off cs) (hp : p ∉ S) : w'.rangeAt p off cs :=
  fun j v hj => h.cellv (hc j v hj) hp
theorem ra1 {w : World} {b o : Nat} {x : Value} (h0 : w.cell? ⟨b, o, none⟩ = some x) : w.rangeAt b o [x] := by
  intro j v hj
  match j with
  | 0 => simp at hj; subst hj; exact h0
  | j + 1 => simp at hj
theorem ra2 {w : World} {b o : Nat} {x y : Value} (h0 : w.cell? ⟨b, o, none⟩ = some x) (h1 : w.cell? ⟨b, o + 1, none⟩ = some y) : w.rangeAt b o [x, y] := by
  intro j v hj
  match j with
  | 0 => simp at hj; subst hj; exact h0
  | 1 => simp at hj; subst hj; exact h1
  | j + 2 => simp at hj
/-- The cells of a block that is known whole. -/
theorem ra_block {w : World} {b : Nat} {C : Array Value} {t : TypeId} {fr : Nat × Nat} (hb : w.heap[b]? = some (.cells C t fr)) : w.rangeAt b 0 C.toList := by
  have h := World.rangeAt_of_block hb 0 C.size
  simpa using h
theorem heap_lit_old {w : World} {o p : Obj} {k : Nat} (h : w.heap[k]? = some o) : (w.alloc p).heap[k]? = some o := by
  have := lt_of_heap h
  rw [Below.heap_alloc _ _ _ this]; exact h
theorem heap_lit_new (w : World) (o : Obj) (k : Nat) (h : k = w.heap.size) : (w.alloc o).heap[k]? = some o := by subst h; exact heap_alloc_new w o

/-- In a quiet head: a struct or an array is loaded, which lies so in the base world. -/
theorem quiet_loadC {W : World} {R : Act → Prop} {rest : List Oper} {a : Act} {o : Oper} (hw : Region.wanted o (yielded ops a.tmps) = true) (ty : TypeId) (x : Operand) (ho : o.op = .load ty x) (p off : Nat) (hx : a.eval x = .pointer (some ⟨p, off, none⟩))
    (cs : List Value) (d : TypeDesc) (hr : W.rangeAt p off cs) (hu : P.underlying ty = some d) (hd : d.isRow = true) (hi : (P.info? ty).map (·.size) = some cs.length) (h : wpQuiet P ops (fun w' => Chg [] W w') R rest (a.put o.dst (.agg cs.toArray))) : wpQuiet P ops (fun w' => Chg [] W w') R (o :: rest) a := by
  refine wpQuiet_step fun K hK => ?_
  rw [if_pos hw]
  refine ⟨.agg cs.toArray, fun w hw => ?_, hK _ h⟩
  unfold Oper.quietAt execOp
  simp only [ho, hx, Instr.loadAt, Instr.sureAddr, Sem.run_bind, Sem.run_pure, Result.andThen_ok, run_loadVar_mid w p off ty cs d (hw.range hr (by simp)) hu hd hi]
  exact ⟨rfl, rfl⟩
end
end Go.Proofs.YtdclbhmmpdngpaaDoor
