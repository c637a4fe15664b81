/-
  ShaSteps.
-/
import Derived.Test.YtfodlkofjmbolaaProg
import Derived.Test.YtfodlkofjmbolaaSha12
import Derived.Stop.BytesEq
import Derived.Deep.RegionHeld3
namespace Go.Proofs.Ytfodlkofjmbolaa
open Go.RowKit

/-- An array of words is equal to itself. -/
theorem eqlIn_words {P : Program} (w : World) (d : Nat) (t e n : Nat) (ht : P.underlying t = some (.array n e)) (he : P.underlying e = some (.int .u32)) (hsz : ∀ w, (sizeOf e).run P w = .ok 1 w) (xs : List W32) (hx : xs.length = n) :
    (Op.equalIn (d + 2) t (aw xs) (aw xs)).run P w = .ok true w := by
  unfold aw
  rw [Op.equalIn]
  simp only [Sem.run_bind, run_underlying ht, Result.andThen_ok, hsz, Std.Legacy.Range.forIn_eq_forIn_range', Std.Legacy.Range.size, Nat.sub_zero, Nat.add_sub_cancel, Nat.div_one]
  have hl : ∀ i ∈ List.range' 0 n 1, i < n := fun i hi => by simpa using (List.mem_range'_1.1 hi).2
  generalize List.range' 0 n 1 = l at hl ⊢
  induction l with
  | nil => simp
  | cons i l ih =>
    have hi : i < xs.length := by have := hl i (by simp); omega
    have px : (Go.part e (wcs xs).toArray (i * 1)).run P w = .ok (wv (xs.getD i 0#32)) w := by
      simp [Go.part, isAgg, run_underlying he, wcs, List.getD, List.getElem?_eq_getElem hi]
    have pe : (Op.equalIn (d + 1) e (wv (xs.getD i 0#32)) (wv (xs.getD i 0#32))).run P w = .ok true w := by
      rw [wv, run_equalIn_int w d e .u32 .u32 _ _ he]
      simp
    simp only [List.forIn_cons, Sem.run_bind, px, pe, Result.andThen_ok, Bool.not_true, Bool.false_eq_true, if_false, Sem.run_pure]
    exact ih fun j hj => hl j (by simp [hj])
theorem eql_words {P : Program} (w : World) (t e n : Nat) (ht : P.underlying t = some (.array n e)) (he : P.underlying e = some (.int .u32)) (hsz : ∀ w, (sizeOf e).run P w = .ok 1 w) (xs : List W32) (hx : xs.length = n) :
    (binOp .eql t (aw xs) (aw xs)).run P w = .ok (.bool true) w := by
  have h := eqlIn_words w 9998 t e n ht he hsz xs hx
  unfold aw at h ⊢
  rw [run_eql_struct, h]
  rfl

theorem eqg_agg {P : Program} (w : World) (t : TypeId) (x y : Operand) (xs ys : Array Value) (h : P.eqGuardType P.depth t = false) : (eqGuard .eql t x y (.agg xs) (.agg ys)).run P w = .ok () w := by
  simp [eqGuard, Sem.run_bind, h, Result.andThen]
/-- A drawn region whose operations read, or call what makes new memory only: one walk. -/
theorem region_quiet_new {P : Program} {id : Nat} {Q : Exit → Act → World → Prop} {a : Act} {w : World} {l : List Oper} (hm : P.follows .mixedOrders = true) (hB : Region.lexB .any l.toArray = true)
    (h : wpQuiet P l.toArray (fun w' => Chg [] w w') (fun a' => ∀ w', Chg [] w w' → Q .normal a' w') l a) : (Code.region id l.toArray true).wp P Q a w :=
  wp_region_quiet (C := fun w' => Chg [] w w') hm hB (Chg.drew [] w) (by simpa using h)
theorem quiet_load_g {P : Program} {ops : Array Oper} {C : World → Prop} {R : Act → Prop} {rest : List Oper} {a : Act} {o : Oper} (hw : Region.wanted o (yielded ops a.tmps) = true) (ty : TypeId) (x : Operand) (ho : o.op = .load ty x) (p off : Nat) (hx : a.eval x = .pointer (some ⟨p, off, none⟩))
    (cs : List Value) (d : TypeDesc) (hc : ∀ w, C w → w.rangeAt p off cs) (hu : P.underlying ty = some d) (hd : d.isRow = true) (hi : (P.info? ty).map (·.size) = some cs.length) (h : wpQuiet P ops C R rest (a.put o.dst (.agg cs.toArray))) : wpQuiet P ops C R (o :: rest) a := by
  refine wpQuiet_step fun K hK => ?_
  rw [if_pos hw]
  refine ⟨.agg cs.toArray, fun w hw => ?_, hK _ h⟩
  unfold Oper.quietAt execOp
  simp only [ho, hx, Instr.loadAt, Instr.sureAddr, Sem.run_bind, Sem.run_pure, Result.andThen_ok, run_loadVar_mid w p off ty cs d (hc w hw) hu hd hi]
  exact ⟨rfl, rfl⟩

/-- An operation that yields v in every world of the class. -/
theorem quiet_val {P : Program} {ops : Array Oper} {C : World → Prop} {R : Act → Prop} {rest : List Oper} {a : Act} {o : Oper} (hw : Region.wanted o (yielded ops a.tmps) = true) (v : Value)
    (hr : ∀ w, (execOp a.eval o).run P w = .ok (.value v) w) (h : wpQuiet P ops C R rest (a.put o.dst v)) : wpQuiet P ops C R (o :: rest) a := by
  refine wpQuiet_step fun K hK => ?_
  rw [if_pos hw]
  refine ⟨v, fun w _ => ?_, hK _ h⟩
  unfold Oper.quietAt
  rw [hr w]
  exact ⟨rfl, rfl⟩
/-- A call that hands back v, from every world of the class into one of it. -/
theorem quiet_call {P : Program} {ops : Array Oper} {C : World → Prop} {R : Act → Prop} {rest : List Oper} {a : Act} {o : Oper} (hw : Region.wanted o (yielded ops a.tmps) = true) (f : FuncId) (args : Array Value) (v : Value)
    (hr : ∀ w, (execOp a.eval o).run P w = .ok (.enter f args) w) (hc : ∀ w, C w → Calls P f args w fun e w' => e = .returned v ∧ C w') (h : wpQuiet P ops C R rest (a.put o.dst v)) : wpQuiet P ops C R (o :: rest) a := by
  refine wpQuiet_step fun K hK => ?_
  rw [if_pos hw]
  refine ⟨v, fun w hC => ?_, hK _ h⟩
  unfold Oper.quietAt
  rw [hr w]
  exact ⟨rfl, hc w hC⟩

set_option maxRecDepth 100000 in
theorem steps_walk (w : World) (h : List W32) (hh : h.length = 8) (b : List UInt8) (hb : b.length = 64) :
    Calls Try.prog 4 #[aw h, .agg (bcs b).toArray] w fun e w' => e = .returned (.bool true) ∧ Chg [] w w' := by
  have hH : Wat (w.alloc (.cells (wcs h).toArray 29)) w.heap.size h := ⟨_, heap_alloc_new _ _⟩
  have hB : Bat ((w.alloc (.cells (wcs h).toArray 29)).alloc (.cells (bcs b).toArray 30)) (w.heap.size + 1) b := ⟨_, by have := heap_alloc_new (w.alloc (.cells (wcs h).toArray 29)) (.cells (bcs b).toArray 30); rwa [World.size_alloc] at this⟩
  have hH2 := hH.tr (Chg.alloc [] _ (.cells (bcs b).toArray 30)) (by simp)
  have hG := (Chg.alloc [] w (.cells (wcs h).toArray 29)).t0 (Chg.alloc [] _ (.cells (bcs b).toArray 30))
  clear hH
  unfold aw
  go_enter Try.func4, Try.ntmps4
  go_wp2_with fail
  refine (small_ok _).mono ?_
  rintro e w1 ⟨rfl, g1⟩
  have hH3 := hH2.tr g1 (by simp)
  have hB3 := hB.tr g1 (by simp)
  have G1 := hG.t0 g1
  clear hH2 hB hG g1
  obtain ⟨p1, e1⟩ : ∃ p, w.heap.size = p := ⟨_, rfl⟩
  obtain ⟨p2, e2⟩ : ∃ p, w.heap.size + 1 = p := ⟨_, rfl⟩
  rw [e2, e1]
  rw [e1] at hH3; rw [e2] at hB3
  clear e1 e2
  go_wp2_with fail
  have hc8 := comp_length _ b hh
  have E1 : ∀ w, (binOp .eql 29 (aw (comp h b)) (aw (comp h b))).run Try.prog w = .ok (.bool true) w := fun w => eql_words w _ 28 8 Try.underlying29 Try.underlying28 (fun w => by go_simp) _ hc8
  have E2 : ∀ w, (binOp .eql 29 (aw first8) (aw first8)).run Try.prog w = .ok (.bool true) w := fun w => eql_words w _ 28 8 Try.underlying29 Try.underlying28 (fun w => by go_simp) _ rfl
  have EG : ∀ w x y (l m : List W32), (eqGuard .eql 29 x y (aw l) (aw m)).run Try.prog w = .ok () w := fun w x y l m => eqg_agg w _ x y _ _ (by kernel_rfl)
  have r1 : ∀ w', Chg [] w1 w' → w'.rangeAt p1 0 (wcs h) := fun w' g => (hH3.tr g (by simp)).range
  have r2 : ∀ w', Chg [] w1 w' → w'.rangeAt p2 0 (bcs b) := fun w' g => by
    obtain ⟨t, hb⟩ := hB3.tr g (by simp)
    intro j v hj
    rw [Nat.zero_add, cell_of_row _ p2 j _ _ _ hb, List.getElem?_toArray]
    exact hj
  have i1 : (Try.prog.info? 29).map (·.size) = some (wcs h).length := by rw [wcs_length, hh]; kernel_rfl
  have i2 : (Try.prog.info? 30).map (·.size) = some (bcs b).length := by rw [bcs_length, hb]; kernel_rfl
  have R1 : Hid _ := r1
  have R2 : Hid _ := r2
  have J1 : Hid _ := i1
  have J2 : Hid _ := i2
  clear r1 r2 i1 i2 hH3 hB3
  refine region_quiet_new (by kernel_rfl) (by kernel_rfl) ?_
  refine quiet_val (by rfl) (.bool true) (fun w => by rfl) ?_
  simp only [Act.put, List.setIfInBounds_toArray, List.set_cons_zero, List.set_cons_succ]
  refine quiet_val (by rfl) (.bool true) (fun w => by rfl) ?_
  simp only [Act.put, List.setIfInBounds_toArray, List.set_cons_zero, List.set_cons_succ]
  refine quiet_load_g (by rfl) 29 (.tmp 2) (by rfl) p1 0 (by rfl) (wcs h) _ R1.out Try.underlying29 rfl J1.out ?_
  simp only [Act.put, List.setIfInBounds_toArray, List.set_cons_zero, List.set_cons_succ]
  refine quiet_load_g (by rfl) 30 (.tmp 3) (by rfl) p2 0 (by rfl) (bcs b) _ R2.out Try.underlying30 rfl J2.out ?_
  simp only [Act.put, List.setIfInBounds_toArray, List.set_cons_zero, List.set_cons_succ]
  refine quiet_call (by rfl) 17 #[aw h, .agg (bcs b).toArray] (aw (comp h b)) (fun w => by go_simp; try rfl) (fun w' g => (compress_ok w' h hh b hb).mono fun _ _ x => ⟨x.1, g.t0 x.2⟩) ?_
  simp only [Act.put, List.setIfInBounds_toArray, List.set_cons_zero, List.set_cons_succ]
  refine quiet_load_g (by rfl) 29 (.tmp 2) (by rfl) p1 0 (by rfl) (wcs h) _ R1.out Try.underlying29 rfl J1.out ?_
  simp only [Act.put, List.setIfInBounds_toArray, List.set_cons_zero, List.set_cons_succ]
  refine quiet_load_g (by rfl) 30 (.tmp 3) (by rfl) p2 0 (by rfl) (bcs b) _ R2.out Try.underlying30 rfl J2.out ?_
  simp only [Act.put, List.setIfInBounds_toArray, List.set_cons_zero, List.set_cons_succ]
  refine quiet_call (by rfl) 18 #[aw h, .agg (bcs b).toArray] (aw (comp h b)) (fun w => by go_simp; try rfl) (fun w' g => (ref01_compress_ok w' h hh b hb).mono fun _ _ x => ⟨x.1, g.t0 x.2⟩) ?_
  simp only [Act.put, List.setIfInBounds_toArray, List.set_cons_zero, List.set_cons_succ]
  refine quiet_val (by rfl) (.bool true) (fun w => by go_simp) ?_
  simp only [Act.put, List.setIfInBounds_toArray, List.set_cons_zero, List.set_cons_succ]
  refine quiet_val (by rfl) (.bool true) (fun w => by go_simp) ?_
  simp only [Act.put, List.setIfInBounds_toArray, List.set_cons_zero, List.set_cons_succ]
  refine quiet_val (by rfl) (.bool true) (fun w => by go_simp) ?_
  simp only [Act.put, List.setIfInBounds_toArray, List.set_cons_zero, List.set_cons_succ]
  refine quiet_call (by rfl) 19 #[] (aw first8) (fun w => by go_simp; try rfl) (fun w' g => (first_ok w').mono fun _ _ x => ⟨x.1, g.t0 x.2⟩) ?_
  simp only [Act.put, List.setIfInBounds_toArray, List.set_cons_zero, List.set_cons_succ]
  refine quiet_call (by rfl) 20 #[] (aw first8) (fun w => by go_simp; try rfl) (fun w' g => (ref01_first_ok w').mono fun _ _ x => ⟨x.1, g.t0 x.2⟩) ?_
  simp only [Act.put, List.setIfInBounds_toArray, List.set_cons_zero, List.set_cons_succ]
  refine quiet_val (by rfl) (.bool true) (fun w => by go_simp) ?_
  simp only [Act.put, List.setIfInBounds_toArray, List.set_cons_zero, List.set_cons_succ]
  refine quiet_val (by rfl) (.bool true) (fun w => by go_simp) ?_
  simp only [Act.put, List.setIfInBounds_toArray, List.set_cons_zero, List.set_cons_succ]
  refine quiet_val (by rfl) (.bool true) (fun w => by go_simp) ?_
  simp only [Act.put, List.setIfInBounds_toArray, List.set_cons_zero, List.set_cons_succ]
  refine wpQuiet_nil ?_
  intro w2 g2
  go_wp2_with fail
  go_ret
  exact ⟨rfl, G1.t0 g2⟩

theorem shaSteps_run (w : World) (h : List W32) (v : Value) (b : List UInt8) (hh : h.length = 8) (hb : b.length = 64 ∧ v = .agg (bcs b).toArray) :
    Calls Try.prog 4 #[aw h, v] w fun e w' => e = .returned (.bool true) ∧ Chg [] w w' := by
  obtain ⟨hb, rfl⟩ := hb
  exact steps_walk w h hh b hb
end Go.Proofs.Ytfodlkofjmbolaa
