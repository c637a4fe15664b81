/-
  A region that draws its order, whose operations read, or call what makes new memory and hands back what lies there: each operation is shown once, in whatever world behind the region's start, from what is known of the values that it waits for; whatever the order, all that is known of the values holds at the end.
-/
import Derived.Test.YtdclbhmmpdngpaaDoorDig
namespace Go.Proofs.YtdclbhmmpdngpaaDoor
set_option linter.unusedSimpArgs false
set_option linter.unusedVariables false
open Go.RowKit

/-- The frame in which each operation of a list has left its value V. -/
def putAll (a : Act) : List Oper → Nat → (Nat → Value) → Act
  | [], _, _ => a
  | o :: r, k, V => putAll (a.put o.dst (V k)) r (k + 1) V

section
variable {P : Program} {md : Region.Mode} {ops : Array Oper}

/-- One operation, from one world: it leaves a value of which F holds, and nothing else is turned. -/
def softStep (P : Program) (ops : Array Oper) (Q : Exit → Act → World → Prop) (o : Oper) (a : Act) (w : World) (F : Value → World → Prop) : Prop :=
  if Region.wanted o (yielded ops a.tmps) then o.wp P a w (fun a' w' => ∃ v, a' = a.put o.dst v ∧ Chg [] w w' ∧ F v w') Q else F undef w

/-- The value is c. -/
def cst (c : Value) (v : Value) (_ : World) : Prop := v = c
def phi (L : List (Value → World → Prop)) (k : Nat) (v : Value) (w : World) : Prop := match L[k]? with | some F => F v w | none => True
/-- What is said of a value stays true in every later world. -/
def Stays (F : Value → World → Prop) : Prop := ∀ v w w', F v w → Chg [] w w' → F v w'
theorem Stays.cst (c : Value) : Stays (cst c) := fun _ _ _ h _ => h
theorem phi_stays {L : List (Value → World → Prop)} (h : ∀ F ∈ L, Stays F) : ∀ k v w w', phi L k v w → Chg [] w w' → phi L k v w' := by
  intro k v w w' h1 g
  unfold phi at *
  cases hk : L[k]? with
  | none => trivial
  | some F =>
    rw [hk] at h1
    exact h F (List.mem_of_getElem? hk) v w w' h1 g
theorem stays_nil : ∀ F ∈ ([] : List (Value → World → Prop)), Stays F := by simp
theorem stays_cons {F : Value → World → Prop} {L : List (Value → World → Prop)} (h : Stays F) (h' : ∀ F ∈ L, Stays F) : ∀ G ∈ F :: L, Stays G := by
  intro G hG
  rcases List.mem_cons.1 hG with rfl | hG
  · exact h
  · exact h' G hG
def softs (P : Program) (md : Region.Mode) (ops : Array Oper) (W : World) (Q : Exit → Act → World → Prop) (F : (Nat → Value) → Act) (Φ : Nat → Value → World → Prop) : List Oper → List (Value → World → Prop) → Prop
  | o :: r, G :: L => (∀ V w, Chg [] W w → (∀ e ∈ o.after.toList, Region.binds md e = true → Φ e.on (V e.on) w) → softStep P ops Q o (F V) w G) ∧ softs P md ops W Q F Φ r L
  | _, _ => True

theorem softs_at {W : World} {Q : Exit → Act → World → Prop} {F : (Nat → Value) → Act} {Φ : Nat → Value → World → Prop} (l : List Oper) : ∀ (L : List (Value → World → Prop)), softs P md ops W Q F Φ l L → ∀ (i : Nat) (o : Oper) (G : Value → World → Prop), l[i]? = some o → L[i]? = some G →
    ∀ V w, Chg [] W w → (∀ e ∈ o.after.toList, Region.binds md e = true → Φ e.on (V e.on) w) → softStep P ops Q o (F V) w G := by
  induction l with
  | nil => intro L _ i o G h; simp at h
  | cons x r ih =>
    intro L h i o G hi hG
    cases L with
    | nil => simp at hG
    | cons G0 L =>
      cases i with
      | zero =>
        simp at hi hG; subst hi hG
        exact h.1
      | succ i => exact ih L h.2 i o G (by simpa using hi) (by simpa using hG)

/-- How many of the first k are still to come. -/
def left (listed : Array Bool) : Nat → Nat
  | 0 => 0
  | k + 1 => left listed k + (if listed.getD k true then 0 else 1)
theorem left_same {l m : Array Bool} : ∀ k, (∀ j, j < k → l.getD j true = m.getD j true) → left l k = left m k
  | 0, _ => rfl
  | k + 1, h => by simp only [left, left_same k (fun j hj => h j (by omega)), h k (by omega)]
theorem left_set {l : Array Bool} {i : Nat} (hi : l.getD i true = false) : ∀ k, i < k → left (l.setIfInBounds i true) k + 1 = left l k
  | 0, h => absurd h (by omega)
  | k + 1, h => by
    simp only [left]
    by_cases e : i = k
    · subst e
      have h1 : left (l.setIfInBounds i true) i = left l i := left_same i fun j hj => getD_set_ne true (by omega)
      have h2 : (l.setIfInBounds i true).getD i true = true := by
        rcases Nat.lt_or_ge i l.size with h' | h'
        · simp [h']
        · simp [Array.getElem?_eq_none h'] at hi
      rw [h1, h2, hi]; simp
    · rw [getD_set_ne true e]
      have := left_set hi k (by omega)
      omega
theorem left_zero {l : Array Bool} : ∀ k, left l k = 0 → ∀ j, j < k → l.getD j true = true
  | 0, _, j, h => absurd h (by omega)
  | k + 1, h, j, hj => by
    simp only [left] at h
    by_cases e : j = k
    · subst e
      cases hl : l.getD j true
      · rw [hl] at h; simp at h
      · rfl
    · exact left_zero k (by omega) j (by omega)
theorem left_some {l : Array Bool} : ∀ k, left l k ≠ 0 → ∃ j, j < k ∧ l.getD j true = false ∧ ∀ i, i < j → l.getD i true = true
  | 0, h => absurd rfl h
  | k + 1, h => by
    by_cases e : left l k = 0
    · refine ⟨k, by omega, ?_, left_zero k e⟩
      simp only [left, e] at h
      cases hl : l.getD k true
      · rfl
      · rw [hl] at h; simp at h
    · obtain ⟨j, hj, h1, h2⟩ := left_some k e
      exact ⟨j, by omega, h1, h2⟩

def lowB (md : Region.Mode) (ops : Array Oper) (n : Nat) : Bool :=
  (List.range n).all fun i => match ops[i]? with | some o => o.after.toList.all fun e => !Region.binds md e || decide (e.on < i) | none => false
theorem lowB_spec {n i : Nat} {o : Oper} (h : lowB md ops n = true) (hi : i < n) (ho : ops[i]? = some o) : ∀ e ∈ o.after.toList, Region.binds md e = true → e.on < i := by
  have h1 := List.all_eq_true.1 h i (List.mem_range.2 hi)
  simp only [ho, List.all_eq_true] at h1
  intro e he hb
  have := h1 e he
  simp [hb] at this
  exact this
def apartB (l : List Oper) : Bool := decide (l.filterMap (·.dst)).Nodup

theorem put_same (a : Act) (d : Option Tmp) : a.put d (match d with | some t => a.tmps.getD t undef | none => undef) = a := by
  cases d with
  | none => rfl
  | some t =>
    show ({ a with tmps := a.tmps.setIfInBounds t (a.tmps.getD t undef) } : Act) = a
    obtain ⟨ts, ds⟩ := a
    simp only [Act.mk.injEq, and_true]
    apply Array.ext_getElem?
    intro i
    by_cases e : t = i
    · subst e
      rcases Nat.lt_or_ge t ts.size with h | h
      · simp [h]
      · simp [Array.getElem?_eq_none h]; exact h
    · rw [Array.getElem?_setIfInBounds_ne e]
theorem putAll_put (l : List Oper) : ∀ (a : Act) (k : Nat) (V : Nat → Value) (d : Option Tmp) (v : Value), (∀ t, d = some t → t ∉ l.filterMap (·.dst)) → putAll (a.put d v) l k V = (putAll a l k V).put d v := by
  induction l with
  | nil => intro a k V d v _; rfl
  | cons o r ih =>
    intro a k V d v h
    simp only [putAll]
    have h1 : ∀ t, d = some t → t ∉ r.filterMap (·.dst) := fun t ht hm => h t ht (by
      obtain ⟨x, hx, hd⟩ := List.mem_filterMap.1 hm
      exact List.mem_filterMap.2 ⟨x, by simp [hx], hd⟩)
    have h2 : ∀ t, d = some t → o.dst ≠ some t := fun t ht e => h t ht (List.mem_filterMap.2 ⟨o, by simp, e⟩)
    rw [Act.put_comm a v (V k) (fun t ht => h2 t ht)]
    exact ih _ _ _ _ _ h1
theorem putAll_congr (l : List Oper) : ∀ (a : Act) (k : Nat) (V V' : Nat → Value), (∀ j, k ≤ j → V j = V' j) → putAll a l k V = putAll a l k V' := by
  induction l with
  | nil => intro a k V V' _; rfl
  | cons o r ih =>
    intro a k V V' h
    simp only [putAll, h k (Nat.le_refl _)]
    exact ih _ _ _ _ fun j hj => h j (by omega)
/-- A value more. -/
theorem putAll_set (l : List Oper) : ∀ (a : Act) (k i : Nat) (V : Nat → Value) (v : Value) (o : Oper), (l.filterMap (·.dst)).Nodup → l[i]? = some o →
    (putAll a l k V).put o.dst v = putAll a l k (fun j => if j = k + i then v else V j) := by
  induction l with
  | nil => intro a k i V v o _ h; simp at h
  | cons x r ih =>
    intro a k i V v o hn hi
    cases i with
    | zero =>
      simp at hi; subst hi
      simp only [putAll, Nat.add_zero, if_true]
      have hd : ∀ t, x.dst = some t → t ∉ r.filterMap (·.dst) := by
        intro t ht
        rw [List.filterMap_cons_some ht] at hn
        exact (List.nodup_cons.1 hn).1
      rw [putAll_put r _ _ _ _ _ hd, putAll_put r _ _ _ _ _ hd]
      have e : ∀ (b : Act) (u : Value), (b.put x.dst u).put x.dst v = b.put x.dst v := by
        intro b u
        cases x.dst with
        | none => rfl
        | some t => simp [Act.put]
      rw [e]
      congr 1
      exact putAll_congr r _ _ _ _ fun j hj => by rw [if_neg (by omega)]
    | succ i =>
      have hn' : (r.filterMap (·.dst)).Nodup := by
        cases hx : x.dst with
        | none => rwa [List.filterMap_cons_none hx] at hn
        | some t => rw [List.filterMap_cons_some hx] at hn; exact (List.nodup_cons.1 hn).2
      simp only [putAll]
      rw [ih _ _ i V v o hn' (by simpa using hi)]
      rw [if_neg (by omega)]
      congr 1
      funext j
      rw [show k + 1 + i = k + (i + 1) by omega]
theorem putAll_own (l : List Oper) : ∀ (a : Act) (k : Nat), ∃ V, putAll a l k V = a := by
  induction l with
  | nil => intro a k; exact ⟨fun _ => undef, rfl⟩
  | cons o r ih =>
    intro a k
    obtain ⟨V, hV⟩ := ih a (k + 1)
    refine ⟨fun j => if j = k then (match o.dst with | some t => a.tmps.getD t undef | none => undef) else V j, ?_⟩
    simp only [putAll, if_true]
    rw [put_same, putAll_congr r a (k + 1) _ V fun j hj => if_neg (by omega)]
    exact hV

def softB (md : Region.Mode) (l : List Oper) (n : Nat) : Bool :=
  decide (n ≤ l.length) && lowB md l.toArray n && apartB (l.take n) && (decide (n = l.length) || (Region.sinkB md l.toArray n && Region.chainB md l.toArray n)) &&
    Region.seqB md l.toArray (l.length - n) n (List.replicate n true ++ List.replicate (l.length - n) false).toArray

theorem soft_run {W : World} {Q : Exit → Act → World → Prop} {a0 : Act} {l : List Oper} {n : Nat} {L : List (Value → World → Prop)} (hB : softB md l n = true) (hL : L.length = n) (hΦ : ∀ k v w w', phi L k v w → Chg [] w w' → phi L k v w')
    (hs : softs P md l.toArray W Q (fun V => putAll a0 (l.take n) 0 V) (phi L) (l.take n) L)
    (ht : ∀ V w', Chg [] W w' → (∀ k, k < n → phi L k (V k) w') → wpList P l.toArray Q (l.drop n) (putAll a0 (l.take n) 0 V) w') :
    ∀ (f : Nat) (listed : Array Bool) (V : Nat → Value) (w : World), HeadInv md l.toArray n listed → left listed n = f → Chg [] W w → (∀ k, k < n → listed.getD k true = true → phi L k (V k) w) →
      wpAny P md l.toArray Q (f + (l.length - n)) listed (putAll a0 (l.take n) 0 V) w := by
  simp only [softB, Bool.and_eq_true, Bool.or_eq_true, decide_eq_true_eq] at hB
  obtain ⟨⟨⟨⟨hn, hlow⟩, hap⟩, htail⟩, hseq⟩ := hB
  have hnd : ((l.take n).filterMap (·.dst)).Nodup := by simpa [apartB] using hap
  intro f
  induction f with
  | zero =>
    intro listed V w inv hl hw hV
    have hall := left_zero n hl
    have e : listed = (List.replicate n true ++ List.replicate (l.length - n) false).toArray := by
      apply Array.ext
      · have := inv.size; simp at this; simp; omega
      · intro i h1 h2
        simp only [List.getElem_toArray]
        by_cases hi : i < n
        · rw [List.getElem_append_left (by simpa using hi), List.getElem_replicate]
          have := hall i hi
          simpa [h1] using this
        · rw [List.getElem_append_right (by simp; omega), List.getElem_replicate]
          have := inv.tail i (by omega) (by rw [← inv.size]; exact h1)
          simpa [h1] using this
    have hd : (l.drop n).length = l.length - n := by simp
    have := wpAny_of_seq (P := P) (md := md) (Q' := Q) (ops := l.toArray) (l.drop n) n listed (putAll a0 (l.take n) 0 V) w (fun j => by simp [List.getElem?_drop]) (by rw [hd, e]; exact hseq) (ht V w hw fun k hk => hV k hk (hall k hk))
    rw [hd] at this
    simpa using this
  | succ f ih =>
    intro listed V w inv hl hw hV
    obtain ⟨j, hj, hj1, hj2⟩ := left_some (l := listed) n (by omega)
    have hsz : listed.size = l.length := by have := inv.size; simpa using this
    have hready : j ∈ Region.ready md l.toArray listed := by
      have hjl : j < l.length := by omega
      refine mem_ready.2 ⟨hj1, l[j], by simp [hjl], fun e he hb => ?_⟩
      have hlt := lowB_spec hlow hj (show l.toArray[j]? = some l[j] by simp [hjl]) e (by simpa using he) hb
      have := hj2 e.on hlt
      have h' : e.on < listed.size := by omega
      simpa [h'] using this
    rw [show f + 1 + (l.length - n) = (f + (l.length - n)) + 1 by omega]
    refine ⟨fun h => (by rw [h] at hready; cases hready), fun i hi => ?_⟩
    have hin : i < n := by
      rcases Nat.lt_or_ge i n with h | h
      · exact h
      · obtain ⟨_, oi, hoi, _⟩ := mem_ready.1 hi
        have hil : i < l.toArray.size := (Array.getElem?_eq_some_iff.1 hoi).1
        rcases htail with rfl | ⟨hs1, hs2⟩
        · simp at hil; omega
        · exact absurd hi (tail_waits hs1 hs2 (by omega) inv _ j rfl hj hj1 i h)
    obtain ⟨hun, oi, hoi, hdeps⟩ := mem_ready.1 hi
    have hoi' : (l.take n)[i]? = some oi := by
      rw [List.getElem?_take, if_pos hin]; simpa using hoi
    have hLi : L[i]? = some L[i] := List.getElem?_eq_getElem (by omega)
    have hst := softs_at (l.take n) L hs i oi _ hoi' hLi V w hw (fun e he hb => by
      have hlt := lowB_spec hlow hin hoi e he hb
      have h1 := hdeps e (by simpa using he) hb
      refine hV e.on (by omega) ?_
      have h' : e.on < listed.size := by omega
      simpa [h'] using h1)
    have next : ∀ v w', Chg [] w w' → L[i] v w' → wpAny P md l.toArray Q (f + (l.length - n)) (listed.setIfInBounds i true) ((putAll a0 (l.take n) 0 V).put oi.dst v) w' := by
      intro v w' hg hv
      have hset := putAll_set (l.take n) a0 0 i V v oi hnd hoi'
      rw [Nat.zero_add] at hset
      rw [hset]
      refine ih _ _ _ (inv.set hi hin) (by have := left_set hun n hin; omega) (hw.t0 hg) fun k hk hlk => ?_
      by_cases e : k = i
      · subst e; rw [if_pos rfl]; unfold phi; rw [hLi]; exact hv
      · rw [if_neg e]
        rw [getD_set_ne true (Ne.symm e)] at hlk
        exact hΦ _ _ _ _ (hV k hk hlk) hg
    unfold wpOp
    simp only [hoi]
    unfold softStep at hst
    split
    · rename_i hwant
      rw [if_pos hwant] at hst
      refine .inl (Oper.wp_mono ?_ hst)
      rintro a' w' ⟨v, rfl, hg, hv⟩
      exact next v w' hg hv
    · rename_i hwant
      rw [if_neg hwant] at hst
      exact next undef w (Chg.refl _ _) hst

theorem region_soft {id : Nat} {Q : Exit → Act → World → Prop} {a : Act} {w : World} {l : List Oper} (n : Nat) (L : List (Value → World → Prop)) (hL : L.length = n) (hm : P.follows .mixedOrders = true) (hB : softB .any l n = true) (hΦ : ∀ F ∈ L, Stays F)
    (F : (Nat → Value) → Act) (hF : ∀ V, putAll a (l.take n) 0 V = F V)
    (hs : softs P .any l.toArray w Q F (phi L) (l.take n) L)
    (ht : ∀ V w', Chg [] w w' → (∀ k, k < n → phi L k (V k) w') → wpList P l.toArray Q (l.drop n) (F V) w') : (Code.region id l.toArray true).wp P Q a w := by
  refine wp_region_any hm ?_
  have hFF : (fun V => putAll a (l.take n) 0 V) = F := funext hF
  obtain ⟨V0, hV0⟩ := putAll_own (l.take n) a 0
  have hn : n ≤ l.length := by
    simp only [softB, Bool.and_eq_true, Bool.or_eq_true, decide_eq_true_eq] at hB
    exact hB.1.1.1.1
  have inv0 : HeadInv .any l.toArray n (Array.replicate l.toArray.size false) :=
    ⟨by simp, fun j oj _ hl => absurd hl (by rw [getD_replicate_false]; simp), fun t _ ht => getD_in (by simpa using ht) (getD_replicate_false _ _)⟩
  have hl0 : ∀ k, k ≤ l.length → left (Array.replicate l.toArray.size false) k = k := by
    intro k
    induction k with
    | zero => intro _; rfl
    | succ k ih => intro hk; simp only [left, ih (by omega)]; rw [getD_in (by simp; omega) (getD_replicate_false _ _)]; simp
  have := soft_run (P := P) (md := .any) (W := w) (Q := Q) (a0 := a) (l := l) (n := n) (L := L) hB hL (phi_stays hΦ) (by rw [hFF]; exact hs) (fun V w' h1 h2 => by rw [hF]; exact ht V w' h1 h2) n (Array.replicate l.toArray.size false) V0 { w with drawn := w.drawn + 1 } inv0 (hl0 n hn) (Chg.drew [] w) (fun k hk h => by
    rw [getD_in (by simp; omega) (getD_replicate_false _ _)] at h; cases h)
  rw [hV0, show n + (l.length - n) = l.toArray.size by simp; omega] at this
  exact this

theorem soft_const {Q : Exit → Act → World → Prop} {o : Oper} {a : Act} {w : World} {c : Value} (hw : Region.wanted o (yielded ops a.tmps) = true) (hr : (execOp a.eval o).run P w = .ok (.value c) w) : softStep P ops Q o a w (cst c) := by
  unfold softStep
  rw [if_pos hw]
  unfold Oper.wp
  rw [hr]
  exact ⟨c, rfl, Chg.refl _ _, rfl⟩
theorem soft_skip {Q : Exit → Act → World → Prop} {o : Oper} {a : Act} {w : World} (hw : Region.wanted o (yielded ops a.tmps) = false) : softStep P ops Q o a w (cst undef) := by
  unfold softStep
  rw [if_neg (by rw [hw]; exact Bool.false_ne_true)]
  rfl
theorem soft_call {Q : Exit → Act → World → Prop} {o : Oper} {a : Act} {w : World} {F : Value → World → Prop} (hw : Region.wanted o (yielded ops a.tmps) = true) (f : FuncId) (args : Array Value) (hr : (execOp a.eval o).run P w = .ok (.enter f args) w)
    (hc : Calls P f args w fun e w' => ∃ v, e = .returned v ∧ Chg [] w w' ∧ F v w') : softStep P ops Q o a w F := by
  unfold softStep
  rw [if_pos hw]
  unfold Oper.wp
  rw [hr]
  refine Calls.mono hc fun e w' ⟨v, he, hg, hf⟩ => ?_
  subst he
  exact ⟨v, rfl, hg, hf⟩
theorem soft_callC {Q : Exit → Act → World → Prop} {o : Oper} {a : Act} {w : World} {v : Value} (hw : Region.wanted o (yielded ops a.tmps) = true) (f : FuncId) (args : Array Value) (hr : (execOp a.eval o).run P w = .ok (.enter f args) w)
    (hc : Calls P f args w fun e w' => e = .returned v ∧ Chg [] w w') : softStep P ops Q o a w (cst v) :=
  soft_call hw f args hr (hc.mono fun _ _ ⟨h1, h2⟩ => ⟨_, h1, h2, rfl⟩)
theorem soft_str {Q : Exit → Act → World → Prop} {o : Oper} {a : Act} {w : World} (hw : Region.wanted o (yielded ops a.tmps) = true) (src dst : TypeId) (x : Operand) (ho : o.op = .convert src dst x) (v : Value) (hx : a.eval x = v)
    (e : TypeId) (hs : P.underlying src = some (.slice e)) (he : P.underlying e = some (.int .u8)) (hd : P.underlying dst = some .string) (n : Nat) (l : List UInt8) (hsl : Sl w v n (bcs l)) (hn : n = l.length) : softStep P ops Q o a w (cst (.string (bstr l))) := by
  refine soft_const hw ?_
  unfold execOp
  simp only [ho, hx, Sem.run_bind, run_str hs he hd hsl hn]
  rfl
theorem soft_load {Q : Exit → Act → World → Prop} {o : Oper} {a : Act} {W w : World} (hw : Region.wanted o (yielded ops a.tmps) = true) (hg : Chg [] W w) (ty : TypeId) (x : Operand) (ho : o.op = .load ty x) (p off : Nat) (hx : a.eval x = .pointer (some ⟨p, off, none⟩))
    (cs : List Value) (d : TypeDesc) (hr : W.rangeAt p off cs) (hu : P.underlying ty = some d) (hd : d.isRow = true) (hi : (P.info? ty).map (·.size) = some cs.length) : softStep P ops Q o a w (cst (.agg cs.toArray)) := by
  refine soft_const hw ?_
  unfold execOp
  simp only [ho, hx, Instr.loadAt, Instr.sureAddr, Sem.run_bind, Sem.run_pure, Result.andThen_ok, run_loadVar_mid w p off ty cs d (hg.range hr (by simp)) hu hd hi]
theorem soft_cell {Q : Exit → Act → World → Prop} {o : Oper} {a : Act} {W w : World} (hw : Region.wanted o (yielded ops a.tmps) = true) (hg : Chg [] W w) (ty : TypeId) (x : Operand) (ho : o.op = .load ty x) (p : Addr) (hx : a.eval x = .pointer (some p))
    (v : Value) (d : TypeDesc) (hc : W.cell? p = some v) (hu : P.underlying ty = some d) (hd : d.isRow = false) : softStep P ops Q o a w (cst v) := by
  refine soft_const hw ?_
  unfold execOp
  simp only [ho, hx, Sem.run_bind, run_load_cell w p ty d v (hg.cellv hc (by simp)) hu hd]
  rfl
end
end Go.Proofs.YtdclbhmmpdngpaaDoor
