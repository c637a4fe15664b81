/-
  A region that draws its order, whose operations read, make new memory, or mark a row of bytes that is new (a conversion of a constant): as text Soft, but what lies behind the region's start keeps its cells alone.
-/
import Derived.Test.YtgepfmofignmfaaFresh
namespace Go.Proofs.Ytgepfmofignmfaa
set_option linter.unusedSimpArgs false
set_option linter.unusedVariables false
open Go.RowKit

/-- What lies below B is as it was; all cells are as they were. -/
structure Keep (B : Nat) (w w' : World) : Prop where
  os : w'.os = w.os
  tape : w'.tape = w.tape
  output : w'.output = w.output
  size : w.heap.size ≤ w'.heap.size
  block : ∀ k, k < B → w'.heap[k]? = w.heap[k]?
  cell : ∀ a v, w.cell? a = some v → w'.cell? a = some v
theorem Keep.refl (B : Nat) (w : World) : Keep B w w := ⟨rfl, rfl, rfl, Nat.le_refl _, fun _ _ => rfl, fun _ _ h => h⟩
theorem Keep.trans {B : Nat} {a b c : World} (h : Keep B a b) (k : Keep B b c) : Keep B a c :=
  ⟨k.os.trans h.os, k.tape.trans h.tape, k.output.trans h.output, Nat.le_trans h.size k.size, fun i hi => (k.block i hi).trans (h.block i hi), fun a v hv => k.cell a v (h.cell a v hv)⟩
theorem Keep.of {B : Nat} {w w' : World} (g : Chg [] w w') (hB : B ≤ w.heap.size) : Keep B w w' :=
  ⟨g.os, g.tape, g.output, g.size, fun k hk => g.block k (by omega) (by simp), fun a v h => g.cellv h (by simp)⟩
theorem Keep.drew (B : Nat) (w : World) : Keep B w w.drew := ⟨rfl, rfl, rfl, Nat.le_refl _, fun _ _ => rfl, fun _ _ h => h⟩
theorem Keep.chg {W w : World} (h : Keep W.heap.size W w) : Chg [] W w := ⟨h.os, h.tape, h.output, h.size, fun k hk _ => h.block k hk⟩
theorem Sl.keep {B : Nat} {w w' : World} {v : Value} {n : Nat} {cs : List Value} (h : Sl w v n cs) (g : Keep B w w') : Sl w' v n cs := by
  obtain ⟨a, c, rfl, h1, h2, h3, h4, h6, h5⟩ := h
  refine ⟨a, c, rfl, h1, h2, h3, fun x hx h0 => Nat.lt_of_lt_of_le (h4 x hx h0) g.size, h6, fun j u hj => ?_⟩
  obtain ⟨x, hx, hu⟩ := h5 j u hj
  exact ⟨x, hx, g.cell _ _ hu⟩
theorem Keep.freeze (B : Nat) (w : World) (a : Addr) (n : Nat) (h : B ≤ a.block) : Keep B w (w.freeze a n) := by
  unfold World.freeze
  split
  · exact Keep.refl _ _
  · refine ⟨rfl, rfl, rfl, by simp, fun k hk => ?_, fun x v hv => ?_⟩
    · rw [Array.getElem?_modify, if_neg (by omega)]
    · unfold World.cell? at *
      rw [Array.getElem?_modify]
      by_cases e : a.block = x.block
      · rw [if_pos e]
        cases hx : w.heap[x.block]? with
        | none => rw [hx] at hv; cases hv
        | some o =>
          rw [hx] at hv
          cases o <;> first | exact hv | cases hv
      · rw [if_neg e]; exact hv
/-- A conversion of a row of bytes to its own type: the row is marked, no more. -/
theorem run_mark {P : Program} (B : Nat) (w : World) (t e : TypeId) (p n c : Nat) (hp : B ≤ p) (ht : P.underlying t = some (.slice e)) (he : P.underlying e = some (.int .u8)) :
    ∃ w', (convert t t (.slice (some ⟨p, 0, none⟩) n c)).run P w = .ok (.slice (some ⟨p, 0, none⟩) n c) w' ∧ Keep B w w' := by
  cases hs : w.shape? p with
  | none => exact ⟨w, by simp [convert, run_underlying ht, run_underlying he, markStringish, hs], Keep.refl _ _⟩
  | some x =>
    obtain ⟨y, k⟩ := x
    exact ⟨w.freeze ⟨p, k, none⟩ 1, by simp [convert, run_underlying ht, run_underlying he, markStringish, hs], Keep.freeze B w _ _ hp⟩
def StaysK (B : Nat) (F : Value → World → Prop) : Prop := ∀ v w w', F v w → Keep B w w' → F v w'
theorem StaysK.cst (B : Nat) (c : Value) : StaysK B (cst c) := fun _ _ _ h _ => h
theorem SlF.staysK {B n : Nat} {cs : List Value} : StaysK B (SlF n cs) := fun _ _ _ h g => Sl.keep h g
theorem phi_staysK {B : Nat} {L : List (Value → World → Prop)} (h : ∀ F ∈ L, StaysK B F) : ∀ k v w w', phi L k v w → Keep B w w' → phi L k v w' := by
  intro k v w w' h1 g
  unfold phi at *
  cases hk : L[k]? with
  | none => trivial
  | some F =>
    rw [hk] at h1
    exact h F (List.mem_of_getElem? hk) v w w' h1 g
theorem staysK_nil {B : Nat} : ∀ F ∈ ([] : List (Value → World → Prop)), StaysK B F := by simp
theorem staysK_cons {B : Nat} {F : Value → World → Prop} {L : List (Value → World → Prop)} (h : StaysK B F) (h' : ∀ F ∈ L, StaysK B F) : ∀ G ∈ F :: L, StaysK B G := by
  intro G hG
  rcases List.mem_cons.1 hG with rfl | hG
  · exact h
  · exact h' G hG

section
variable {P : Program} {md : Region.Mode} {ops : Array Oper}
/-- One operation, from one world: it leaves a value of which F holds, and nothing else is turned. -/
def softStepK (B : Nat) (P : Program) (ops : Array Oper) (Q : Exit → Act → World → Prop) (o : Oper) (a : Act) (w : World) (F : Value → World → Prop) : Prop :=
  if Region.wanted o (yielded ops a.tmps) then o.wp P a w (fun a' w' => ∃ v, a' = a.put o.dst v ∧ Keep B w w' ∧ F v w') Q else F undef w

def softsK (B : Nat) (P : Program) (md : Region.Mode) (ops : Array Oper) (W : World) (Q : Exit → Act → World → Prop) (F : (Nat → Value) → Act) (Φ : Nat → Value → World → Prop) : List Oper → List (Value → World → Prop) → Prop
  | o :: r, G :: L => (∀ V w, Keep B W w → (∀ e ∈ o.after.toList, Region.binds md e = true → Φ e.on (V e.on) w) → softStepK B P ops Q o (F V) w G) ∧ softsK B P md ops W Q F Φ r L
  | _, _ => True

theorem softsK_at {B : Nat} {W : World} {Q : Exit → Act → World → Prop} {F : (Nat → Value) → Act} {Φ : Nat → Value → World → Prop} (l : List Oper) : ∀ (L : List (Value → World → Prop)), softsK B P md ops W Q F Φ l L → ∀ (i : Nat) (o : Oper) (G : Value → World → Prop), l[i]? = some o → L[i]? = some G →
    ∀ V w, Keep B W w → (∀ e ∈ o.after.toList, Region.binds md e = true → Φ e.on (V e.on) w) → softStepK B P ops Q o (F V) w G := by
  induction l with
  | nil => intro L _ i o G h; simp at h
  | cons x r ih =>
    intro L h i o G hi hG
    cases L with
    | nil => simp at hG
    | cons G0 L =>
      cases i with
      | zero =>
        simp at hi hG; subst hi hG
        exact h.1
      | succ i => exact ih L h.2 i o G (by simpa using hi) (by simpa using hG)

/-- How many of the first k are still to come. -/
theorem softK_run {B : Nat} {W : World} {Q : Exit → Act → World → Prop} {a0 : Act} {l : List Oper} {n : Nat} {L : List (Value → World → Prop)} (hB : softB md l n = true) (hL : L.length = n) (hΦ : ∀ k v w w', phi L k v w → Keep B w w' → phi L k v w')
    (hs : softsK B P md l.toArray W Q (fun V => putAll a0 (l.take n) 0 V) (phi L) (l.take n) L)
    (ht : ∀ V w', Keep B W w' → (∀ k, k < n → phi L k (V k) w') → wpList P l.toArray Q (l.drop n) (putAll a0 (l.take n) 0 V) w') :
    ∀ (f : Nat) (listed : Array Bool) (V : Nat → Value) (w : World), HeadInv md l.toArray n listed → left listed n = f → Keep B W w → (∀ k, k < n → listed.getD k true = true → phi L k (V k) w) →
      wpAny P md l.toArray Q (f + (l.length - n)) listed (putAll a0 (l.take n) 0 V) w := by
  simp only [softB, Bool.and_eq_true, Bool.or_eq_true, decide_eq_true_eq] at hB
  obtain ⟨⟨⟨⟨hn, hlow⟩, hap⟩, htail⟩, hseq⟩ := hB
  have hnd : ((l.take n).filterMap (·.dst)).Nodup := by simpa [apartB] using hap
  intro f
  induction f with
  | zero =>
    intro listed V w inv hl hw hV
    have hall := left_zero n hl
    have e : listed = (List.replicate n true ++ List.replicate (l.length - n) false).toArray := by
      apply Array.ext
      · have := inv.size; simp at this; simp; omega
      · intro i h1 h2
        simp only [List.getElem_toArray]
        by_cases hi : i < n
        · rw [List.getElem_append_left (by simpa using hi), List.getElem_replicate]
          have := hall i hi
          simpa [h1] using this
        · rw [List.getElem_append_right (by simp; omega), List.getElem_replicate]
          have := inv.tail i (by omega) (by rw [← inv.size]; exact h1)
          simpa [h1] using this
    have hd : (l.drop n).length = l.length - n := by simp
    have := wpAny_of_seq (P := P) (md := md) (Q' := Q) (ops := l.toArray) (l.drop n) n listed (putAll a0 (l.take n) 0 V) w (fun j => by simp [List.getElem?_drop]) (by rw [hd, e]; exact hseq) (ht V w hw fun k hk => hV k hk (hall k hk))
    rw [hd] at this
    simpa using this
  | succ f ih =>
    intro listed V w inv hl hw hV
    obtain ⟨j, hj, hj1, hj2⟩ := left_some (l := listed) n (by omega)
    have hsz : listed.size = l.length := by have := inv.size; simpa using this
    have hready : j ∈ Region.ready md l.toArray listed := by
      have hjl : j < l.length := by omega
      refine mem_ready.2 ⟨hj1, l[j], by simp [hjl], fun e he hb => ?_⟩
      have hlt := lowB_spec hlow hj (show l.toArray[j]? = some l[j] by simp [hjl]) e (by simpa using he) hb
      have := hj2 e.on hlt
      have h' : e.on < listed.size := by omega
      simpa [h'] using this
    rw [show f + 1 + (l.length - n) = (f + (l.length - n)) + 1 by omega]
    refine ⟨fun h => (by rw [h] at hready; cases hready), fun i hi => ?_⟩
    have hin : i < n := by
      rcases Nat.lt_or_ge i n with h | h
      · exact h
      · obtain ⟨_, oi, hoi, _⟩ := mem_ready.1 hi
        have hil : i < l.toArray.size := (Array.getElem?_eq_some_iff.1 hoi).1
        rcases htail with rfl | ⟨hs1, hs2⟩
        · simp at hil; omega
        · exact absurd hi (tail_waits hs1 hs2 (by omega) inv _ j rfl hj hj1 i h)
    obtain ⟨hun, oi, hoi, hdeps⟩ := mem_ready.1 hi
    have hoi' : (l.take n)[i]? = some oi := by
      rw [List.getElem?_take, if_pos hin]; simpa using hoi
    have hLi : L[i]? = some L[i] := List.getElem?_eq_getElem (by omega)
    have hst := softsK_at (l.take n) L hs i oi _ hoi' hLi V w hw (fun e he hb => by
      have hlt := lowB_spec hlow hin hoi e he hb
      have h1 := hdeps e (by simpa using he) hb
      refine hV e.on (by omega) ?_
      have h' : e.on < listed.size := by omega
      simpa [h'] using h1)
    have next : ∀ v w', Keep B w w' → L[i] v w' → wpAny P md l.toArray Q (f + (l.length - n)) (listed.setIfInBounds i true) ((putAll a0 (l.take n) 0 V).put oi.dst v) w' := by
      intro v w' hg hv
      have hset := putAll_set (l.take n) a0 0 i V v oi hnd hoi'
      rw [Nat.zero_add] at hset
      rw [hset]
      refine ih _ _ _ (inv.set hi hin) (by have := left_set hun n hin; omega) (hw.trans hg) fun k hk hlk => ?_
      by_cases e : k = i
      · subst e; rw [if_pos rfl]; unfold phi; rw [hLi]; exact hv
      · rw [if_neg e]
        rw [getD_set_ne true (Ne.symm e)] at hlk
        exact hΦ _ _ _ _ (hV k hk hlk) hg
    unfold wpOp
    simp only [hoi]
    unfold softStepK at hst
    split
    · rename_i hwant
      rw [if_pos hwant] at hst
      refine .inl (Oper.wp_mono ?_ hst)
      rintro a' w' ⟨v, rfl, hg, hv⟩
      exact next v w' hg hv
    · rename_i hwant
      rw [if_neg hwant] at hst
      exact next undef w (Keep.refl _ _) hst

theorem region_softK (B : Nat) {id : Nat} {Q : Exit → Act → World → Prop} {a : Act} {w : World} {l : List Oper} (n : Nat) (L : List (Value → World → Prop)) (hL : L.length = n) (hm : P.follows .mixedOrders = true) (hB : softB .any l n = true) (hΦ : ∀ F ∈ L, StaysK B F)
    (F : (Nat → Value) → Act) (hF : ∀ V, putAll a (l.take n) 0 V = F V)
    (hs : softsK B P .any l.toArray w Q F (phi L) (l.take n) L)
    (ht : ∀ V w', Keep B w w' → (∀ k, k < n → phi L k (V k) w') → wpList P l.toArray Q (l.drop n) (F V) w') : (Code.region id l.toArray true).wp P Q a w := by
  refine wp_region_any hm ?_
  have hFF : (fun V => putAll a (l.take n) 0 V) = F := funext hF
  obtain ⟨V0, hV0⟩ := putAll_own (l.take n) a 0
  have hn : n ≤ l.length := by
    simp only [softB, Bool.and_eq_true, Bool.or_eq_true, decide_eq_true_eq] at hB
    exact hB.1.1.1.1
  have inv0 : HeadInv .any l.toArray n (Array.replicate l.toArray.size false) :=
    ⟨by simp, fun j oj _ hl => absurd hl (by rw [getD_replicate_false]; simp), fun t _ ht => getD_in (by simpa using ht) (getD_replicate_false _ _)⟩
  have hl0 : ∀ k, k ≤ l.length → left (Array.replicate l.toArray.size false) k = k := by
    intro k
    induction k with
    | zero => intro _; rfl
    | succ k ih => intro hk; simp only [left, ih (by omega)]; rw [getD_in (by simp; omega) (getD_replicate_false _ _)]; simp
  have := softK_run (P := P) (md := .any) (W := w) (Q := Q) (a0 := a) (l := l) (n := n) (L := L) hB hL (phi_staysK hΦ) (by rw [hFF]; exact hs) (fun V w' h1 h2 => by rw [hF]; exact ht V w' h1 h2) n (Array.replicate l.toArray.size false) V0 { w with drawn := w.drawn + 1 } inv0 (hl0 n hn) (Keep.drew _ w) (fun k hk h => by
    rw [getD_in (by simp; omega) (getD_replicate_false _ _)] at h; cases h)
  rw [hV0, show n + (l.length - n) = l.toArray.size by simp; omega] at this
  exact this


theorem soft_lift {B : Nat} {Q : Exit → Act → World → Prop} {o : Oper} {a : Act} {w : World} {F : Value → World → Prop} (hB : B ≤ w.heap.size) (h : softStep P ops Q o a w F) : softStepK B P ops Q o a w F := by
  unfold softStepK
  unfold softStep at h
  split at h
  · rename_i hw
    rw [if_pos hw]
    exact Oper.wp_mono (fun a' w' ⟨v, h1, h2, h3⟩ => ⟨v, h1, Keep.of h2 hB, h3⟩) h
  · rename_i hw
    rw [if_neg hw]
    exact h
theorem softK_made {B : Nat} {Q : Exit → Act → World → Prop} {o : Oper} {a : Act} {w w' : World} {v : Value} {F : Value → World → Prop} (hw : Region.wanted o (yielded ops a.tmps) = true) (hr : (execOp a.eval o).run P w = .ok (.value v) w') (hg : Keep B w w') (hf : F v w') : softStepK B P ops Q o a w F := by
  unfold softStepK
  rw [if_pos hw]
  unfold Oper.wp
  rw [hr]
  exact ⟨v, rfl, hg, hf⟩
theorem exec_convert {w w' : World} {o : Oper} {a : Act} (src dst : TypeId) (x : Operand) (ho : o.op = .convert src dst x) (v v' : Value) (hx : a.eval x = v) (hr : (convert src dst v).run P w = .ok v' w') : (execOp a.eval o).run P w = .ok (.value v') w' := by
  unfold execOp
  simp only [ho, hx, Sem.run_bind, hr]
  rfl
theorem exec_load {w : World} {o : Oper} {a : Act} (ty : TypeId) (x : Operand) (ho : o.op = .load ty x) (p : Addr) (hx : a.eval x = .pointer (some p)) (v : Value) (d : TypeDesc) (hc : w.cell? p = some v) (hu : P.underlying ty = some d) (hd : d.isRow = false) : (execOp a.eval o).run P w = .ok (.value v) w := by
  unfold execOp
  simp only [ho, hx, Sem.run_bind, run_load_cell w p ty d v hc hu hd]
  rfl
end
end Go.Proofs.Ytgepfmofignmfaa
