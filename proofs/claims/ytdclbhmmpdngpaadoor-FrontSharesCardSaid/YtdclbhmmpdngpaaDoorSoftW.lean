/-
  A region that draws its order, some of whose operations (the writers) turn old memory, each of them bound behind the one before it; all others read, or call what only makes new memory. Each operation is shown once: a writer from the state that the writers ahead of it have left, any other from whatever state.
-/
import Derived.Test.YtdclbhmmpdngpaaDoorSoft2
namespace Go.Proofs.YtdclbhmmpdngpaaDoor
set_option linter.unusedSimpArgs false
set_option linter.unusedVariables false
open Go.RowKit

section
variable {P : Program} {md : Region.Mode} {ops : Array Oper}

/-- How many of the first k are writers. -/
def preW (B : List Bool) (k : Nat) : Nat := (B.take k).count true
theorem preW_succ (B : List Bool) (k : Nat) (h : k < B.length) : preW B (k + 1) = preW B k + if B.getD k false = true then 1 else 0 := by
  unfold preW
  rw [List.take_succ_eq_append_getElem h, List.count_append]
  have : B.getD k false = B[k] := by simp [List.getD, h]
  rw [this]
  cases B[k] <;> simp
theorem preW_mono (B : List Bool) {i j : Nat} (h : i ≤ j) : preW B i ≤ preW B j := by
  unfold preW
  have e : B.take i = (B.take j).take i := by rw [List.take_take, Nat.min_eq_left h]
  rw [e]
  exact (List.take_sublist _ _).count_le _
theorem isW_lt {B : List Bool} {k : Nat} (h : B.getD k false = true) : k < B.length := by
  rcases Nat.lt_or_ge k B.length with h' | h'
  · exact h'
  · simp [List.getD, List.getElem?_eq_none h'] at h
theorem preW_inj {B : List Bool} {i j : Nat} (hi : B.getD i false = true) (hj : B.getD j false = true) (h : preW B i = preW B j) : i = j := by
  have key : ∀ {a b : Nat}, B.getD a false = true → a < b → preW B a < preW B b := by
    intro a b ha hab
    have h1 := preW_succ B a (isW_lt ha)
    rw [ha] at h1
    have h2 := preW_mono B (show a + 1 ≤ b from hab)
    simp at h1; omega
  rcases Nat.lt_trichotomy i j with h1 | h1 | h1
  · have := key hi h1; omega
  · exact h1
  · have := key hj h1; omega

def chainWB (md : Region.Mode) (ops : Array Oper) (B : List Bool) (n : Nat) : Bool :=
  (List.range n).all fun i => !B.getD i false || decide (preW B i = 0) || (match ops[i]? with | some o => o.after.toList.any fun e => Region.binds md e && B.getD e.on false && decide (preW B e.on + 1 = preW B i) | none => false)

/-- A writer, from one world. -/
def wStep (P : Program) (ops : Array Oper) (Q : Exit → Act → World → Prop) (o : Oper) (a : Act) (w : World) (Post : Value → World → Prop) : Prop :=
  if Region.wanted o (yielded ops a.tmps) then o.wp P a w (fun a' w' => ∃ v, a' = a.put o.dst v ∧ Post v w') Q else Post undef w

/-- Sm m: the old blocks that the writer m turns. -/
def softsW (P : Program) (md : Region.Mode) (ops : Array Oper) (Sm : Nat → List Nat) (Inv : Nat → World → Prop) (Q : Exit → Act → World → Prop) (F : (Nat → Value) → Act) (Φ : Nat → Value → World → Prop) : List Oper → List (Value → World → Prop) → List Bool → List Nat → Nat → Prop
  | o :: r, G :: L, true :: B, _ :: C, m => (∀ V w, Inv m w → (∀ e ∈ o.after.toList, Region.binds md e = true → Φ e.on (V e.on) w) → wStep P ops Q o (F V) w (fun v w' => Chg (Sm m) w w' ∧ Inv (m + 1) w' ∧ G v w')) ∧ softsW P md ops Sm Inv Q F Φ r L B C (m + 1)
  | o :: r, G :: L, false :: B, c :: C, m => (∀ V w, (∃ j, j ≤ c ∧ Inv j w) → (∀ e ∈ o.after.toList, Region.binds md e = true → Φ e.on (V e.on) w) → softStep P ops Q o (F V) w G) ∧ softsW P md ops Sm Inv Q F Φ r L B C m
  | _, _, _, _, _ => True
/-- What is said of an operation's value stays true whatever may still come. -/
def staysW (Sm : Nat → List Nat) : List (Value → World → Prop) → List Bool → Nat → Prop
  | G :: L, true :: B, j => (Stays G ∧ ∀ m, j < m → ∀ v w w', G v w → Chg (Sm m) w w' → G v w') ∧ staysW Sm L B (j + 1)
  | G :: L, false :: B, j => (Stays G ∧ ∀ m v w w', G v w → Chg (Sm m) w w' → G v w') ∧ staysW Sm L B j
  | _, _, _ => True
theorem staysW_at {Sm : Nat → List Nat} : ∀ (L : List (Value → World → Prop)) (B : List Bool) (j : Nat), staysW Sm L B j → ∀ (k : Nat) (G : Value → World → Prop), L[k]? = some G → k < B.length → Stays G ∧ ∀ m, (B.getD k false = true → j + preW B k < m) → ∀ v w w', G v w → Chg (Sm m) w w' → G v w'
  | [], _, _, _, k, G, h, _ => by simp at h
  | _ :: _, [], _, _, k, G, _, h => by simp at h
  | G0 :: L, b :: B, j, hs, 0, G, h, _ => by
    simp at h; subst h
    cases b
    · exact ⟨hs.1.1, fun m _ => hs.1.2 m⟩
    · exact ⟨hs.1.1, fun m hm => hs.1.2 m (by simpa [preW] using hm (by simp))⟩
  | G0 :: L, b :: B, j, hs, k + 1, G, h, hb => by
    cases b
    · have := staysW_at L B j hs.2 k G (by simpa using h) (by simpa using hb)
      simpa [preW, List.getD] using this
    · have := staysW_at L B (j + 1) hs.2 k G (by simpa using h) (by simpa using hb)
      have e : j + 1 + preW B k = j + preW (true :: B) (k + 1) := by simp [preW]; omega
      rw [e] at this
      simpa [List.getD] using this

theorem softsW_at {Sm : Nat → List Nat} {Inv : Nat → World → Prop} {Q : Exit → Act → World → Prop} {F : (Nat → Value) → Act} {Φ : Nat → Value → World → Prop} (l : List Oper) : ∀ (L : List (Value → World → Prop)) (B : List Bool) (C : List Nat) (m : Nat), softsW P md ops Sm Inv Q F Φ l L B C m → ∀ (i : Nat) (o : Oper) (G : Value → World → Prop), l[i]? = some o → L[i]? = some G → i < B.length → i < C.length →
    (B.getD i false = true → ∀ V w, Inv (m + preW B i) w → (∀ e ∈ o.after.toList, Region.binds md e = true → Φ e.on (V e.on) w) → wStep P ops Q o (F V) w (fun v w' => Chg (Sm (m + preW B i)) w w' ∧ Inv (m + preW B i + 1) w' ∧ G v w')) ∧
    (B.getD i false = false → ∀ V w, (∃ j, j ≤ C.getD i 0 ∧ Inv j w) → (∀ e ∈ o.after.toList, Region.binds md e = true → Φ e.on (V e.on) w) → softStep P ops Q o (F V) w G) := by
  induction l with
  | nil => intro L B C m _ i o G h; simp at h
  | cons x r ih =>
    intro L B C m h i o G hi hG hB hC
    cases L with
    | nil => simp at hG
    | cons G0 L =>
      cases B with
      | nil => simp at hB
      | cons b B =>
        cases C with
        | nil => simp at hC
        | cons c C =>
          cases i with
          | zero =>
            simp at hi hG; subst hi hG
            cases b
            · exact ⟨fun h => by simp at h, fun _ => by simpa using h.1⟩
            · exact ⟨fun _ => by simpa [preW] using h.1, fun h => by simp at h⟩
          | succ i =>
            cases b
            · have := ih L B C m h.2 i o G (by simpa using hi) (by simpa using hG) (by simpa using hB) (by simpa using hC)
              simpa [preW, List.getD] using this
            · have := ih L B C (m + 1) h.2 i o G (by simpa using hi) (by simpa using hG) (by simpa using hB) (by simpa using hC)
              have e : m + 1 + preW B i = m + preW (true :: B) (i + 1) := by simp [preW]; omega
              rw [e] at this
              simpa [List.getD] using this

/-- What an operation that does not write may know of how many writers have run: those bound behind it have not. -/
def capB (md : Region.Mode) (ops : Array Oper) (B : List Bool) (C : List Nat) (n : Nat) : Bool :=
  (List.range n).all fun i => decide (preW B n ≤ C.getD i 0) || (List.range n).any fun k => B.getD k false && decide (preW B k ≤ C.getD i 0) && (match ops[k]? with | some o => o.after.toList.any fun e => Region.binds md e && decide (e.on = i) | none => false)

theorem soft_runW {Sm : Nat → List Nat} {Inv : Nat → World → Prop} {Q : Exit → Act → World → Prop} {a0 : Act} {l : List Oper} {n : Nat} {L : List (Value → World → Prop)} {B : List Bool} {C : List Nat} (hI : ∀ j w w', Inv j w → Chg [] w w' → Inv j w')
    (hB : softB md l n = true) (hW : chainWB md l.toArray B n = true) (hL : L.length = n) (hBl : B.length = n) (hCl : C.length = n) (hCap : capB md l.toArray B C n = true) (hΦ : staysW Sm L B 0)
    (hs : softsW P md l.toArray Sm Inv Q (fun V => putAll a0 (l.take n) 0 V) (phi L) (l.take n) L B C 0)
    (ht : ∀ V w', Inv (preW B n) w' → (∀ k, k < n → phi L k (V k) w') → wpList P l.toArray Q (l.drop n) (putAll a0 (l.take n) 0 V) w') :
    ∀ (f : Nat) (listed : Array Bool) (V : Nat → Value) (w : World) (m : Nat), HeadInv md l.toArray n listed → left listed n = f → Inv m w → (∀ k, k < n → B.getD k false = true → (listed.getD k true = true ↔ preW B k < m)) → m ≤ preW B n → (∀ k, k < n → listed.getD k true = true → phi L k (V k) w) →
      wpAny P md l.toArray Q (f + (l.length - n)) listed (putAll a0 (l.take n) 0 V) w := by
  simp only [softB, Bool.and_eq_true, Bool.or_eq_true, decide_eq_true_eq] at hB
  obtain ⟨⟨⟨⟨hn, hlow⟩, hap⟩, htail⟩, hseq⟩ := hB
  have hnd : ((l.take n).filterMap (·.dst)).Nodup := by simpa [apartB] using hap
  intro f
  induction f with
  | zero =>
    intro listed V w m inv hl hinv hord hmn hV
    have hall := left_zero n hl
    have e : listed = (List.replicate n true ++ List.replicate (l.length - n) false).toArray := by
      apply Array.ext
      · have := inv.size; simp at this; simp; omega
      · intro i h1 h2
        simp only [List.getElem_toArray]
        by_cases hi : i < n
        · rw [List.getElem_append_left (by simpa using hi), List.getElem_replicate]
          have := hall i hi
          simpa [h1] using this
        · rw [List.getElem_append_right (by simp; omega), List.getElem_replicate]
          have := inv.tail i (by omega) (by rw [← inv.size]; exact h1)
          simpa [h1] using this
    have hm : m = preW B n := by
      refine Nat.le_antisymm hmn ?_
      refine Decidable.byContradiction fun hlt => ?_
      have hlt : m < preW B n := by omega
      -- some writer has the count m
      have : ∀ k, k ≤ n → preW B k ≤ m := by
        intro k
        induction k with
        | zero => intro _; simp [preW]
        | succ k ih =>
          intro hk
          have h1 := ih (by omega)
          rw [preW_succ B k (by omega)]
          by_cases hb : B.getD k false = true
          · have := (hord k (by omega) hb).1 (hall k (by omega))
            rw [if_pos hb]; omega
          · rw [if_neg hb]; omega
      have := this n (Nat.le_refl _)
      omega
    subst hm
    have hd : (l.drop n).length = l.length - n := by simp
    have := wpAny_of_seq (P := P) (md := md) (Q' := Q) (ops := l.toArray) (l.drop n) n listed (putAll a0 (l.take n) 0 V) w (fun j => by simp [List.getElem?_drop]) (by rw [hd, e]; exact hseq) (ht V w hinv fun k hk => hV k hk (hall k hk))
    rw [hd] at this
    simpa using this
  | succ f ih =>
    intro listed V w m inv hl hinv hord hmn hV
    obtain ⟨j, hj, hj1, hj2⟩ := left_some (l := listed) n (by omega)
    have hsz : listed.size = l.length := by have := inv.size; simpa using this
    have hready : j ∈ Region.ready md l.toArray listed := by
      have hjl : j < l.length := by omega
      refine mem_ready.2 ⟨hj1, l[j], by simp [hjl], fun e he hb => ?_⟩
      have hlt := lowB_spec hlow hj (show l.toArray[j]? = some l[j] by simp [hjl]) e (by simpa using he) hb
      have := hj2 e.on hlt
      have h' : e.on < listed.size := by omega
      simpa [h'] using this
    rw [show f + 1 + (l.length - n) = (f + (l.length - n)) + 1 by omega]
    refine ⟨fun h => (by rw [h] at hready; cases hready), fun i hi => ?_⟩
    have hin : i < n := by
      rcases Nat.lt_or_ge i n with h | h
      · exact h
      · obtain ⟨_, oi, hoi, _⟩ := mem_ready.1 hi
        have hil : i < l.toArray.size := (Array.getElem?_eq_some_iff.1 hoi).1
        rcases htail with rfl | ⟨hs1, hs2⟩
        · simp at hil; omega
        · exact absurd hi (tail_waits hs1 hs2 (by omega) inv _ j rfl hj hj1 i h)
    obtain ⟨hun, oi, hoi, hdeps⟩ := mem_ready.1 hi
    have hoi' : (l.take n)[i]? = some oi := by
      rw [List.getElem?_take, if_pos hin]; simpa using hoi
    have hLi : L[i]? = some L[i] := List.getElem?_eq_getElem (by omega)
    have hfacts : ∀ e ∈ oi.after.toList, Region.binds md e = true → phi L e.on (V e.on) w := fun e he hb => by
      have hlt := lowB_spec hlow hin hoi e he hb
      have h1 := hdeps e (by simpa using he) hb
      refine hV e.on (by omega) ?_
      have h' : e.on < listed.size := by omega
      simpa [h'] using h1
    obtain ⟨hstW, hstQ⟩ := softsW_at (l.take n) L B C 0 hs i oi _ hoi' hLi (by omega) (by omega)
    have next : ∀ v w' m', (∀ k, k < n → k ≠ i → listed.getD k true = true → phi L k (V k) w → phi L k (V k) w') → L[i] v w' → Inv m' w' → (∀ k, k < n → B.getD k false = true → ((listed.setIfInBounds i true).getD k true = true ↔ preW B k < m')) → m' ≤ preW B n → wpAny P md l.toArray Q (f + (l.length - n)) (listed.setIfInBounds i true) ((putAll a0 (l.take n) 0 V).put oi.dst v) w' := by
      intro v w' m' hg hv hinv' hord' hmn'
      have hset := putAll_set (l.take n) a0 0 i V v oi hnd hoi'
      rw [Nat.zero_add] at hset
      rw [hset]
      refine ih _ _ _ m' (inv.set hi hin) (by have := left_set hun n hin; omega) hinv' hord' hmn' fun k hk hlk => ?_
      by_cases e : k = i
      · subst e; rw [if_pos rfl]; unfold phi; rw [hLi]; exact hv
      · rw [if_neg e]
        rw [getD_set_ne true (Ne.symm e)] at hlk
        exact hg k hk e hlk (hV k hk hlk)
    have hseti : (listed.setIfInBounds i true).getD i true = true := by
      rcases Nat.lt_or_ge i listed.size with h | h
      · simp [h]
      · simp [Array.getElem?_eq_none h] at hun
    unfold wpOp
    simp only [hoi]
    by_cases hbi : B.getD i false = true
    · -- a writer
      have hle : ¬ preW B i < m := fun h => by
        have := (hord i hin hbi).2 h
        rw [this] at hun; cases hun
      have hm : m = preW B i := by
        refine Nat.le_antisymm (by omega) ?_
        have h1 := List.all_eq_true.1 hW i (List.mem_range.2 hin)
        simp only [hbi, Bool.not_true, Bool.false_or, Bool.or_eq_true, decide_eq_true_eq, hoi, List.any_eq_true, Bool.and_eq_true] at h1
        rcases h1 with h1 | ⟨e, he, ⟨hb1, hb2⟩, hb3⟩
        · omega
        · have hlt := lowB_spec hlow hin hoi e he hb1
          have h3 := hdeps e (by simpa using he) hb1
          have h' : e.on < listed.size := by omega
          have := (hord e.on (by omega) hb2).1 (by simpa [h'] using h3)
          omega
      subst hm
      have hst := hstW hbi V w (by simpa using hinv) hfacts
      rw [Nat.zero_add] at hst
      have hkeep : ∀ w', Chg (Sm (preW B i)) w w' → ∀ k, k < n → k ≠ i → listed.getD k true = true → phi L k (V k) w → phi L k (V k) w' := by
        intro w' hg k hk _ hlk h1
        have hLk : L[k]? = some L[k] := List.getElem?_eq_getElem (by omega)
        unfold phi at *
        rw [hLk] at h1 ⊢
        exact (staysW_at L B 0 hΦ k _ hLk (by omega)).2 (preW B i) (fun hbk => by rw [Nat.zero_add]; exact (hord k hk hbk).1 hlk) _ _ _ h1 hg
      have hord' : ∀ k, k < n → B.getD k false = true → ((listed.setIfInBounds i true).getD k true = true ↔ preW B k < preW B i + 1) := by
        intro k hk hbk
        by_cases e : k = i
        · subst e; simp [hseti]
        · rw [getD_set_ne true (Ne.symm e), hord k hk hbk]
          have : preW B k ≠ preW B i := fun h => e (preW_inj hbk hbi h)
          omega
      have hmn' : preW B i + 1 ≤ preW B n := by
        have h1 := preW_succ B i (by omega)
        rw [hbi] at h1
        have h2 := preW_mono B (show i + 1 ≤ n from hin)
        simp at h1; omega
      unfold wStep at hst
      split
      · rename_i hwant
        rw [if_pos hwant] at hst
        refine .inl (Oper.wp_mono ?_ hst)
        rintro a' w' ⟨v, rfl, hg, hinv', hv⟩
        exact next v w' _ (hkeep w' hg) hv hinv' hord' hmn'
      · rename_i hwant
        rw [if_neg hwant] at hst
        exact next undef w _ (hkeep w hst.1) hst.2.2 hst.2.1 hord' hmn'
    · have hbi' : B.getD i false = false := by simpa using hbi
      have hmc : m ≤ C.getD i 0 := by
        have h1 := List.all_eq_true.1 hCap i (List.mem_range.2 hin)
        simp only [Bool.or_eq_true, decide_eq_true_eq, List.any_eq_true, Bool.and_eq_true] at h1
        rcases h1 with h1 | ⟨k, hk, ⟨hbk, hpk⟩, hd⟩
        · omega
        · have hkn := List.mem_range.1 hk
          cases hok : l.toArray[k]? with
          | none => rw [hok] at hd; cases hd
          | some ok =>
            rw [hok] at hd
            simp only [List.any_eq_true, Bool.and_eq_true, decide_eq_true_eq] at hd
            obtain ⟨e, he, hb1, hb2⟩ := hd
            have hnl : ¬ listed.getD k true = true := fun hl => by
              have hsz' : k < listed.size := by omega
              have := inv.closed k ok hok (by simpa [hsz'] using hl) e (by simpa using he) hb1
              rw [hb2] at this
              have hi' : i < listed.size := by omega
              have h2 : listed.getD i true = true := by simpa [hi'] using this
              rw [h2] at hun; cases hun
            have : ¬ preW B k < m := fun h => hnl ((hord k hkn hbk).2 h)
            omega
      have hst := hstQ hbi' V w ⟨m, hmc, hinv⟩ hfacts
      have hkeep : ∀ w', Chg [] w w' → ∀ k, k < n → k ≠ i → listed.getD k true = true → phi L k (V k) w → phi L k (V k) w' := by
        intro w' hg k hk _ hlk h1
        have hLk : L[k]? = some L[k] := List.getElem?_eq_getElem (by omega)
        unfold phi at *
        rw [hLk] at h1 ⊢
        exact (staysW_at L B 0 hΦ k _ hLk (by omega)).1 _ _ _ h1 hg
      have hord' : ∀ k, k < n → B.getD k false = true → ((listed.setIfInBounds i true).getD k true = true ↔ preW B k < m) := by
        intro k hk hbk
        have e : k ≠ i := by rintro rfl; exact hbi hbk
        rw [getD_set_ne true (Ne.symm e)]
        exact hord k hk hbk
      unfold softStep at hst
      split
      · rename_i hwant
        rw [if_pos hwant] at hst
        refine .inl (Oper.wp_mono ?_ hst)
        rintro a' w' ⟨v, rfl, hg, hv⟩
        exact next v w' m (hkeep w' hg) hv (hI _ _ _ hinv hg) hord' hmn
      · rename_i hwant
        rw [if_neg hwant] at hst
        exact next undef w m (hkeep w (Chg.refl _ _)) hst hinv hord' hmn

theorem region_softW {id : Nat} {Q : Exit → Act → World → Prop} {a : Act} {w : World} {l : List Oper} (Sm : Nat → List Nat) (Inv : Nat → World → Prop) (n : Nat) (L : List (Value → World → Prop)) (B : List Bool) (C : List Nat) (hL : L.length = n) (hBl : B.length = n) (hCl : C.length = n) (hm : P.follows .mixedOrders = true) (hB : softB .any l n = true) (hW : chainWB .any l.toArray B n = true) (hCap : capB .any l.toArray B C n = true)
    (hI : ∀ j w w', Inv j w → Chg [] w w' → Inv j w') (h0 : Inv 0 w) (hΦ : staysW Sm L B 0)
    (F : (Nat → Value) → Act) (hF : ∀ V, putAll a (l.take n) 0 V = F V)
    (hs : softsW P .any l.toArray Sm Inv Q F (phi L) (l.take n) L B C 0)
    (ht : ∀ V w', Inv (preW B n) w' → (∀ k, k < n → phi L k (V k) w') → wpList P l.toArray Q (l.drop n) (F V) w') : (Code.region id l.toArray true).wp P Q a w := by
  refine wp_region_any hm ?_
  have hFF : (fun V => putAll a (l.take n) 0 V) = F := funext hF
  obtain ⟨V0, hV0⟩ := putAll_own (l.take n) a 0
  have hn : n ≤ l.length := by
    simp only [softB, Bool.and_eq_true, Bool.or_eq_true, decide_eq_true_eq] at hB
    exact hB.1.1.1.1
  have inv0 : HeadInv .any l.toArray n (Array.replicate l.toArray.size false) :=
    ⟨by simp, fun j oj _ hl => absurd hl (by rw [getD_replicate_false]; simp), fun t _ ht => getD_in (by simpa using ht) (getD_replicate_false _ _)⟩
  have hno : ∀ k, k < n → (Array.replicate l.toArray.size false).getD k true = false := fun k hk => getD_in (by simp; omega) (getD_replicate_false _ _)
  have hl0 : ∀ k, k ≤ n → left (Array.replicate l.toArray.size false) k = k := by
    intro k
    induction k with
    | zero => intro _; rfl
    | succ k ih => intro hk; simp only [left, ih (by omega)]; rw [hno k (by omega)]; simp
  have := soft_runW (P := P) (md := .any) (Q := Q) (a0 := a) (l := l) (n := n) (L := L) (B := B) (C := C) (Sm := Sm) (Inv := Inv) hI hB hW hL hBl hCl hCap hΦ (by rw [hFF]; exact hs) (fun V w' h2 h3 => by rw [hF]; exact ht V w' h2 h3) n (Array.replicate l.toArray.size false) V0 { w with drawn := w.drawn + 1 } 0 inv0 (hl0 n (Nat.le_refl _)) (hI _ _ _ h0 (Chg.drew [] w)) (fun k hk _ => by
    rw [hno k hk]; simp) (Nat.zero_le _) (fun k hk h => by
    rw [hno k hk] at h; cases h)
  rw [hV0, show n + (l.length - n) = l.toArray.size by simp; omega] at this
  exact this

theorem staysW_cst (Sm : Nat → List Nat) (c : Value) : Stays (cst c) ∧ ∀ m v w w', cst c v w → Chg (Sm m) w w' → cst c v w' := ⟨Stays.cst c, fun _ _ _ _ h _ => h⟩
theorem staysW_cstW (Sm : Nat → List Nat) (c : Value) (j : Nat) : Stays (cst c) ∧ ∀ m, j < m → ∀ v w w', cst c v w → Chg (Sm m) w w' → cst c v w' := ⟨Stays.cst c, fun _ _ _ _ _ h _ => h⟩
theorem wstep_call {Q : Exit → Act → World → Prop} {o : Oper} {a : Act} {w : World} {Post : Value → World → Prop} (hw : Region.wanted o (yielded ops a.tmps) = true) (f : FuncId) (args : Array Value) (hr : (execOp a.eval o).run P w = .ok (.enter f args) w)
    (hc : Calls P f args w fun e w' => ∃ v, e = .returned v ∧ Post v w') : wStep P ops Q o a w Post := by
  unfold wStep
  rw [if_pos hw]
  unfold Oper.wp
  rw [hr]
  refine Calls.mono hc fun e w' ⟨v, he, hp⟩ => ?_
  subst he
  exact ⟨v, rfl, hp⟩
/-- What is said of one operation at its list's end. -/
def onlyN (a : Act) (o : Oper) (Post : Value → World → Prop) : Exit → Act → World → Prop
  | .normal, a', w' => ∃ v, a' = a.put o.dst v ∧ Post v w'
  | _, _, _ => False
theorem wp_only {Q : Exit → Act → World → Prop} {o : Oper} {a a0 : Act} {w : World} {o0 : Oper} {Post : Value → World → Prop} {K : Act → World → Prop} (h : o.wp P a w K (onlyN a0 o0 Post)) : o.wp P a w K Q := by
  unfold Oper.wp at *
  generalize (execOp a.eval o).run P w = r at *
  cases r with
  | ok n w' =>
    cases n <;> simp only [Oper.upon] at h ⊢ <;>
      first
        | exact h
        | (refine Calls.mono h (fun e w'' he => ?_)
           cases e with
           | returned v => exact he
           | panicked c => exact he.elim
           | outgrown => obtain ⟨_, _, hf⟩ := he; exact hf.elim)
  | halt x w' => cases x <;> simp only [Oper.upon] at h ⊢ <;> exact h.elim
/-- A writer, by a law that stands at a plain list. -/
theorem wstep_list {Q : Exit → Act → World → Prop} {o : Oper} {a : Act} {w : World} {Post : Value → World → Prop} (hw : Region.wanted o (yielded ops a.tmps) = true) (h : wpList P ops (onlyN a o Post) [o] a w) : wStep P ops Q o a w Post := by
  unfold wStep
  rw [if_pos hw]
  unfold wpList at h
  rw [if_pos hw] at h
  rcases h with h | ⟨_, _, _, hf⟩
  · exact Oper.wp_mono (fun a' w' h' => h') (wp_only h)
  · exact hf.elim
theorem wstep_made {Q : Exit → Act → World → Prop} {o : Oper} {a : Act} {w w' : World} {v : Value} {Post : Value → World → Prop} (hw : Region.wanted o (yielded ops a.tmps) = true) (hr : (execOp a.eval o).run P w = .ok (.value v) w') (h : Post v w') : wStep P ops Q o a w Post := by
  unfold wStep
  rw [if_pos hw]
  unfold Oper.wp
  rw [hr]
  exact ⟨v, rfl, h⟩
/-- A cell is loaded, as it lies in this very world. -/
theorem soft_cellN {Q : Exit → Act → World → Prop} {o : Oper} {a : Act} {w : World} (hw : Region.wanted o (yielded ops a.tmps) = true) (ty : TypeId) (x : Operand) (ho : o.op = .load ty x) (p : Addr) (hx : a.eval x = .pointer (some p))
    (v : Value) (d : TypeDesc) (hc : w.cell? p = some v) (hu : P.underlying ty = some d) (hd : d.isRow = false) : softStep P ops Q o a w (cst v) :=
  soft_cell hw (Chg.refl [] w) ty x ho p hx v d hc hu hd
end
end Go.Proofs.YtdclbhmmpdngpaaDoor
