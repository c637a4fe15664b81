/-
  'append(out, x...)', out the call's own: what comes lies where out lay, or in new memory. No program in sight.
-/
import Derived.Test.YtdclbhmmpdngpaaDoorSoft2
import Derived.Laws.OwnMore
namespace Go.Proofs.YtdclbhmmpdngpaaDoor
set_option linter.unusedSimpArgs false
set_option linter.unusedVariables false
open Go.RowKit

/-- The value lies where the other one lay, or is new. -/
def SameNew (w : World) (v v' : Value) : Prop := v'.ownBlock = v.ownBlock ∨ ∀ k, v'.ownBlock = some k → w.heap.size ≤ k
theorem SameNew.refl (w : World) (v : Value) : SameNew w v v := .inl rfl
theorem SameNew.trans {w w' : World} {v v' v'' : Value} (h : SameNew w v v') (k : SameNew w' v' v'') (hs : w.heap.size ≤ w'.heap.size) : SameNew w v v'' := by
  rcases k with k | k
  · rcases h with h | h
    · exact .inl (k.trans h)
    · exact .inr fun n hn => h n (by rw [← k]; exact hn)
  · exact .inr fun n hn => Nat.le_trans hs (k n hn)
/-- A block that is old, and not the value's, is not the new value's. -/
theorem SameNew.ne {w : World} {v v' : Value} (h : SameNew w v v') {p : Nat} (hp : p < w.heap.size) (hn : v.ownBlock ≠ some p) : v'.ownBlock ≠ some p := by
  intro e
  rcases h with h | h
  · exact hn (by rw [← h]; exact e)
  · have := h p e; omega

theorem run_append_sl {P : Program} (w : World) (t ty e : TypeId) (size bytes : Nat) (el : ElemT P t e size bytes)
    (base : Nat) (v : Value) (n : Nat) (xs : List Value) (hown : w.ownsRow base e size v n xs)
    (u : Value) (m : Nat) (news : List Value) (hsl : Sl w u m news) (hl : news.length = m * size) (h1 : ∀ u ∈ news, u.oneCell' = true)
    (hb : (n + m) * bytes ≤ big) (hbase : base ≤ w.heap.size) :
    ∃ v' w', (Builtin.append_ #[t, t] ty #[v, u]).run P w = .ok v' w' ∧ w'.ownsRow base e size v' (n + m) (xs ++ news) ∧ w.grownBy w' v.ownBlock ∧ SameNew w v v' ∧ ((∀ a k c, v = .slice a k c → c = 0) → Chg [] w w') := by
  obtain ⟨i, z, hi, hz, hsize, hby, hzs⟩ := el.info
  obtain ⟨ad, c, rfl, q1, q2, q3, q4, q6, q5⟩ := hsl
  cases ad with
  | none =>
    obtain rfl := q3 rfl
    obtain rfl : m = 0 := by omega
    obtain rfl : news = [] := by simpa using hl
    exact ⟨v, w, run_append_owned_none (P := P) (w := w) base t ty e i size el.und hi v n xs hown, by simpa using hown, World.grownBy.refl _ _, SameNew.refl _ _, fun _ => Chg.refl _ _⟩
  | some ad =>
    have hcells : ∀ j u, news[j]? = some u → w.cell? (ad.add j) = some u := fun j u hj => by
      obtain ⟨y, hy, hu⟩ := q5 j u hj
      cases hy; exact hu
    have hnm := le_big el.bpos hb
    obtain ⟨v', w', hr, h2, h3, _⟩ := run_append_own (P := P) w base t ty e i z size bytes el.und hi hz hsize hby hzs el.pos v n xs hown ad m c news hl hcells h1 hnm hb hbase
    refine ⟨v', w', hr, h2, h3, ?_⟩
    subst hsize hby
    have hsmall : n + m ≤ 9223372036854775807 := by simp only [maxLen] at hnm; omega
    obtain ⟨_, ⟨rfl, rfl⟩ | ⟨g, cap, cur, rfl, hbg, hg, hnc, hcm, hcs, htake⟩⟩ := id hown
    · refine ⟨?_, fun _ => Chg.grown0 h3⟩
      by_cases hm : m = 0
      · subst hm
        have hn : news = [] := List.eq_nil_of_length_eq_zero (by simpa using hl)
        subst hn
        have hr2 : (Builtin.append_ #[t, t] ty #[.slice none 0 0, .slice (some ad) 0 c]).run P w = .ok (.slice none 0 0) w := by
          simp [Builtin.append_, run_underlying el.und, sizeOf, typeInfo, hi, Builtin.lenOf, Builtin.firstCells, loadCells, loadCellsFrom]
        rw [hr2] at hr
        cases hr
        exact SameNew.refl _ _
      · have hr2 := run_append_nil (P := P) w t ty e i z el.und hi hz ad m c news hl hcells (by omega) (by omega) (by unfold big at hb; simp only [Nat.zero_add] at hb; omega)
        rw [hr2] at hr
        cases hr
        exact .inr fun k hk => by simp [Value.ownBlock] at hk; omega
    · by_cases hroom : n + m ≤ cap
      · have hfit : n * i.size + news.length ≤ cur.size := by rw [hl, hcs, ← Nat.add_mul]; exact Nat.mul_le_mul_right _ hroom
        have hr2 := run_append_room (P := P) w t ty e i el.und hi g n cap cur hg ad m c news hl hcells h1 hroom hfit
        rw [hr2] at hr
        cases hr
        refine ⟨.inl rfl, fun hc => ?_⟩
        obtain rfl : cap = 0 := hc _ _ _ rfl
        obtain rfl : n = 0 := by omega
        obtain rfl : m = 0 := by omega
        obtain rfl : news = [] := by simpa using hl
        refine ⟨rfl, rfl, rfl, by simp, fun k hk _ => ?_⟩
        by_cases e : k = g
        · subst e
          rw [setRow_heap w k cur _ _ _ hg, hg]
          simp
        · exact setRow_other w g k _ e
      · have holds : ∀ j u, xs[j]? = some u → w.cell? ((⟨g, 0, none⟩ : Addr).add j) = some u := hown.cells (g := g) rfl
        have hr2 := run_append_grow (P := P) w t ty e i z el.und hi hz ⟨g, 0, none⟩ n cap xs hown.1 holds ad m c news hl hcells (by omega) (by omega) (growslice_fits (by omega) hb)
        rw [hr2] at hr
        cases hr
        exact ⟨.inr fun k hk => by simp [Value.ownBlock] at hk; omega, fun _ => ⟨rfl, rfl, rfl, by simp, fun k hk _ => Below.heap_alloc w.drew _ _ hk⟩⟩

theorem exec_append {P : Program} {w w' : World} {o : Oper} {a : Act} (s x : Operand) (t : TypeId) (ho : o.op = .call { callee := .builtin .append, args := #[s, x], argTypes := #[t, t] }) (v u v' : Value) (hs : a.eval s = v) (hx : a.eval x = u)
    (hr : (Builtin.append_ #[t, t] o.type #[v, u]).run P w = .ok v' w') : (execOp a.eval o).run P w = .ok (.value v') w' := by
  unfold execOp
  simp only [ho, resolve, invoke, builtin, Sem.run_bind, Sem.run_pure, Result.andThen_ok, List.map_toArray, List.map_cons, List.map_nil, hs, hx, hr]
/-- 'append(out, x...)', where what comes lies is told. -/
theorem wpList_append_slF {P : Program} (w : World) {ops : Array Oper} {rest : List Oper} {o : Oper} {a : Act} {Q : Exit → Act → World → Prop} (hgd : o.guard = none) (s x : Operand) (t e size bytes : Nat)
    (ho : o.op = .call { callee := .builtin .append, args := #[s, x], argTypes := #[t, t] }) (el : ElemT P t e size bytes)
    (base : Nat) (v : Value) (n : Nat) (xs : List Value) (hs : a.eval s = v) (hown : w.ownsRow base e size v n xs)
    (u : Value) (m : Nat) (news : List Value) (hx : a.eval x = u) (hsl : Sl w u m news) (hl : news.length = m * size) (h1 : ∀ u ∈ news, u.oneCell' = true)
    (hb : (n + m) * bytes ≤ big) (hbase : base ≤ w.heap.size)
    (h : ∀ v' w', w'.ownsRow base e size v' (n + m) (xs ++ news) → w.grownBy w' v.ownBlock → SameNew w v v' → wpList P ops Q rest (a.put o.dst v') w') : wpList P ops Q (o :: rest) a w := by
  obtain ⟨v', w', hr, h2, h3, h4, _⟩ := run_append_sl (P := P) w t o.type e size bytes el base v n xs hown u m news hsl hl h1 hb hbase
  refine wpList_plain hgd fun K hK => ?_
  unfold Oper.wp
  rw [exec_append s x t ho v u v' hs hx hr]
  exact hK _ _ (h v' w' h2 h3 h4)

/-- What is known of values of a region's operations. -/
def OwnF (b e size n : Nat) (xs : List Value) (v : Value) (w : World) : Prop := w.ownsRow b e size v n xs
def OwnE (b e size : Nat) (v : Value) (w : World) : Prop := w.ownsRow b e size v 0 [] ∧ ∀ a k c, v = .slice a k c → c = 0
def SlF (n : Nat) (cs : List Value) (v : Value) (w : World) : Prop := Sl w v n cs
theorem OwnF.tr {b e size n : Nat} {xs : List Value} {v : Value} {w w' : World} (h : OwnF b e size n xs v w) (g : Chg [] w w') : OwnF b e size n xs v w' := own_tr h g (by simp)
theorem OwnE.tr {b e size : Nat} {v : Value} {w w' : World} (h : OwnE b e size v w) (g : Chg [] w w') : OwnE b e size v w' := ⟨own_tr h.1 g (by simp), h.2⟩
theorem OwnF.stays {b e size n : Nat} {xs : List Value} : Stays (OwnF b e size n xs) := fun _ _ _ h g => OwnF.tr h g
theorem OwnE.stays {b e size : Nat} : Stays (OwnE b e size) := fun _ _ _ h g => OwnE.tr h g
theorem SlF.stays {n : Nat} {cs : List Value} : Stays (SlF n cs) := fun _ _ _ h g => Sl.tr0 h g
theorem OwnE.lit {b e size : Nat} {w : World} (h : b ≤ w.heap.size) : OwnE b e size (.slice (some ⟨w.heap.size, 0, none⟩) 0 0) (w.alloc (.cells #[] e)) := ⟨own_lit w #[] e 0 size b h (Nat.zero_le _) (by simp), fun a k c e => by cases e; rfl⟩
end Go.Proofs.YtdclbhmmpdngpaaDoor
