/-
  What is said of memory in the texts of this seat: which old blocks a call may have turned (Chg), what a slice value holds (Sl). No program in sight.
-/
import Derived.WalkKit
import Derived.Deep.QuietTactic
import Derived.BigQuiet
import Derived.Laws.AppendOwnNone
import Derived.WalkSpells
import Derived.Laws.CopyOwn
import Derived.RegionCalls
import Derived.Deep.RegionWith
namespace Go.Proofs.YtdclbhmmpdngpaaDoor
set_option linter.unusedSimpArgs false
set_option linter.unusedVariables false
open Go.RowKit

/-- w' is w but for new blocks and for the old blocks in S. -/
structure Chg (S : List Nat) (w w' : World) : Prop where
  os : w'.os = w.os
  tape : w'.tape = w.tape
  output : w'.output = w.output
  size : w.heap.size ≤ w'.heap.size
  block : ∀ k, k < w.heap.size → k ∉ S → w'.heap[k]? = w.heap[k]?

theorem Chg.refl (S : List Nat) (w : World) : Chg S w w := ⟨rfl, rfl, rfl, Nat.le_refl _, fun _ _ _ => rfl⟩
theorem Chg.mono {S S' : List Nat} {w w' : World} (h : Chg S w w') (hs : ∀ k ∈ S, k ∈ S' ∨ w.heap.size ≤ k) : Chg S' w w' :=
  ⟨h.os, h.tape, h.output, h.size, fun k hk hn => h.block k hk fun hm => by rcases hs k hm with h1 | h1; exact hn h1; omega⟩
theorem Chg.trans {S S' : List Nat} {a b c : World} (h : Chg S a b) (k : Chg S' b c) (hs : ∀ x ∈ S', x ∈ S ∨ a.heap.size ≤ x) : Chg S a c :=
  ⟨k.os.trans h.os, k.tape.trans h.tape, k.output.trans h.output, Nat.le_trans h.size k.size, fun i hi hn =>
    (k.block i (Nat.lt_of_lt_of_le hi h.size) fun hm => by rcases hs i hm with h1 | h1; exact hn h1; omega).trans (h.block i hi hn)⟩
theorem Chg.t0 {S : List Nat} {a b c : World} (h : Chg S a b) (k : Chg [] b c) : Chg S a c := h.trans k (by simp)
theorem Chg.t1 {S : List Nat} {a b c : World} (h : Chg S a b) (k : Chg S b c) : Chg S a c := h.trans k fun _ h => .inl h
/-- A write to one block that is new since a. -/
theorem Chg.tn {S : List Nat} {a b c : World} {p : Nat} (h : Chg S a b) (k : Chg [p] b c) (hp : a.heap.size ≤ p) : Chg S a c := h.trans k (by simpa using .inr hp)
theorem Chg.of0 {S : List Nat} {a b : World} (h : Chg [] a b) : Chg S a b := h.mono (by simp)
theorem Chg.grown {w w' : World} {row : Option Nat} (h : w.grownBy w' row) : Chg row.toList w w' :=
  ⟨h.os, h.tape, h.output, h.size, fun k hk hn => h.block k hk fun e => hn (by rw [← e]; simp)⟩
theorem Chg.grown0 {w w' : World} (h : w.grownBy w' none) : Chg [] w w' := Chg.grown h
theorem Chg.below {w w' : World} (h : Chg [] w w') : Below w.heap.size w w' := ⟨h.os, h.tape, h.output, h.size, fun k hk => h.block k hk (by simp)⟩
theorem Chg.ofBelow {w w' : World} (h : Below w.heap.size w w') : Chg [] w w' := ⟨h.os, h.tape, h.output, h.size, fun k hk _ => h.block k hk⟩
theorem Chg.belowB {B : Nat} {S : List Nat} {w w' : World} (h : Chg S w w') (hB : B ≤ w.heap.size) (hS : ∀ k ∈ S, B ≤ k) : Below B w w' :=
  ⟨h.os, h.tape, h.output, h.size, fun k hk => h.block k (by omega) fun hm => by have := hS k hm; omega⟩
theorem Chg.alloc (S : List Nat) (w : World) (o : Obj) : Chg S w (w.alloc o) := ⟨rfl, rfl, rfl, by simp, fun k hk _ => Below.heap_alloc _ _ _ hk⟩
theorem Chg.drew (S : List Nat) (w : World) : Chg S w w.drew := ⟨rfl, rfl, rfl, Nat.le_refl _, fun _ _ _ => rfl⟩
theorem Chg.drewN (S : List Nat) (w : World) (n : Nat) : Chg S w (w.drewN n) := ⟨rfl, rfl, rfl, Nat.le_refl _, fun _ _ _ => rfl⟩
theorem Chg.setCell (w : World) (a : Addr) (u : Value) : Chg [a.block] w (w.setCell a u) :=
  ⟨rfl, rfl, rfl, by simp, fun k _ hn => Below.heap_setCell _ _ _ _ (by simpa using hn)⟩
theorem Chg.setCellS {S : List Nat} (w : World) (a : Addr) (u : Value) (h : a.block ∈ S) : Chg S w (w.setCell a u) :=
  (Chg.setCell w a u).mono (by simp [h])
theorem Chg.cell {S : List Nat} {w w' : World} (h : Chg S w w') {p : Addr} (hp : p.block < w.heap.size) (hn : p.block ∉ S) : w'.cell? p = w.cell? p :=
  World.cell?_of_block (w := w) (h.block p.block hp hn)
theorem Chg.cellv {S : List Nat} {w w' : World} (h : Chg S w w') {p : Addr} {v : Value} (hp : w.cell? p = some v) (hn : p.block ∉ S) : w'.cell? p = some v :=
  (h.cell (World.block_lt_of_cell? w p hp) hn).trans hp
theorem lt_of_heap {w : World} {k : Nat} {o : Obj} (h : w.heap[k]? = some o) : k < w.heap.size := (Array.getElem?_eq_some_iff.1 h).1
theorem Chg.heap {S : List Nat} {w w' : World} (h : Chg S w w') {k : Nat} {o : Obj} (hk : w.heap[k]? = some o) (hn : k ∉ S) : w'.heap[k]? = some o :=
  (h.block k (lt_of_heap hk) hn).trans hk

/-- The block in which a slice's cells lie, if it has any. -/
def vblk : Value → Option Nat
  | .slice (some a) _ (_ + 1) => some a.block
  | _ => none
theorem vblk_own {v : Value} {k : Nat} (h : vblk v = some k) : v.ownBlock = some k := by
  unfold vblk at h
  split at h
  · simpa [Value.ownBlock] using h
  · cases h
theorem vblk_slice {a : Option Addr} {n c k : Nat} : vblk (.slice a n c) = some k ↔ 0 < c ∧ a.map (·.block) = some k := by
  cases a with
  | none => simp [vblk]
  | some x =>
    cases c with
    | zero => simp [vblk]
    | succ c => simp [vblk]

theorem Addr.add_block (x : Addr) (j : Nat) : (x.add j).block = x.block := by unfold Addr.add; split <;> rfl
theorem Addr.add_add (x : Addr) (i j : Nat) : (x.add i).add j = x.add (i + j) := by
  unfold Addr.add
  by_cases hi : i = 0
  · subst hi; simp
  · by_cases hj : j = 0
    · subst hj; simp
    · simp [hi, hj, Nat.add_assoc]

/-- What a slice value of n elements holds: cs, cell by cell. -/
def Sl (w : World) (v : Value) (n : Nat) (cs : List Value) : Prop :=
  ∃ a c, v = .slice a n c ∧ n ≤ c ∧ c ≤ maxLen ∧ (a = none → c = 0) ∧ (∀ x, a = some x → 0 < c → x.block < w.heap.size) ∧ (c = 0 → cs = []) ∧
    ∀ j u, cs[j]? = some u → ∃ x, a = some x ∧ w.cell? (x.add j) = some u

theorem Sl.tr {w w' : World} {v : Value} {n : Nat} {cs : List Value} {S : List Nat} (h : Sl w v n cs) (hc : Chg S w w') (hn : ∀ k, vblk v = some k → k ∉ S) : Sl w' v n cs := by
  obtain ⟨a, c, rfl, h1, h2, h3, h4, h6, h5⟩ := h
  refine ⟨a, c, rfl, h1, h2, h3, fun x hx h0 => Nat.lt_of_lt_of_le (h4 x hx h0) hc.size, h6, fun j u hj => ?_⟩
  obtain ⟨x, hx, hu⟩ := h5 j u hj
  refine ⟨x, hx, hc.cellv hu ?_⟩
  rw [Addr.add_block]
  have h0 : 0 < c := by
    rcases Nat.eq_zero_or_pos c with e | e
    · rw [h6 e] at hj; simp at hj
    · exact e
  exact hn _ (vblk_slice.2 ⟨h0, by simp [hx]⟩)
theorem Sl.tr0 {w w' : World} {v : Value} {n : Nat} {cs : List Value} (h : Sl w v n cs) (hc : Chg [] w w') : Sl w' v n cs := h.tr hc (by simp)
theorem Sl.tr1 {w w' : World} {v : Value} {n : Nat} {cs : List Value} {p : Nat} (h : Sl w v n cs) (hc : Chg [p] w w') (hn : vblk v ≠ some p) : Sl w' v n cs :=
  h.tr hc (by rintro k hk; simp; rintro rfl; exact hn hk)
theorem Sl.lt {w : World} {v : Value} {n : Nat} {cs : List Value} (h : Sl w v n cs) : ∀ k, vblk v = some k → k < w.heap.size := by
  obtain ⟨a, c, rfl, h1, h2, h3, h4, h6, h5⟩ := h
  intro k hk
  obtain ⟨h0, e⟩ := vblk_slice.1 hk
  cases a with
  | none => cases e
  | some x => cases e; exact h4 x rfl h0
/-- An object that is not older than the slice's world. -/
theorem Sl.ne {w : World} {v : Value} {n : Nat} {cs : List Value} (h : Sl w v n cs) {p : Nat} (hp : w.heap.size ≤ p) : vblk v ≠ some p := fun e => by have := h.lt p e; omega
theorem Sl.nil (w : World) : Sl w (.slice none 0 0) 0 [] := ⟨none, 0, rfl, Nat.le_refl _, Nat.zero_le _, fun _ => rfl, fun _ h => (by cases h), fun _ => rfl, fun j u h => (by simp at h)⟩
theorem Sl.ofOwns {w : World} {base e size n : Nat} {v : Value} {xs : List Value} (h : w.ownsRow base e size v n xs) : Sl w v n xs := by
  obtain ⟨h1, ⟨rfl, rfl⟩ | ⟨g, cap, cur, rfl, hb, hg, hnc, hcm, hcs, ht⟩⟩ := h
  · have : xs = [] := by simpa using h1
    subst this; exact Sl.nil w
  · refine ⟨_, cap, rfl, hnc, hcm, fun h => (by cases h), fun x hx _ => (by cases hx; exact lt_of_heap hg), fun hc => ?_, fun j u hj => ⟨_, rfl, ?_⟩⟩
    · have hn : n = 0 := by omega
      rw [hn, Nat.zero_mul] at h1
      simpa using h1
    · have : w.ownsRow base e size (.slice (some ⟨g, 0, none⟩) n cap) n xs := ⟨h1, .inr ⟨g, cap, cur, rfl, hb, hg, hnc, hcm, hcs, ht⟩⟩
      exact this.cells (g := g) rfl j u hj
/-- A slice that is not empty lies somewhere. -/
theorem Sl.at {w : World} {v : Value} {n : Nat} {cs : List Value} (h : Sl w v n cs) (hne : 0 < cs.length) :
    ∃ b off c, v = .slice (some ⟨b, off, none⟩) n c ∧ n ≤ c ∧ c ≤ maxLen ∧ b < w.heap.size ∧ ∀ j u, cs[j]? = some u → w.cell? ⟨b, off + j, none⟩ = some u := by
  obtain ⟨a, c, rfl, h1, h2, h3, h4, h6, h5⟩ := h
  obtain ⟨x, hx, hu⟩ := h5 0 cs[0] (by simp [hne])
  obtain ⟨b, off, sp⟩ := x
  have hsp : sp = none := by
    cases sp with
    | none => rfl
    | some s => simp [Addr.add, World.cell?] at hu; split at hu <;> simp_all
  subst hsp hx
  refine ⟨b, off, c, rfl, h1, h2, World.block_lt_of_cell? w _ (by rw [Addr.add_lit] at hu; exact hu), fun j u hj => ?_⟩
  obtain ⟨x, hx, hu⟩ := h5 j u hj
  cases hx
  rw [Addr.add_lit] at hu
  exact hu
theorem Sl.le {w : World} {v : Value} {n : Nat} {cs : List Value} (h : Sl w v n cs) : n ≤ maxLen := by
  obtain ⟨a, c, rfl, h1, h2, _⟩ := h; omega
theorem Sl.shape {w : World} {v : Value} {n : Nat} {cs : List Value} (h : Sl w v n cs) : ∃ a c, v = .slice a n c := by
  obtain ⟨a, c, rfl, _⟩ := h; exact ⟨_, _, rfl⟩
/-- The cells of a slice whose shape is known. -/
theorem Sl.cellsOf {w : World} {a : Option Addr} {n c : Nat} {cs : List Value} (h : Sl w (.slice a n c) n cs) : ∀ j u, cs[j]? = some u → ∃ x, a = some x ∧ w.cell? (x.add j) = some u := by
  obtain ⟨_, _, e, _, _, _, _, _, h5⟩ := h
  cases e; exact h5
theorem Sl.take {w : World} {a : Option Addr} {n c k : Nat} {cs : List Value} (h : Sl w (.slice a n c) n cs) (hk : k ≤ n) (j : Nat) : Sl w (.slice a k c) k (cs.take j) := by
  obtain ⟨a', c', e, q1, q2, q3, q4, q6, q5⟩ := h
  cases e
  refine ⟨a, c, rfl, by omega, q2, q3, q4, fun h => by rw [q6 h]; simp, fun i u hi => q5 i u ?_⟩
  rw [List.getElem?_take] at hi
  split at hi
  · exact hi
  · cases hi
/-- The tail behind k elements, of 'size' cells each, where the capacity does not end there. -/
theorem Sl.dropN {w : World} {a : Option Addr} {n c k : Nat} {cs : List Value} (h : Sl w (.slice a n c) n cs) (hk : k ≤ n) (hc : ¬ c = k) (size : Nat) : Sl w (.slice (a.map fun x => x.add (k * size)) (n - k) (c - k)) (n - k) (cs.drop (k * size)) := by
  obtain ⟨a', c', e, q1, q2, q3, q4, q6, q5⟩ := h
  cases e
  refine ⟨_, _, rfl, by omega, by omega, fun e => ?_, fun x hx _ => ?_, fun _ => by omega, fun i u hi => ?_⟩
  · cases a with
    | none => have := q3 rfl; omega
    | some x => cases e
  · cases a with
    | none => cases hx
    | some y => cases hx; rw [Addr.add_block]; exact q4 _ rfl (by omega)
  · rw [List.getElem?_drop] at hi
    obtain ⟨x, rfl, hu⟩ := q5 _ u hi
    exact ⟨_, rfl, by rw [Addr.add_add]; exact hu⟩
/-- The tail where the capacity ends there: nothing. -/
theorem Sl.dropE {w : World} {a : Option Addr} {n c k : Nat} {cs : List Value} (h : Sl w (.slice a n c) n cs) (hk : k ≤ n) (hc : c = k) (size : Nat) (hl : cs.length = n * size) : Sl w (.slice a (n - k) 0) (n - k) (cs.drop (k * size)) := by
  obtain ⟨a', c', e, q1, q2, q3, q4, q6, q5⟩ := h
  cases e
  obtain rfl : n = k := by omega
  have hd : cs.drop (n * size) = [] := List.drop_of_length_le (by omega)
  refine ⟨_, _, rfl, by omega, by omega, fun _ => rfl, fun _ _ h => (by cases h), fun _ => hd, fun i u hi => ?_⟩
  rw [hd] at hi
  simp at hi
theorem vblk_take {a : Option Addr} {n c k : Nat} (m : Nat) (h : vblk (.slice a m c) = some k) : vblk (.slice a n c) = some k := by
  rw [vblk_slice] at *; exact h
theorem vblk_drop {a : Option Addr} {n c m d i k : Nat} (hd : d ≤ c) (h : vblk (.slice (a.map fun x => x.add i) m d) = some k) : vblk (.slice a n c) = some k := by
  rw [vblk_slice] at *
  refine ⟨by omega, ?_⟩
  rw [← h.2]
  cases a with
  | none => rfl
  | some x => simp [Addr.add_block]

theorem own_shape {w : World} {base e size n : Nat} {v : Value} {xs : List Value} (h : w.ownsRow base e size v n xs) : ∃ a c, v = .slice a n c := by
  obtain ⟨_, ⟨rfl, rfl⟩ | ⟨g, cap, cur, rfl, _⟩⟩ := h
  · exact ⟨_, _, rfl⟩
  · exact ⟨_, _, rfl⟩
theorem own_block {w : World} {base e size n : Nat} {v : Value} {xs : List Value} (h : w.ownsRow base e size v n xs) : ∀ k, v.ownBlock = some k → ∃ cs f, w.heap[k]? = some (.cells cs e f) := by
  obtain ⟨_, ⟨rfl, rfl⟩ | ⟨g, cap, cur, rfl, _, hg, _⟩⟩ := h
  · intro k hk; simp [Value.ownBlock] at hk
  · intro k hk; simp [Value.ownBlock] at hk; subst hk; exact ⟨_, _, hg⟩

theorem own_tr {w w' : World} {base e size n : Nat} {v : Value} {xs : List Value} {S : List Nat} (h : w.ownsRow base e size v n xs) (hc : Chg S w w') (hn : ∀ k ∈ S, k < base) : w'.ownsRow base e size v n xs := by
  obtain ⟨h1, h2 | ⟨g, cap, cur, rfl, hb, hg, r⟩⟩ := h
  · exact ⟨h1, .inl h2⟩
  · exact ⟨h1, .inr ⟨g, cap, cur, rfl, hb, hc.heap hg (fun hm => by have := hn g hm; omega), r⟩⟩
theorem own_lower {w : World} {base base' e size n : Nat} {v : Value} {xs : List Value} (h : w.ownsRow base e size v n xs) (hb : base' ≤ base) : w.ownsRow base' e size v n xs := by
  obtain ⟨h1, h2 | ⟨g, cap, cur, rfl, hg, r⟩⟩ := h
  · exact ⟨h1, .inl h2⟩
  · exact ⟨h1, .inr ⟨g, cap, cur, rfl, by omega, r⟩⟩
theorem own_from {w : World} {base e size n : Nat} {v : Value} {xs : List Value} (h : w.ownsRow base e size v n xs) : ∀ k, v.ownBlock = some k → base ≤ k := fun k hk => (h.lt k hk).1
theorem own_ne {w : World} {base e size n p : Nat} {v : Value} {xs : List Value} (h : w.ownsRow base e size v n xs) (hp : p < base) : vblk v ≠ some p := fun e => by have := own_from h p (vblk_own e); omega
theorem own_row {w : World} {base e size n : Nat} {v : Value} {xs : List Value} (h : w.ownsRow base e size v n xs) : ∀ k ∈ v.ownBlock.toList, base ≤ k := fun k hk => own_from h k (by simpa using hk)

/-- The cells of bytes. -/
def bcs (l : List UInt8) : List Value := l.map fun x => .int .u8 (x.toNat : Int)
theorem bcs_length (l : List UInt8) : (bcs l).length = l.length := by simp [bcs]
theorem bcs_append (l m : List UInt8) : bcs (l ++ m) = bcs l ++ bcs m := by simp [bcs]
theorem bcs_get (l : List UInt8) (j : Nat) (h : j < l.length) : (bcs l)[j]? = some (.int .u8 (l[j].toNat : Int)) := by simp [bcs, h]
theorem bcs_one (l : List UInt8) : ∀ u ∈ bcs l, u.oneCell' = true := by
  intro u hu
  obtain ⟨_, _, rfl⟩ := List.mem_map.1 hu
  rfl

theorem cells2 {w : World} {p : Nat} {x y : Value} {e : TypeId} (h : w.heap[p]? = some (.cells #[x, y] e (0, 0))) :
    w.cell? ⟨p, 0, none⟩ = some x ∧ w.cell? ⟨p, 1, none⟩ = some y ∧ w.frozen? ⟨p, 0, none⟩ = false ∧ w.frozen? ⟨p, 1, none⟩ = false :=
  ⟨by rw [cell_of_row w p 0 _ _ _ h]; rfl, by rw [cell_of_row w p 1 _ _ _ h]; rfl, frozen_of_row w p 0 _ _ h, frozen_of_row w p 1 _ _ h⟩
theorem cells1 {w : World} {p : Nat} {x : Value} {e : TypeId} (h : w.heap[p]? = some (.cells #[x] e (0, 0))) :
    w.cell? ⟨p, 0, none⟩ = some x ∧ w.frozen? ⟨p, 0, none⟩ = false :=
  ⟨by rw [cell_of_row w p 0 _ _ _ h]; rfl, frozen_of_row w p 0 _ _ h⟩

/-- A slice type t of elements of type e, each of 'size' cells and 'bytes' bytes. -/
structure ElemT (P : Program) (t e : TypeId) (size bytes : Nat) : Prop where
  und : P.underlying t = some (.slice e)
  info : ∃ i z, P.info? e = some i ∧ i.zero = some z ∧ i.size = size ∧ i.bytes = bytes ∧ z.cells.size = size
  pos : 0 < size
  bpos : 0 < bytes

def big : Nat := 140737488355328
theorem le_big {n m : Nat} {bytes : Nat} (hb : 0 < bytes) (h : (n + m) * bytes ≤ big) : n + m ≤ maxLen := by
  have h1 := Nat.le_mul_of_pos_right (n + m) hb
  unfold big at h; unfold maxLen; omega

/-- 'append(out, x...)': out is the call's own, x any slice that can be read. -/
theorem wpList_append_sl {P : Program} (w : World) {ops : Array Oper} {rest : List Oper} {o : Oper} {a : Act} {Q : Exit → Act → World → Prop} (hgd : o.guard = none) (s x : Operand) (t e size bytes : Nat)
    (ho : o.op = .call { callee := .builtin .append, args := #[s, x], argTypes := #[t, t] }) (el : ElemT P t e size bytes)
    (base : Nat) (v : Value) (n : Nat) (xs : List Value) (hs : a.eval s = v) (hown : w.ownsRow base e size v n xs)
    (u : Value) (m : Nat) (news : List Value) (hx : a.eval x = u) (hsl : Sl w u m news) (hl : news.length = m * size) (h1 : ∀ u ∈ news, u.oneCell' = true)
    (hb : (n + m) * bytes ≤ big) (hbase : base ≤ w.heap.size)
    (h : ∀ v' w', w'.ownsRow base e size v' (n + m) (xs ++ news) → w.grownBy w' v.ownBlock → wpList P ops Q rest (a.put o.dst v') w') : wpList P ops Q (o :: rest) a w := by
  obtain ⟨i, z, hi, hz, hsize, hby, hzs⟩ := el.info
  obtain ⟨ad, c, rfl, q1, q2, q3, q4, q6, q5⟩ := hsl
  cases ad with
  | none =>
    obtain rfl := q3 rfl
    obtain rfl : m = 0 := by omega
    obtain rfl : news = [] := by simpa using hl
    refine wpList_append_own_none hgd s x t ho base e i size el.und hi v n xs hs hown hx ?_
    simpa using h v w (by simpa using hown) (World.grownBy.refl _ _)
  | some ad =>
    refine wpList_append_own w hgd s x t ho base e i z size bytes el.und hi hz hsize hby hzs el.pos v n xs hs hown ad m c news hx hl (fun j u hj => ?_) h1 (le_big el.bpos hb) hb hbase (fun v' w' h2 h3 _ => h v' w' h2 h3)
    obtain ⟨y, hy, hu⟩ := q5 j u hj
    cases hy; exact hu

/-- A new row, seen as a slice. -/
theorem Sl.lit (w : World) (cs : Array Value) (e n : Nat) (hn : n ≤ maxLen) (hcs : n = 0 → cs = #[] := by intro h; cases h) : Sl (w.alloc (.cells cs e)) (.slice (some ⟨w.heap.size, 0, none⟩) n n) n cs.toList := by
  refine ⟨_, _, rfl, Nat.le_refl _, hn, fun h => (by cases h), fun x hx _ => (by cases hx; simp), fun h => (by have := hcs h; simpa using this), fun j u hj => ⟨_, rfl, ?_⟩⟩
  rw [Addr.add_lit]
  simp only [Nat.zero_add, World.cell?_alloc_new]
  simpa using hj
theorem own_lit (w : World) (cs : Array Value) (e n size base : Nat) (hb : base ≤ w.heap.size) (hn : n ≤ maxLen) (hs : cs.size = n * size) : (w.alloc (.cells cs e)).ownsRow base e size (.slice (some ⟨w.heap.size, 0, none⟩) n n) n cs.toList :=
  ⟨by simp [hs], .inr ⟨_, _, cs, rfl, hb, heap_alloc_new w _, Nat.le_refl _, hn, hs, by rw [List.take_of_length_le (by simp [hs])]⟩⟩
theorem Chg.grownOwn {w w' : World} {base e size n : Nat} {v : Value} {xs : List Value} {W : World} {S : List Nat} (hc : Chg S W w) (hg : w.grownBy w' v.ownBlock) (hown : w.ownsRow base e size v n xs) (hb : W.heap.size ≤ base) : Chg S W w' :=
  hc.trans (Chg.grown hg) fun x hx => .inr (Nat.le_trans hb (own_row hown x hx))

/-- 'make([]T, l, c)': l zero elements are owned, with room for c. -/
theorem wpList_make_lc {P : Program} (w : World) {ops : Array Oper} {rest : List Oper} {o : Oper} {a : Act} {Q : Exit → Act → World → Prop} (hg : o.guard = none) (l c : Operand) (t e bytes : Nat) (hop : o.op = Op.makeSlice t l c)
    (el : ElemT P t e 1 bytes) (z : Value) (hz : (P.info? e).map (·.zero) = some (some z)) (hone : z.cells = #[z]) (kl kc : IntKind) (L C : Nat) (hl : a.eval l = .int kl (L : Int)) (hc : a.eval c = .int kc (C : Int)) (hLC : L ≤ C) (hb : bytes * C ≤ 281474976710656) (hbm : C ≤ 9223372036854775807) (base : Nat) (hbase : base ≤ w.heap.size)
    (hK : ∀ w', w'.ownsRow base e 1 (.slice (some ⟨w.heap.size, 0, none⟩) L C) L (List.replicate L z) → Chg [] w w' → w'.heap.size = w.heap.size + 1 → wpList P ops Q rest (a.put o.dst (.slice (some ⟨w.heap.size, 0, none⟩) L C)) w') :
    wpList P ops Q (o :: rest) a w := by
  obtain ⟨i, z', hi, hz', hs1, hs2, hzs⟩ := el.info
  have ez : z' = z := by rw [hi] at hz; simp [hz'] at hz; exact hz
  subst ez
  refine wpList_plain hg fun K hK' => ?_
  have hrun := run_make (P := P) w t e i z' el.und hi hz' kl kc L C (by omega) (by omega) (by rw [hs2]; have h := Int.ofNat_le.2 hb; rw [Int.natCast_mul] at h; exact h) (by omega)
  unfold Oper.wp
  simp [execOp, hop, hl, hc, hrun, Result.andThen]
  refine hK' _ _ (hK _ ⟨by simp, .inr ⟨w.heap.size, C, _, rfl, hbase, heap_alloc_new w _, hLC, (by unfold maxLen; omega), by simp [madeCells, hs1], ?_⟩⟩ (Chg.alloc [] w _) (by simp))
  rw [hone, hs1, Nat.mul_one, toList_madeCells_one, Nat.mul_one, List.take_replicate, Nat.min_eq_left hLC]

/-- 'copy(dst, src)', dst the call's own row, at least as long as src. -/
theorem wpList_copy_sl {P : Program} {w : World} {ops : Array Oper} {rest : List Oper} {o : Oper} {a : Act} {Q : Exit → Act → World → Prop} (hgd : o.guard = none) (d s : Operand) (t e bytes : Nat)
    (ho : o.op = .call { callee := .builtin .copy, args := #[d, s], argTypes := #[t, t] }) (el : ElemT P t e 1 bytes) (base : Nat) (v : Value) (n : Nat) (xs : List Value) (hd : a.eval d = v) (hown : w.ownsRow base e 1 v n xs)
    (u : Value) (m : Nat) (news : List Value) (hs : a.eval s = u) (hsl : Sl w u m news) (hl : news.length = m) (hmn : m ≤ n) (h1 : ∀ u ∈ news, u.oneCell' = true)
    (h : ∀ w', w'.ownsRow base e 1 v n (news ++ xs.drop m) → w.grownBy w' v.ownBlock → w'.heap.size = w.heap.size → wpList P ops Q rest (a.put o.dst (goInt m)) w') : wpList P ops Q (o :: rest) a w := by
  obtain ⟨i, z', hi, hz', hs1, hs2, hzs⟩ := el.info
  have hsz : (P.info? e).map (·.size) = some 1 := by rw [hi]; simp [hs1]
  obtain ⟨au, cu, rfl⟩ := hsl.shape
  obtain ⟨av, cv, rfl⟩ := own_shape hown
  by_cases h0 : m = 0
  · subst h0
    obtain rfl : news = [] := by simpa using hl
    refine wpList_copy_nothing hgd d s t t ho e el.und hsz _ _ _ _ _ _ hd hs (Nat.min_eq_left (by omega)) ?_
    exact h w (by simpa using hown) (World.grownBy.refl _ _) rfl
  · obtain ⟨hxl, ⟨_, hn⟩ | ⟨g, cap, cur, e1, hbg, hg, hnc, hcm, hcs, htk⟩⟩ := id hown
    · omega
    · cases e1
      obtain ⟨b, off, c', e2, _, _, _, hcell⟩ := hsl.at (by omega)
      cases e2
      have hmin : Nat.min m n = m := Nat.min_eq_left hmn
      refine wpList_copy_own hgd d s t t ho e el.und hsz g 0 n cv ⟨b, off, none⟩ m cu hd hs cur e hg news (by rw [hl, hmin]) (fun j v hj => by rw [Addr.add_lit]; exact hcell j v hj) (by omega) h1 ?_
      rw [hl]
      refine h _ ⟨by simp only [List.length_append, List.length_drop, hl, hxl]; omega, .inr ⟨g, cv, _, rfl, hbg, setRow_heap w g cur _ e _ hg, hnc, hcm, by simp only [List.size_toArray, List.length_append, List.length_take, List.length_drop, Array.length_toList, hl, hcs]; omega, ?_⟩⟩ ⟨rfl, rfl, rfl, by simp, fun k _ hk => setRow_other w g k _ (fun e => hk (by simp [Value.ownBlock, e]))⟩ (by simp)
      rw [← htk]
      simp only [List.take_zero, List.nil_append, Nat.zero_add, hl]
      rw [List.take_append, List.take_of_length_le (by omega), List.drop_take, hl]

/-- The cells of numbers of a kind. -/
def ncs (k : IntKind) (l : List Nat) : List Value := l.map fun n : Nat => Value.int k (n : Int)
theorem ncs_length (k : IntKind) (l : List Nat) : (ncs k l).length = l.length := by simp [ncs]
theorem ncs_get (k : IntKind) (l : List Nat) (j : Nat) (h : j < l.length) : (ncs k l)[j]? = some (.int k (l[j] : Int)) := by simp [ncs, h]
/-- The cells of whole numbers of a kind. -/
def ics (k : IntKind) (l : List Int) : List Value := l.map (Value.int k)
theorem ics_length (k : IntKind) (l : List Int) : (ics k l).length = l.length := by simp [ics]
theorem ics_get (k : IntKind) (l : List Int) (j : Nat) (h : j < l.length) : (ics k l)[j]? = some (.int k l[j]) := by simp [ics, h]

/-- A string of these bytes. -/
def bstr (l : List UInt8) : ByteArray := ⟨l.toArray⟩
@[simp] theorem bstr_size (l : List UInt8) : (bstr l).size = l.length := by simp [bstr, ByteArray.size]
@[simp] theorem bstr_toList (l : List UInt8) : (bstr l).data.toList = l := rfl
@[simp] theorem bstr_bytes (l : List UInt8) : (bstr l).toList = l := by unfold bstr; exact ByteArray.toList_mk l
theorem bstr_data (s : ByteArray) : bstr s.data.toList = s := rfl
theorem bstr_append (l m : List UInt8) : bstr l ++ bstr m = bstr (l ++ m) := by
  apply ByteArray.ext
  simp [bstr]
theorem bstr_inj {l m : List UInt8} : bstr l = bstr m ↔ l = m := by
  constructor
  · intro h
    have := congrArg (fun s : ByteArray => s.data.toList) h
    simpa using this
  · rintro rfl; rfl

theorem run_str {P : Program} {w : World} {src e dst : TypeId} (hs : P.underlying src = some (.slice e)) (he : P.underlying e = some (.int .u8)) (hd : P.underlying dst = some .string)
    {v : Value} {n : Nat} {l : List UInt8} (h : Sl w v n (bcs l)) (hn : n = l.length) : (convert src dst v).run P w = .ok (.string (bstr l)) w := by
  subst hn
  obtain ⟨a, c, rfl, q1, q2, q3, q4, q6, q5⟩ := h
  cases l with
  | nil =>
    cases a with
    | none => rw [run_convert_bytes_nil w src e hs he _ _ dst hd]; rfl
    | some x =>
      rw [run_convert_bytes_string w src dst e _ _ _ hs he hd]
      have hl : (loadCells x 0).run P w = .ok (([] : List Int).map (Value.int .u8)).toArray w := by
        simpa using run_loadCells_list (P := P) w x [] (by simp)
      exact run_bytesToString w x _ c [] hl
  | cons y r =>
    have hh : Sl w (.slice a (y :: r).length c) (y :: r).length (bcs (y :: r)) := ⟨a, c, rfl, q1, q2, q3, q4, q6, q5⟩
    obtain ⟨b, off, c', e1, _, _, _, hc⟩ := hh.at (by simp [bcs])
    cases e1
    clear q5 q6 q4 q3
    generalize y :: r = l at *
    rw [run_convert_bytes_arg w src e hs he b off _ c (l.map fun x => (x.toNat : Int)) (by simp) (fun i hi => ?_) dst hd]
    · congr 2
      unfold strOfNums bstr
      congr 2
      rw [List.map_map]
      conv => rhs; rw [← List.map_id l]
      apply List.map_congr_left
      intro x _
      simp
    · rw [hc i _ (bcs_get _ i hi)]
      simp [List.getD, hi]

theorem calls_ret {P : Program} {f : FuncId} {args : Array Value} {w : World} {R R' : Ending → World → Prop} (h : Calls P f args w R) (hr : ∀ e w', R e w' → R' e w') : Calls P f args w R' := h.mono hr

end Go.Proofs.YtdclbhmmpdngpaaDoor
