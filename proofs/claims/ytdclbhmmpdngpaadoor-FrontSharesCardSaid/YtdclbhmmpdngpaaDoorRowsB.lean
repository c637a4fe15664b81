/-
  Rows of rows of bytes, and 'append(out, s...)' with a string: memory alone.
-/
import Derived.Test.YtdclbhmmpdngpaaDoorFresh
import Derived.Lib.AppendStr
import Derived.Deep.DeepMust
namespace Go.Proofs.YtdclbhmmpdngpaaDoor
set_option linter.unusedSimpArgs false
set_option linter.unusedVariables false
open Go.RowKit

/-- A slice of slices of bytes: the slices' values, and their bytes. -/
abbrev RowsB := List (Value × List UInt8)
def SlB (w : World) (v : Value) (D : RowsB) : Prop := Sl w v D.length (D.map (·.1)) ∧ ∀ x ∈ D, Sl w x.1 x.2.length (bcs x.2)
theorem SlB.tr0 {w w' : World} {v : Value} {D : RowsB} (h : SlB w v D) (g : Chg [] w w') : SlB w' v D := ⟨h.1.tr0 g, fun x hx => (h.2 x hx).tr0 g⟩
theorem SlB.tr {w w' : World} {v : Value} {D : RowsB} {S : List Nat} (h : SlB w v D) (g : Chg S w w') (hv : ∀ k, vblk v = some k → k ∉ S) (hD : ∀ x ∈ D, ∀ k, vblk x.1 = some k → k ∉ S) : SlB w' v D :=
  ⟨h.1.tr g hv, fun x hx => (h.2 x hx).tr g (hD x hx)⟩
/-- What is turned lies behind a world. -/
theorem SlB.trW {W w w' : World} {v : Value} {D : RowsB} {S : List Nat} (h : SlB W v D) (g0 : SlB w v D) (g : Chg S w w') (hS : ∀ k ∈ S, W.heap.size ≤ k) : SlB w' v D :=
  g0.tr g (fun k hk hm => by have := h.1.lt k hk; have := hS k hm; omega) (fun x hx k hk hm => by have := (h.2 x hx).lt k hk; have := hS k hm; omega)
theorem SlB.cell {w : World} {v : Value} {D : RowsB} (h : SlB w v D) (k : Nat) (hk : k < D.length) : ∃ b off c, v = .slice (some ⟨b, off, none⟩) D.length c ∧ b < w.heap.size ∧ w.cell? ⟨b, off + k, none⟩ = some D[k].1 ∧ Sl w D[k].1 D[k].2.length (bcs D[k].2) := by
  obtain ⟨b, off, c, rfl, _, _, hb, hc⟩ := h.1.at (by simp; omega)
  exact ⟨b, off, c, rfl, hb, hc k _ (by simp [hk]), h.2 _ (List.getElem_mem hk)⟩
theorem SlB.nil (w : World) : SlB w (.slice none 0 0) [] := ⟨Sl.nil w, by simp⟩
theorem byte_cell {w : World} {v : Value} {l : List UInt8} (h : Sl w v l.length (bcs l)) (k : Nat) (hk : k < l.length) : ∃ b off c, v = .slice (some ⟨b, off, none⟩) l.length c ∧ b < w.heap.size ∧ w.cell? ⟨b, off + k, none⟩ = some (.int .u8 (l[k].toNat : Int)) := by
  obtain ⟨b, off, c, rfl, _, _, hb, hc⟩ := h.at (by rw [bcs_length]; omega)
  exact ⟨b, off, c, rfl, hb, hc k _ (bcs_get l k hk)⟩

/-- A new row of one byte. -/
theorem own_byte (w : World) (e base : Nat) (x : Int) (b : UInt8) (hb : base ≤ w.heap.size) (h : x = (b.toNat : Int)) : (w.alloc (.cells #[.int .u8 x] e)).ownsRow base e 1 (.slice (some ⟨w.heap.size, 0, none⟩) 1 1) 1 (bcs [b]) := by
  subst h
  exact own_lit w #[.int .u8 (b.toNat : Int)] e 1 1 base hb (by decide) rfl
theorem Sl.byte1 (w : World) (e : Nat) (x : Int) (b : UInt8) (h : x = (b.toNat : Int)) : Sl (w.alloc (.cells #[.int .u8 x] e)) (.slice (some ⟨w.heap.size, 0, none⟩) 1 1) 1 (bcs [b]) := by
  subst h
  exact Sl.lit w #[.int .u8 (b.toNat : Int)] e 1 (by decide)
theorem byte_le {n : Nat} (h : n ≤ 255) : (n : Int) = ((UInt8.ofNat n).toNat : Int) := by simp; omega
theorem app_cells (l : List UInt8) : Lib.strCells (bstr l) = bcs l := by
  unfold Lib.strCells bcs
  simp
/-- 'append(out, s...)', s a string. -/
theorem wpList_app_str {P : Program} {w : World} {ops : Array Oper} {rest : List Oper} {o : Oper} {a : Act} {Q : Exit → Act → World → Prop} (hgd : o.guard = none) (sl x : Operand) (t u e : TypeId)
    (ho : o.op = .call { callee := .builtin .append, args := #[sl, x], argTypes := #[t, u] }) (ht : P.underlying t = some (.slice e)) (hu : P.underlying u = some .string) (hi : (P.info? e).map (fun i => (i.zero, i.size, i.bytes)) = some (some (.int .u8 0), 1, 1))
    (base : Nat) (v : Value) (n : Nat) (l : List UInt8) (hs : a.eval sl = v) (hown : w.ownsRow base e 1 v n (bcs l)) (m : List UInt8) (hx : a.eval x = .string (bstr m)) (hb : n + m.length ≤ big) (hbase : base ≤ w.heap.size)
    (h : ∀ v' w', w'.ownsRow base e 1 v' (n + m.length) (bcs (l ++ m)) → w.grownBy w' v.ownBlock → wpList P ops Q rest (a.put o.dst v') w') : wpList P ops Q (o :: rest) a w := by
  obtain ⟨i, hi1, hi2, hi3, hi4⟩ := info_parts hi
  refine Lib.wpList_append_own_string w hgd sl x t u ho base e i ht hu hi1 hi2 hi3 hi4 v n (bcs l) hs hown (bstr m) hx (by rw [bstr_size]; unfold big at hb; unfold maxLen; omega) (by rw [bstr_size]; exact hb) hbase (fun v' w' h2 h3 _ => h v' w' ?_ h3)
  rw [app_cells, bstr_size] at h2
  rw [bcs_append]
  exact h2
end Go.Proofs.YtdclbhmmpdngpaaDoor
