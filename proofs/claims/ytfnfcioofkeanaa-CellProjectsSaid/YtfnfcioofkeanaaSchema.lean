/-
  Columns as bytes: the contracts of schema.Put and of the document's own (hypostyleref16).
-/
import Derived.Test.YtfnfcioofkeanaaCols2
import Derived.Test.YtfnfcioofkeanaaVget2
import Derived.Lib.AppendStr
namespace Go.Proofs.Ytfnfcioofkeanaa
set_option linter.unusedSimpArgs false
set_option linter.unusedVariables false
open Go.RowKit

def nullB (c : Col) : UInt8 := if c.null then 1 else 0
def colB (c : Col) : List UInt8 := vput c.name.length ++ c.name ++ [UInt8.ofNat c.typ.toNat, nullB c]
def putB (L : List Col) : List UInt8 := vput L.length ++ L.flatMap colB

/-- Columns of which nothing is wrong. -/
theorem colsGo_zero : ∀ (L : List Col) (seen : List (List UInt8)), colsGo L seen = 0 → ∀ c ∈ L, 0 < c.name.length ∧ c.name.length ≤ 100 ∧ 0 ≤ c.typ ∧ c.typ < 4
  | [], _, _, _, h => by simp at h
  | d :: r, seen, h0, c, hc => by
    rw [colsGo] at h0
    split at h0
    · cases h0
    · rename_i h1
      split at h0
      · cases h0
      · rename_i h2
        rcases List.mem_cons.1 hc with rfl | hc
        · simp only [not_or] at h1
          omega
        · exact colsGo_zero r _ h0 c hc
theorem colsV_zero {L : List Col} (h : colsV L = 0) : L.length ≤ 64 ∧ ∀ c ∈ L, 0 < c.name.length ∧ c.name.length ≤ 100 ∧ 0 ≤ c.typ ∧ c.typ < 4 := by
  unfold colsV at h
  split at h
  · cases h
  · exact ⟨by omega, colsGo_zero L [] h⟩
theorem colB_length {c : Col} (h : c.name.length ≤ 100) : (colB c).length ≤ 112 := by
  have := vsize_ten (n := c.name.length) (by omega)
  unfold vsize at this
  unfold colB
  simp only [List.length_append, List.length_cons, List.length_nil]
  omega
theorem colsB_length (L : List Col) (h : ∀ c ∈ L, c.name.length ≤ 100) : (L.flatMap colB).length ≤ 112 * L.length := by
  induction L with
  | nil => simp
  | cons c r ih =>
    have h1 := ih (fun x hx => h x (List.mem_cons_of_mem _ hx))
    have h2 := colB_length (h c (List.mem_cons_self ..))
    simp only [List.flatMap_cons, List.length_append, List.length_cons]
    omega
theorem colsB_take (L : List Col) (k : Nat) (h : k < L.length) : (L.take (k + 1)).flatMap colB = (L.take k).flatMap colB ++ colB L[k] := by
  rw [take_snoc L k h, List.flatMap_append]; simp only [List.flatMap_cons, List.flatMap_nil, List.append_nil]

theorem strCells_bstr (l : List UInt8) : Lib.strCells (bstr l) = bcs l := by
  unfold Lib.strCells bcs
  simp
/-- 'append(out, s...)', s a string. -/
theorem wpList_append_str {P : Program} {w : World} {ops : Array Oper} {rest : List Oper} {o : Oper} {a : Act} {Q : Exit → Act → World → Prop} (hgd : o.guard = none) (sl x : Operand) (t u e : TypeId)
    (ho : o.op = .call { callee := .builtin .append, args := #[sl, x], argTypes := #[t, u] }) (ht : P.underlying t = some (.slice e)) (hu : P.underlying u = some .string) (hi : (P.info? e).map (fun i => (i.zero, i.size, i.bytes)) = some (some (.int .u8 0), 1, 1))
    (base : Nat) (v : Value) (l : List UInt8) (hs : a.eval sl = v) (hown : w.ownsRow base e 1 v l.length (bcs l)) (m : List UInt8) (hx : a.eval x = .string (bstr m)) (hb : l.length + m.length ≤ big) (hbase : base ≤ w.heap.size)
    (h : ∀ v' w', w'.ownsRow base e 1 v' (l ++ m).length (bcs (l ++ m)) → w.grownBy w' v.ownBlock → wpList P ops Q rest (a.put o.dst v') w') : wpList P ops Q (o :: rest) a w := by
  obtain ⟨i, hi1, hi2, hi3, hi4⟩ := info_parts hi
  refine Lib.wpList_append_own_string w hgd sl x t u ho base e i ht hu hi1 hi2 hi3 hi4 v l.length (bcs l) hs hown (bstr m) hx (by rw [bstr_size]; unfold big at hb; unfold maxLen; omega) (by rw [bstr_size]; exact hb) hbase (fun v' w' h2 h3 _ => h v' w' ?_ h3)
  rw [strCells_bstr, bstr_size] at h2
  rw [bcs_append, List.length_append]
  exact h2
theorem Sl.byte2New (w : World) (e : TypeId) (x y : Int) (b d : UInt8) (h : x = (b.toNat : Int)) (h2 : y = (d.toNat : Int)) : Sl (w.alloc (.cells #[.int .u8 x, .int .u8 y] e)) (.slice (some ⟨w.heap.size, 0, none⟩) 2 2) 2 (bcs [b, d]) := by
  subst h h2; exact Sl.lit _ _ _ 2 (by decide)

end Go.Proofs.Ytfnfcioofkeanaa
