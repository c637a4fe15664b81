/-
  Laws at operations on arrays of bytes (digests, blocks) and on slices of bytes as strings. No program in sight.
-/
import Derived.Test.YtdclbhmmpdngpaaDoorRowLaws
import Derived.Stop.BytesEq
namespace Go.Proofs.YtdclbhmmpdngpaaDoor
set_option linter.unusedSimpArgs false
set_option linter.unusedVariables false
open Go.RowKit

/-- An array of bytes, as a value. -/
def dv (l : List UInt8) : Value := .agg (bcs l).toArray

theorem eql_dv {P : Program} (w : World) (t e n : Nat) (ht : P.underlying t = some (.array n e)) (he : P.underlying e = some (.int .u8)) (hsz : ∀ w, (sizeOf e).run P w = .ok 1 w) (xs ys : List UInt8) (hx : xs.length = n) (hy : ys.length = n) :
    (binOp .eql t (dv xs) (dv ys)).run P w = .ok (.bool (xs == ys)) w := run_eql_bytes w t e n ht he hsz xs ys hx hy
theorem neq_dv {P : Program} (w : World) (t e n : Nat) (ht : P.underlying t = some (.array n e)) (he : P.underlying e = some (.int .u8)) (hsz : ∀ w, (sizeOf e).run P w = .ok 1 w) (xs ys : List UInt8) (hx : xs.length = n) (hy : ys.length = n) :
    (binOp .neq t (dv xs) (dv ys)).run P w = .ok (.bool (xs != ys)) w := by
  unfold dv
  rw [run_neq_struct]
  have h := run_equalIn_bytes (P := P) w 9998 t e n ht he hsz xs ys hx hy
  have e0 : (bcs xs) = xs.map Extern.Stop.cell := rfl
  have e1 : (bcs ys) = ys.map Extern.Stop.cell := rfl
  rw [e0, e1, h]
  rfl
theorem eqg_dv {P : Program} (w : World) (op : BinOp) (t : TypeId) (x y : Operand) (xs ys : List UInt8) (h : P.eqGuardType P.depth t = false) : (eqGuard op t x y (dv xs) (dv ys)).run P w = .ok () w := by
  unfold dv
  cases op <;> simp [eqGuard, Sem.run_bind, h, Result.andThen]

/-- In a quiet head: 'string(b)'. -/
theorem quiet_strC {P : Program} {ops : Array Oper} {W : World} {R : Act → Prop} {rest : List Oper} {a : Act} {o : Oper} (hw : Region.wanted o (yielded ops a.tmps) = true) (src dst : TypeId) (x : Operand) (ho : o.op = .convert src dst x) (v : Value) (hx : a.eval x = v)
    (e : TypeId) (hs : P.underlying src = some (.slice e)) (he : P.underlying e = some (.int .u8)) (hd : P.underlying dst = some .string) (n : Nat) (l : List UInt8) (hsl : Sl W v n (bcs l)) (hn : n = l.length) (h : wpQuiet P ops (fun w' => Chg [] W w') R rest (a.put o.dst (.string (bstr l)))) : wpQuiet P ops (fun w' => Chg [] W w') R (o :: rest) a := by
  refine wpQuiet_step fun K hK => ?_
  rw [if_pos hw]
  refine ⟨.string (bstr l), fun w hw => ?_, hK _ h⟩
  unfold Oper.quietAt execOp
  simp only [ho, hx, Sem.run_bind, run_str hs he hd (hsl.tr0 hw) hn]
  exact ⟨rfl, rfl⟩
/-- The same in a plain list. -/
theorem wpList_str {P : Program} {ops : Array Oper} {Q : Exit → Act → World → Prop} {rest : List Oper} {a : Act} {o : Oper} {W : World} (hg : o.guard = none) (src dst : TypeId) (x : Operand) (ho : o.op = .convert src dst x) (v : Value) (hx : a.eval x = v)
    (e : TypeId) (hs : P.underlying src = some (.slice e)) (he : P.underlying e = some (.int .u8)) (hd : P.underlying dst = some .string) (n : Nat) (l : List UInt8) (hsl : Sl W v n (bcs l)) (hn : n = l.length) (h : wpList P ops Q rest (a.put o.dst (.string (bstr l))) W) : wpList P ops Q (o :: rest) a W := by
  refine wpList_plain hg fun K hK => ?_
  unfold Oper.wp execOp
  simp only [ho, hx, Sem.run_bind, run_str hs he hd hsl hn]
  exact hK _ _ h

/-- A block that holds an array of bytes. -/
def Bk (w : World) (p : Nat) (l : List UInt8) : Prop := ∃ t, w.heap[p]? = some (.cells (bcs l).toArray t (0, 0))
theorem Bk.tr {S : List Nat} {w w' : World} {p : Nat} {l : List UInt8} (h : Bk w p l) (g : Chg S w w') (hp : p ∉ S) : Bk w' p l := by
  obtain ⟨t, h⟩ := h; exact ⟨t, g.heap h hp⟩
theorem Bk.range {w : World} {p : Nat} {l : List UInt8} (h : Bk w p l) : w.rangeAt p 0 (bcs l) := by
  obtain ⟨t, h⟩ := h; exact ra_block h
end Go.Proofs.YtdclbhmmpdngpaaDoor
