/-
  An argument that is a point, by value.
-/
import Derived.Test.YtdfjpdgamahicaaOpen
import Derived.Test.YtdfjpdgamahicaaPoint
import Derived.Lib.SmallJoins
namespace Go.Proofs.Ytdfjpdgamahicaa
open Go.ChangeShapes Go.WideShapes Go.ChangeAt Go.RowKit Go.Joins

def I64 (n : Int) : Prop := -9223372036854775808 ≤ n ∧ n ≤ 9223372036854775807
theorem open_point {H : Type} {enc : TypeId × Value → H} {w : World} {base : Nat} {v : Value} {d : DataW H} {ps : List MemPlace} (hv : Value.okWide Try.prog w .any base 23 v) (h : DataW.Trod enc Try.prog w 0 (fun _ => true) true 23 v d ps) :
    ∃ b : Int × Int, (I64 b.1 ∧ I64 b.2) ∧ v = pt b.1 b.2 := by
  obtain ⟨c0, c1, y0, y1, m, rfl, rfl, rfl, hy0, hy1⟩ := open_agg2 Try.underlying23 (by kernel_rfl) (by kernel_rfl) hv h
  obtain ⟨a, e0, rfl, wa⟩ := DataW.trod_int Try.underlying3 hy0
  obtain ⟨b, e1, rfl, wb⟩ := DataW.trod_int Try.underlying3 hy1
  simp at e0 e1
  subst e0 e1
  exact ⟨(a, b), ⟨i64_wf wa, i64_wf wb⟩, rfl⟩
end Go.Proofs.Ytdfjpdgamahicaa
