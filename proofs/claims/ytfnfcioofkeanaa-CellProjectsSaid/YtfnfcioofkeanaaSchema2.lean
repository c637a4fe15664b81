/-
  Bytes as columns: the contracts of schema.one, schema.Get and of the document's own Get (hypostyleref16).
-/
import Derived.Test.YtfnfcioofkeanaaSchema
import Derived.RegionCalls
import Derived.Deep.RegionWith
import Derived.Deep.DeepCutAuto
namespace Go.Proofs.Ytfnfcioofkeanaa
set_option linter.unusedSimpArgs false
set_option linter.unusedVariables false
open Go.RowKit

theorem col_stored {W w3 : World} {p B : Nat} {s : CS} {x0 y0 z0 : Value} (nb : w3.heap[B]? = some (.cells #[x0, y0, z0] 58 (0, 0))) (d : Cur w3 p s) (G : Chg [p] W w3) (hB : W.heap.size ≤ B) (hp : p < B) (x y z : Value) :
    (((w3.setCell ⟨B, 0, none⟩ x).setCell ⟨B, 1, none⟩ y).setCell ⟨B, 2, none⟩ z).heap[B]? = some (.cells #[x, y, z] 58 (0, 0)) ∧ Cur (((w3.setCell ⟨B, 0, none⟩ x).setCell ⟨B, 1, none⟩ y).setCell ⟨B, 2, none⟩ z) p s ∧ Chg [p] W (((w3.setCell ⟨B, 0, none⟩ x).setCell ⟨B, 1, none⟩ y).setCell ⟨B, 2, none⟩ z) := by
  have c : Chg [B] w3 (((w3.setCell ⟨B, 0, none⟩ x).setCell ⟨B, 1, none⟩ y).setCell ⟨B, 2, none⟩ z) := ((Chg.setCell w3 ⟨B, 0, none⟩ x).t1 (Chg.setCell _ ⟨B, 1, none⟩ y)).t1 (Chg.setCell _ ⟨B, 2, none⟩ z)
  refine ⟨?_, d.tr1 c (by omega) nb (by decide), G.tn c hB⟩
  rw [heap_setCell_same _ B 2 _ _ _ (heap_setCell_same _ B 1 _ _ _ (heap_setCell_same _ B 0 _ _ _ nb))]
  rfl

/-- One column is read. -/
def CS.c1 (s : CS) : CS := (s.vlen 100).2
def CS.nm (s : CS) : List UInt8 := s.c1.took (s.vlen 100).1
def CS.c2 (s : CS) : CS := s.c1.then (s.vlen 100).1
def CS.c3 (s : CS) : CS := s.c2.then 1
def CS.c4 (s : CS) : CS := s.c3.then 1
def CS.oneC (s : CS) : Col := ⟨s.nm, s.c2.num 1, decide (s.c3.num 1 = 1)⟩
def CS.oneS (s : CS) : CS := if s.c3.num 1 ≤ 1 then s.c4 else CS.fail

theorem cells3 {w : World} {p : Nat} {x y z : Value} {e : TypeId} (h : w.heap[p]? = some (.cells #[x, y, z] e (0, 0))) :
    w.cell? ⟨p, 0, none⟩ = some x ∧ w.cell? ⟨p, 1, none⟩ = some y ∧ w.cell? ⟨p, 2, none⟩ = some z ∧ w.frozen? ⟨p, 0, none⟩ = false ∧ w.frozen? ⟨p, 1, none⟩ = false ∧ w.frozen? ⟨p, 2, none⟩ = false :=
  ⟨by rw [cell_of_row w p 0 _ _ _ h]; rfl, by rw [cell_of_row w p 1 _ _ _ h]; rfl, by rw [cell_of_row w p 2 _ _ _ h]; rfl, frozen_of_row w p 0 _ _ h, frozen_of_row w p 1 _ _ h, frozen_of_row w p 2 _ _ h⟩

end Go.Proofs.Ytfnfcioofkeanaa
