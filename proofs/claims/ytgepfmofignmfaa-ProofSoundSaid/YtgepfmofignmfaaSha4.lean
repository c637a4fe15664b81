/-
  Package sha: the first state.
-/
import Derived.Test.YtgepfmofignmfaaProg
import Derived.Test.YtgepfmofignmfaaSha3
namespace Go.Proofs.Ytgepfmofignmfaa
set_option linter.unusedSimpArgs false
set_option linter.unusedVariables false
open Go.RowKit

def first8 : List W32 := [0x6a09e667#32, 0xbb67ae85#32, 0x3c6ef372#32, 0xa54ff53a#32, 0x510e527f#32, 0x9b05688c#32, 0x1f83d9ab#32, 0x5be0cd19#32]
/-- An array of words, as a value. -/
def aw (l : List W32) : Value := .agg (wcs l).toArray

/-- The one result lies in a variable that holds an array. -/
theorem ret_array {P : Program} {fn : Func} {R : Ending → World → Prop} {a : Act} {w : World} (p : Tmp) (ty : TypeId) (hf : fn.results = #[.cell p ty]) (n : Nat) (e : TypeId) (hu : P.underlying ty = some (.array n e)) (hi : (P.info? ty).map (·.size) = some n)
    (hd : a.defers = []) (g : Nat) (hp : a.tmps.getD p undef = .pointer (some ⟨g, 0, none⟩)) (cs : Array Value) (t : TypeId) (hg : w.heap[g]? = some (.cells cs t (0, 0))) (hs : cs.size = n) (hR : R (.returned (.agg cs)) w) : bodyPost P fn R .ret a w := by
  refine bodyPost_ret (v := .agg cs) ?_ hd hR
  subst hs
  rw [Array.getD_eq_getD_getElem?] at hp
  have hl := run_loadVar_row (P := P) w g t ty cs (0, 0) _ hg hu rfl hi
  simp [results, hf, Sem.run_bind, hp, asAddr, Result.andThen, hl]

theorem first_ok (w : World) :
    Calls Try.prog 42 #[] w fun e w' => e = .returned (aw first8) ∧ Chg [] w w' := by
  go_enter Try.func42, Try.ntmps42
  go_wp2_with fail
  exact ret_array 0 72 (by rfl) 8 71 Try.underlying72 (by kernel_rfl) rfl w.heap.size (by rfl) _ _ (heap_alloc_new _ _) (by rfl) ⟨by rfl, Chg.alloc _ _ _⟩
theorem ref01_first_ok (w : World) :
    Calls Try.prog 73 #[] w fun e w' => e = .returned (aw first8) ∧ Chg [] w w' := by
  go_enter Try.func73, Try.ntmps73
  go_wp2_with fail
  exact ret_array 0 72 (by rfl) 8 71 Try.underlying72 (by kernel_rfl) rfl w.heap.size (by rfl) _ _ (heap_alloc_new _ _) (by rfl) ⟨by rfl, Chg.alloc _ _ _⟩

end Go.Proofs.Ytgepfmofignmfaa
