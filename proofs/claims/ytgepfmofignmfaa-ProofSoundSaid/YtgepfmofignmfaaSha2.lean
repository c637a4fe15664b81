/-
  Package sha: the constants, and a schedule's next word.
-/
import Derived.Test.YtgepfmofignmfaaProg
import Derived.Test.YtgepfmofignmfaaSha1
import Derived.Laws.Rows
import Derived.Laws.Tables
import Derived.Deep.WholeRow
import Derived.Great.BuildSlice
namespace Go.Proofs.Ytgepfmofignmfaa
set_option linter.unusedSimpArgs false
set_option linter.unusedVariables false
open Go.RowKit

def kt : List W32 := [
  0x428a2f98#32, 0x71374491#32, 0xb5c0fbcf#32, 0xe9b5dba5#32, 0x3956c25b#32, 0x59f111f1#32, 0x923f82a4#32, 0xab1c5ed5#32,
  0xd807aa98#32, 0x12835b01#32, 0x243185be#32, 0x550c7dc3#32, 0x72be5d74#32, 0x80deb1fe#32, 0x9bdc06a7#32, 0xc19bf174#32,
  0xe49b69c1#32, 0xefbe4786#32, 0x0fc19dc6#32, 0x240ca1cc#32, 0x2de92c6f#32, 0x4a7484aa#32, 0x5cb0a9dc#32, 0x76f988da#32,
  0x983e5152#32, 0xa831c66d#32, 0xb00327c8#32, 0xbf597fc7#32, 0xc6e00bf3#32, 0xd5a79147#32, 0x06ca6351#32, 0x14292967#32,
  0x27b70a85#32, 0x2e1b2138#32, 0x4d2c6dfc#32, 0x53380d13#32, 0x650a7354#32, 0x766a0abb#32, 0x81c2c92e#32, 0x92722c85#32,
  0xa2bfe8a1#32, 0xa81a664b#32, 0xc24b8b70#32, 0xc76c51a3#32, 0xd192e819#32, 0xd6990624#32, 0xf40e3585#32, 0x106aa070#32,
  0x19a4c116#32, 0x1e376c08#32, 0x2748774c#32, 0x34b0bcb5#32, 0x391c0cb3#32, 0x4ed8aa4a#32, 0x5b9cca4f#32, 0x682e6ff3#32,
  0x748f82ee#32, 0x78a5636f#32, 0x84c87814#32, 0x8cc70208#32, 0x90befffa#32, 0xa4506ceb#32, 0xbef9a3f7#32, 0xc67178f2#32]
def kAt (t : Nat) : W32 := kt.getD t 0#32
theorem kt_length : kt.length = 64 := by rfl

/-- 'alloc t': a variable of t's zero value. -/
theorem wpList_alloc_z {P : Program} {ops : Array Oper} {rest : List Oper} {o : Oper} {a : Act} {w : World} {Q : Exit → Act → World → Prop} (hg : o.guard = none) (t : TypeId) (ho : o.op = .alloc t)
    (z : Value) (hz : (P.info? t).map (·.zero) = some (some z))
    (h : wpList P ops Q rest (a.put o.dst (.pointer (some ⟨w.heap.size, 0, none⟩))) (w.alloc (.cells z.cells t))) : wpList P ops Q (o :: rest) a w := by
  refine wpList_plain hg fun K hK => ?_
  cases hq : P.info? t with
  | none => simp [hq] at hz
  | some i =>
    have hi : i.zero = some z := by simpa [hq] using hz
    unfold Oper.wp execOp
    simp [ho, Sem.run_bind, Instr.alloc, newVar, newRow, run_newObj_alloc, Sem.run_pure, Result.andThen, zeroValue, typeInfo, hq, hi]
    exact hK _ _ h

/-- A cell of a row of words. -/
theorem wcs_get (l : List W32) (j : Nat) (h : j < l.length) : (wcs l)[j]? = some (wv (l.getD j 0#32)) := by simp [wcs, h, List.getD]

theorem wcs_all (l : List W32) : ((wcs l).toArray).all (·.oneCell') = true := by
  simp only [List.all_toArray, wcs, List.all_map, List.all_eq_true]
  intro x _; rfl
theorem constant_ok (w : World) (t : Nat) (ht : t < 64) :
    Calls Try.prog 65 #[.int .i64 (t : Int)] w fun e w' => e = .returned (.int .u32 (iw (kAt t))) ∧ Chg [] w w' := by
  go_enter Try.func65, Try.ntmps65
  have hs : ((wcs kt).toArray).size = 64 := by rfl
  have h1 : ((wcs kt).toArray).all (·.oneCell') = true := wcs_all kt
  have hk := wcs_get kt t (by rw [kt_length]; exact ht)
  have hk' : (wcs kt).toArray[t]? = some (.int .u32 (iw (kAt t))) := by rw [List.getElem?_toArray]; exact hk
  have hK : ((kt.map iw).map (Value.int .u32)).toArray = (wcs kt).toArray := by rw [List.map_map]; rfl
  generalize (wcs kt).toArray = K at *
  clear hk
  have e1 : ((w.alloc (.cells (Array.replicate 64 (Value.int .u32 0)) 95)).setRow w.heap.size K) = w.alloc (.cells K 95) := World.setRow_alloc_new ..
  have hc : (w.alloc (.cells K 95)).cell? ⟨w.heap.size, t, none⟩ = some (.int .u32 (iw (kAt t))) := by
    rw [World.cell?_alloc_new]; exact hk'
  have hx : Hid (((kt.map iw).map (Value.int .u32)).toArray = K) := hK
  have hg : Chg [] w (w.alloc (.cells K 95)) := Chg.alloc ..
  clear hK
  have e1' := e1; clear e1
  have e1 : Hid _ := e1'
  clear e1'
  go_wp2_with (first
    | (refine wpList_buildFlatArr (by rfl) 95 71 64 _ (by rfl) .u32 (kt.map iw) Try.underlying95 (by kernel_rfl) (by kernel_rfl) (by rfl) ?_; rw [hx.out])
    | (refine wpList_alloc_z (by rfl) 95 (by rfl) (.agg (Array.replicate 64 (Value.int .u32 0))) (by kernel_rfl) ?_; change wpList _ _ _ _ _ (w.alloc (.cells (Array.replicate 64 (Value.int .u32 0)) 95)))
    | (refine wpList_store_row (by rfl) 95 (.tmp 3) (.tmp 4) (by rfl) w.heap.size K (by rfl) (by rfl) _ (Array.replicate 64 (Value.int .u32 0)) (heap_alloc_new _ _) (by rw [hs]; kernel_rfl) (by rw [hs, Array.size_replicate]) h1 ?_; rw [e1.out]))
  go_ret
  exact ⟨rfl, hg⟩

/-- A row of words at a block. -/
def Wat (w : World) (p : Nat) (l : List W32) : Prop := ∃ t, w.heap[p]? = some (.cells (wcs l).toArray t (0, 0))
theorem Wat.cell {w : World} {p : Nat} {l : List W32} (h : Wat w p l) (j : Nat) (hj : j < l.length) : w.cell? ⟨p, j, none⟩ = some (.int .u32 (iw (l.getD j 0#32))) := by
  obtain ⟨t, h⟩ := h
  rw [cell_of_row w p j _ _ _ h, List.getElem?_toArray, wcs_get l j hj]; rfl
theorem Wat.frozen {w : World} {p : Nat} {l : List W32} (h : Wat w p l) (j : Nat) : w.frozen? ⟨p, j, none⟩ = false := by
  obtain ⟨t, h⟩ := h
  exact frozen_of_row w p j _ _ h
theorem Wat.set {w : World} {p : Nat} {l : List W32} (h : Wat w p l) (j : Nat) (x : W32) : Wat (w.setCell ⟨p, j, none⟩ (.int .u32 (iw x))) p (l.set j x) := by
  obtain ⟨t, h⟩ := h
  refine ⟨t, ?_⟩
  rw [heap_setCell_same w p j _ _ _ h]
  simp [wcs, wv, List.map_set]
theorem Wat.tr {w w' : World} {S : List Nat} {p : Nat} {l : List W32} (h : Wat w p l) (hc : Chg S w w') (hn : p ∉ S) : Wat w' p l := by
  obtain ⟨t, h⟩ := h
  exact ⟨t, hc.heap h hn⟩
theorem Wat.drewN {w : World} {p : Nat} {l : List W32} (h : Wat w p l) (n : Nat) : Wat (w.drewN n) p l := h.tr (Chg.drewN [] w n) (by simp)
theorem Wat.drew {w : World} {p : Nat} {l : List W32} (h : Wat w p l) : Wat w.drew p l := h.tr (Chg.drew [] w) (by simp)

end Go.Proofs.Ytgepfmofignmfaa
