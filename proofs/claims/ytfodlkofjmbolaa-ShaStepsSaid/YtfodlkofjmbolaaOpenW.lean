/-
  An argument that is an array of words, by value.
-/
import Derived.Test.YtfodlkofjmbolaaOpen
import Derived.Test.YtfodlkofjmbolaaSha4
namespace Go.Proofs.Ytfodlkofjmbolaa
open Go.ChangeShapes Go.WideShapes Go.ChangeAt Go.RowKit
variable {H : Type} {enc : TypeId × Value → H} {P : Program} {w : World}

theorem open_wordArr {t e n base : Nat} {v : Value} {d : DataW H} {ps : List MemPlace} (ht : P.underlying t = some (.array n e)) (he : P.underlying e = some (.int .u32)) (hc : P.cellsOf e = 1) (hct : P.cellsOf t = n) (hv : Value.okWide P w .any base t v) (h : DataW.Trod enc P w 0 (fun _ => true) true t v d ps) :
    ∃ l : List W32, l.length = n ∧ v = aw l := by
  obtain ⟨fuel, hf⟩ := h
  simp only [Value.okWide, ht] at hv
  obtain ⟨cs, rfl, hsz, _⟩ := hv
  obtain ⟨xs, m, _, _, hl, hxl, hel⟩ := DataW.trod_array ht hf
  simp only [Value.cells, hct] at hl hsz hel
  have each : ∀ i, i < n → ∃ x : W32, cs.toList[i]? = some (wv x) := by
    intro i hi
    have h1 := hel i hi
    rw [hc, Nat.mul_one] at h1
    have hx : xs[i]? = some xs[i] := List.getElem?_eq_getElem (by omega)
    rw [hx] at h1
    obtain ⟨z, hz, _, hw⟩ := DataW.trod_int he h1
    obtain ⟨x, rfl, hx32⟩ := u32_wf hw
    refine ⟨BitVec.ofNat 32 x, ?_⟩
    have h2 := congrArg (fun l => l[0]?) hz
    simp only [List.getElem?_take, List.getElem?_drop] at h2
    unfold wv iw
    rw [BitVec.toNat_ofNat, Nat.mod_eq_of_lt hx32]
    simpa using h2
  obtain ⟨b, hb, hp⟩ := list_of each
  refine ⟨b, hb, ?_⟩
  unfold aw
  congr 1
  apply Array.ext'
  apply List.ext_getElem?
  intro i
  by_cases hi : i < n
  · rw [hp i (by omega)]; simp [wcs, show i < b.length by omega]
  · rw [List.getElem?_eq_none (by rw [hl]; omega), List.getElem?_eq_none (by simp [wcs]; omega)]
end Go.Proofs.Ytfodlkofjmbolaa
