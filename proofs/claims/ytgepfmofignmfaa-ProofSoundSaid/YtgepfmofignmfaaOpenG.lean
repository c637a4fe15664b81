/-
  Rows of digests that come in.
-/
import Derived.Test.YtgepfmofignmfaaProg
import Derived.Test.YtgepfmofignmfaaOpenD
namespace Go.Proofs.Ytgepfmofignmfaa
set_option linter.unusedSimpArgs false
set_option linter.unusedVariables false
open Go.RowKit Go.ChangeShapes Go.WideShapes Go.Deep

section
variable {H : Type} {enc : TypeId × Value → H} {P : Program} {w : World}
theorem dec_dig {t e : TypeId} {N : Nat} (ht : P.underlying t = some (.array N e)) (he : P.underlying e = some (.int .u8)) (hc : P.cellsOf e = 1) : Dec enc P w t N bcs (fun l : List UInt8 => l.length = N) := by
  intro cs n y h hl _
  obtain ⟨xs, m, _, _, hl2, hxl, hel⟩ := DataW.trod_array ht h
  have each : ∀ i, i < N → ∃ x : UInt8, cs[i]? = some (.int .u8 (x.toNat : Int)) := by
    intro i hi
    have h1 := hel i hi
    rw [hc, Nat.mul_one] at h1
    have hx : xs[i]? = some xs[i] := List.getElem?_eq_getElem (by omega)
    rw [hx] at h1
    obtain ⟨z, hz, _, hw⟩ := DataW.trod_int he h1
    obtain ⟨x, rfl⟩ := u8_wf hw
    refine ⟨x, ?_⟩
    have h2 := congrArg (fun l => l[0]?) hz
    simp only [List.getElem?_take, List.getElem?_drop] at h2
    simpa using h2
  obtain ⟨b, hb, hp⟩ := list_of each
  refine ⟨b, ?_, hb⟩
  apply List.ext_getElem?
  intro i
  by_cases hi : i < N
  · have := hp i (by omega)
    rw [this]
    simp [bcs, show i < b.length by omega]
  · rw [List.getElem?_eq_none (by omega), List.getElem?_eq_none (by rw [bcs_length]; omega)]
end
theorem dec_digest {H : Type} {enc : TypeId × Value → H} {w : World} : Dec enc Try.prog w 32 32 bcs (fun l : List UInt8 => l.length = 32) :=
  dec_dig Try.underlying32 Try.underlying5 (by kernel_rfl)
end Go.Proofs.Ytgepfmofignmfaa
