/-
  A drawn region's operations shown one behind another (for long regions: the goals are not all opened at once).
-/
import Derived.Test.YtdclbhmmpdngpaaDoorSoft2
namespace Go.Proofs.YtdclbhmmpdngpaaDoor
set_option linter.unusedSimpArgs false
set_option linter.unusedVariables false
open Go.RowKit
variable {P : Program} {md : Region.Mode} {ops : Array Oper}

theorem softs_cons {W : World} {Q : Exit → Act → World → Prop} {F : (Nat → Value) → Act} {Φ : Nat → Value → World → Prop} {o : Oper} {r : List Oper} {G : Value → World → Prop} {L : List (Value → World → Prop)}
    (h : ∀ V w, Chg [] W w → (∀ e ∈ o.after.toList, Region.binds md e = true → Φ e.on (V e.on) w) → softStep P ops Q o (F V) w G) (h2 : softs P md ops W Q F Φ r L) : softs P md ops W Q F Φ (o :: r) (G :: L) := ⟨h, h2⟩
theorem softs_nil {W : World} {Q : Exit → Act → World → Prop} {F : (Nat → Value) → Act} {Φ : Nat → Value → World → Prop} {L : List (Value → World → Prop)} : softs P md ops W Q F Φ [] L := by unfold softs; trivial
end Go.Proofs.YtdclbhmmpdngpaaDoor
