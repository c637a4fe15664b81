/-
  A scope in which the run jumps back to one label, and forward, for the last time, to another one.
-/
import Derived.Test.YtdclbhmmpdngpaaDoorBase
import Derived.ScopeJumps
import Derived.WalkMore
namespace Go.Proofs.YtdclbhmmpdngpaaDoor
set_option linter.unusedSimpArgs false
set_option linter.unusedVariables false

/-- As Q; by a goto to label l: J; to label m: K; by any other goto: no way out. -/
def jump2 (l : Nat) (J : Act → World → Prop) (m : Nat) (K : Act → World → Prop) (Q : Exit → Act → World → Prop) : Exit → Act → World → Prop
  | .goto l', a, w => (l' = l ∧ J a w) ∨ (l' = m ∧ K a w)
  | e, a, w => Q e a w

section
variable {P : Program} {a : Act} {w : World} {Q : Exit → Act → World → Prop}

theorem wp_scope_two {c body last : Code} (l m : Nat) (J K : Act → World → Prop) (μ : Act → World → Nat) (hf : findLabel c l = some (Code.seq .skip body)) (hm : findLabel c m = some last)
    (first : (∀ a w, J a w → body.wp P (jump2 l J m K Q) a w) → c.wp P (jump2 l J m K Q) a w)
    (pass_ : ∀ a w, J a w → body.wp P (jump2 l (fun a' w' => J a' w' ∧ μ a' w' < μ a w) m K Q) a w)
    (end_ : ∀ a w, K a w → last.wp P (Exit.noGoto Q) a w) : (Code.scope c).wp P Q a w := by
  have pass : ∀ a w, J a w → (Code.seq .skip body).wp P (jump2 l (fun a' w' => J a' w' ∧ μ a' w' < μ a w) m K Q) a w := fun a w hJ => wp_seq (wp_skip (pass_ a w hJ))
  intro b k cs
  have hg : gotoIn l (.inScope c :: k) = some (.code (Code.seq .skip body) :: .inScope c :: k) := by simp [gotoIn, hf]
  have hg2 : gotoIn m (.inScope c :: k) = some (.code last :: .inScope c :: k) := by simp [gotoIn, hm]
  have key2 : ∀ a w, K a w → ∃ e a' w', Q e a' w' ∧ Arrives P (lone (b.at a (.code last :: .inScope c :: k)) cs w) b k cs e a' w' := by
    intro a w hK
    obtain ⟨e, a₁, w₁, hq, harr⟩ := end_ a w hK b (.inScope c :: k) cs
    cases e with
    | normal => exact ⟨.normal, a₁, w₁, hq, Steps.trans harr (.one step_inScope)⟩
    | exit id => exact ⟨.exit id, a₁, w₁, hq, fun k' hk => harr k' (by simp [exitTo, hk])⟩
    | goto l' => exact hq.elim
    | ret => exact ⟨_, a₁, w₁, hq, harr⟩
    | panic ch => exact ⟨_, a₁, w₁, hq, harr⟩
    | outgrown => exact ⟨_, a₁, w₁, hq, harr⟩
  have key : ∀ n a w, μ a w = n → J a w → ∃ e a' w', Q e a' w' ∧ Arrives P (lone (b.at a (.code (Code.seq .skip body) :: .inScope c :: k)) cs w) b k cs e a' w' := by
    intro n
    induction n using Nat.strongRecOn with
    | _ n ih =>
      intro a w hn hJ
      obtain ⟨e, a₁, w₁, hq, harr⟩ := pass a w hJ b (.inScope c :: k) cs
      cases e with
      | normal => exact ⟨.normal, a₁, w₁, hq, Steps.trans harr (.one step_inScope)⟩
      | exit id => exact ⟨.exit id, a₁, w₁, hq, fun k' hk => harr k' (by simp [exitTo, hk])⟩
      | goto l' =>
        rcases hq with ⟨rfl, hJ', hlt⟩ | ⟨rfl, hK⟩
        · obtain ⟨e₂, a₂, w₂, hq₂, harr₂⟩ := ih _ (by omega) a₁ w₁ rfl hJ'
          exact ⟨e₂, a₂, w₂, hq₂, .of_steps (harr _ hg) harr₂⟩
        · obtain ⟨e₂, a₂, w₂, hq₂, harr₂⟩ := key2 a₁ w₁ hK
          exact ⟨e₂, a₂, w₂, hq₂, .of_steps (harr _ hg2) harr₂⟩
      | ret => exact ⟨_, a₁, w₁, hq, harr⟩
      | panic ch => exact ⟨_, a₁, w₁, hq, harr⟩
      | outgrown => exact ⟨_, a₁, w₁, hq, harr⟩
  have hp : ∀ a w, J a w → body.wp P (jump2 l J m K Q) a w := fun a w hJ b k cs => by
    obtain ⟨e, a₁, w₁, hq, harr⟩ := pass_ a w hJ b k cs
    refine ⟨e, a₁, w₁, ?_, harr⟩
    cases e with
    | goto l' =>
      rcases hq with ⟨h1, h2, _⟩ | h
      · exact .inl ⟨h1, h2⟩
      · exact .inr h
    | _ => exact hq
  obtain ⟨e, a₁, w₁, hq, harr⟩ := first hp b (.inScope c :: k) cs
  cases e with
  | normal => exact ⟨.normal, a₁, w₁, hq, .head step_scope (Steps.trans harr (.one step_inScope))⟩
  | exit id => exact ⟨.exit id, a₁, w₁, hq, fun k' hk => .head step_scope (harr k' (by simp [exitTo, hk]))⟩
  | goto l' =>
    rcases hq with ⟨rfl, hJ'⟩ | ⟨rfl, hK⟩
    · obtain ⟨e₂, a₂, w₂, hq₂, harr₂⟩ := key _ a₁ w₁ rfl hJ'
      exact ⟨e₂, a₂, w₂, hq₂, .of_steps (.head step_scope (harr _ hg)) harr₂⟩
    · obtain ⟨e₂, a₂, w₂, hq₂, harr₂⟩ := key2 a₁ w₁ hK
      exact ⟨e₂, a₂, w₂, hq₂, .of_steps (.head step_scope (harr _ hg2)) harr₂⟩
  | ret => exact ⟨_, a₁, w₁, hq, .of_steps (.one step_scope) harr⟩
  | panic ch => exact ⟨_, a₁, w₁, hq, .of_steps (.one step_scope) harr⟩
  | outgrown => exact ⟨_, a₁, w₁, hq, .of_steps (.one step_scope) harr⟩
end
end Go.Proofs.YtdclbhmmpdngpaaDoor
