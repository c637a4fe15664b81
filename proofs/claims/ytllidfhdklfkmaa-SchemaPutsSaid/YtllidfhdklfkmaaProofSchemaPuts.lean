/-
  SchemaPuts: the statement, out of its walk.
-/
import Derived.Test.YtllidfhdklfkmaaRows
import Derived.Test.YtllidfhdklfkmaaOpen
import Derived.Test.YtllidfhdklfkmaaLaw16Puts
import Derived.Test.YtllidfhdklfkmaaOpenC
namespace Go.Proofs.Ytllidfhdklfkmaa
open Go.ChangeShapes Go.WideShapes Go.ChangeAt Go.RowKit
open Go.ChangeMaps (open_string shut_string)
set_option linter.unusedVariables false

theorem ownSchemaPuts : ownKnob Try.prog.godebug = none := by kernel_rfl
theorem laidOutSchemaPuts : laidOutB Try.prog = true := by kernel_rfl

set_option maxRecDepth 100000 in
set_option maxHeartbeats 4000000 in
theorem schemaPuts_lifted (os : Os) (started : os.Started) (H : Type) (enc : TypeId × Value → H) :
    ReturnsInHanded {} Try.checked os 9 .any (Rows.schemaPutsSpec.pre6 enc Try.prog Try.f9 Rows.schemaPutsRow.domain false) (Rows.schemaPutsSpec.post enc Try.prog Try.f9 false true false false) := by
  refine returnsInHanded_of_change_sized (C := Try.checked) ownSchemaPuts started (by kernel_rfl) Try.func9
    (ChangeSpec.witness6 (enc := enc) (C := Try.checked) false ⟨#[], #[.slice none 0 0, .slice none 0 0], []⟩ 8 (by kernel_rfl) (by kernel_rfl) (by kernel_rfl) (by kernel_rfl)) ?_
  intro W base args ds gs before hval0 hW hcnd hsz0 _
  have hval : ∀ (j : Nat) t v, Try.f9.params[j]? = some t → args[j]? = some v → Value.okWide Try.prog W .any base t v := hval0
  have hsz : (DataW.weightsEach Try.prog (Try.f9.params.toList ++ Rows.schemaPutsSpec.plain.varTypes Try.prog) (ds ++ gs)).all (· ≤ reachBytes) = true := hsz0
  have hW' := hW
  obtain ⟨p, q, hA0, hV, rfl, hfz, hnd⟩ := hW
  have hA : DataW.TrodAll enc Try.prog W 0 (fun _ => true) true Try.f9.params.toList args.toList ds p := hA0
  rw [Try.params9] at hA hval hsz
  obtain ⟨v0, vs0, d0, ds0, p0, q0, hargs, rfl, rfl, h0, r0⟩ := trodAll_cons hA
  obtain ⟨v1, vs1, d1, ds1, p1, q1, rfl, rfl, rfl, h1, r1⟩ := trodAll_cons r0
  obtain ⟨rfl, rfl, rfl⟩ := trodAll_nil r1
  obtain rfl : args = #[v0, v1] := by cases args; simp_all
  obtain ⟨rfl, rfl⟩ := trodVars_none hV
  have k0 := h0
  have lt0 : ∀ x ∈ p0, x.block < W.heap.size := by obtain ⟨m, hm⟩ := k0; exact DataW.trod_lt m _ _ _ hm
  obtain ⟨y0, cy0, e0⟩ := okWide_slice Try.underlying22 (hval 0 22 v0 rfl rfl)
  obtain ⟨fuel0, hf0⟩ := h0
  obtain ⟨u0, l0, eu0, sl0, sz0⟩ := open_bytes Try.underlying22 Try.underlying5 (by kernel_rfl) hf0
  obtain rfl : u0 = v0 := by
    obtain ⟨cc0, ee0⟩ := e0
    rw [ee0] at eu0 ⊢
    simpa [Value.cells] using eu0.symm
  have bd0 : l0.length * 1 ≤ 140737488351232 := sized_le hsz (j := 0) (t := 22) (e := 5) (x := (d0, p0)) rfl rfl Try.underlying22 (by kernel_rfl) (by rcases sz0 with ⟨h, hl⟩ | h; exact .inl ⟨h, by rw [hl]; rfl⟩; exact .inr h)
  have k1 := h1
  have lt1 : ∀ x ∈ p1, x.block < W.heap.size := by obtain ⟨m, hm⟩ := k1; exact DataW.trod_lt m _ _ _ hm
  obtain ⟨l1, sl1, ok1, bd1⟩ := open_sl (bytes := 32) dec_col Try.underlying47 (by kernel_rfl) (by kernel_rfl) (by decide) (hval 1 47 v1 rfl rfl) h1 (small_of hsz (j := 1) (t := 47) rfl rfl)
  clear hA0 hval0 hsz0 hsz
  refine (schemaPuts_run W u0 l0 v1 l1 sl0 bd0 sl1 ok1 bd1).mono fun e W' ⟨he, chg⟩ => ?_
  have bel := chg.below
  subst he
  exact ⟨_, rfl, _, _, _, [], _, [], hW', trodAll_mk1 (shut_bool Try.underlying4 _), (trodAll_cons_mk (Below.trod laidOutSchemaPuts (by kernel_rfl) (of_decide_eq_true (by kernel_rfl)) k0 bel lt0) (trodAll_cons_mk (Below.trod laidOutSchemaPuts (by kernel_rfl) (of_decide_eq_true (by kernel_rfl)) k1 bel lt1) trodAll_mk0)), rfl, bel.frame _, fun h => by cases h⟩

set_option maxHeartbeats 4000000 in
theorem schemaPuts_closed : joinedFacts Try.checked.prog 9 Try.f9 Rows.schemaPutsSpec Rows.schemaPutsRow = true := by
  unfold joinedFacts
  simp only [Bool.and_eq_true]
  repeat' apply And.intro
  all_goals (as_aux_lemma => kernel_rfl)

theorem schemaPuts_over : Rows.schemaPutsRow.holds Try.pinned (OpenSpec.ofChange Rows.schemaPutsSpec) :=
  OpenClaim.holds_of_wide 9 Try.f9 rfl rfl rfl rfl rfl rfl rfl ⟨rfl, rfl, rfl, rfl, rfl⟩ rfl rfl rfl rfl rfl (by kernel_rfl) Try.func9 schemaPuts_closed
    (of_decide_eq_true (by kernel_rfl)) (by unfold Func.isWrapper; first | (rw [if_pos (by decide +kernel)]; kernel_rfl) | (rw [if_neg (by decide +kernel)]; exact ⟨rfl, rfl⟩))
    (fun os started H enc _ => schemaPuts_lifted os started H enc)

theorem schemaPuts_proved : Rows.SchemaPutsSaid := schemaPuts_over
#print axioms schemaPuts_proved
end Go.Proofs.Ytllidfhdklfkmaa
