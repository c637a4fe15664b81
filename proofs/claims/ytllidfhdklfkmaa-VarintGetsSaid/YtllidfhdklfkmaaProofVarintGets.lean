/-
  VarintGets: the statement, out of its walk.
-/
import Derived.Test.YtllidfhdklfkmaaRows
import Derived.Test.YtllidfhdklfkmaaOpen
import Derived.Test.YtllidfhdklfkmaaLaw04Gets
namespace Go.Proofs.Ytllidfhdklfkmaa
open Go.ChangeShapes Go.WideShapes Go.ChangeAt Go.RowKit
open Go.ChangeMaps (open_string shut_string)
set_option linter.unusedVariables false

theorem ownVarintGets : ownKnob Try.prog.godebug = none := by kernel_rfl
theorem laidOutVarintGets : laidOutB Try.prog = true := by kernel_rfl

set_option maxRecDepth 100000 in
set_option maxHeartbeats 4000000 in
theorem varintGets_lifted (os : Os) (started : os.Started) (H : Type) (enc : TypeId × Value → H) :
    ReturnsInHanded {} Try.checked os 7 .any (Rows.varintGetsSpec.pre6 enc Try.prog Try.f7 Rows.varintGetsRow.domain false) (Rows.varintGetsSpec.post enc Try.prog Try.f7 false true false false) := by
  refine returnsInHanded_of_change_sized (C := Try.checked) ownVarintGets started (by kernel_rfl) Try.func7
    (ChangeSpec.witness6 (enc := enc) (C := Try.checked) false ⟨#[], #[.slice none 0 0, .slice none 0 0], []⟩ 8 (by kernel_rfl) (by kernel_rfl) (by kernel_rfl) (by kernel_rfl)) ?_
  intro W base args ds gs before hval0 hW hcnd hsz0 _
  have hval : ∀ (j : Nat) t v, Try.f7.params[j]? = some t → args[j]? = some v → Value.okWide Try.prog W .any base t v := hval0
  have hsz : (DataW.weightsEach Try.prog (Try.f7.params.toList ++ Rows.varintGetsSpec.plain.varTypes Try.prog) (ds ++ gs)).all (· ≤ reachBytes) = true := hsz0
  have hW' := hW
  obtain ⟨p, q, hA0, hV, rfl, hfz, hnd⟩ := hW
  have hA : DataW.TrodAll enc Try.prog W 0 (fun _ => true) true Try.f7.params.toList args.toList ds p := hA0
  rw [Try.params7] at hA hval hsz
  obtain ⟨v0, vs0, d0, ds0, p0, q0, hargs, rfl, rfl, h0, r0⟩ := trodAll_cons hA
  obtain ⟨v1, vs1, d1, ds1, p1, q1, rfl, rfl, rfl, h1, r1⟩ := trodAll_cons r0
  obtain ⟨rfl, rfl, rfl⟩ := trodAll_nil r1
  obtain rfl : args = #[v0, v1] := by cases args; simp_all
  obtain ⟨rfl, rfl⟩ := trodVars_none hV
  have k0 := h0
  have lt0 : ∀ x ∈ p0, x.block < W.heap.size := by obtain ⟨m, hm⟩ := k0; exact DataW.trod_lt m _ _ _ hm
  obtain ⟨y0, cy0, e0⟩ := okWide_slice Try.underlying22 (hval 0 22 v0 rfl rfl)
  obtain ⟨fuel0, hf0⟩ := h0
  obtain ⟨u0, l0, eu0, sl0, sz0⟩ := open_bytes Try.underlying22 Try.underlying5 (by kernel_rfl) hf0
  obtain rfl : u0 = v0 := by
    obtain ⟨cc0, ee0⟩ := e0
    rw [ee0] at eu0 ⊢
    simpa [Value.cells] using eu0.symm
  have bd0 : l0.length * 1 ≤ 140737488351232 := sized_le hsz (j := 0) (t := 22) (e := 5) (x := (d0, p0)) rfl rfl Try.underlying22 (by kernel_rfl) (by rcases sz0 with ⟨h, hl⟩ | h; exact .inl ⟨h, by rw [hl]; rfl⟩; exact .inr h)
  have k1 := h1
  have lt1 : ∀ x ∈ p1, x.block < W.heap.size := by obtain ⟨m, hm⟩ := k1; exact DataW.trod_lt m _ _ _ hm
  obtain ⟨y1, cy1, e1⟩ := okWide_slice Try.underlying37 (hval 1 37 v1 rfl rfl)
  obtain ⟨fuel1, hf1⟩ := h1
  obtain ⟨u1, l1, eu1, sl1, rg1, sz1⟩ := open_ints64 Try.underlying37 Try.underlying3 (by kernel_rfl) hf1
  obtain rfl : u1 = v1 := by
    obtain ⟨cc1, ee1⟩ := e1
    rw [ee1] at eu1 ⊢
    simpa [Value.cells] using eu1.symm
  have bd1 : l1.length * 8 ≤ 140737488351232 := sized_le hsz (j := 1) (t := 37) (e := 3) (x := (d1, p1)) rfl rfl Try.underlying37 (by kernel_rfl) (by rcases sz1 with ⟨h, hl⟩ | h; exact .inl ⟨h, by rw [hl]; rfl⟩; exact .inr h)
  clear hA0 hval0 hsz0 hsz
  refine (varintGets_run W u0 l0 u1 l1 sl0 bd0 sl1 rg1 bd1).mono fun e W' ⟨he, chg⟩ => ?_
  have bel := chg.below
  subst he
  exact ⟨_, rfl, _, _, _, [], _, [], hW', trodAll_mk1 (shut_bool Try.underlying4 _), (trodAll_cons_mk (Below.trod laidOutVarintGets (by kernel_rfl) (of_decide_eq_true (by kernel_rfl)) k0 bel lt0) (trodAll_cons_mk (Below.trod laidOutVarintGets (by kernel_rfl) (of_decide_eq_true (by kernel_rfl)) k1 bel lt1) trodAll_mk0)), rfl, bel.frame _, fun h => by cases h⟩

set_option maxHeartbeats 4000000 in
theorem varintGets_closed : joinedFacts Try.checked.prog 7 Try.f7 Rows.varintGetsSpec Rows.varintGetsRow = true := by
  unfold joinedFacts
  simp only [Bool.and_eq_true]
  repeat' apply And.intro
  all_goals (as_aux_lemma => kernel_rfl)

theorem varintGets_over : Rows.varintGetsRow.holds Try.pinned (OpenSpec.ofChange Rows.varintGetsSpec) :=
  OpenClaim.holds_of_wide 7 Try.f7 rfl rfl rfl rfl rfl rfl rfl ⟨rfl, rfl, rfl, rfl, rfl⟩ rfl rfl rfl rfl rfl (by kernel_rfl) Try.func7 varintGets_closed
    (of_decide_eq_true (by kernel_rfl)) (by unfold Func.isWrapper; first | (rw [if_pos (by decide +kernel)]; kernel_rfl) | (rw [if_neg (by decide +kernel)]; exact ⟨rfl, rfl⟩))
    (fun os started H enc _ => varintGets_lifted os started H enc)

theorem varintGets_proved : Rows.VarintGetsSaid := varintGets_over
#print axioms varintGets_proved
end Go.Proofs.Ytllidfhdklfkmaa
