/-
  QueryBack: the statement, out of its walk.
-/
import Derived.Test.YtfnfcioofkeanaaRows
import Derived.Test.YtfnfcioofkeanaaOpen
import Derived.Test.YtfnfcioofkeanaaLaw24C
import Derived.Test.YtfnfcioofkeanaaOpenQ
namespace Go.Proofs.Ytfnfcioofkeanaa
open Go.ChangeShapes Go.WideShapes Go.ChangeAt Go.RowKit
open Go.ChangeMaps (open_string shut_string)
set_option linter.unusedVariables false

theorem ownQueryBack : ownKnob Try.prog.godebug = none := by kernel_rfl
theorem laidOutQueryBack : laidOutB Try.prog = true := by kernel_rfl

set_option maxRecDepth 100000 in
set_option maxHeartbeats 4000000 in
theorem queryBack_lifted (os : Os) (started : os.Started) (H : Type) (enc : TypeId × Value → H) :
    ReturnsInHanded {} Try.checked os 5 .any (Rows.queryBackSpec.pre6 enc Try.prog Try.f5 Rows.queryBackRow.domain false) (Rows.queryBackSpec.post enc Try.prog Try.f5 false true false false) := by
  refine returnsInHanded_of_change_sized (C := Try.checked) ownQueryBack started (by kernel_rfl) Try.func5
    (ChangeSpec.witness6 (enc := enc) (C := Try.checked) false ⟨#[], #[.agg #[.slice none 0 0, .int .i64 0, .int .i64 0], .slice none 0 0], []⟩ 8 (by kernel_rfl) (by kernel_rfl) (by kernel_rfl) (by kernel_rfl)) ?_
  intro W base args ds gs before hval0 hW hcnd hsz0 _
  have hval : ∀ (j : Nat) t v, Try.f5.params[j]? = some t → args[j]? = some v → Value.okWide Try.prog W .any base t v := hval0
  have hsz : (DataW.weightsEach Try.prog (Try.f5.params.toList ++ Rows.queryBackSpec.plain.varTypes Try.prog) (ds ++ gs)).all (· ≤ reachBytes) = true := hsz0
  have hW' := hW
  obtain ⟨p, q, hA0, hV, rfl, hfz, hnd⟩ := hW
  have hA : DataW.TrodAll enc Try.prog W 0 (fun _ => true) true Try.f5.params.toList args.toList ds p := hA0
  rw [Try.params5] at hA hval hsz
  obtain ⟨v0, vs0, d0, ds0, p0, q0, hargs, rfl, rfl, h0, r0⟩ := trodAll_cons hA
  obtain ⟨v1, vs1, d1, ds1, p1, q1, rfl, rfl, rfl, h1, r1⟩ := trodAll_cons r0
  obtain ⟨rfl, rfl, rfl⟩ := trodAll_nil r1
  obtain rfl : args = #[v0, v1] := by cases args; simp_all
  obtain ⟨rfl, rfl⟩ := trodVars_none hV
  have k0 := h0
  have lt0 : ∀ x ∈ p0, x.block < W.heap.size := by obtain ⟨m, hm⟩ := k0; exact DataW.trod_lt m _ _ _ hm
  obtain ⟨b0, rfl, ok0⟩ := open_st dec_query Try.underlying24 (by kernel_rfl) (hval 0 24 v0 rfl rfl) h0 (small_of hsz (j := 0) (t := 24) rfl rfl)
  have k1 := h1
  have lt1 : ∀ x ∈ p1, x.block < W.heap.size := by obtain ⟨m, hm⟩ := k1; exact DataW.trod_lt m _ _ _ hm
  obtain ⟨y1, cy1, e1⟩ := okWide_slice Try.underlying30 (hval 1 30 v1 rfl rfl)
  obtain ⟨fuel1, hf1⟩ := h1
  obtain ⟨u1, l1, eu1, sl1, sz1⟩ := open_bytes Try.underlying30 Try.underlying5 (by kernel_rfl) hf1
  obtain rfl : u1 = v1 := by
    obtain ⟨cc1, ee1⟩ := e1
    rw [ee1] at eu1 ⊢
    simpa [Value.cells] using eu1.symm
  have bd1 : l1.length * 1 ≤ 140737488351232 := sized_le hsz (j := 1) (t := 30) (e := 5) (x := (d1, p1)) rfl rfl Try.underlying30 (by kernel_rfl) (by rcases sz1 with ⟨h, hl⟩ | h; exact .inl ⟨h, by rw [hl]; rfl⟩; exact .inr h)
  clear hA0 hval0 hsz0 hsz
  refine (queryBack_run W b0 u1 l1 ok0 sl1 bd1).mono fun e W' ⟨he, chg⟩ => ?_
  have bel := chg.below
  subst he
  exact ⟨_, rfl, _, _, _, [], _, [], hW', trodAll_mk1 (shut_bool Try.underlying4 _), (trodAll_cons_mk (Below.trod laidOutQueryBack (by kernel_rfl) (of_decide_eq_true (by kernel_rfl)) k0 bel lt0) (trodAll_cons_mk (Below.trod laidOutQueryBack (by kernel_rfl) (of_decide_eq_true (by kernel_rfl)) k1 bel lt1) trodAll_mk0)), rfl, bel.frame _, fun h => by cases h⟩

set_option maxHeartbeats 4000000 in
theorem queryBack_closed : joinedFacts Try.checked.prog 5 Try.f5 Rows.queryBackSpec Rows.queryBackRow = true := by
  unfold joinedFacts
  simp only [Bool.and_eq_true]
  repeat' apply And.intro
  all_goals (as_aux_lemma => kernel_rfl)

theorem queryBack_over : Rows.queryBackRow.holds Try.pinned (OpenSpec.ofChange Rows.queryBackSpec) :=
  OpenClaim.holds_of_wide 5 Try.f5 rfl rfl rfl rfl rfl rfl rfl ⟨rfl, rfl, rfl, rfl, rfl⟩ rfl rfl rfl rfl rfl (by kernel_rfl) Try.func5 queryBack_closed
    (of_decide_eq_true (by kernel_rfl)) (by unfold Func.isWrapper; first | (rw [if_pos (by decide +kernel)]; kernel_rfl) | (rw [if_neg (by decide +kernel)]; exact ⟨rfl, rfl⟩))
    (fun os started H enc _ => queryBack_lifted os started H enc)

theorem queryBack_proved : Rows.QueryBackSaid := queryBack_over
#print axioms queryBack_proved
end Go.Proofs.Ytfnfcioofkeanaa
