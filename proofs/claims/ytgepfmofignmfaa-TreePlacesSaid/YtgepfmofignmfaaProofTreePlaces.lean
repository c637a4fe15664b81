/-
  TreePlaces: the statement, out of its walk.
-/
import Derived.Test.YtgepfmofignmfaaRows
import Derived.Test.YtgepfmofignmfaaOpen
import Derived.Test.YtgepfmofignmfaaLaw21Places
namespace Go.Proofs.Ytgepfmofignmfaa
set_option linter.unusedSimpArgs false
set_option linter.unusedVariables false
open Go.ChangeShapes Go.WideShapes Go.ChangeAt Go.RowKit
open Go.ChangeMaps (open_string shut_string)
set_option linter.unusedVariables false

theorem ownTreePlaces : ownKnob Try.prog.godebug = none := by kernel_rfl
theorem laidOutTreePlaces : laidOutB Try.prog = true := by kernel_rfl

set_option maxRecDepth 100000 in
set_option maxHeartbeats 4000000 in
theorem treePlaces_lifted (os : Os) (started : os.Started) (H : Type) (enc : TypeId × Value → H) :
    ReturnsInHanded {} Try.checked os 7 .any (Rows.treePlacesSpec.pre6 enc Try.prog Try.f7 Rows.treePlacesRow.domain false) (Rows.treePlacesSpec.post enc Try.prog Try.f7 false true false false) := by
  refine returnsInHanded_of_change_sized (C := Try.checked) ownTreePlaces started (by kernel_rfl) Try.func7
    (ChangeSpec.witness6 (enc := enc) (C := Try.checked) false ⟨#[], #[.string ByteArray.empty, .int .i64 0, .int .i64 0, .slice none 0 0, .string ByteArray.empty, .int .i64 0, .int .i64 0, .slice none 0 0], []⟩ 8 (by kernel_rfl) (by kernel_rfl) (by kernel_rfl) (by kernel_rfl)) ?_
  intro W base args ds gs before hval0 hW hcnd hsz0 _
  have hval : ∀ (j : Nat) t v, Try.f7.params[j]? = some t → args[j]? = some v → Value.okWide Try.prog W .any base t v := hval0
  have hsz : (DataW.weightsEach Try.prog (Try.f7.params.toList ++ Rows.treePlacesSpec.plain.varTypes Try.prog) (ds ++ gs)).all (· ≤ reachBytes) = true := hsz0
  have hW' := hW
  obtain ⟨p, q, hA0, hV, rfl, hfz, hnd⟩ := hW
  have hA : DataW.TrodAll enc Try.prog W 0 (fun _ => true) true Try.f7.params.toList args.toList ds p := hA0
  rw [Try.params7] at hA hval hsz
  obtain ⟨v0, vs0, d0, ds0, p0, q0, hargs, rfl, rfl, h0, r0⟩ := trodAll_cons hA
  obtain ⟨v1, vs1, d1, ds1, p1, q1, rfl, rfl, rfl, h1, r1⟩ := trodAll_cons r0
  obtain ⟨v2, vs2, d2, ds2, p2, q2, rfl, rfl, rfl, h2, r2⟩ := trodAll_cons r1
  obtain ⟨v3, vs3, d3, ds3, p3, q3, rfl, rfl, rfl, h3, r3⟩ := trodAll_cons r2
  obtain ⟨v4, vs4, d4, ds4, p4, q4, rfl, rfl, rfl, h4, r4⟩ := trodAll_cons r3
  obtain ⟨v5, vs5, d5, ds5, p5, q5, rfl, rfl, rfl, h5, r5⟩ := trodAll_cons r4
  obtain ⟨v6, vs6, d6, ds6, p6, q6, rfl, rfl, rfl, h6, r6⟩ := trodAll_cons r5
  obtain ⟨v7, vs7, d7, ds7, p7, q7, rfl, rfl, rfl, h7, r7⟩ := trodAll_cons r6
  obtain ⟨rfl, rfl, rfl⟩ := trodAll_nil r7
  obtain rfl : args = #[v0, v1, v2, v3, v4, v5, v6, v7] := by cases args; simp_all
  obtain ⟨rfl, rfl⟩ := trodVars_none hV
  obtain ⟨s0, rfl, rfl, rfl, z0⟩ := open_string Try.underlying9 (hval 0 9 v0 rfl rfl) h0
  have sb0 : s0.size ≤ 140737488351232 := by
    have h := sized_string hsz (j := 0) (t := 9) rfl rfl
    have h3 : reachBytes = 140737488351232 := by decide
    have h4 : s0.data.toList.length = s0.size := Array.length_toList
    omega
  obtain ⟨a1, rfl, rfl, rfl, w1⟩ := open_int Try.underlying3 (hval 1 3 v1 rfl rfl) h1
  obtain ⟨a2, rfl, rfl, rfl, w2⟩ := open_int Try.underlying3 (hval 2 3 v2 rfl rfl) h2
  have k3 := h3
  have lt3 : ∀ x ∈ p3, x.block < W.heap.size := by obtain ⟨m, hm⟩ := k3; exact DataW.trod_lt m _ _ _ hm
  obtain ⟨y3, cy3, e3⟩ := okWide_slice Try.underlying22 (hval 3 22 v3 rfl rfl)
  obtain ⟨fuel3, hf3⟩ := h3
  obtain ⟨u3, l3, eu3, sl3, sz3⟩ := open_bytes Try.underlying22 Try.underlying5 (by kernel_rfl) hf3
  obtain rfl : u3 = v3 := by
    obtain ⟨cc3, ee3⟩ := e3
    rw [ee3] at eu3 ⊢
    simpa [Value.cells] using eu3.symm
  have bd3 : l3.length * 1 ≤ 140737488351232 := sized_le hsz (j := 3) (t := 22) (e := 5) (x := (d3, p3)) rfl rfl Try.underlying22 (by kernel_rfl) (by rcases sz3 with ⟨h, hl⟩ | h; exact .inl ⟨h, by rw [hl]; rfl⟩; exact .inr h)
  obtain ⟨s4, rfl, rfl, rfl, z4⟩ := open_string Try.underlying9 (hval 4 9 v4 rfl rfl) h4
  have sb4 : s4.size ≤ 140737488351232 := by
    have h := sized_string hsz (j := 4) (t := 9) rfl rfl
    have h3 : reachBytes = 140737488351232 := by decide
    have h4 : s4.data.toList.length = s4.size := Array.length_toList
    omega
  obtain ⟨a5, rfl, rfl, rfl, w5⟩ := open_int Try.underlying3 (hval 5 3 v5 rfl rfl) h5
  obtain ⟨a6, rfl, rfl, rfl, w6⟩ := open_int Try.underlying3 (hval 6 3 v6 rfl rfl) h6
  have k7 := h7
  have lt7 : ∀ x ∈ p7, x.block < W.heap.size := by obtain ⟨m, hm⟩ := k7; exact DataW.trod_lt m _ _ _ hm
  obtain ⟨y7, cy7, e7⟩ := okWide_slice Try.underlying22 (hval 7 22 v7 rfl rfl)
  obtain ⟨fuel7, hf7⟩ := h7
  obtain ⟨u7, l7, eu7, sl7, sz7⟩ := open_bytes Try.underlying22 Try.underlying5 (by kernel_rfl) hf7
  obtain rfl : u7 = v7 := by
    obtain ⟨cc7, ee7⟩ := e7
    rw [ee7] at eu7 ⊢
    simpa [Value.cells] using eu7.symm
  have bd7 : l7.length * 1 ≤ 140737488351232 := sized_le hsz (j := 7) (t := 22) (e := 5) (x := (d7, p7)) rfl rfl Try.underlying22 (by kernel_rfl) (by rcases sz7 with ⟨h, hl⟩ | h; exact .inl ⟨h, by rw [hl]; rfl⟩; exact .inr h)
  clear hA0 hval0 hsz0 hsz
  refine (treePlaces_run W s0 a1 a2 u3 l3 s4 a5 a6 u7 l7 sb0 w1 w2 sl3 bd3 sb4 w5 w6 sl7 bd7).mono fun e W' ⟨he, chg⟩ => ?_
  have bel := chg.below
  subst he
  exact ⟨_, rfl, _, _, _, [], _, [], hW', trodAll_mk1 (shut_bool Try.underlying4 _), (trodAll_cons_mk (shut_string Try.underlying9 z0) (trodAll_cons_mk (shut_int Try.underlying3 w1) (trodAll_cons_mk (shut_int Try.underlying3 w2) (trodAll_cons_mk (Below.trod laidOutTreePlaces (by kernel_rfl) (of_decide_eq_true (by kernel_rfl)) k3 bel lt3) (trodAll_cons_mk (shut_string Try.underlying9 z4) (trodAll_cons_mk (shut_int Try.underlying3 w5) (trodAll_cons_mk (shut_int Try.underlying3 w6) (trodAll_cons_mk (Below.trod laidOutTreePlaces (by kernel_rfl) (of_decide_eq_true (by kernel_rfl)) k7 bel lt7) trodAll_mk0)))))))), rfl, bel.frame _, fun h => by cases h⟩

set_option maxHeartbeats 4000000 in
theorem treePlaces_closed : joinedFacts Try.checked.prog 7 Try.f7 Rows.treePlacesSpec Rows.treePlacesRow = true := by
  unfold joinedFacts
  simp only [Bool.and_eq_true]
  repeat' apply And.intro
  all_goals (as_aux_lemma => kernel_rfl)

theorem treePlaces_over : Rows.treePlacesRow.holds Try.pinned (OpenSpec.ofChange Rows.treePlacesSpec) :=
  OpenClaim.holds_of_wide 7 Try.f7 rfl rfl rfl rfl rfl rfl rfl ⟨rfl, rfl, rfl, rfl, rfl⟩ rfl rfl rfl rfl rfl (by kernel_rfl) Try.func7 treePlaces_closed
    (of_decide_eq_true (by kernel_rfl)) (by unfold Func.isWrapper; first | (rw [if_pos (by decide +kernel)]; kernel_rfl) | (rw [if_neg (by decide +kernel)]; exact ⟨rfl, rfl⟩))
    (fun os started H enc _ => treePlaces_lifted os started H enc)

theorem treePlaces_proved : Rows.TreePlacesSaid := treePlaces_over
#print axioms treePlaces_proved
end Go.Proofs.Ytgepfmofignmfaa
