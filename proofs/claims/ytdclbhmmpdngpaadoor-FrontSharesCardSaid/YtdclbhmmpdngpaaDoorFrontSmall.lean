/-
  The contract of hypostylelaw13.small.
-/
import Derived.Test.YtdclbhmmpdngpaaDoorFrontDec
import Derived.Test.YtdclbhmmpdngpaaDoorFrontSame
import Derived.Lib.SlBytesConst
namespace Go.Proofs.YtdclbhmmpdngpaaDoor
set_option linter.unusedSimpArgs false
set_option linter.unusedVariables false
open Go.RowKit

theorem enc_small : encT [] [[97, 98], [97, 99]] = [0, 2, 97, 98, 1, 1, 99] := by
  simp [encT, shareV, vput_short]
theorem few_small : fewT [[97, 98], [97, 99]] = true := by decide
theorem few_none : fewT [] = true := by decide
theorem dec_small : decOut [0, 2, 97, 98, 1, 1, 99] 2 = ([[97, 98], [97, 99]], true) := by
  have h := decodeT_encT few_small
  rw [enc_small] at h
  unfold decOut
  rw [show (2 : Int) = (([[97, 98], [97, 99]] : List (List UInt8)).length : Int) by rfl, h]
theorem decT_other : decT 2 ⟨[0, 2, 97, 98, 0, 2, 97, 99], false⟩ [] 0 = some ([[97, 98], [97, 99]], ⟨[], false⟩) := by rfl
theorem dec_other : decOut [0, 2, 97, 98, 0, 2, 97, 99] 2 = ([], false) := by
  unfold decOut decodeT
  rw [if_neg (by decide), show (2 : Int).toNat = 2 by rfl, decT_other]
  dsimp only
  rw [if_neg (by rw [enc_small]; decide)]
theorem decT_more : decT 1 ⟨[0, 2, 97, 98, 1, 1, 99], false⟩ [] 0 = some ([[97, 98]], ⟨[1, 1, 99], false⟩) := by rfl
theorem dec_more : decOut [0, 2, 97, 98, 1, 1, 99] 1 = ([], false) := by
  unfold decOut decodeT
  rw [if_neg (by decide), show (1 : Int).toNat = 1 by rfl, decT_more]
  dsimp only
  rw [if_neg (by decide)]

/-- A new row with a mark, seen as a slice. -/
theorem Sl.litF (w : World) (cs : Array Value) (e n : Nat) (f : Nat × Nat) (hn : n ≤ maxLen) (hcs : n = 0 → cs = #[] := by intro h; cases h) : Sl (w.alloc (.cells cs e f)) (.slice (some ⟨w.heap.size, 0, none⟩) n n) n cs.toList := by
  refine ⟨_, _, rfl, Nat.le_refl _, hn, fun h => (by cases h), fun x hx _ => (by cases hx; simp), fun h => (by have := hcs h; simpa using this), fun j u hj => ⟨_, rfl, ?_⟩⟩
  rw [Addr.add_lit]
  rw [Nat.zero_add, Lib.cell_of_heap (heap_alloc_new w _)]
  simpa using hj
set_option maxHeartbeats 8000000 in
set_option maxRecDepth 100000 in
theorem small13_ok (w : World) : Calls Tryd.prog 8 #[] w fun e w' => e = .returned (.bool true) ∧ Chg [] w w' := by
  have k1 := fun w v (h : Sl w v 2 (tcs [[97, 98], [97, 99]])) => fencode_ok w v [[97, 98], [97, 99]] h (by decide) (by unfold big; simp)
  rw [few_small, if_pos rfl, enc_small] at k1
  have k2 := fun w v (h : Sl w v 7 (bcs [0, 2, 97, 98, 1, 1, 99])) => fdecode_ok w v [0, 2, 97, 98, 1, 1, 99] 2 h (by decide) (by decide)
  rw [dec_small] at k2
  have k3 := fun w v (h : Sl w v 8 (bcs [0, 2, 97, 98, 0, 2, 97, 99])) => fdecode_ok w v [0, 2, 97, 98, 0, 2, 97, 99] 2 h (by decide) (by decide)
  rw [dec_other] at k3
  have k4 := fun w v (h : Sl w v 7 (bcs [0, 2, 97, 98, 1, 1, 99])) => fdecode_ok w v [0, 2, 97, 98, 1, 1, 99] 1 h (by decide) (by decide)
  rw [dec_more] at k4
  have k5 := fun w => fencode_ok w _ [] (Sl.nil w) (by decide) (by simp)
  rw [few_none, if_pos rfl, show encT [] [] = [] by rfl] at k5
  have k6 := fun w => shared_ok w [97, 98, 99] [97, 98, 100] (by decide) (by decide)
  rw [show shareV [97, 98, 99] [97, 98, 100] = 2 by rfl] at k6
  have k7 := fun w => shared_ok w [] [97] (by decide) (by decide)
  rw [show shareV [] [97] = 0 by rfl] at k7
  have k8 := fun w v1 v2 (h1 : Sl w v1 2 (tcs [[97, 98], [97, 99]])) (h2 : Sl w v2 2 (tcs [[97, 98], [97, 99]])) => samet_ok w v1 v2 [[97, 98], [97, 99]] [[97, 98], [97, 99]] h1 h2 (by decide) (by decide)
  simp only [decide_true] at k8
  replace k2 := Lib.hid k2
  replace k3 := Lib.hid k3
  replace k4 := Lib.hid k4
  replace k5 := Lib.hid k5
  replace k6 := Lib.hid k6
  replace k7 := Lib.hid k7
  replace k8 := Lib.hid k8
  go_enter Tryd.func8, Tryd.ntmps8
  go_wp2_with fail
  have s1 := Sl.lit w #[.string (bstr [97, 98]), .string (bstr [97, 99])] 9 2 (by decide)
  have g1 := Chg.alloc [] w (.cells #[.string (bstr [97, 98]), .string (bstr [97, 99])] 9)
  refine (k1 _ _ s1).mono ?_
  rintro e w2 ⟨v2, rfl, o2, g2⟩
  replace g2 := g1.t0 g2
  clear k1 s1 g1
  obtain ⟨a2, c2, rfl⟩ := own_shape o2
  go_wp2_with fail
  refine (k2.out w2 _ (Sl.ofOwns o2)).mono ?_
  rintro e w3 ⟨v3, rfl, o3, g3⟩
  obtain ⟨a3, c3, rfl⟩ := own_shape o3
  have b3 := own_tr o2 g3 (by simp)
  replace g3 := g2.t0 g3
  clear k2 o2 g2
  have kc := fun (w : World) (C : Array Value) (n c : Nat) => Lib.run_convert_bytes_const (P := Tryd.prog) w 25 5 C n c Tryd.underlying25 Tryd.underlying5
  go_wp2_with fail
  clear kc
  have gA := Chg.alloc [] w3 (.cells #[.int .u8 0, .int .u8 2, .int .u8 97, .int .u8 98, .int .u8 0, .int .u8 2, .int .u8 97, .int .u8 99] 5 (8, 9))
  have sA : Sl (w3.alloc (.cells #[.int .u8 0, .int .u8 2, .int .u8 97, .int .u8 98, .int .u8 0, .int .u8 2, .int .u8 97, .int .u8 99] 5 (8, 9))) (.slice (some ⟨w3.heap.size, 0, none⟩) 8 8) 8 (bcs [0, 2, 97, 98, 0, 2, 97, 99]) := Sl.litF w3 #[.int .u8 0, .int .u8 2, .int .u8 97, .int .u8 98, .int .u8 0, .int .u8 2, .int .u8 97, .int .u8 99] 5 8 (8, 9) (by decide)
  refine (k3.out _ _ sA).mono ?_
  rintro e w4 ⟨v4, rfl, o4, g4⟩
  obtain ⟨a4, c4, rfl⟩ := own_shape o4
  have g34 := gA.t0 g4
  have b4 := own_tr b3 g34 (by simp)
  have o3' := own_tr o3 g34 (by simp)
  replace g4 := g3.t0 g34
  clear k3 gA sA g34 b3 o3 g3 o4
  go_wp2_with fail
  refine (k4.out w4 _ (Sl.ofOwns b4)).mono ?_
  rintro e w5 ⟨v5, rfl, o5, g5⟩
  obtain ⟨a5, c5, rfl⟩ := own_shape o5
  have b5 := own_tr b4 g5 (by simp)
  have o35 := own_tr o3' g5 (by simp)
  replace g5 := g4.t0 g5
  clear k4 b4 o3' g4 o5
  go_wp2_with fail
  refine (k5.out w5).mono ?_
  rintro e w6 ⟨v6, rfl, o6, g6⟩
  obtain ⟨a6, c6, rfl⟩ := own_shape o6
  have b6 := own_tr b5 g6 (by simp)
  have o36 := own_tr o35 g6 (by simp)
  replace g6 := g5.t0 g6
  clear k5 b5 o35 g5 o6
  have q1 : (convert 25 9 (.slice a2 7 c2)).run Tryd.prog w6 = .ok (.string (bstr [0, 2, 97, 98, 1, 1, 99])) w6 := run_str (P := Tryd.prog) Tryd.underlying25 Tryd.underlying5 Tryd.underlying9 (Sl.ofOwns b6) rfl
  go_wp2_with fail
  have s7 : Sl (w6.alloc (.cells #[.string { data := #[97, 98] }, .string { data := #[97, 99] }] 9)) (.slice (some ⟨w6.heap.size, 0, none⟩) 2 2) 2 (tcs [[97, 98], [97, 99]]) := Sl.lit w6 #[.string (bstr [97, 98]), .string (bstr [97, 99])] 9 2 (by decide)
  have gB := Chg.alloc [] w6 (.cells #[.string { data := #[97, 98] }, .string { data := #[97, 99] }] 9)
  refine (k8.out _ _ _ ((Sl.ofOwns o36).tr0 gB) s7).mono ?_
  rintro e w7 ⟨rfl, g7⟩
  replace g7 := (g6.t0 gB).t0 g7
  clear k8 o36 b6 q1 s7 gB g6
  go_wp2_with fail
  refine (k6.out w7).mono ?_
  rintro e w8 ⟨rfl, g8⟩
  replace g8 := g7.t0 g8
  go_wp2_with fail
  refine (k7.out w8).mono ?_
  rintro e w9 ⟨rfl, g9⟩
  go_wp2
  go_ret
  exact ⟨by simp, g8.t0 g9⟩
end Go.Proofs.YtdclbhmmpdngpaaDoor
