/-
  The small cases.
-/
import Derived.Test.YtfodlkofjmbolaaProg
import Derived.Test.YtfodlkofjmbolaaSha11
import Derived.Lib.SlBytesConst
namespace Go.Proofs.Ytfodlkofjmbolaa
set_option linter.unusedSimpArgs false
set_option linter.unusedVariables false
open Go.RowKit

/-- A marked row, seen as a slice. -/
theorem Sl.marked (w : World) (cs : Array Value) (e n : Nat) (fr : Nat × Nat) (hn : n ≤ maxLen) (h0 : 0 < n) : Sl (w.alloc (.cells cs e fr)) (.slice (some ⟨w.heap.size, 0, none⟩) n n) n cs.toList := by
  refine ⟨_, _, rfl, Nat.le_refl _, hn, fun h => (by cases h), fun x hx _ => (by cases hx; simp), fun h => (by omega), fun j u hj => ⟨_, rfl, ?_⟩⟩
  rw [Addr.add_lit, cell_of_row _ _ _ cs e fr (heap_alloc_last w _), Nat.zero_add]
  simpa using hj

set_option maxRecDepth 100000 in
theorem small_ok (w : World) :
    Calls Try.prog 14 #[] w fun e w' => e = .returned (.bool true) ∧ Chg [] w w' := by
  go_enter Try.func14, Try.ntmps14
  go_wp2_with fail
  refine (sum_ok w _ [] (Sl.nil w) (by decide)).mono ?_
  rintro e w1 ⟨rfl, g1⟩
  have L0 : Hid ((sumB []).length = 32) := digTo_length _ _
  have v00 := sum_nil.1
  have v03 := sum_nil.2
  generalize sumB [] = D0 at *
  go_wp2_with (first
    | (refine alloc_bytes (by rfl) 25 (by rfl) 32 (by kernel_rfl) ?_; intro w2 h2 g2 z2; replace z2 : Hid _ := z2)
    | (refine store_bytes (by rfl) 25 (.tmp 1) (.tmp 5) (by rfl) _ 32 _ (by rfl) D0 (by rfl) _ h2 (by kernel_rfl) L0.out (by rw [List.length_replicate]) ?_; intro w3 h3 g3 z3; replace z3 : Hid _ := z3; have hcv := Lib.run_convert_bytes_const (P := Try.prog) w3 22 5 #[Value.int .u8 97, Value.int .u8 98, Value.int .u8 99] 3 3 Try.underlying22 Try.underlying5))
  have s3 := Sl.marked w3 #[Value.int .u8 97, Value.int .u8 98, Value.int .u8 99] 5 3 (3, 4) (by decide) (by decide)
  have g34 : Chg [] w3 (w3.alloc (.cells #[Value.int .u8 97, Value.int .u8 98, Value.int .u8 99] 5 (3, 4))) := Chg.alloc ..
  clear hcv
  have G1 : Hid (Chg [] w (w3.alloc (.cells #[Value.int .u8 97, Value.int .u8 98, Value.int .u8 99] 5 (3, 4)))) := ((g1.t0 g2).tn g3 g1.size).t0 g34
  have H1 := g34.heap h3 (by have := lt_of_heap h3; simp)
  refine (sum_ok _ _ [97, 98, 99] s3 (by decide)).mono ?_
  generalize w3.alloc (.cells #[Value.int .u8 97, Value.int .u8 98, Value.int .u8 99] 5 (3, 4)) = w4 at *
  rintro e w5 ⟨rfl, g5⟩
  have M1 : Hid (w.heap.size ≤ w1.heap.size) := g1.size
  obtain ⟨p1, e1⟩ : ∃ p, w1.heap.size = p := ⟨_, rfl⟩
  rw [e1] at H1 M1 ⊢
  have H5 := g5.heap H1 (by simp)
  have G5 : Hid (Chg [] w w5) := G1.out.t0 g5
  clear g1 h2 g2 z2 h3 g3 z3 s3 g34 G1 H1 g5 e1
  have L1 : Hid ((sumB [97, 98, 99]).length = 32) := digTo_length _ _
  have u00 := sum_abc.1
  have u31 := sum_abc.2
  generalize sumB [97, 98, 99] = D1 at *
  go_wp2_with (first
    | (refine alloc_bytes (by rfl) 25 (by rfl) 32 (by kernel_rfl) ?_; intro w6 h6 g6 z6; replace z6 : Hid _ := z6)
    | (refine store_bytes (by rfl) 25 (.tmp 2) (.tmp 8) (by rfl) _ 32 _ (by rfl) D1 (by rfl) _ h6 (by kernel_rfl) L1.out (by rw [List.length_replicate]) ?_; intro w7 h7 g7 z7; replace z7 : Hid _ := z7))
  have n56 : p1 < w5.heap.size := lt_of_heap H5
  have H7 := g7.heap (g6.heap H5 (by simp)) (by simp; omega)
  have G7 : Hid (Chg [] w w7) := (G5.out.t0 g6).tn g7 G5.out.size
  obtain ⟨p2, e2⟩ : ∃ p, w5.heap.size = p := ⟨_, rfl⟩
  rw [e2] at h7 ⊢
  clear G5 h6 g6 z6 g7 z7 e2 n56 H5
  refine (pad_ok w7 55 (by decide)).mono ?_
  rintro e w8 ⟨v8, rfl, o8, g8⟩
  rw [pad_55.1] at o8
  obtain ⟨q1, c1, rfl, _, _, _, k8⟩ := own_some o8 (by decide)
  go_wp2_with fail
  refine (pad_ok w8 56 (by decide)).mono ?_
  rintro e w9 ⟨v9, rfl, o9, g9⟩
  rw [pad_56] at o9
  obtain ⟨q2, c2, rfl, _⟩ := own_some o9 (by decide)
  have G9 : Hid (Chg [] w w9) := (G7.out.t0 g8).t0 g9
  have H9 := g9.heap (g8.heap H7 (by simp)) (by simp)
  have h9 := g9.heap (g8.heap h7 (by simp)) (by simp)
  have c00 := bytes_cell H9 0 (by rw [L0.out]; decide)
  have c03 := bytes_cell H9 3 (by rw [L0.out]; decide)
  have d00 := bytes_cell h9 0 (by rw [L1.out]; decide)
  have d31 := bytes_cell h9 31 (by rw [L1.out]; decide)
  rw [v00] at c00; rw [v03] at c03; rw [u00] at d00; rw [u31] at d31
  have k0 := g9.cellv (k8 0 (.int .u8 128) (by kernel_rfl)) (by simp)
  have k88 := g9.cellv (k8 8 (.int .u8 184) (by kernel_rfl)) (by simp)
  clear o8 g8 k8 o9 g9 H9 h9 H7 h7 G7
  change w9.cell? _ = some (.int .u8 227) at c00
  change w9.cell? _ = some (.int .u8 66) at c03
  change w9.cell? _ = some (.int .u8 186) at d00
  change w9.cell? _ = some (.int .u8 173) at d31
  have hix : ∀ w, (Instr.index 29 (aw first8) (.int .i64 7)).run Try.prog w = .ok (.int .u32 1541459225) w := fun w => run_index_agg w _ 28 8 _ .i64 7 Try.underlying29 (by kernel_rfl) (by kernel_rfl) (by decide) _ (by rfl)
  go_wp2_with (first
    | (go_at_call 21; refine (pad_none _ (-1) (.inl (by decide))).mono ?_; rintro e w10 ⟨rfl, rfl⟩)
    | (go_at_call 19; refine (first_ok _).mono ?_; rintro e w11 ⟨rfl, g11⟩))
  go_ret
  exact ⟨rfl, G9.out.t0 g11⟩
end Go.Proofs.Ytfodlkofjmbolaa
