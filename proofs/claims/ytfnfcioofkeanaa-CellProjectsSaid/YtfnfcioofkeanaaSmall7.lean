/-
  small of chapter 07.
-/
import Derived.Test.YtfnfcioofkeanaaProj2
import Derived.Test.YtfnfcioofkeanaaCmp
import Derived.Test.YtfnfcioofkeanaaLaw16Small
import Derived.Test.YtfnfcioofkeanaaStat
namespace Go.Proofs.Ytfnfcioofkeanaa
set_option linter.unusedSimpArgs false
set_option linter.unusedVariables false
open Go.RowKit

def nC : Col := ⟨[110], 0, true⟩
def sC : Col := ⟨[115], 2, false⟩
def row1 : List Cell := [⟨true, 0, [], 0, 0⟩, ⟨false, 5, [], 0, 0⟩]
def row2 : List Cell := [⟨false, 0, [97], 0, 0⟩, ⟨false, 0, [98], 0, 0⟩]
def T7 : Tab := ⟨[nC, sC], 2, [row1, row2]⟩
theorem T7_check : checkV T7 = 0 := by decide +kernel
theorem T7_proj1 : projV T7 [1] 1 2 = (⟨[sC], 1, [[⟨false, 0, [98], 0, 0⟩]]⟩, 0) := by decide +kernel
theorem T7_proj2 : projV T7 [1, 1] 0 1 = (noT, 7) := by decide +kernel
theorem T7_proj3 : projV T7 [] 0 2 = (⟨[], 2, []⟩, 0) := by decide +kernel
theorem Sl.ofHeap {w : World} {p n : Nat} {cs : Array Value} {e : Nat} {fr : Nat × Nat} (h : w.heap[p]? = some (.cells cs e fr)) (hn : n ≤ maxLen) (hcs : n = 0 → cs = #[]) : Sl w (.slice (some ⟨p, 0, none⟩) n n) n cs.toList := by
  refine ⟨_, _, rfl, Nat.le_refl _, hn, fun h => (by cases h), fun x hx _ => (by cases hx; exact lt_of_heap h), fun h => (by have := hcs h; simpa using this), fun j u hj => ⟨_, rfl, ?_⟩⟩
  rw [Addr.add_lit, cell_of_row _ _ _ _ _ _ h]
  simpa using hj

theorem heap_old {w : World} {o o' : Obj} {k : Nat} (h : w.heap[k]? = some o') : (w.alloc o).heap[k]? = some o' := (Chg.alloc [] w o).heap h (by simp)
theorem heap_new' (w : World) (o : Obj) (n : Nat) (h : n = w.heap.size) : (w.alloc o).heap[n]? = some o := by subst h; exact heap_alloc_new w o
theorem chain8 (w : World) (o0 o1 o2 o3 o4 o5 o6 o7 : Obj) : ∃ W, W = ((((((((w.alloc o0).alloc o1).alloc o2).alloc o3).alloc o4).alloc o5).alloc o6).alloc o7) ∧ Chg [] w W ∧ W.heap[w.heap.size]? = some o0 ∧ W.heap[w.heap.size + 1]? = some o1 ∧ W.heap[w.heap.size + 1 + 1]? = some o2 ∧ W.heap[w.heap.size + 1 + 1 + 1]? = some o3 ∧ W.heap[w.heap.size + 1 + 1 + 1 + 1]? = some o4 ∧ W.heap[w.heap.size + 1 + 1 + 1 + 1 + 1]? = some o5 ∧ W.heap[w.heap.size + 1 + 1 + 1 + 1 + 1 + 1]? = some o6 ∧ W.heap[w.heap.size + 1 + 1 + 1 + 1 + 1 + 1 + 1]? = some o7 ∧ W.heap.size = w.heap.size + 1 + 1 + 1 + 1 + 1 + 1 + 1 + 1 := by
  refine ⟨_, rfl, (((((((Chg.alloc _ _ _).t0 (Chg.alloc _ _ _)).t0 (Chg.alloc _ _ _)).t0 (Chg.alloc _ _ _)).t0 (Chg.alloc _ _ _)).t0 (Chg.alloc _ _ _)).t0 (Chg.alloc _ _ _)).t0 (Chg.alloc _ _ _), ?_, ?_, ?_, ?_, ?_, ?_, ?_, ?_, ?_⟩
  all_goals first
    | (simp only [World.size_alloc']; done)
    | (repeat first
        | exact heap_new' _ _ _ (by simp only [World.size_alloc'])
        | refine heap_old ?_)
theorem small_kR1 : ∀ w', Calls Try.prog 31 #[.agg #[.bool true, .int .i64 0, .string { data := #[] }, .int .i64 0, .int .i64 0], .agg #[.string { data := #[110] }, .int .i64 0, .bool true]] w' fun e w'' => e = .returned (.bool true) ∧ Chg [] w' w'' := fun w' => cright_ok w' ⟨true, 0, [], 0, 0⟩ ⟨[110], 0, true⟩
theorem small_kR2 : ∀ w', Calls Try.prog 31 #[.agg #[.bool true, .int .i64 0, .string { data := #[] }, .int .i64 0, .int .i64 0], .agg #[.string { data := #[115] }, .int .i64 2, .bool false]] w' fun e w'' => e = .returned (.bool false) ∧ Chg [] w' w'' := fun w' => cright_ok w' ⟨true, 0, [], 0, 0⟩ ⟨[115], 2, false⟩
theorem small_kR3 : ∀ w', Calls Try.prog 31 #[.agg #[.bool false, .int .i64 0, .string { data := #[120] }, .int .i64 0, .int .i64 0], .agg #[.string { data := #[115] }, .int .i64 2, .bool false]] w' fun e w'' => e = .returned (.bool true) ∧ Chg [] w' w'' := fun w' => by
  have h := cright_ok w' ⟨false, 0, [120], 0, 0⟩ ⟨[115], 2, false⟩
  rw [show rightC ⟨false, 0, [120], 0, 0⟩ (Col.typ ⟨[115], 2, false⟩) (Col.null ⟨[115], 2, false⟩) = true from by decide +kernel] at h
  exact h
theorem small_kR4 : ∀ w', Calls Try.prog 31 #[.agg #[.bool false, .int .i64 0, .string { data := #[120] }, .int .i64 0, .int .i64 0], .agg #[.string { data := #[110] }, .int .i64 0, .bool true]] w' fun e w'' => e = .returned (.bool false) ∧ Chg [] w' w'' := fun w' => by
  have h := cright_ok w' ⟨false, 0, [120], 0, 0⟩ ⟨[110], 0, true⟩
  rw [show rightC ⟨false, 0, [120], 0, 0⟩ (Col.typ ⟨[110], 0, true⟩) (Col.null ⟨[110], 0, true⟩) = false from by decide +kernel] at h
  exact h
theorem small_kM1 : ∀ w', Calls Try.prog 32 #[.int .i64 0, .agg #[.bool true, .int .i64 0, .string { data := #[] }, .int .i64 0, .int .i64 0], .agg #[.bool false, .int .i64 (-9), .string { data := #[] }, .int .i64 0, .int .i64 0]] w' fun e w'' => e = .returned (.int .i64 (-1)) ∧ Chg [] w' w'' := fun w' => ccompare_ok w' 0 ⟨true, 0, [], 0, 0⟩ ⟨false, -9, [], 0, 0⟩ (by unfold NearC NearP; decide) (by unfold NearC NearP; decide)
theorem small_kM2 : ∀ w', Calls Try.prog 32 #[.int .i64 2, .agg #[.bool false, .int .i64 0, .string { data := #[98] }, .int .i64 0, .int .i64 0], .agg #[.bool false, .int .i64 0, .string { data := #[97] }, .int .i64 0, .int .i64 0]] w' fun e w'' => e = .returned (.int .i64 1) ∧ Chg [] w' w'' := fun w' => by
  have h := ccompare_ok w' 2 ⟨false, 0, [98], 0, 0⟩ ⟨false, 0, [97], 0, 0⟩ (by unfold NearC NearP; decide) (by unfold NearC NearP; decide)
  rw [show cmpC 2 ⟨false, 0, [98], 0, 0⟩ ⟨false, 0, [97], 0, 0⟩ = 1 from by decide +kernel] at h
  exact h
def tv (w : World) : Value := .agg #[.slice (some ⟨w.heap.size + 1 + 1, 0, none⟩) 2 2, .int .i64 2, .slice (some ⟨w.heap.size + 1 + 1 + 1 + 1 + 1, 0, none⟩) 2 2]
set_option maxHeartbeats 4000000 in
set_option maxRecDepth 20000 in
theorem small07_ok (w : World) : Calls Try.prog 22 #[] w fun e w' => e = .returned (.bool true) ∧ Chg [] w w' := by
  obtain ⟨W, hW, g0, b0, b1, b2, b3, b4, b5, b6, b7, hz⟩ := chain8 w (.cells #[.string { data := #[110] }, .int .i64 0, .bool true] 58) (.cells #[.string { data := #[115] }, .int .i64 2, .bool false] 58) (.cells #[.string { data := #[110] }, .int .i64 0, .bool true, .string { data := #[115] }, .int .i64 2, .bool false] 58) (.cells #[.bool true, .int .i64 0, .string { data := #[] }, .int .i64 0, .int .i64 0, .bool false, .int .i64 5, .string { data := #[] }, .int .i64 0, .int .i64 0] 54) (.cells #[.bool false, .int .i64 0, .string { data := #[97] }, .int .i64 0, .int .i64 0, .bool false, .int .i64 0, .string { data := #[98] }, .int .i64 0, .int .i64 0] 54) (.cells #[.slice (some ⟨w.heap.size + 1 + 1 + 1, 0, none⟩) 2 2, .slice (some ⟨w.heap.size + 1 + 1 + 1 + 1, 0, none⟩) 2 2] 50) (.cells #[.slice (some ⟨w.heap.size + 1 + 1, 0, none⟩) 2 2, .int .i64 2, .slice (some ⟨w.heap.size + 1 + 1 + 1 + 1 + 1, 0, none⟩) 2 2] 42) (.cells #[.int .i64 1] 3)
  have hc : Sl W (.slice (some ⟨w.heap.size + 1 + 1, 0, none⟩) 2 2) 2 (T7.cols.flatMap colc) := Sl.ofHeap b2 (by simp [maxLen]) (by decide)
  have hd : Sl2 W (.slice (some ⟨w.heap.size + 1 + 1 + 1 + 1 + 1, 0, none⟩) 2 2) [(.slice (some ⟨w.heap.size + 1 + 1 + 1, 0, none⟩) 2 2, row1), (.slice (some ⟨w.heap.size + 1 + 1 + 1 + 1, 0, none⟩) 2 2, row2)] := by
    refine ⟨Sl.ofHeap b5 (by simp [maxLen]) (by intro h; cases h), fun x hx => ?_⟩
    simp only [List.mem_cons, List.not_mem_nil, or_false] at hx
    rcases hx with rfl | rfl
    · exact Sl.ofHeap b3 (by simp [maxLen]) (by decide)
    · exact Sl.ofHeap b4 (by simp [maxLen]) (by decide)
  have hL : ∀ c ∈ T7.cols, c.name.length ≤ maxLen ∧ -9223372036854775808 ≤ c.typ ∧ c.typ ≤ 9223372036854775807 := by unfold maxLen; decide +kernel
  have kP := fun (W' : World) (g : Chg [] W W') (vk : Value) (cols : List Int) (lo hi : Int) (hk : Sl W' vk cols.length (ics .i64 cols)) (h1 : ∀ x ∈ cols, I64 x) (h2 : cols.length ≤ maxLen) (h3 : I64 lo) (h4 : I64 hi) =>
    project_ok W' _ _ vk T7 _ cols lo hi (hc.tr0 g) (hd.tr0 g) rfl hL (by simp [T7, maxLen]) (by simp [maxLen]) hk h1 h2 h3 h4
  have kC := fun (W' : World) (g : Chg [] W W') => check_ok W' _ _ T7 _ (hc.tr0 g) (hd.tr0 g) rfl hL (by simp [T7, maxLen]) (by simp [maxLen])
  rw [T7_check] at kC
  have k1 := kP W (Chg.refl _ _) (.slice (some ⟨w.heap.size + 1 + 1 + 1 + 1 + 1 + 1 + 1, 0, none⟩) 1 1) [1] 1 2 (Sl.ofHeap b7 (by simp [maxLen]) (by decide)) (by unfold I64; decide) (by simp [maxLen]) (by unfold I64; decide) (by unfold I64; decide)
  rw [T7_proj1] at k1
  go_enter Try.func22, Try.ntmps22
  go_wp2_with fail
  rw [← hW]
  clear hW
  refine k1.mono ?_
  rintro e W1 ⟨vc1, vd1, rfl, hc1, hd1, g1⟩
  dsimp only at *
  clear k1
  obtain ⟨D, hD, hDe⟩ := hd1
  rcases D with _ | ⟨⟨u, l⟩, _ | ⟨_, _⟩⟩
  · simp at hDe
  rotate_left
  · simp at hDe
  obtain rfl : l = [⟨false, 0, [98], 0, 0⟩] := by simpa using hDe.symm
  clear hDe
  obtain ⟨bL, offL, cL, eL, hblL, y1, y2, y3⟩ := cols_cells hc1 0 (by simp)
  obtain ⟨bD, offD, cD, eD, hblD, x1, sD⟩ := hD.cell 0 (by simp)
  obtain ⟨bC, offC, cC, eC, hblC, rC⟩ := cell_cells sD 0 (by simp)
  subst eL eD
  replace eC : u = .slice (some ⟨bC, offC, none⟩) 1 cC := eC
  subst eC
  have gA := Chg.alloc [] W1 (.cells #[.slice (some ⟨bL, offL, none⟩) 1 cL, .int .i64 1, .slice (some ⟨bD, offD, none⟩) 1 cD] 42)
  obtain ⟨r30, r31, r32⟩ := cells3'' (gA.heap (g1.heap b6 (by simp)) (by simp))
  have b8 := heap_alloc_new W1 (.cells #[.slice (some ⟨bL, offL, none⟩) 1 cL, .int .i64 1, .slice (some ⟨bD, offD, none⟩) 1 cD] 42)
  go_wp2_with fail
  have gB := Chg.alloc [] (W1.alloc (.cells #[.slice (some ⟨bL, offL, none⟩) 1 cL, .int .i64 1, .slice (some ⟨bD, offD, none⟩) 1 cD] 42)) (.cells #[.int .i64 1, .int .i64 1] 3)
  have k2 := kP _ ((g1.t0 gA).t0 gB) (.slice (some ⟨W1.heap.size + 1, 0, none⟩) 2 2) [1, 1] 0 1 (by have h := Sl.lit (W1.alloc (.cells #[.slice (some ⟨bL, offL, none⟩) 1 cL, .int .i64 1, .slice (some ⟨bD, offD, none⟩) 1 cD] 42)) #[.int .i64 1, .int .i64 1] 3 2 (by decide); rw [World.size_alloc'] at h; exact h) (by unfold I64; decide) (by simp [maxLen]) (by unfold I64; decide) (by unfold I64; decide)
  rw [T7_proj2] at k2
  refine k2.mono ?_
  rintro e W2 ⟨vc2, vd2, rfl, hc2, ⟨D2, hD2, _⟩, g2⟩
  dsimp only [noT] at hc2 ⊢
  obtain ⟨a2, c2, rfl⟩ := hc2.shape
  obtain ⟨a3, c3, rfl⟩ := hD2.1.shape
  clear k2
  replace g2 := gB.t0 g2
  have b8 := g2.heap b8 (by simp)
  have hP2 : W1.heap.size < W2.heap.size := lt_of_heap b8
  replace g2 := gA.t0 g2
  have gC := Chg.alloc [] W2 (.cells #[.slice a2 0 c2, .int .i64 0, .slice a3 D2.length c3] 42)
  obtain ⟨r30, r31, r32⟩ := cells3'' (gC.heap (g2.heap (g1.heap b6 (by simp)) (by simp)) (by simp))
  go_wp2_with fail
  have k3 := kP _ ((g1.t0 g2).t0 gC) (.slice none 0 0) [] 0 2 (Sl.nil _) (by simp) (by simp [maxLen]) (by unfold I64; decide) (by unfold I64; decide)
  rw [T7_proj3] at k3
  refine k3.mono ?_
  rintro e W3 ⟨vc3, vd3, rfl, hc3, ⟨D3, hD3, _⟩, g3⟩
  dsimp only at hc3 ⊢
  obtain ⟨a4, c4, rfl⟩ := hc3.shape
  obtain ⟨a5, c5, rfl⟩ := hD3.1.shape
  clear k3 r30 r31 r32 hc2 hD2 hc3 hD3
  have b8 := (gC.t0 g3).heap b8 (by simp)
  replace g2 := (g2.t0 gC).t0 g3
  have b9 := heap_alloc_new W3 (.cells #[.slice a4 0 c4, .int .i64 2, .slice a5 D3.length c5] 42)
  have gD := Chg.alloc [] W3 (.cells #[.slice a4 0 c4, .int .i64 2, .slice a5 D3.length c5] 42)
  have b8 := gD.heap b8 (by simp)
  have g4 := (g2.t0 gD)
  have gF := g1.t0 g4
  obtain ⟨c40, c41, c42⟩ := cells3'' b8
  obtain ⟨c80, c81, c82⟩ := cells3'' b9
  have rt1 : World.rangeAt (W3.alloc (.cells #[.slice a4 0 c4, .int .i64 2, .slice a5 D3.length c5] 42)) (w.heap.size) 0 [.string { data := #[110] }, .int .i64 0, .bool true] := ra_block (gF.heap b0 (by simp))
  have rt2 : World.rangeAt (W3.alloc (.cells #[.slice a4 0 c4, .int .i64 2, .slice a5 D3.length c5] 42)) (w.heap.size + 1) 0 [.string { data := #[115] }, .int .i64 2, .bool false] := ra_block (gF.heap b1 (by simp))
  have rt3 : World.rangeAt (W3.alloc (.cells #[.slice a4 0 c4, .int .i64 2, .slice a5 D3.length c5] 42)) (w.heap.size + 1 + 1 + 1 + 1 + 1 + 1) 0 [.slice (some ⟨w.heap.size + 1 + 1, 0, none⟩) 2 2, .int .i64 2, .slice (some ⟨w.heap.size + 1 + 1 + 1 + 1 + 1, 0, none⟩) 2 2] := ra_block (gF.heap b6 (by simp))
  have rv : World.rangeAt (W3.alloc (.cells #[.slice a4 0 c4, .int .i64 2, .slice a5 D3.length c5] 42)) bL offL [.string { data := #[115] }, .int .i64 2, .bool false] := ra3 (by simpa [sC, bstr] using g4.cellv y1 (by simp)) (by simpa [sC] using g4.cellv y2 (by simp)) (by simpa [sC] using g4.cellv y3 (by simp))
  have d1 : World.cell? (W3.alloc (.cells #[.slice a4 0 c4, .int .i64 2, .slice a5 D3.length c5] 42)) ⟨bD, offD, none⟩ = some (.slice (some ⟨bC, offC, none⟩) 1 cC) := by simpa using g4.cellv x1 (by simp)
  have d2 : World.cell? (W3.alloc (.cells #[.slice a4 0 c4, .int .i64 2, .slice a5 D3.length c5] 42)) ⟨bC, offC + 2, none⟩ = some (.string { data := #[98] }) := by
    have h := g4.cellv (rC 2 _ rfl) (by simp)
    simpa [bstr] using h
  have kC1 : ∀ w', Chg [] (W3.alloc (.cells #[.slice a4 0 c4, .int .i64 2, .slice a5 D3.length c5] 42)) w' → Calls Try.prog 24 #[.agg #[.slice (some ⟨w.heap.size + 1 + 1, 0, none⟩) 2 2, .int .i64 2, .slice (some ⟨w.heap.size + 1 + 1 + 1 + 1 + 1, 0, none⟩) 2 2]] w' fun e w'' => e = .returned (.int .i64 0) ∧ Chg [] w' w'' := fun w' g => kC w' (g1.t0 (g4.t0 g))
  have gW := g0.t0 gF
  clear kC kP hL hc hd b0 b1 b2 b3 b4 b5 b6 b7 b8 b9 hc1 hD sD y1 y2 y3 x1 rC g0 g1 g2 g3 gA gB gC gD g4 hz gF
  go_wp2_with fail
  generalize (W3.alloc (.cells #[.slice a4 0 c4, .int .i64 2, .slice a5 D3.length c5] 42)) = W4 at *
  as_aux_lemma =>
    refine region_quiet_tailC 85 (by kernel_rfl) (fast_lex (by kernel_rfl)) ?_
    simp only [List.take_succ_cons, List.take_zero, List.drop_succ_cons, List.drop_zero]
    repeat (first
      | (refine quiet_loadC rfl _ _ rfl _ _ rfl _ _ rt1 Try.underlying58 rfl (by kernel_rfl) ?_; dsimp only [Act.put]; simp only [List.setIfInBounds_toArray, List.set_cons_succ, List.set_cons_zero])
      | (refine quiet_loadC rfl _ _ rfl _ _ rfl _ _ rt2 Try.underlying58 rfl (by kernel_rfl) ?_; dsimp only [Act.put]; simp only [List.setIfInBounds_toArray, List.set_cons_succ, List.set_cons_zero])
      | (refine quiet_loadC rfl _ _ rfl _ _ rfl _ _ rv Try.underlying58 rfl (by kernel_rfl) ?_; dsimp only [Act.put]; simp only [List.setIfInBounds_toArray, List.set_cons_succ, List.set_cons_zero])
      | (refine quiet_loadC rfl _ _ rfl _ _ rfl _ _ rt3 Try.underlying42 rfl (by kernel_rfl) ?_; dsimp only [Act.put]; simp only [List.setIfInBounds_toArray, List.set_cons_succ, List.set_cons_zero])
      | (refine quiet_cellC rfl _ _ rfl _ rfl _ _ c40 Try.underlying25 rfl ?_; dsimp only [Act.put]; simp only [List.setIfInBounds_toArray, List.set_cons_succ, List.set_cons_zero])
      | (refine quiet_cellC rfl _ _ rfl _ rfl _ _ c41 Try.underlying3 rfl ?_; dsimp only [Act.put]; simp only [List.setIfInBounds_toArray, List.set_cons_succ, List.set_cons_zero])
      | (refine quiet_cellC rfl _ _ rfl _ rfl _ _ c42 Try.underlying40 rfl ?_; dsimp only [Act.put]; simp only [List.setIfInBounds_toArray, List.set_cons_succ, List.set_cons_zero])
      | (refine quiet_cellC rfl _ _ rfl _ rfl _ _ c80 Try.underlying25 rfl ?_; dsimp only [Act.put]; simp only [List.setIfInBounds_toArray, List.set_cons_succ, List.set_cons_zero])
      | (refine quiet_cellC rfl _ _ rfl _ rfl _ _ c81 Try.underlying3 rfl ?_; dsimp only [Act.put]; simp only [List.setIfInBounds_toArray, List.set_cons_succ, List.set_cons_zero])
      | (refine quiet_cellC rfl _ _ rfl _ rfl _ _ d1 Try.underlying50 rfl ?_; dsimp only [Act.put]; simp only [List.setIfInBounds_toArray, List.set_cons_succ, List.set_cons_zero])
      | (refine quiet_cellC rfl _ _ rfl _ rfl _ _ d2 Try.underlying9 rfl ?_; dsimp only [Act.put]; simp only [List.setIfInBounds_toArray, List.set_cons_succ, List.set_cons_zero])
      | quiet_step ((intro hx; first | rfl | with_reducible exact Calls.quietC hx (kC1 _ hx) | with_reducible exact Calls.quietC hx (small_kR1 _) | with_reducible exact Calls.quietC hx (small_kR2 _) | with_reducible exact Calls.quietC hx (small_kR3 _) | with_reducible exact Calls.quietC hx (small_kR4 _) | with_reducible exact Calls.quietC hx (small_kM1 _) | with_reducible exact Calls.quietC hx (small_kM2 _))))
    refine wpQuiet_nil ?_
    intro w9 gg
    clear c40 c41 c42 c80 c81 c82 rt1 rt2 rt3 rv d1 d2 kC1
    as_aux_lemma =>
      go_wp2_with fail
      refine (cols_ok _ _ [⟨[97], 4, false⟩] (by intro c hc; rw [List.mem_singleton.1 hc]; simp [maxLen]) (Sl.lit w9 #[.string { data := #[97] }, .int .i64 4, .bool false] 58 1 (by decide)) (by simp [maxLen])).mono ?_
      rintro e w10 ⟨he, g10⟩
      obtain rfl : e = .returned (.int .i64 3) := by rw [he, show colsV [⟨[97], 4, false⟩] = 3 from by decide +kernel]
      replace gg := (gg.t0 (Chg.alloc [] _ _)).t0 g10
      clear g10
      go_wp2_with fail
      refine (check_ok w10 _ _ ⟨[], -1, []⟩ [] (Sl.nil _) ⟨Sl.nil _, by simp⟩ rfl (by simp) (by simp [maxLen]) (by simp [maxLen])).mono ?_
      rintro e w11 ⟨he, g11⟩
      obtain rfl : e = .returned (.int .i64 2) := by rw [he, show checkV ⟨[], -1, []⟩ = 2 from by decide +kernel]
      go_wp2
      go_ret
      exact ⟨rfl, (gW.t0 gg).t0 g11⟩
end Go.Proofs.Ytfnfcioofkeanaa
