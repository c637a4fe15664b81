/-
  ProofSound: the statement, out of its walk.
-/
import Derived.Test.YtgepfmofignmfaaProofMore
import Derived.Test.YtgepfmofignmfaaOpenG
import Derived.Test.YtgepfmofignmfaaRows
import Derived.Test.YtgepfmofignmfaaOpen
namespace Go.Proofs.Ytgepfmofignmfaa
set_option linter.unusedSimpArgs false
set_option linter.unusedVariables false
open Go.RowKit

def dg1 (k : UInt8) : Bytes := k :: List.replicate 31 0
theorem dg1_len (k : UInt8) : (dg1 k).length = 32 := rfl
def five : List Bytes := [dg1 1, dg1 2, dg1 3, dg1 4, dg1 5]
theorem five_32 : ∀ x ∈ five, x.length = 32 := by
  intro x hx
  simp only [five, List.mem_cons, List.not_mem_nil, or_false] at hx
  rcases hx with rfl | rfl | rfl | rfl | rfl <;> rfl

/-- An operation that writes nothing, taken as a writer. -/
theorem wstep_ofSoft {P : Program} {ops : Array Oper} {Q : Exit → Act → World → Prop} {o : Oper} {a : Act} {w : World} {F Post : Value → World → Prop} (h : softStep P ops Q o a w F) (hp : ∀ v w', Chg [] w w' → F v w' → Post v w') : wStep P ops Q o a w Post := by
  unfold softStep at h
  unfold wStep
  split
  · rename_i hw
    rw [if_pos hw] at h
    exact Oper.wp_mono (fun a' w' ⟨v, e, g, f⟩ => ⟨v, e, hp v w' g f⟩) h
  · rename_i hw
    rw [if_neg hw] at h
    exact hp _ _ (Chg.refl _ _) h
/-- A block of 32 bytes, newer than some size, whatever they are. -/
def Any32 (B : Nat) (v : Value) (w : World) : Prop := ∃ r l, v = .pointer (some ⟨r, 0, none⟩) ∧ B ≤ r ∧ l.length = 32 ∧ w.heap[r]? = some (.cells (bcs l).toArray 32 (0, 0))
/-- Such a block was written. -/
def Put32 (B : Nat) (w w' : World) : Prop := ∃ r l, B ≤ r ∧ l.length = 32 ∧ Chg [r] w w' ∧ w'.heap[r]? = some (.cells (bcs l).toArray 32 (0, 0))
theorem Any32.staysR {B : Nat} : Stays (Any32 B) ∧ ∀ (m : Nat) v w w', Any32 B v w → (fun _ => Put32 B) m w w' → Any32 B v w' := by
  refine ⟨fun v w w' ⟨r, l, h1, h2, h3, h4⟩ g => ⟨r, l, h1, h2, h3, g.heap h4 (by simp)⟩, fun m v w w' ⟨r, l, h1, h2, h3, h4⟩ ⟨r2, l2, q1, q2, q3, q4⟩ => ?_⟩
  by_cases e : r = r2
  · subst e; exact ⟨r, l2, h1, h2, q2, q4⟩
  · exact ⟨r, l, h1, h2, h3, q3.heap h4 (by simpa using e)⟩
theorem soft_any32 {ops : Array Oper} {Q : Exit → Act → World → Prop} {o : Oper} {a : Act} {w : World} {B : Nat} (hw : Region.wanted o (yielded ops a.tmps) = true) (ho : o.op = .alloc 32) (hB : B ≤ w.heap.size) : softStep Try.prog ops Q o a w (Any32 B) := by
  refine soft_made hw (exec_alloc_z 32 ho (.agg (Array.replicate 32 (.int .u8 0))) (by kernel_rfl)) (Chg.alloc [] w _) ⟨_, List.replicate 32 0, rfl, hB, by simp, ?_⟩
  rw [heap_alloc_new]
  have e : (bcs (List.replicate 32 0)).toArray = Array.replicate 32 (Value.int .u8 0) := by
    apply Array.ext'
    simp [bcs]
  rw [e]; rfl
/-- A row of digests in a block that is known whole. -/
theorem Dg.ofHeap {w : World} {q n e : Nat} {L : List Bytes} (h : w.heap[q]? = some (.cells (L.flatMap bcs).toArray e (0, 0))) (h32 : ∀ x ∈ L, x.length = 32) (hn : n = L.length) (hl : L.length ≤ 1000) : Dg w (.slice (some ⟨q, 0, none⟩) n n) L := by
  subst hn
  refine ⟨?_, h32⟩
  have ho : w.ownsRow 0 e 32 (.slice (some ⟨q, 0, none⟩) L.length L.length) L.length (L.flatMap bcs) := ⟨flat32_len h32, .inr ⟨q, L.length, (L.flatMap bcs).toArray, rfl, Nat.zero_le _, h, Nat.le_refl _, by unfold maxLen; omega, by simpa using flat32_len h32, by rw [List.take_of_length_le (by rw [flat32_len h32]; simp)]⟩⟩
  exact Sl.ofOwns ho
theorem Dg.ofOwn {w : World} {base e : Nat} {v : Value} {L : List Bytes} (h : w.ownsRow base e 32 v L.length (L.flatMap bcs)) (h32 : ∀ x ∈ L, x.length = 32) : Dg w v L := ⟨Sl.ofOwns h, h32⟩
/-- A digest's row is none of the log's. -/
theorem LogAt.apartD {w : World} {p base : Nat} {v u : Value} {F : RowsB} {k : Nat} {cs : Array Value} {f : Nat × Nat} (hL : LogAt w p base v F) (h : w.heap[k]? = some (.cells cs 32 f)) : k ≠ p ∧ v.ownBlock ≠ some k := by
  refine ⟨?_, ownB_not hL.rows.1 h (by decide)⟩
  rintro rfl
  have h2 := hL.cell
  rw [h] at h2
  simp at h2
theorem own_blockD {w : World} {base e n : Nat} {v : Value} {xs : List Value} (h : w.ownsRow base e 32 v n xs) : ∀ k, vblk v = some k → ∃ cs f, w.heap[k]? = some (.cells cs e f) := fun k hk => ownB_type h k (vblk_own hk)
theorem sv5 : splitV (5 - 0) = 4 := by decide +kernel
theorem sv4 : splitV (4 - 0) = 2 := by decide +kernel
theorem sv2 : splitV (2 - 0) = 1 := by decide +kernel
theorem need_512 : needV 1 2 0 5 = 3 := by
  rw [needV_nod (by omega) (by omega), sv5, needV_bes (a := 0 + 4) (by omega)]
  simp only [Nat.zero_add]
  rw [needV_nod (by omega) (by omega), sv4, needV_bes (a := 0 + 2) (by omega)]
  simp only [Nat.zero_add]
  rw [needV_nod (by omega) (by omega), sv2, needV_inn (a := 0 + 1) (by omega) (by omega)]
  simp only [Nat.zero_add]
  rw [needV_bes (by omega)]
theorem needP_512 : needP 5 1 2 = 3 := by
  unfold needP
  rw [if_pos (by decide), if_neg (by decide)]
  show ((needV 1 2 0 5 : Nat) : Int) = 3
  rw [need_512]; rfl
theorem needP_505 : needP 5 0 5 = 0 := by
  unfold needP
  rw [if_pos (by decide), if_neg (by decide)]
  show ((needV 0 5 0 5 : Nat) : Int) = 0
  rw [needV_inn (by omega) (by omega)]; rfl
theorem needP_532 : needP 5 3 2 = -1 := by
  unfold needP
  rw [if_neg (by decide)]
theorem needP_522 : needP 5 2 2 = 1 := by
  unfold needP
  rw [if_pos (by decide), if_neg (by decide)]
  show ((needV 2 2 0 5 : Nat) : Int) = 1
  rw [needV_bes (by omega)]; rfl
theorem needP_000 : needP 0 0 0 = 0 := by
  unfold needP
  rw [if_pos (by decide), if_pos rfl]
theorem five_len : five.length = 5 := rfl
theorem prove_five : proveV five 1 2 = [dg1 1, (treeV [dg1 3, dg1 4]).1, dg1 5] := by
  unfold proveV
  rw [five_len, if_neg (by omega), overV_nod (by omega) (by omega), sv5]
  show (overV (proveA five) 1 2 (0 + 4) 5 (overV (proveA five) 1 2 0 (0 + 4) ([], [])).2).2.1 = _
  rw [overV_bes (a := 0 + 4) (by omega)]
  simp only [Nat.zero_add]
  rw [overV_nod (by omega) (by omega), sv4]
  show (overV (proveA five) 1 2 (0 + 2) 4 (overV (proveA five) 1 2 0 (0 + 2) ([], [])).2).2.1 ++ [(treeV (cutL five 4 5)).1] = _
  rw [overV_bes (a := 0 + 2) (by omega)]
  simp only [Nat.zero_add]
  rw [overV_nod (by omega) (by omega), sv2]
  show ((overV (proveA five) 1 2 (0 + 1) 2 (overV (proveA five) 1 2 0 (0 + 1) ([], [])).2).2.1 ++ [(treeV (cutL five 2 4)).1]) ++ [(treeV (cutL five 4 5)).1] = _
  rw [overV_inn (a := 0 + 1) (by omega) (by omega)]
  simp only [Nat.zero_add]
  rw [overV_bes (by omega)]
  show ([(treeV (cutL five 0 1)).1] ++ [(treeV (cutL five 2 4)).1]) ++ [(treeV (cutL five 4 5)).1] = _
  rw [show cutL five 0 1 = [dg1 1] from rfl, show cutL five 2 4 = [dg1 3, dg1 4] from rfl, show cutL five 4 5 = [dg1 5] from rfl, treeV_one, treeV_one]
  rfl
theorem prove_five2 : proveV five 2 2 = [(treeV five).1] := by
  unfold proveV
  rw [five_len, if_neg (by omega), overV_bes (by omega)]
  rfl
theorem join_five (Y : List Bytes) : ∃ Z, joinR 5 1 (cutL five 1 2) (proveV five 1 2) Y = ((treeV five).1, true, Z) := by
  unfold joinR
  rw [if_pos, if_neg (by omega)]
  · have h := (join_prove (L := five) (lo := 1) (hi := 2) (a := 0) (b := 5) (by omega) (by decide) (by decide) [] Y []).1
    rw [List.append_nil, show cutL five 0 5 = five from rfl] at h
    have h2 : (overV (proveA five) 1 2 0 5 ([], [])).2.1 = proveV five 1 2 := by unfold proveV; rw [five_len, if_neg (by omega)]
    rw [h2] at h
    refine ⟨_, Prod.ext h rfl⟩
  · refine ⟨by omega, by omega, ?_⟩
    show needP 5 1 (1 + 1) = _
    rw [show (1 : Int) + 1 = 2 from rfl, needP_512, prove_five]; rfl
theorem join_few (Y : List Bytes) : joinR 5 1 (cutL five 1 2) ((proveV five 1 2).take 2) Y = (zero32, false, Y) := by
  unfold joinR
  rw [if_neg]
  rintro ⟨_, _, h⟩
  have h : needP 5 1 2 = _ := h
  rw [needP_512, prove_five] at h
  simp at h
theorem join_none (Y : List Bytes) : ∃ Z, joinR 5 2 [] (proveV five 2 2) Y = ((treeV five).1, true, Z) := by
  unfold joinR
  rw [if_pos, if_neg (by omega)]
  · refine ⟨_, Prod.ext ?_ rfl⟩
    have hh : (overV (joinA [] 2) 2 2 0 5 (proveV five 2 2, Y)).1 = (treeV five).1 := by
      rw [overV_bes (by omega), prove_five2]
      rfl
    exact hh
  · refine ⟨by omega, by omega, ?_⟩
    show needP 5 2 2 = _
    rw [needP_522, prove_five2]; rfl
theorem join_zero (Y : List Bytes) : ∃ Z, joinR 0 0 [] [] Y = ((treeV []).1, true, Z) := by
  unfold joinR
  rw [if_pos, if_pos rfl]
  · exact ⟨_, rfl⟩
  · exact ⟨by omega, by omega, needP_000⟩
set_option maxHeartbeats 8000000 in
set_option maxRecDepth 100000 in
theorem small22_ok (w : World) : Calls Try.prog 29 #[] w fun e w' => e = .returned (.bool true) ∧ Chg [] w w' := by
  go_enter Try.func29, Try.ntmps29
  go_wp2_with fail
  refine (lognew_ok w w.heap.size).mono ?_
  rintro e w1 ⟨rfl, l1, g1⟩
  have z1 : w.heap.size < w1.heap.size := l1.lt
  have c1 : Chg [] w w1 := g1
  clear g1
  generalize hp : w.heap.size = p at *
  replace hp := Lib.hid hp
  go_wp2_with (refine wpList_build_digs (by rfl) 23 32 5 _ (by rfl) five rfl five_32 (by decide) (by decide) (by rw [Array.toList_map]; rfl) Try.underlying23 (by kernel_rfl) (by kernel_rfl) ?_)
  have hb2 := heap_alloc_new w1 (.cells (five.flatMap bcs).toArray 32)
  have g2 := Chg.alloc [] w1 (.cells (five.flatMap bcs).toArray 32)
  have l2 := l1.tr0 g2
  have c2 := c1.t0 g2
  generalize hq : w1.heap.size = q at *
  generalize w1.alloc (.cells (five.flatMap bcs).toArray 32) = w2 at *
  clear l1 c1 g2 hq
  have d2 := Dg.ofHeap hb2 five_32 (n := 5) rfl (by decide)
  refine (prove_ok w2 p _ [] l2 _ five d2 (by decide) (by decide) (fun k hk => by
    obtain ⟨_, hk2⟩ := vblk_slice.1 hk
    simp at hk2
    subst hk2
    exact l2.apartD (u := .bool true) hb2) 1 2 (by decide) (by decide)).mono ?_
  rintro e w3 ⟨vP, rfl, o3, v3, F3, l3, hF3, g3, _⟩
  have c3 := l2.chg c2 (by have := hp.out; omega) (by have := hp.out; omega) g3
  have b3 := heap_type hb2 g3 (l2.types (by decide) (by decide))
  have hF3l : F3.length ≤ 1000 := by
    have h := congrArg List.length hF3
    have h2 := proveL_len five 1 2 []
    simp only [List.length_map, List.map_nil] at h
    have h3 : five.length = 5 := rfl
    simp at h2
    omega
  have hP3 : (proveV five 1 2).length = 3 := by rw [prove_five]; rfl
  have hP32 := proveV_32 five_32 1 2
  have hPe := prove_five
  have hJ1 := join_five (F3.map (·.2))
  have hJ2 := fun Y => join_few Y
  rw [hP3] at o3
  generalize proveV five 1 2 = P at *
  obtain ⟨aP, cP, rfl⟩ := own_shape o3
  have d3 := Dg.ofHeap b3 five_32 (n := 5) rfl (by decide)
  have hpart : ∀ wx, Dg wx (.slice (some ⟨q, 0, none⟩) 5 5) five → Dg wx (.slice (some ⟨q, 32, none⟩) 1 4) (cutL five 1 2) := fun wx hd => by
    have h1 := Dg.take (L := five) (b := q) (off := 0) (c := 5) hd (k := 2) (by decide)
    have h2 := Dg.drop (L := five.take 2) (b := q) (off := 0) (c := 5) h1 (k := 1) (by decide) (by decide)
    exact h2
  have hlq : ∀ wx v F, LogAt wx p p v F → wx.heap[q]? = some (.cells (five.flatMap bcs).toArray 32 (0, 0)) → ∀ bo xs n c, wx.ownsRow bo 32 32 (.slice aP n c) n xs → ∀ n2, ∀ k, (vblk (.slice (some ⟨q, 32, none⟩) 1 4) = some k ∨ vblk (.slice aP n2 c) = some k) → k ≠ p ∧ v.ownBlock ≠ some k := fun wx v F hl hb bo xs n c ho n2 k hk => by
    rcases hk with hk | hk
    · obtain ⟨_, hk2⟩ := vblk_slice.1 hk
      simp at hk2
      subst hk2
      exact hl.apartD (u := .bool true) hb
    · obtain ⟨cs, f, e⟩ := own_blockD ho k (vblk_take _ hk)
      exact hl.apartD (u := .bool true) e
  have kJ := join_ok w3 p v3 F3 l3 5 (by decide) 1 ⟨by decide, by decide⟩ _ (cutL five 1 2) (hpart w3 d3) (by decide) _ P (Dg.ofOwn (by rw [hP3]; exact o3) hP32) (by omega) (hlq w3 v3 F3 l3 b3 _ _ _ _ o3 3)
  obtain ⟨Z, hZ⟩ := hJ1
  have hJl := joinR_len 5 1 (cutL five 1 2) P (F3.map (·.2))
  rw [show ((5 : Nat) : Int) = 5 from rfl] at kJ
  rw [hZ] at kJ hJl
  have hT32 := treeV_len five_32
  dsimp only at kJ hJl
  rw [List.length_map] at hJl
  replace hlq := Lib.hid hlq
  replace hPe := Lib.hid hPe
  replace hJ2 := Lib.hid hJ2
  replace hpart := Lib.hid hpart
  replace hP32 := Lib.hid hP32
  clear hZ
  go_wp2_with fail
  refine kJ.mono ?_
  clear kJ d3 d2 hb2 g3
  rintro e w4 ⟨rfl, v4, F4, l4, hF4, g4, _, _⟩
  have c4 := l3.chg c3 (by have := hp.out; omega) (by have := hp.out; omega) g4
  have b4 := heap_type b3 g4 (l3.types (by decide) (by decide))
  have o4 := own_types o3 g4 (l3.types (by decide) (by decide))
  have hF4l : F4.length ≤ 2000 := by
    have h := congrArg List.length hF4
    simp only [List.length_map] at h
    omega
  clear l3 c3 b3 o3 hF3 hF4 hJl g4 l2
  obtain ⟨T1, hT1⟩ : ∃ T1, T1 = (treeV five).1 := ⟨_, rfl⟩
  rw [← hT1] at hT32 ⊢
  replace hT1 := Lib.hid hT1
  go_wp2_with (first
    | (refine alloc_bytes (by rfl) 32 (by rfl) 32 (by kernel_rfl) ?_; intro w5 h5 g5 z5; replace z5 : Hid _ := z5)
    | (refine store_bytes (by rfl) 32 (.tmp 4) (.tmp 30) (by rfl) _ 32 _ (by rfl) T1 (by rfl) _ h5 (by kernel_rfl) hT32 (by rw [List.length_replicate]) ?_; intro w6 h6 g6 z6; replace z6 : Hid _ := z6))
  have g46 : Chg [] w4 w6 := g5.tn g6 (Nat.le_refl _)
  have l6 := l4.tr0 g46
  have c6 := c4.t0 g46
  have b6 := g46.heap b4 (by simp)
  have o6 := own_tr o4 g46 (by simp)
  have hr4p : p < w4.heap.size := l4.lt
  have hr4q : q < w4.heap.size := lt_of_heap b4
  generalize hr4 : w4.heap.size = r4 at *
  clear h5 g5 g6 z5 z6 g46 l4 c4 b4 o4 hr4
  -- too few digests
  have kBad : ∀ wx, Chg [] w6 wx → Calls Try.prog 33 #[.pointer (some ⟨p, 0, none⟩), .int .i64 5, .int .i64 1, .slice (some ⟨q, 32, none⟩) 1 4, .slice aP 2 cP] wx fun e w' => e = .returned (.tuple #[.agg (bcs zero32).toArray, .bool false]) ∧ Chg [] wx w' := fun wx g => by
    have b7 := g.heap b6 (by simp)
    have o7 := own_tr o6 g (by simp)
    have hdP : Dg wx (.slice aP 2 cP) (P.take 2) := by
      have h1 := Dg.ofOwn (L := P) (by rw [hP3]; exact o7) hP32.out
      obtain ⟨b, off, c, e, _⟩ := h1.at (by omega)
      rw [hP3] at e
      cases e
      have h2 := Dg.take (L := P) (b := b) (off := off) (c := cP) (by rw [hP3]; exact h1) (k := 2) (by omega)
      exact h2
    have k := join_ok wx p v4 F4 (l6.tr0 g) 5 (by decide) 1 ⟨by decide, by decide⟩ _ (cutL five 1 2) (hpart.out wx (Dg.ofHeap b7 five_32 rfl (by decide))) (by decide) _ (P.take 2) hdP (by omega) (hlq.out wx v4 F4 (l6.tr0 g) b7 _ _ _ _ o7 2)
    rw [hJ2.out] at k
    exact k.mono fun e w' ⟨he, _, _, _, _, _, _, hc⟩ => ⟨he, hc rfl⟩
  have hcP : 3 ≤ cP := by
    obtain ⟨_, _, c', e, h1, _⟩ := (Dg.ofOwn (L := P) (by rw [hP3]; exact o6) hP32.out).at (by omega)
    rw [hP3] at e h1
    cases e
    omega
  go_wp2_with fail
  refine' region_softR (fun _ => Put32 w6.heap.size) (fun _ wx => Chg [] w6 wx) 14 [cst (.pointer (some ⟨p, 0, none⟩)), cst (.slice (some ⟨q, 0, none⟩) 5 5), cst (.slice (some ⟨q, 32, none⟩) 1 4), cst (.slice aP 3 cP), cst (.slice aP 3 cP), cst (.int .i64 3), cst (.int .i64 2), cst (.slice aP 2 cP), cst (.tuple #[.agg (bcs zero32).toArray, .bool false]), cst (.tuple #[.agg (bcs zero32).toArray, .bool false]), cst (.agg (bcs zero32).toArray), cst (.bool false), Any32 w6.heap.size, cst undef] [false, false, false, false, false, false, false, false, false, false, false, false, false, true] [99, 99, 99, 99, 99, 99, 99, 99, 99, 99, 99, 99, 99, 99] rfl rfl rfl (by kernel_rfl) (by kernel_rfl) (by kernel_rfl) (by kernel_rfl) (by intro j w w' h g; exact h.t0 g) (Chg.refl _ _) ⟨staysR_cst _ _, ⟨staysR_cst _ _, ⟨staysR_cst _ _, ⟨staysR_cst _ _, ⟨staysR_cst _ _, ⟨staysR_cst _ _, ⟨staysR_cst _ _, ⟨staysR_cst _ _, ⟨staysR_cst _ _, ⟨staysR_cst _ _, ⟨staysR_cst _ _, ⟨staysR_cst _ _, ⟨Any32.staysR, ⟨staysR_cstW _ _ _, trivial⟩⟩⟩⟩⟩⟩⟩⟩⟩⟩⟩⟩⟩⟩ _ (fun V => by simp only [putAll, Act.put, List.take_succ_cons, List.take_zero, List.setIfInBounds_toArray, List.set_cons_zero, List.set_cons_succ, Nat.reduceAdd]; exact rfl) ?hs1 ?ht1
  case hs1 =>
    simp only [List.take_succ_cons, List.take_zero, softsR]
    refine ⟨?_, ?_, ?_, ?_, ?_, ?_, ?_, ?_, ?_, ?_, ?_, ?_, ?_, ?_, trivial⟩
    · intro V wx hi hd
      simp [phi, Region.binds, cst] at hd
      try simp only [hd]
      first
        | (refine soft_const rfl ?_; go_simp; done)
        | (refine soft_const rfl ?_; go_simp; exact rfl)
        | (exact soft_skip rfl)
    · intro V wx hi hd
      simp [phi, Region.binds, cst] at hd
      try simp only [hd]
      first
        | (refine soft_const rfl ?_; go_simp; done)
        | (refine soft_const rfl ?_; go_simp; exact rfl)
        | (exact soft_skip rfl)
    · intro V wx hi hd
      simp [phi, Region.binds, cst] at hd
      try simp only [hd]
      first
        | (refine soft_const rfl ?_; go_simp; done)
        | (refine soft_const rfl ?_; go_simp; exact rfl)
        | (exact soft_skip rfl)
    · intro V wx hi hd
      simp [phi, Region.binds, cst] at hd
      try simp only [hd]
      first
        | (refine soft_const rfl ?_; go_simp; done)
        | (refine soft_const rfl ?_; go_simp; exact rfl)
        | (exact soft_skip rfl)
    · intro V wx hi hd
      simp [phi, Region.binds, cst] at hd
      try simp only [hd]
      first
        | (refine soft_const rfl ?_; go_simp; done)
        | (refine soft_const rfl ?_; go_simp; exact rfl)
        | (exact soft_skip rfl)
    · intro V wx hi hd
      simp [phi, Region.binds, cst] at hd
      try simp only [hd]
      first
        | (refine soft_const rfl ?_; go_simp; done)
        | (refine soft_const rfl ?_; go_simp; exact rfl)
        | (exact soft_skip rfl)
    · intro V wx hi hd
      simp [phi, Region.binds, cst] at hd
      try simp only [hd]
      first
        | (refine soft_const rfl ?_; go_simp; done)
        | (refine soft_const rfl ?_; go_simp; exact rfl)
        | (exact soft_skip rfl)
    · intro V wx hi hd
      simp [phi, Region.binds, cst] at hd
      try simp only [hd]
      refine soft_const rfl ?_
      go_simp
      intro hx
      omega
    · intro V wx hi hd
      simp [phi, Region.binds, cst] at hd
      try simp only [hd]
      refine soft_callC rfl _ _ (by go_simp; try exact ⟨rfl, rfl⟩) (kBad wx (by obtain ⟨j, _, hi⟩ := hi; exact hi))
    · intro V wx hi hd
      simp [phi, Region.binds, cst] at hd
      try simp only [hd]
      first
        | (refine soft_const rfl ?_; go_simp; done)
        | (refine soft_const rfl ?_; go_simp; exact rfl)
        | (exact soft_skip rfl)
    · intro V wx hi hd
      simp [phi, Region.binds, cst] at hd
      try simp only [hd]
      first
        | (refine soft_const rfl ?_; go_simp; done)
        | (refine soft_const rfl ?_; go_simp; exact rfl)
        | (exact soft_skip rfl)
    · intro V wx hi hd
      simp [phi, Region.binds, cst] at hd
      try simp only [hd]
      first
        | (refine soft_const rfl ?_; go_simp; done)
        | (refine soft_const rfl ?_; go_simp; exact rfl)
        | (exact soft_skip rfl)
    · intro V wx hi hd
      simp [phi, Region.binds, cst] at hd
      try simp only [hd]
      obtain ⟨j, _, hi⟩ := hi
      exact soft_any32 rfl rfl hi.size
    · intro V wx hi hd
      simp [phi, Region.binds, cst] at hd
      try simp only [hd]
      have hdA : Any32 w6.heap.size (V 12) wx := by first | exact hd.1 | exact hd.2.1 | exact hd.2
      obtain ⟨r, l, e12, hr, hl, h7⟩ := hdA
      have hV10 : V 10 = .agg (bcs zero32).toArray := by first | exact hd.2.1 | exact hd.2.2.1 | exact hd.1
      simp only [e12]
      refine wstep_list rfl (store_bytes (by rfl) 32 _ _ (by rfl) r 32 _ (by rfl) zero32 (by rfl) l h7 (by kernel_rfl) zero32_len hl ?_)
      intro w8 h8 g8 z8
      exact ⟨undef, rfl, ⟨r, zero32, hr, zero32_len, g8, h8⟩, hi.tn g8 hr, rfl⟩
  intro V w7 hi hk
  have j11 := hk 11 (by decide)
  simp [phi, cst] at j11
  simp only [j11, List.drop_succ_cons, List.drop_zero]
  have hi7 : Chg [] w6 w7 := hi
  have l7 := l6.tr0 hi7
  have c7 := c6.t0 hi7
  have b7 := hi7.heap b6 (by simp)
  have o7 := own_tr o6 hi7 (by simp)
  have h7 := hi7.heap h6 (by simp)
  clear hk j11 hi hi7 l6 c6 b6 o6 h6 kBad
  -- a proof of none
  have hP2e := prove_five2
  have hP2 : (proveV five 2 2).length = 1 := by rw [hP2e]; rfl
  have hP232 := proveV_32 five_32 2 2
  have hJ3 := join_none
  have kP := prove_ok w7 p v4 F4 l7 _ five (Dg.ofHeap b7 five_32 (n := 5) rfl (by decide)) (by decide) (by omega) (fun k hk => by
    obtain ⟨_, hk2⟩ := vblk_slice.1 hk
    simp at hk2
    subst hk2
    exact l7.apartD (u := .bool true) b7) 2 2 (by decide) (by decide)
  rw [show ((2 : Nat) : Int) = 2 from rfl] at kP
  generalize proveV five 2 2 = P2 at *
  replace hP2e := Lib.hid hP2e
  replace hP232 := Lib.hid hP232
  replace hJ3 := Lib.hid hJ3
  go_wp2_with fail
  refine kP.mono ?_
  clear kP
  rintro e w8 ⟨v8, rfl, o8, v9, F8, l8, hF8, g8, sn8⟩
  rw [hP2] at o8
  have c8 := l7.chg c7 (by have := hp.out; omega) (by have := hp.out; omega) g8
  have b8 := heap_type b7 g8 (l7.types (by decide) (by decide))
  have p8 := own_types o7 g8 (l7.types (by decide) (by decide))
  have h8 := heap_type h7 g8 (l7.types (by decide) (by decide))
  have hF8l : F8.length ≤ 3000 := by
    have h := congrArg List.length hF8
    have h2 := proveL_len five 2 2 (F4.map (·.2))
    rw [List.length_map] at h2
    rw [List.length_map] at h
    have h3 : five.length = 5 := rfl
    omega
  have kJ := join_ok w8 p v9 F8 l8 5 (by decide) 2 ⟨by decide, by decide⟩ (.slice none 0 0) [] (Dg.nil _) (by decide) v8 P2 (Dg.ofOwn (by rw [hP2]; exact o8) hP232.out) (by omega) (fun k hk => by
    rcases hk with hk | hk
    · simp [vblk] at hk
    · obtain ⟨cs, f, e⟩ := own_blockD o8 k hk
      exact l8.apartD (u := .bool true) e)
  obtain ⟨Z2, hZ2⟩ := hJ3.out (F8.map (·.2))
  have hJl := joinR_len 5 2 [] P2 (F8.map (·.2))
  rw [hZ2] at kJ hJl
  rw [← hT1.out, show ((5 : Nat) : Int) = 5 from rfl] at kJ
  dsimp only at kJ hJl
  rw [List.length_map] at hJl
  obtain ⟨a8, q8, rfl⟩ := own_shape o8
  clear hZ2 hJ3 l7 c7 b7 o7 h7 hF8 g8 sn8
  go_wp2_with fail
  refine kJ.mono ?_
  clear kJ
  rintro e w9 ⟨rfl, v10, F9, l9, hF9, g9, _, _⟩
  have c9 := l8.chg c8 (by have := hp.out; omega) (by have := hp.out; omega) g9
  have b9 := heap_type b8 g9 (l8.types (by decide) (by decide))
  have p9 := own_types p8 g9 (l8.types (by decide) (by decide))
  have h9 := heap_type h8 g9 (l8.types (by decide) (by decide))
  have hF9l : F9.length ≤ 4000 := by
    have h := congrArg List.length hF9
    rw [List.length_map] at h
    omega
  clear l8 c8 b8 p8 h8 hF9 g9 hJl o8
  go_wp2_with (first
    | (refine alloc_bytes (by rfl) 32 (by rfl) 32 (by kernel_rfl) ?_; intro w10 h10 g10 z10; replace z10 : Hid _ := z10)
    | (refine store_bytes (by rfl) 32 (.tmp 8) (.tmp 50) (by rfl) _ 32 _ (by rfl) T1 (by rfl) _ h10 (by kernel_rfl) hT32 (by rw [List.length_replicate]) ?_; intro w11 h11 g11 z11; replace z11 : Hid _ := z11))
  have g911 : Chg [] w9 w11 := g10.tn g11 (Nat.le_refl _)
  have l11 := l9.tr0 g911
  have c11 := c9.t0 g911
  have b11 := g911.heap b9 (by simp)
  have p11 := own_tr p9 g911 (by simp)
  have e11 := g911.heap h9 (by simp)
  have hr8p : p < w9.heap.size := l9.lt
  have hr8q : q < w9.heap.size := lt_of_heap b9
  have hr84 : r4 < w9.heap.size := lt_of_heap h9
  generalize hr8 : w9.heap.size = r8 at *
  clear h10 g10 g11 z10 z11 g911 l9 c9 b9 p9 h9 hr8
  -- of none
  have kJ := join_ok w11 p v10 F9 l11 0 (by decide) 0 ⟨by decide, by decide⟩ (.slice none 0 0) [] (Dg.nil _) (by decide) (.slice none 0 0) [] (Dg.nil _) (by omega) (fun k hk => by
    rcases hk with hk | hk <;> simp [vblk] at hk)
  obtain ⟨Z3, hZ3⟩ := join_zero (F9.map (·.2))
  have hJl := joinR_len 0 0 [] [] (F9.map (·.2))
  rw [hZ3] at kJ hJl
  obtain ⟨T0, hT0⟩ : ∃ T0, T0 = (treeV []).1 := ⟨_, rfl⟩
  have hT032 : T0.length = 32 := by rw [hT0]; exact treeV_len (by simp)
  rw [← hT0, show ((0 : Nat) : Int) = 0 from rfl] at kJ
  replace hT0 := Lib.hid hT0
  dsimp only at kJ hJl
  rw [List.length_map] at hJl
  refine kJ.mono ?_
  clear kJ hZ3
  rintro e w12 ⟨rfl, v12, F12, l12, hF12, g12, _, _⟩
  have c12 := l11.chg c11 (by have := hp.out; omega) (by have := hp.out; omega) g12
  have b12 := heap_type b11 g12 (l11.types (by decide) (by decide))
  have p12 := own_types p11 g12 (l11.types (by decide) (by decide))
  have e12 := heap_type e11 g12 (l11.types (by decide) (by decide))
  have i12 := heap_type h11 g12 (l11.types (by decide) (by decide))
  have hF12l : F12.length ≤ 5000 := by
    have h := congrArg List.length hF12
    rw [List.length_map] at h
    omega
  clear l11 c11 b11 p11 e11 h11 hF12 g12 hJl
  go_wp2_with (first
    | (refine alloc_bytes (by rfl) 32 (by rfl) 32 (by kernel_rfl) ?_; intro w13 h13 g13 z13; replace z13 : Hid _ := z13)
    | (refine store_bytes (by rfl) 32 (.tmp 10) (.tmp 55) (by rfl) _ 32 _ (by rfl) T0 (by rfl) _ h13 (by kernel_rfl) hT032 (by rw [List.length_replicate]) ?_; intro w14 h14 g14 z14; replace z14 : Hid _ := z14))
  have g1214 : Chg [] w12 w14 := g13.tn g14 (Nat.le_refl _)
  have l14 := l12.tr0 g1214
  have c14 := c12.t0 g1214
  have b14 := g1214.heap b12 (by simp)
  have p14 := own_tr p12 g1214 (by simp)
  have e14 := g1214.heap e12 (by simp)
  have i14 := g1214.heap i12 (by simp)
  generalize hr10 : w12.heap.size = r10 at *
  clear h13 g13 g14 z13 z14 g1214 l12 c12 b12 p12 e12 i12 hr10
  have hPe2 := hPe.out
  obtain ⟨gP, offP, cP', eP, _⟩ := (Dg.ofOwn (L := P) (by rw [hP3]; exact p14) hP32.out).at (by omega)
  rw [hP3] at eP
  have hPsh : aP = some ⟨gP, 0, none⟩ := by
    obtain ⟨_, ⟨e, _⟩ | ⟨g, cap, cur, e, _⟩⟩ := p14
    · rw [eP] at e; cases e
    · cases e
      cases eP
      rfl
  subst hPsh
  clear eP
  have hfP : ∀ wx : World, wx.ownsRow w2.heap.size 32 32 (.slice (some ⟨gP, 0, none⟩) 3 cP) 3 (P.flatMap bcs) → wx.rangeAt gP 0 (bcs (dg1 1)) ∧ wx.rangeAt gP 64 (bcs (dg1 5)) := fun wx ho => by
    have hd := Dg.ofOwn (L := P) (by rw [hP3]; exact ho) hP32.out
    obtain ⟨b, off, c, e, _, _, _, hr⟩ := hd.at (by omega)
    rw [hP3] at e
    cases e
    have h0 := hr 0 (by omega)
    have h2 := hr 2 (by omega)
    subst hPe2
    exact ⟨by simpa using h0, by simpa using h2⟩
  have hfL : ∀ wx : World, wx.heap[q]? = some (.cells (five.flatMap bcs).toArray 32 (0, 0)) → wx.rangeAt q 0 (bcs (dg1 1)) ∧ wx.rangeAt q 128 (bcs (dg1 5)) := fun wx ho => by
    have hd := Dg.ofHeap ho five_32 (n := 5) rfl (by decide)
    obtain ⟨b, off, c, e, _, _, _, hr⟩ := hd.at (by decide)
    cases e
    have h0 := hr 0 (by decide)
    have h4 := hr 4 (by decide)
    exact ⟨by simpa [five] using h0, by simpa [five] using h4⟩
  have hT1l : (treeV five).2.length ≤ 10 := by rw [treeV_count]; decide
  have hT0l : (treeV []).2.length ≤ 10 := by rw [treeV_count]; decide
  have kN5 : ∀ wx (a b m : Int), needP 5 a b = m → Calls Try.prog 30 #[.int .i64 5, .int .i64 a, .int .i64 b] wx fun e w' => e = .returned (.int .i64 m) ∧ Chg [] wx w' := fun wx a b m h => by
    rw [← h]
    exact need_ok wx 5 a b
  have EQ := fun (d : Bytes) (h : d.length = 32) w => eql_dv (P := Try.prog) w 32 5 32 Try.underlying32 Try.underlying5 (fun w => by go_simp) d d h h
  have GQ := fun (d : Bytes) w x y => eqg_dv (P := Try.prog) w .eql 32 x y d d (by kernel_rfl)
  have L1 := dg1_len 1
  have L5 := dg1_len 5
  have EA := EQ _ L1
  have EB := EQ _ L5
  have EC := EQ T1 hT32
  have ED := EQ T0 hT032
  have GA := GQ (dg1 1)
  have GB := GQ (dg1 5)
  have GC := GQ T1
  have GD := GQ T0
  unfold dv at EA EB EC ED GA GB GC GD
  simp only [beq_self_eq_true] at EA EB EC ED
  replace hfP := Lib.hid hfP
  replace hfL := Lib.hid hfL
  replace kN5 := Lib.hid kN5
  replace L1 := Lib.hid L1
  replace L5 := Lib.hid L5
  clear EQ GQ hPe2 hPe
  generalize dg1 1 = D1 at *
  generalize dg1 5 = D5 at *
  simp only [List.append_eq, List.cons_append, List.nil_append]
  refine' region_softR (fun _ _ _ => True) (fun m wx => ∃ v' F', LogAt wx p p v' F' ∧ F'.length ≤ 6000 + m * 100 ∧ Chg [] w wx ∧ wx.heap[q]? = some (.cells (five.flatMap bcs).toArray 32 (0, 0)) ∧ wx.ownsRow w2.heap.size 32 32 (.slice (some ⟨gP, 0, none⟩) 3 cP) 3 (P.flatMap bcs) ∧ wx.heap[r4]? = some (.cells (bcs T1).toArray 32 (0, 0)) ∧ wx.heap[r8]? = some (.cells (bcs T1).toArray 32 (0, 0)) ∧ wx.heap[r10]? = some (.cells (bcs T0).toArray 32 (0, 0))) 68 [cst (.slice (some ⟨gP, 0, none⟩) 3 cP), cst (.int .i64 3), cst (.bool true), cst (.bool true), cst (.slice (some ⟨gP, 0, none⟩) 3 cP), cst (.pointer (some ⟨gP, 0, none⟩)), cst (.agg (bcs D1).toArray), cst (.slice (some ⟨q, 0, none⟩) 5 5), cst (.pointer (some ⟨q, 0, none⟩)), cst (.agg (bcs D1).toArray), cst (.bool true), cst (.bool true), cst (.bool true), cst (.slice (some ⟨gP, 0, none⟩) 3 cP), cst (.pointer (some ⟨gP, 64, none⟩)), cst (.agg (bcs D5).toArray), cst (.slice (some ⟨q, 0, none⟩) 5 5), cst (.pointer (some ⟨q, 128, none⟩)), cst (.agg (bcs D5).toArray), cst (.bool true), cst (.bool true), cst (.bool true), cst (.bool true), cst (.bool true), cst (.bool true), cst (.agg (bcs T1).toArray), cst (.pointer (some ⟨p, 0, none⟩)), cst (.slice (some ⟨q, 0, none⟩) 5 5), cst (.agg (bcs T1).toArray), cst (.bool true), cst (.bool true), cst (.bool true), cst (.bool false), cst (.bool true), cst (.bool true), cst (.bool true), cst (.bool true), cst (.bool true), cst (.bool true), cst (.agg (bcs T1).toArray), cst (.agg (bcs T1).toArray), cst (.bool true), cst (.bool true), cst (.bool true), cst (.bool true), cst (.bool true), cst (.bool true), cst (.agg (bcs T0).toArray), cst (.pointer (some ⟨p, 0, none⟩)), cst (.agg (bcs T0).toArray), cst (.bool true), cst (.bool true), cst (.bool true), cst (.int .i64 3), cst (.bool true), cst (.bool true), cst (.bool true), cst (.int .i64 0), cst (.bool true), cst (.bool true), cst (.bool true), cst (.int .i64 (-1)), cst (.bool true), cst (.bool true), cst (.bool true), cst (.int .i64 1), cst (.bool true), cst (.bool true)] [false, false, false, false, false, false, false, false, false, false, false, false, false, false, false, false, false, false, false, false, false, false, false, false, false, false, false, false, true, true, true, true, false, false, true, true, false, true, true, false, false, false, true, true, false, true, true, false, false, true, false, false, false, false, false, false, false, false, false, false, false, false, false, false, false, false, false, false] [99, 99, 99, 99, 99, 99, 99, 99, 99, 99, 99, 99, 99, 99, 99, 99, 99, 99, 99, 99, 99, 99, 99, 99, 99, 99, 99, 99, 99, 99, 99, 99, 99, 99, 99, 99, 99, 99, 99, 99, 99, 99, 99, 99, 99, 99, 99, 99, 99, 99, 99, 99, 99, 99, 99, 99, 99, 99, 99, 99, 99, 99, 99, 99, 99, 99, 99, 99] rfl rfl rfl (by kernel_rfl) (by kernel_rfl) (by kernel_rfl) (by kernel_rfl) (by intro j w w' ⟨v', F', i1, i2, i3, i4, i5, i6, i7, i8⟩ g; exact ⟨v', F', i1.tr0 g, i2, i3.t0 g, g.heap i4 (by simp), own_tr i5 g (by simp), g.heap i6 (by simp), g.heap i7 (by simp), g.heap i8 (by simp)⟩) (⟨v12, F12, l14, by simp; omega, c14, b14, p14, e14, i14, h14⟩) ⟨staysR_cst _ _, ⟨staysR_cst _ _, ⟨staysR_cst _ _, ⟨staysR_cst _ _, ⟨staysR_cst _ _, ⟨staysR_cst _ _, ⟨staysR_cst _ _, ⟨staysR_cst _ _, ⟨staysR_cst _ _, ⟨staysR_cst _ _, ⟨staysR_cst _ _, ⟨staysR_cst _ _, ⟨staysR_cst _ _, ⟨staysR_cst _ _, ⟨staysR_cst _ _, ⟨staysR_cst _ _, ⟨staysR_cst _ _, ⟨staysR_cst _ _, ⟨staysR_cst _ _, ⟨staysR_cst _ _, ⟨staysR_cst _ _, ⟨staysR_cst _ _, ⟨staysR_cst _ _, ⟨staysR_cst _ _, ⟨staysR_cst _ _, ⟨staysR_cst _ _, ⟨staysR_cst _ _, ⟨staysR_cst _ _, ⟨staysR_cstW _ _ _, ⟨staysR_cstW _ _ _, ⟨staysR_cstW _ _ _, ⟨staysR_cstW _ _ _, ⟨staysR_cst _ _, ⟨staysR_cst _ _, ⟨staysR_cstW _ _ _, ⟨staysR_cstW _ _ _, ⟨staysR_cst _ _, ⟨staysR_cstW _ _ _, ⟨staysR_cstW _ _ _, ⟨staysR_cst _ _, ⟨staysR_cst _ _, ⟨staysR_cst _ _, ⟨staysR_cstW _ _ _, ⟨staysR_cstW _ _ _, ⟨staysR_cst _ _, ⟨staysR_cstW _ _ _, ⟨staysR_cstW _ _ _, ⟨staysR_cst _ _, ⟨staysR_cst _ _, ⟨staysR_cstW _ _ _, ⟨staysR_cst _ _, ⟨staysR_cst _ _, ⟨staysR_cst _ _, ⟨staysR_cst _ _, ⟨staysR_cst _ _, ⟨staysR_cst _ _, ⟨staysR_cst _ _, ⟨staysR_cst _ _, ⟨staysR_cst _ _, ⟨staysR_cst _ _, ⟨staysR_cst _ _, ⟨staysR_cst _ _, ⟨staysR_cst _ _, ⟨staysR_cst _ _, ⟨staysR_cst _ _, ⟨staysR_cst _ _, ⟨staysR_cst _ _, ⟨staysR_cst _ _, trivial⟩⟩⟩⟩⟩⟩⟩⟩⟩⟩⟩⟩⟩⟩⟩⟩⟩⟩⟩⟩⟩⟩⟩⟩⟩⟩⟩⟩⟩⟩⟩⟩⟩⟩⟩⟩⟩⟩⟩⟩⟩⟩⟩⟩⟩⟩⟩⟩⟩⟩⟩⟩⟩⟩⟩⟩⟩⟩⟩⟩⟩⟩⟩⟩⟩⟩⟩⟩ _ (fun V => by simp only [putAll, Act.put, List.take_succ_cons, List.take_zero, List.setIfInBounds_toArray, List.set_cons_zero, List.set_cons_succ, Nat.reduceAdd]; exact rfl) ?hs2 ?ht2
  case hs2 =>
    simp only [List.take_succ_cons, List.take_zero, softsR]
    refine ⟨?_, ?_, ?_, ?_, ?_, ?_, ?_, ?_, ?_, ?_, ?_, ?_, ?_, ?_, ?_, ?_, ?_, ?_, ?_, ?_, ?_, ?_, ?_, ?_, ?_, ?_, ?_, ?_, ?_, ?_, ?_, ?_, ?_, ?_, ?_, ?_, ?_, ?_, ?_, ?_, ?_, ?_, ?_, ?_, ?_, ?_, ?_, ?_, ?_, ?_, ?_, ?_, ?_, ?_, ?_, ?_, ?_, ?_, ?_, ?_, ?_, ?_, ?_, ?_, ?_, ?_, ?_, ?_, trivial⟩
    · intro V wx hi hd
      simp [phi, Region.binds, cst] at hd
      try simp only [hd]
      first
        | (refine soft_const rfl ?_; go_simp; done)
        | (refine soft_const rfl ?_; go_simp; exact rfl)
        | (exact soft_load rfl (Chg.refl [] _) _ _ rfl _ _ rfl _ _ (show wx.rangeAt gP 0 (bcs D1) from by obtain ⟨j, _, hi⟩ := hi; obtain ⟨v', F', i1, i2, i3, i4, i5, i6, i7, i8⟩ := hi; exact (hfP.out wx i5).1) Try.underlying32 rfl (by rw [bcs_length, L1.out]; kernel_rfl))
        | (exact soft_load rfl (Chg.refl [] _) _ _ rfl _ _ rfl _ _ (show wx.rangeAt gP 64 (bcs D5) from by obtain ⟨j, _, hi⟩ := hi; obtain ⟨v', F', i1, i2, i3, i4, i5, i6, i7, i8⟩ := hi; exact (hfP.out wx i5).2) Try.underlying32 rfl (by rw [bcs_length, L5.out]; kernel_rfl))
        | (exact soft_load rfl (Chg.refl [] _) _ _ rfl _ _ rfl _ _ (show wx.rangeAt q 0 (bcs D1) from by obtain ⟨j, _, hi⟩ := hi; obtain ⟨v', F', i1, i2, i3, i4, i5, i6, i7, i8⟩ := hi; exact (hfL.out wx i4).1) Try.underlying32 rfl (by rw [bcs_length, L1.out]; kernel_rfl))
        | (exact soft_load rfl (Chg.refl [] _) _ _ rfl _ _ rfl _ _ (show wx.rangeAt q 128 (bcs D5) from by obtain ⟨j, _, hi⟩ := hi; obtain ⟨v', F', i1, i2, i3, i4, i5, i6, i7, i8⟩ := hi; exact (hfL.out wx i4).2) Try.underlying32 rfl (by rw [bcs_length, L5.out]; kernel_rfl))
        | (exact soft_load rfl (Chg.refl [] _) _ _ rfl _ _ rfl _ _ (show wx.rangeAt r4 0 (bcs T1) from by obtain ⟨j, _, hi⟩ := hi; obtain ⟨v', F', i1, i2, i3, i4, i5, i6, i7, i8⟩ := hi; have := ra_block i6; simpa using this) Try.underlying32 rfl (by rw [bcs_length, hT32]; kernel_rfl))
        | (exact soft_load rfl (Chg.refl [] _) _ _ rfl _ _ rfl _ _ (show wx.rangeAt r8 0 (bcs T1) from by obtain ⟨j, _, hi⟩ := hi; obtain ⟨v', F', i1, i2, i3, i4, i5, i6, i7, i8⟩ := hi; have := ra_block i7; simpa using this) Try.underlying32 rfl (by rw [bcs_length, hT32]; kernel_rfl))
        | (exact soft_load rfl (Chg.refl [] _) _ _ rfl _ _ rfl _ _ (show wx.rangeAt r10 0 (bcs T0) from by obtain ⟨j, _, hi⟩ := hi; obtain ⟨v', F', i1, i2, i3, i4, i5, i6, i7, i8⟩ := hi; have := ra_block i8; simpa using this) Try.underlying32 rfl (by rw [bcs_length, hT032]; kernel_rfl))
        | (exact soft_skip rfl)
    · intro V wx hi hd
      simp [phi, Region.binds, cst] at hd
      try simp only [hd]
      first
        | (refine soft_const rfl ?_; go_simp; done)
        | (refine soft_const rfl ?_; go_simp; exact rfl)
        | (exact soft_load rfl (Chg.refl [] _) _ _ rfl _ _ rfl _ _ (show wx.rangeAt gP 0 (bcs D1) from by obtain ⟨j, _, hi⟩ := hi; obtain ⟨v', F', i1, i2, i3, i4, i5, i6, i7, i8⟩ := hi; exact (hfP.out wx i5).1) Try.underlying32 rfl (by rw [bcs_length, L1.out]; kernel_rfl))
        | (exact soft_load rfl (Chg.refl [] _) _ _ rfl _ _ rfl _ _ (show wx.rangeAt gP 64 (bcs D5) from by obtain ⟨j, _, hi⟩ := hi; obtain ⟨v', F', i1, i2, i3, i4, i5, i6, i7, i8⟩ := hi; exact (hfP.out wx i5).2) Try.underlying32 rfl (by rw [bcs_length, L5.out]; kernel_rfl))
        | (exact soft_load rfl (Chg.refl [] _) _ _ rfl _ _ rfl _ _ (show wx.rangeAt q 0 (bcs D1) from by obtain ⟨j, _, hi⟩ := hi; obtain ⟨v', F', i1, i2, i3, i4, i5, i6, i7, i8⟩ := hi; exact (hfL.out wx i4).1) Try.underlying32 rfl (by rw [bcs_length, L1.out]; kernel_rfl))
        | (exact soft_load rfl (Chg.refl [] _) _ _ rfl _ _ rfl _ _ (show wx.rangeAt q 128 (bcs D5) from by obtain ⟨j, _, hi⟩ := hi; obtain ⟨v', F', i1, i2, i3, i4, i5, i6, i7, i8⟩ := hi; exact (hfL.out wx i4).2) Try.underlying32 rfl (by rw [bcs_length, L5.out]; kernel_rfl))
        | (exact soft_load rfl (Chg.refl [] _) _ _ rfl _ _ rfl _ _ (show wx.rangeAt r4 0 (bcs T1) from by obtain ⟨j, _, hi⟩ := hi; obtain ⟨v', F', i1, i2, i3, i4, i5, i6, i7, i8⟩ := hi; have := ra_block i6; simpa using this) Try.underlying32 rfl (by rw [bcs_length, hT32]; kernel_rfl))
        | (exact soft_load rfl (Chg.refl [] _) _ _ rfl _ _ rfl _ _ (show wx.rangeAt r8 0 (bcs T1) from by obtain ⟨j, _, hi⟩ := hi; obtain ⟨v', F', i1, i2, i3, i4, i5, i6, i7, i8⟩ := hi; have := ra_block i7; simpa using this) Try.underlying32 rfl (by rw [bcs_length, hT32]; kernel_rfl))
        | (exact soft_load rfl (Chg.refl [] _) _ _ rfl _ _ rfl _ _ (show wx.rangeAt r10 0 (bcs T0) from by obtain ⟨j, _, hi⟩ := hi; obtain ⟨v', F', i1, i2, i3, i4, i5, i6, i7, i8⟩ := hi; have := ra_block i8; simpa using this) Try.underlying32 rfl (by rw [bcs_length, hT032]; kernel_rfl))
        | (exact soft_skip rfl)
    · intro V wx hi hd
      simp [phi, Region.binds, cst] at hd
      try simp only [hd]
      first
        | (refine soft_const rfl ?_; go_simp; done)
        | (refine soft_const rfl ?_; go_simp; exact rfl)
        | (exact soft_load rfl (Chg.refl [] _) _ _ rfl _ _ rfl _ _ (show wx.rangeAt gP 0 (bcs D1) from by obtain ⟨j, _, hi⟩ := hi; obtain ⟨v', F', i1, i2, i3, i4, i5, i6, i7, i8⟩ := hi; exact (hfP.out wx i5).1) Try.underlying32 rfl (by rw [bcs_length, L1.out]; kernel_rfl))
        | (exact soft_load rfl (Chg.refl [] _) _ _ rfl _ _ rfl _ _ (show wx.rangeAt gP 64 (bcs D5) from by obtain ⟨j, _, hi⟩ := hi; obtain ⟨v', F', i1, i2, i3, i4, i5, i6, i7, i8⟩ := hi; exact (hfP.out wx i5).2) Try.underlying32 rfl (by rw [bcs_length, L5.out]; kernel_rfl))
        | (exact soft_load rfl (Chg.refl [] _) _ _ rfl _ _ rfl _ _ (show wx.rangeAt q 0 (bcs D1) from by obtain ⟨j, _, hi⟩ := hi; obtain ⟨v', F', i1, i2, i3, i4, i5, i6, i7, i8⟩ := hi; exact (hfL.out wx i4).1) Try.underlying32 rfl (by rw [bcs_length, L1.out]; kernel_rfl))
        | (exact soft_load rfl (Chg.refl [] _) _ _ rfl _ _ rfl _ _ (show wx.rangeAt q 128 (bcs D5) from by obtain ⟨j, _, hi⟩ := hi; obtain ⟨v', F', i1, i2, i3, i4, i5, i6, i7, i8⟩ := hi; exact (hfL.out wx i4).2) Try.underlying32 rfl (by rw [bcs_length, L5.out]; kernel_rfl))
        | (exact soft_load rfl (Chg.refl [] _) _ _ rfl _ _ rfl _ _ (show wx.rangeAt r4 0 (bcs T1) from by obtain ⟨j, _, hi⟩ := hi; obtain ⟨v', F', i1, i2, i3, i4, i5, i6, i7, i8⟩ := hi; have := ra_block i6; simpa using this) Try.underlying32 rfl (by rw [bcs_length, hT32]; kernel_rfl))
        | (exact soft_load rfl (Chg.refl [] _) _ _ rfl _ _ rfl _ _ (show wx.rangeAt r8 0 (bcs T1) from by obtain ⟨j, _, hi⟩ := hi; obtain ⟨v', F', i1, i2, i3, i4, i5, i6, i7, i8⟩ := hi; have := ra_block i7; simpa using this) Try.underlying32 rfl (by rw [bcs_length, hT32]; kernel_rfl))
        | (exact soft_load rfl (Chg.refl [] _) _ _ rfl _ _ rfl _ _ (show wx.rangeAt r10 0 (bcs T0) from by obtain ⟨j, _, hi⟩ := hi; obtain ⟨v', F', i1, i2, i3, i4, i5, i6, i7, i8⟩ := hi; have := ra_block i8; simpa using this) Try.underlying32 rfl (by rw [bcs_length, hT032]; kernel_rfl))
        | (exact soft_skip rfl)
    · intro V wx hi hd
      simp [phi, Region.binds, cst] at hd
      try simp only [hd]
      first
        | (refine soft_const rfl ?_; go_simp; done)
        | (refine soft_const rfl ?_; go_simp; exact rfl)
        | (exact soft_load rfl (Chg.refl [] _) _ _ rfl _ _ rfl _ _ (show wx.rangeAt gP 0 (bcs D1) from by obtain ⟨j, _, hi⟩ := hi; obtain ⟨v', F', i1, i2, i3, i4, i5, i6, i7, i8⟩ := hi; exact (hfP.out wx i5).1) Try.underlying32 rfl (by rw [bcs_length, L1.out]; kernel_rfl))
        | (exact soft_load rfl (Chg.refl [] _) _ _ rfl _ _ rfl _ _ (show wx.rangeAt gP 64 (bcs D5) from by obtain ⟨j, _, hi⟩ := hi; obtain ⟨v', F', i1, i2, i3, i4, i5, i6, i7, i8⟩ := hi; exact (hfP.out wx i5).2) Try.underlying32 rfl (by rw [bcs_length, L5.out]; kernel_rfl))
        | (exact soft_load rfl (Chg.refl [] _) _ _ rfl _ _ rfl _ _ (show wx.rangeAt q 0 (bcs D1) from by obtain ⟨j, _, hi⟩ := hi; obtain ⟨v', F', i1, i2, i3, i4, i5, i6, i7, i8⟩ := hi; exact (hfL.out wx i4).1) Try.underlying32 rfl (by rw [bcs_length, L1.out]; kernel_rfl))
        | (exact soft_load rfl (Chg.refl [] _) _ _ rfl _ _ rfl _ _ (show wx.rangeAt q 128 (bcs D5) from by obtain ⟨j, _, hi⟩ := hi; obtain ⟨v', F', i1, i2, i3, i4, i5, i6, i7, i8⟩ := hi; exact (hfL.out wx i4).2) Try.underlying32 rfl (by rw [bcs_length, L5.out]; kernel_rfl))
        | (exact soft_load rfl (Chg.refl [] _) _ _ rfl _ _ rfl _ _ (show wx.rangeAt r4 0 (bcs T1) from by obtain ⟨j, _, hi⟩ := hi; obtain ⟨v', F', i1, i2, i3, i4, i5, i6, i7, i8⟩ := hi; have := ra_block i6; simpa using this) Try.underlying32 rfl (by rw [bcs_length, hT32]; kernel_rfl))
        | (exact soft_load rfl (Chg.refl [] _) _ _ rfl _ _ rfl _ _ (show wx.rangeAt r8 0 (bcs T1) from by obtain ⟨j, _, hi⟩ := hi; obtain ⟨v', F', i1, i2, i3, i4, i5, i6, i7, i8⟩ := hi; have := ra_block i7; simpa using this) Try.underlying32 rfl (by rw [bcs_length, hT32]; kernel_rfl))
        | (exact soft_load rfl (Chg.refl [] _) _ _ rfl _ _ rfl _ _ (show wx.rangeAt r10 0 (bcs T0) from by obtain ⟨j, _, hi⟩ := hi; obtain ⟨v', F', i1, i2, i3, i4, i5, i6, i7, i8⟩ := hi; have := ra_block i8; simpa using this) Try.underlying32 rfl (by rw [bcs_length, hT032]; kernel_rfl))
        | (exact soft_skip rfl)
    · intro V wx hi hd
      simp [phi, Region.binds, cst] at hd
      try simp only [hd]
      first
        | (refine soft_const rfl ?_; go_simp; done)
        | (refine soft_const rfl ?_; go_simp; exact rfl)
        | (exact soft_load rfl (Chg.refl [] _) _ _ rfl _ _ rfl _ _ (show wx.rangeAt gP 0 (bcs D1) from by obtain ⟨j, _, hi⟩ := hi; obtain ⟨v', F', i1, i2, i3, i4, i5, i6, i7, i8⟩ := hi; exact (hfP.out wx i5).1) Try.underlying32 rfl (by rw [bcs_length, L1.out]; kernel_rfl))
        | (exact soft_load rfl (Chg.refl [] _) _ _ rfl _ _ rfl _ _ (show wx.rangeAt gP 64 (bcs D5) from by obtain ⟨j, _, hi⟩ := hi; obtain ⟨v', F', i1, i2, i3, i4, i5, i6, i7, i8⟩ := hi; exact (hfP.out wx i5).2) Try.underlying32 rfl (by rw [bcs_length, L5.out]; kernel_rfl))
        | (exact soft_load rfl (Chg.refl [] _) _ _ rfl _ _ rfl _ _ (show wx.rangeAt q 0 (bcs D1) from by obtain ⟨j, _, hi⟩ := hi; obtain ⟨v', F', i1, i2, i3, i4, i5, i6, i7, i8⟩ := hi; exact (hfL.out wx i4).1) Try.underlying32 rfl (by rw [bcs_length, L1.out]; kernel_rfl))
        | (exact soft_load rfl (Chg.refl [] _) _ _ rfl _ _ rfl _ _ (show wx.rangeAt q 128 (bcs D5) from by obtain ⟨j, _, hi⟩ := hi; obtain ⟨v', F', i1, i2, i3, i4, i5, i6, i7, i8⟩ := hi; exact (hfL.out wx i4).2) Try.underlying32 rfl (by rw [bcs_length, L5.out]; kernel_rfl))
        | (exact soft_load rfl (Chg.refl [] _) _ _ rfl _ _ rfl _ _ (show wx.rangeAt r4 0 (bcs T1) from by obtain ⟨j, _, hi⟩ := hi; obtain ⟨v', F', i1, i2, i3, i4, i5, i6, i7, i8⟩ := hi; have := ra_block i6; simpa using this) Try.underlying32 rfl (by rw [bcs_length, hT32]; kernel_rfl))
        | (exact soft_load rfl (Chg.refl [] _) _ _ rfl _ _ rfl _ _ (show wx.rangeAt r8 0 (bcs T1) from by obtain ⟨j, _, hi⟩ := hi; obtain ⟨v', F', i1, i2, i3, i4, i5, i6, i7, i8⟩ := hi; have := ra_block i7; simpa using this) Try.underlying32 rfl (by rw [bcs_length, hT32]; kernel_rfl))
        | (exact soft_load rfl (Chg.refl [] _) _ _ rfl _ _ rfl _ _ (show wx.rangeAt r10 0 (bcs T0) from by obtain ⟨j, _, hi⟩ := hi; obtain ⟨v', F', i1, i2, i3, i4, i5, i6, i7, i8⟩ := hi; have := ra_block i8; simpa using this) Try.underlying32 rfl (by rw [bcs_length, hT032]; kernel_rfl))
        | (exact soft_skip rfl)
    · intro V wx hi hd
      simp [phi, Region.binds, cst] at hd
      try simp only [hd]
      first
        | (refine soft_const rfl ?_; go_simp; done)
        | (refine soft_const rfl ?_; go_simp; exact rfl)
        | (exact soft_load rfl (Chg.refl [] _) _ _ rfl _ _ rfl _ _ (show wx.rangeAt gP 0 (bcs D1) from by obtain ⟨j, _, hi⟩ := hi; obtain ⟨v', F', i1, i2, i3, i4, i5, i6, i7, i8⟩ := hi; exact (hfP.out wx i5).1) Try.underlying32 rfl (by rw [bcs_length, L1.out]; kernel_rfl))
        | (exact soft_load rfl (Chg.refl [] _) _ _ rfl _ _ rfl _ _ (show wx.rangeAt gP 64 (bcs D5) from by obtain ⟨j, _, hi⟩ := hi; obtain ⟨v', F', i1, i2, i3, i4, i5, i6, i7, i8⟩ := hi; exact (hfP.out wx i5).2) Try.underlying32 rfl (by rw [bcs_length, L5.out]; kernel_rfl))
        | (exact soft_load rfl (Chg.refl [] _) _ _ rfl _ _ rfl _ _ (show wx.rangeAt q 0 (bcs D1) from by obtain ⟨j, _, hi⟩ := hi; obtain ⟨v', F', i1, i2, i3, i4, i5, i6, i7, i8⟩ := hi; exact (hfL.out wx i4).1) Try.underlying32 rfl (by rw [bcs_length, L1.out]; kernel_rfl))
        | (exact soft_load rfl (Chg.refl [] _) _ _ rfl _ _ rfl _ _ (show wx.rangeAt q 128 (bcs D5) from by obtain ⟨j, _, hi⟩ := hi; obtain ⟨v', F', i1, i2, i3, i4, i5, i6, i7, i8⟩ := hi; exact (hfL.out wx i4).2) Try.underlying32 rfl (by rw [bcs_length, L5.out]; kernel_rfl))
        | (exact soft_load rfl (Chg.refl [] _) _ _ rfl _ _ rfl _ _ (show wx.rangeAt r4 0 (bcs T1) from by obtain ⟨j, _, hi⟩ := hi; obtain ⟨v', F', i1, i2, i3, i4, i5, i6, i7, i8⟩ := hi; have := ra_block i6; simpa using this) Try.underlying32 rfl (by rw [bcs_length, hT32]; kernel_rfl))
        | (exact soft_load rfl (Chg.refl [] _) _ _ rfl _ _ rfl _ _ (show wx.rangeAt r8 0 (bcs T1) from by obtain ⟨j, _, hi⟩ := hi; obtain ⟨v', F', i1, i2, i3, i4, i5, i6, i7, i8⟩ := hi; have := ra_block i7; simpa using this) Try.underlying32 rfl (by rw [bcs_length, hT32]; kernel_rfl))
        | (exact soft_load rfl (Chg.refl [] _) _ _ rfl _ _ rfl _ _ (show wx.rangeAt r10 0 (bcs T0) from by obtain ⟨j, _, hi⟩ := hi; obtain ⟨v', F', i1, i2, i3, i4, i5, i6, i7, i8⟩ := hi; have := ra_block i8; simpa using this) Try.underlying32 rfl (by rw [bcs_length, hT032]; kernel_rfl))
        | (exact soft_skip rfl)
    · intro V wx hi hd
      simp [phi, Region.binds, cst] at hd
      try simp only [hd]
      first
        | (refine soft_const rfl ?_; go_simp; done)
        | (refine soft_const rfl ?_; go_simp; exact rfl)
        | (exact soft_load rfl (Chg.refl [] _) _ _ rfl _ _ rfl _ _ (show wx.rangeAt gP 0 (bcs D1) from by obtain ⟨j, _, hi⟩ := hi; obtain ⟨v', F', i1, i2, i3, i4, i5, i6, i7, i8⟩ := hi; exact (hfP.out wx i5).1) Try.underlying32 rfl (by rw [bcs_length, L1.out]; kernel_rfl))
        | (exact soft_load rfl (Chg.refl [] _) _ _ rfl _ _ rfl _ _ (show wx.rangeAt gP 64 (bcs D5) from by obtain ⟨j, _, hi⟩ := hi; obtain ⟨v', F', i1, i2, i3, i4, i5, i6, i7, i8⟩ := hi; exact (hfP.out wx i5).2) Try.underlying32 rfl (by rw [bcs_length, L5.out]; kernel_rfl))
        | (exact soft_load rfl (Chg.refl [] _) _ _ rfl _ _ rfl _ _ (show wx.rangeAt q 0 (bcs D1) from by obtain ⟨j, _, hi⟩ := hi; obtain ⟨v', F', i1, i2, i3, i4, i5, i6, i7, i8⟩ := hi; exact (hfL.out wx i4).1) Try.underlying32 rfl (by rw [bcs_length, L1.out]; kernel_rfl))
        | (exact soft_load rfl (Chg.refl [] _) _ _ rfl _ _ rfl _ _ (show wx.rangeAt q 128 (bcs D5) from by obtain ⟨j, _, hi⟩ := hi; obtain ⟨v', F', i1, i2, i3, i4, i5, i6, i7, i8⟩ := hi; exact (hfL.out wx i4).2) Try.underlying32 rfl (by rw [bcs_length, L5.out]; kernel_rfl))
        | (exact soft_load rfl (Chg.refl [] _) _ _ rfl _ _ rfl _ _ (show wx.rangeAt r4 0 (bcs T1) from by obtain ⟨j, _, hi⟩ := hi; obtain ⟨v', F', i1, i2, i3, i4, i5, i6, i7, i8⟩ := hi; have := ra_block i6; simpa using this) Try.underlying32 rfl (by rw [bcs_length, hT32]; kernel_rfl))
        | (exact soft_load rfl (Chg.refl [] _) _ _ rfl _ _ rfl _ _ (show wx.rangeAt r8 0 (bcs T1) from by obtain ⟨j, _, hi⟩ := hi; obtain ⟨v', F', i1, i2, i3, i4, i5, i6, i7, i8⟩ := hi; have := ra_block i7; simpa using this) Try.underlying32 rfl (by rw [bcs_length, hT32]; kernel_rfl))
        | (exact soft_load rfl (Chg.refl [] _) _ _ rfl _ _ rfl _ _ (show wx.rangeAt r10 0 (bcs T0) from by obtain ⟨j, _, hi⟩ := hi; obtain ⟨v', F', i1, i2, i3, i4, i5, i6, i7, i8⟩ := hi; have := ra_block i8; simpa using this) Try.underlying32 rfl (by rw [bcs_length, hT032]; kernel_rfl))
        | (exact soft_skip rfl)
    · intro V wx hi hd
      simp [phi, Region.binds, cst] at hd
      try simp only [hd]
      first
        | (refine soft_const rfl ?_; go_simp; done)
        | (refine soft_const rfl ?_; go_simp; exact rfl)
        | (exact soft_load rfl (Chg.refl [] _) _ _ rfl _ _ rfl _ _ (show wx.rangeAt gP 0 (bcs D1) from by obtain ⟨j, _, hi⟩ := hi; obtain ⟨v', F', i1, i2, i3, i4, i5, i6, i7, i8⟩ := hi; exact (hfP.out wx i5).1) Try.underlying32 rfl (by rw [bcs_length, L1.out]; kernel_rfl))
        | (exact soft_load rfl (Chg.refl [] _) _ _ rfl _ _ rfl _ _ (show wx.rangeAt gP 64 (bcs D5) from by obtain ⟨j, _, hi⟩ := hi; obtain ⟨v', F', i1, i2, i3, i4, i5, i6, i7, i8⟩ := hi; exact (hfP.out wx i5).2) Try.underlying32 rfl (by rw [bcs_length, L5.out]; kernel_rfl))
        | (exact soft_load rfl (Chg.refl [] _) _ _ rfl _ _ rfl _ _ (show wx.rangeAt q 0 (bcs D1) from by obtain ⟨j, _, hi⟩ := hi; obtain ⟨v', F', i1, i2, i3, i4, i5, i6, i7, i8⟩ := hi; exact (hfL.out wx i4).1) Try.underlying32 rfl (by rw [bcs_length, L1.out]; kernel_rfl))
        | (exact soft_load rfl (Chg.refl [] _) _ _ rfl _ _ rfl _ _ (show wx.rangeAt q 128 (bcs D5) from by obtain ⟨j, _, hi⟩ := hi; obtain ⟨v', F', i1, i2, i3, i4, i5, i6, i7, i8⟩ := hi; exact (hfL.out wx i4).2) Try.underlying32 rfl (by rw [bcs_length, L5.out]; kernel_rfl))
        | (exact soft_load rfl (Chg.refl [] _) _ _ rfl _ _ rfl _ _ (show wx.rangeAt r4 0 (bcs T1) from by obtain ⟨j, _, hi⟩ := hi; obtain ⟨v', F', i1, i2, i3, i4, i5, i6, i7, i8⟩ := hi; have := ra_block i6; simpa using this) Try.underlying32 rfl (by rw [bcs_length, hT32]; kernel_rfl))
        | (exact soft_load rfl (Chg.refl [] _) _ _ rfl _ _ rfl _ _ (show wx.rangeAt r8 0 (bcs T1) from by obtain ⟨j, _, hi⟩ := hi; obtain ⟨v', F', i1, i2, i3, i4, i5, i6, i7, i8⟩ := hi; have := ra_block i7; simpa using this) Try.underlying32 rfl (by rw [bcs_length, hT32]; kernel_rfl))
        | (exact soft_load rfl (Chg.refl [] _) _ _ rfl _ _ rfl _ _ (show wx.rangeAt r10 0 (bcs T0) from by obtain ⟨j, _, hi⟩ := hi; obtain ⟨v', F', i1, i2, i3, i4, i5, i6, i7, i8⟩ := hi; have := ra_block i8; simpa using this) Try.underlying32 rfl (by rw [bcs_length, hT032]; kernel_rfl))
        | (exact soft_skip rfl)
    · intro V wx hi hd
      simp [phi, Region.binds, cst] at hd
      try simp only [hd]
      first
        | (refine soft_const rfl ?_; go_simp; done)
        | (refine soft_const rfl ?_; go_simp; exact rfl)
        | (exact soft_load rfl (Chg.refl [] _) _ _ rfl _ _ rfl _ _ (show wx.rangeAt gP 0 (bcs D1) from by obtain ⟨j, _, hi⟩ := hi; obtain ⟨v', F', i1, i2, i3, i4, i5, i6, i7, i8⟩ := hi; exact (hfP.out wx i5).1) Try.underlying32 rfl (by rw [bcs_length, L1.out]; kernel_rfl))
        | (exact soft_load rfl (Chg.refl [] _) _ _ rfl _ _ rfl _ _ (show wx.rangeAt gP 64 (bcs D5) from by obtain ⟨j, _, hi⟩ := hi; obtain ⟨v', F', i1, i2, i3, i4, i5, i6, i7, i8⟩ := hi; exact (hfP.out wx i5).2) Try.underlying32 rfl (by rw [bcs_length, L5.out]; kernel_rfl))
        | (exact soft_load rfl (Chg.refl [] _) _ _ rfl _ _ rfl _ _ (show wx.rangeAt q 0 (bcs D1) from by obtain ⟨j, _, hi⟩ := hi; obtain ⟨v', F', i1, i2, i3, i4, i5, i6, i7, i8⟩ := hi; exact (hfL.out wx i4).1) Try.underlying32 rfl (by rw [bcs_length, L1.out]; kernel_rfl))
        | (exact soft_load rfl (Chg.refl [] _) _ _ rfl _ _ rfl _ _ (show wx.rangeAt q 128 (bcs D5) from by obtain ⟨j, _, hi⟩ := hi; obtain ⟨v', F', i1, i2, i3, i4, i5, i6, i7, i8⟩ := hi; exact (hfL.out wx i4).2) Try.underlying32 rfl (by rw [bcs_length, L5.out]; kernel_rfl))
        | (exact soft_load rfl (Chg.refl [] _) _ _ rfl _ _ rfl _ _ (show wx.rangeAt r4 0 (bcs T1) from by obtain ⟨j, _, hi⟩ := hi; obtain ⟨v', F', i1, i2, i3, i4, i5, i6, i7, i8⟩ := hi; have := ra_block i6; simpa using this) Try.underlying32 rfl (by rw [bcs_length, hT32]; kernel_rfl))
        | (exact soft_load rfl (Chg.refl [] _) _ _ rfl _ _ rfl _ _ (show wx.rangeAt r8 0 (bcs T1) from by obtain ⟨j, _, hi⟩ := hi; obtain ⟨v', F', i1, i2, i3, i4, i5, i6, i7, i8⟩ := hi; have := ra_block i7; simpa using this) Try.underlying32 rfl (by rw [bcs_length, hT32]; kernel_rfl))
        | (exact soft_load rfl (Chg.refl [] _) _ _ rfl _ _ rfl _ _ (show wx.rangeAt r10 0 (bcs T0) from by obtain ⟨j, _, hi⟩ := hi; obtain ⟨v', F', i1, i2, i3, i4, i5, i6, i7, i8⟩ := hi; have := ra_block i8; simpa using this) Try.underlying32 rfl (by rw [bcs_length, hT032]; kernel_rfl))
        | (exact soft_skip rfl)
    · intro V wx hi hd
      simp [phi, Region.binds, cst] at hd
      try simp only [hd]
      first
        | (refine soft_const rfl ?_; go_simp; done)
        | (refine soft_const rfl ?_; go_simp; exact rfl)
        | (exact soft_load rfl (Chg.refl [] _) _ _ rfl _ _ rfl _ _ (show wx.rangeAt gP 0 (bcs D1) from by obtain ⟨j, _, hi⟩ := hi; obtain ⟨v', F', i1, i2, i3, i4, i5, i6, i7, i8⟩ := hi; exact (hfP.out wx i5).1) Try.underlying32 rfl (by rw [bcs_length, L1.out]; kernel_rfl))
        | (exact soft_load rfl (Chg.refl [] _) _ _ rfl _ _ rfl _ _ (show wx.rangeAt gP 64 (bcs D5) from by obtain ⟨j, _, hi⟩ := hi; obtain ⟨v', F', i1, i2, i3, i4, i5, i6, i7, i8⟩ := hi; exact (hfP.out wx i5).2) Try.underlying32 rfl (by rw [bcs_length, L5.out]; kernel_rfl))
        | (exact soft_load rfl (Chg.refl [] _) _ _ rfl _ _ rfl _ _ (show wx.rangeAt q 0 (bcs D1) from by obtain ⟨j, _, hi⟩ := hi; obtain ⟨v', F', i1, i2, i3, i4, i5, i6, i7, i8⟩ := hi; exact (hfL.out wx i4).1) Try.underlying32 rfl (by rw [bcs_length, L1.out]; kernel_rfl))
        | (exact soft_load rfl (Chg.refl [] _) _ _ rfl _ _ rfl _ _ (show wx.rangeAt q 128 (bcs D5) from by obtain ⟨j, _, hi⟩ := hi; obtain ⟨v', F', i1, i2, i3, i4, i5, i6, i7, i8⟩ := hi; exact (hfL.out wx i4).2) Try.underlying32 rfl (by rw [bcs_length, L5.out]; kernel_rfl))
        | (exact soft_load rfl (Chg.refl [] _) _ _ rfl _ _ rfl _ _ (show wx.rangeAt r4 0 (bcs T1) from by obtain ⟨j, _, hi⟩ := hi; obtain ⟨v', F', i1, i2, i3, i4, i5, i6, i7, i8⟩ := hi; have := ra_block i6; simpa using this) Try.underlying32 rfl (by rw [bcs_length, hT32]; kernel_rfl))
        | (exact soft_load rfl (Chg.refl [] _) _ _ rfl _ _ rfl _ _ (show wx.rangeAt r8 0 (bcs T1) from by obtain ⟨j, _, hi⟩ := hi; obtain ⟨v', F', i1, i2, i3, i4, i5, i6, i7, i8⟩ := hi; have := ra_block i7; simpa using this) Try.underlying32 rfl (by rw [bcs_length, hT32]; kernel_rfl))
        | (exact soft_load rfl (Chg.refl [] _) _ _ rfl _ _ rfl _ _ (show wx.rangeAt r10 0 (bcs T0) from by obtain ⟨j, _, hi⟩ := hi; obtain ⟨v', F', i1, i2, i3, i4, i5, i6, i7, i8⟩ := hi; have := ra_block i8; simpa using this) Try.underlying32 rfl (by rw [bcs_length, hT032]; kernel_rfl))
        | (exact soft_skip rfl)
    · intro V wx hi hd
      simp [phi, Region.binds, cst] at hd
      try simp only [hd]
      first
        | (refine soft_const rfl ?_; go_simp; done)
        | (refine soft_const rfl ?_; go_simp; exact rfl)
        | (exact soft_load rfl (Chg.refl [] _) _ _ rfl _ _ rfl _ _ (show wx.rangeAt gP 0 (bcs D1) from by obtain ⟨j, _, hi⟩ := hi; obtain ⟨v', F', i1, i2, i3, i4, i5, i6, i7, i8⟩ := hi; exact (hfP.out wx i5).1) Try.underlying32 rfl (by rw [bcs_length, L1.out]; kernel_rfl))
        | (exact soft_load rfl (Chg.refl [] _) _ _ rfl _ _ rfl _ _ (show wx.rangeAt gP 64 (bcs D5) from by obtain ⟨j, _, hi⟩ := hi; obtain ⟨v', F', i1, i2, i3, i4, i5, i6, i7, i8⟩ := hi; exact (hfP.out wx i5).2) Try.underlying32 rfl (by rw [bcs_length, L5.out]; kernel_rfl))
        | (exact soft_load rfl (Chg.refl [] _) _ _ rfl _ _ rfl _ _ (show wx.rangeAt q 0 (bcs D1) from by obtain ⟨j, _, hi⟩ := hi; obtain ⟨v', F', i1, i2, i3, i4, i5, i6, i7, i8⟩ := hi; exact (hfL.out wx i4).1) Try.underlying32 rfl (by rw [bcs_length, L1.out]; kernel_rfl))
        | (exact soft_load rfl (Chg.refl [] _) _ _ rfl _ _ rfl _ _ (show wx.rangeAt q 128 (bcs D5) from by obtain ⟨j, _, hi⟩ := hi; obtain ⟨v', F', i1, i2, i3, i4, i5, i6, i7, i8⟩ := hi; exact (hfL.out wx i4).2) Try.underlying32 rfl (by rw [bcs_length, L5.out]; kernel_rfl))
        | (exact soft_load rfl (Chg.refl [] _) _ _ rfl _ _ rfl _ _ (show wx.rangeAt r4 0 (bcs T1) from by obtain ⟨j, _, hi⟩ := hi; obtain ⟨v', F', i1, i2, i3, i4, i5, i6, i7, i8⟩ := hi; have := ra_block i6; simpa using this) Try.underlying32 rfl (by rw [bcs_length, hT32]; kernel_rfl))
        | (exact soft_load rfl (Chg.refl [] _) _ _ rfl _ _ rfl _ _ (show wx.rangeAt r8 0 (bcs T1) from by obtain ⟨j, _, hi⟩ := hi; obtain ⟨v', F', i1, i2, i3, i4, i5, i6, i7, i8⟩ := hi; have := ra_block i7; simpa using this) Try.underlying32 rfl (by rw [bcs_length, hT32]; kernel_rfl))
        | (exact soft_load rfl (Chg.refl [] _) _ _ rfl _ _ rfl _ _ (show wx.rangeAt r10 0 (bcs T0) from by obtain ⟨j, _, hi⟩ := hi; obtain ⟨v', F', i1, i2, i3, i4, i5, i6, i7, i8⟩ := hi; have := ra_block i8; simpa using this) Try.underlying32 rfl (by rw [bcs_length, hT032]; kernel_rfl))
        | (exact soft_skip rfl)
    · intro V wx hi hd
      simp [phi, Region.binds, cst] at hd
      try simp only [hd]
      first
        | (refine soft_const rfl ?_; go_simp; done)
        | (refine soft_const rfl ?_; go_simp; exact rfl)
        | (exact soft_load rfl (Chg.refl [] _) _ _ rfl _ _ rfl _ _ (show wx.rangeAt gP 0 (bcs D1) from by obtain ⟨j, _, hi⟩ := hi; obtain ⟨v', F', i1, i2, i3, i4, i5, i6, i7, i8⟩ := hi; exact (hfP.out wx i5).1) Try.underlying32 rfl (by rw [bcs_length, L1.out]; kernel_rfl))
        | (exact soft_load rfl (Chg.refl [] _) _ _ rfl _ _ rfl _ _ (show wx.rangeAt gP 64 (bcs D5) from by obtain ⟨j, _, hi⟩ := hi; obtain ⟨v', F', i1, i2, i3, i4, i5, i6, i7, i8⟩ := hi; exact (hfP.out wx i5).2) Try.underlying32 rfl (by rw [bcs_length, L5.out]; kernel_rfl))
        | (exact soft_load rfl (Chg.refl [] _) _ _ rfl _ _ rfl _ _ (show wx.rangeAt q 0 (bcs D1) from by obtain ⟨j, _, hi⟩ := hi; obtain ⟨v', F', i1, i2, i3, i4, i5, i6, i7, i8⟩ := hi; exact (hfL.out wx i4).1) Try.underlying32 rfl (by rw [bcs_length, L1.out]; kernel_rfl))
        | (exact soft_load rfl (Chg.refl [] _) _ _ rfl _ _ rfl _ _ (show wx.rangeAt q 128 (bcs D5) from by obtain ⟨j, _, hi⟩ := hi; obtain ⟨v', F', i1, i2, i3, i4, i5, i6, i7, i8⟩ := hi; exact (hfL.out wx i4).2) Try.underlying32 rfl (by rw [bcs_length, L5.out]; kernel_rfl))
        | (exact soft_load rfl (Chg.refl [] _) _ _ rfl _ _ rfl _ _ (show wx.rangeAt r4 0 (bcs T1) from by obtain ⟨j, _, hi⟩ := hi; obtain ⟨v', F', i1, i2, i3, i4, i5, i6, i7, i8⟩ := hi; have := ra_block i6; simpa using this) Try.underlying32 rfl (by rw [bcs_length, hT32]; kernel_rfl))
        | (exact soft_load rfl (Chg.refl [] _) _ _ rfl _ _ rfl _ _ (show wx.rangeAt r8 0 (bcs T1) from by obtain ⟨j, _, hi⟩ := hi; obtain ⟨v', F', i1, i2, i3, i4, i5, i6, i7, i8⟩ := hi; have := ra_block i7; simpa using this) Try.underlying32 rfl (by rw [bcs_length, hT32]; kernel_rfl))
        | (exact soft_load rfl (Chg.refl [] _) _ _ rfl _ _ rfl _ _ (show wx.rangeAt r10 0 (bcs T0) from by obtain ⟨j, _, hi⟩ := hi; obtain ⟨v', F', i1, i2, i3, i4, i5, i6, i7, i8⟩ := hi; have := ra_block i8; simpa using this) Try.underlying32 rfl (by rw [bcs_length, hT032]; kernel_rfl))
        | (exact soft_skip rfl)
    · intro V wx hi hd
      simp [phi, Region.binds, cst] at hd
      try simp only [hd]
      first
        | (refine soft_const rfl ?_; go_simp; done)
        | (refine soft_const rfl ?_; go_simp; exact rfl)
        | (exact soft_load rfl (Chg.refl [] _) _ _ rfl _ _ rfl _ _ (show wx.rangeAt gP 0 (bcs D1) from by obtain ⟨j, _, hi⟩ := hi; obtain ⟨v', F', i1, i2, i3, i4, i5, i6, i7, i8⟩ := hi; exact (hfP.out wx i5).1) Try.underlying32 rfl (by rw [bcs_length, L1.out]; kernel_rfl))
        | (exact soft_load rfl (Chg.refl [] _) _ _ rfl _ _ rfl _ _ (show wx.rangeAt gP 64 (bcs D5) from by obtain ⟨j, _, hi⟩ := hi; obtain ⟨v', F', i1, i2, i3, i4, i5, i6, i7, i8⟩ := hi; exact (hfP.out wx i5).2) Try.underlying32 rfl (by rw [bcs_length, L5.out]; kernel_rfl))
        | (exact soft_load rfl (Chg.refl [] _) _ _ rfl _ _ rfl _ _ (show wx.rangeAt q 0 (bcs D1) from by obtain ⟨j, _, hi⟩ := hi; obtain ⟨v', F', i1, i2, i3, i4, i5, i6, i7, i8⟩ := hi; exact (hfL.out wx i4).1) Try.underlying32 rfl (by rw [bcs_length, L1.out]; kernel_rfl))
        | (exact soft_load rfl (Chg.refl [] _) _ _ rfl _ _ rfl _ _ (show wx.rangeAt q 128 (bcs D5) from by obtain ⟨j, _, hi⟩ := hi; obtain ⟨v', F', i1, i2, i3, i4, i5, i6, i7, i8⟩ := hi; exact (hfL.out wx i4).2) Try.underlying32 rfl (by rw [bcs_length, L5.out]; kernel_rfl))
        | (exact soft_load rfl (Chg.refl [] _) _ _ rfl _ _ rfl _ _ (show wx.rangeAt r4 0 (bcs T1) from by obtain ⟨j, _, hi⟩ := hi; obtain ⟨v', F', i1, i2, i3, i4, i5, i6, i7, i8⟩ := hi; have := ra_block i6; simpa using this) Try.underlying32 rfl (by rw [bcs_length, hT32]; kernel_rfl))
        | (exact soft_load rfl (Chg.refl [] _) _ _ rfl _ _ rfl _ _ (show wx.rangeAt r8 0 (bcs T1) from by obtain ⟨j, _, hi⟩ := hi; obtain ⟨v', F', i1, i2, i3, i4, i5, i6, i7, i8⟩ := hi; have := ra_block i7; simpa using this) Try.underlying32 rfl (by rw [bcs_length, hT32]; kernel_rfl))
        | (exact soft_load rfl (Chg.refl [] _) _ _ rfl _ _ rfl _ _ (show wx.rangeAt r10 0 (bcs T0) from by obtain ⟨j, _, hi⟩ := hi; obtain ⟨v', F', i1, i2, i3, i4, i5, i6, i7, i8⟩ := hi; have := ra_block i8; simpa using this) Try.underlying32 rfl (by rw [bcs_length, hT032]; kernel_rfl))
        | (exact soft_skip rfl)
    · intro V wx hi hd
      simp [phi, Region.binds, cst] at hd
      try simp only [hd]
      first
        | (refine soft_const rfl ?_; go_simp; done)
        | (refine soft_const rfl ?_; go_simp; exact rfl)
        | (exact soft_load rfl (Chg.refl [] _) _ _ rfl _ _ rfl _ _ (show wx.rangeAt gP 0 (bcs D1) from by obtain ⟨j, _, hi⟩ := hi; obtain ⟨v', F', i1, i2, i3, i4, i5, i6, i7, i8⟩ := hi; exact (hfP.out wx i5).1) Try.underlying32 rfl (by rw [bcs_length, L1.out]; kernel_rfl))
        | (exact soft_load rfl (Chg.refl [] _) _ _ rfl _ _ rfl _ _ (show wx.rangeAt gP 64 (bcs D5) from by obtain ⟨j, _, hi⟩ := hi; obtain ⟨v', F', i1, i2, i3, i4, i5, i6, i7, i8⟩ := hi; exact (hfP.out wx i5).2) Try.underlying32 rfl (by rw [bcs_length, L5.out]; kernel_rfl))
        | (exact soft_load rfl (Chg.refl [] _) _ _ rfl _ _ rfl _ _ (show wx.rangeAt q 0 (bcs D1) from by obtain ⟨j, _, hi⟩ := hi; obtain ⟨v', F', i1, i2, i3, i4, i5, i6, i7, i8⟩ := hi; exact (hfL.out wx i4).1) Try.underlying32 rfl (by rw [bcs_length, L1.out]; kernel_rfl))
        | (exact soft_load rfl (Chg.refl [] _) _ _ rfl _ _ rfl _ _ (show wx.rangeAt q 128 (bcs D5) from by obtain ⟨j, _, hi⟩ := hi; obtain ⟨v', F', i1, i2, i3, i4, i5, i6, i7, i8⟩ := hi; exact (hfL.out wx i4).2) Try.underlying32 rfl (by rw [bcs_length, L5.out]; kernel_rfl))
        | (exact soft_load rfl (Chg.refl [] _) _ _ rfl _ _ rfl _ _ (show wx.rangeAt r4 0 (bcs T1) from by obtain ⟨j, _, hi⟩ := hi; obtain ⟨v', F', i1, i2, i3, i4, i5, i6, i7, i8⟩ := hi; have := ra_block i6; simpa using this) Try.underlying32 rfl (by rw [bcs_length, hT32]; kernel_rfl))
        | (exact soft_load rfl (Chg.refl [] _) _ _ rfl _ _ rfl _ _ (show wx.rangeAt r8 0 (bcs T1) from by obtain ⟨j, _, hi⟩ := hi; obtain ⟨v', F', i1, i2, i3, i4, i5, i6, i7, i8⟩ := hi; have := ra_block i7; simpa using this) Try.underlying32 rfl (by rw [bcs_length, hT32]; kernel_rfl))
        | (exact soft_load rfl (Chg.refl [] _) _ _ rfl _ _ rfl _ _ (show wx.rangeAt r10 0 (bcs T0) from by obtain ⟨j, _, hi⟩ := hi; obtain ⟨v', F', i1, i2, i3, i4, i5, i6, i7, i8⟩ := hi; have := ra_block i8; simpa using this) Try.underlying32 rfl (by rw [bcs_length, hT032]; kernel_rfl))
        | (exact soft_skip rfl)
    · intro V wx hi hd
      simp [phi, Region.binds, cst] at hd
      try simp only [hd]
      first
        | (refine soft_const rfl ?_; go_simp; done)
        | (refine soft_const rfl ?_; go_simp; exact rfl)
        | (exact soft_load rfl (Chg.refl [] _) _ _ rfl _ _ rfl _ _ (show wx.rangeAt gP 0 (bcs D1) from by obtain ⟨j, _, hi⟩ := hi; obtain ⟨v', F', i1, i2, i3, i4, i5, i6, i7, i8⟩ := hi; exact (hfP.out wx i5).1) Try.underlying32 rfl (by rw [bcs_length, L1.out]; kernel_rfl))
        | (exact soft_load rfl (Chg.refl [] _) _ _ rfl _ _ rfl _ _ (show wx.rangeAt gP 64 (bcs D5) from by obtain ⟨j, _, hi⟩ := hi; obtain ⟨v', F', i1, i2, i3, i4, i5, i6, i7, i8⟩ := hi; exact (hfP.out wx i5).2) Try.underlying32 rfl (by rw [bcs_length, L5.out]; kernel_rfl))
        | (exact soft_load rfl (Chg.refl [] _) _ _ rfl _ _ rfl _ _ (show wx.rangeAt q 0 (bcs D1) from by obtain ⟨j, _, hi⟩ := hi; obtain ⟨v', F', i1, i2, i3, i4, i5, i6, i7, i8⟩ := hi; exact (hfL.out wx i4).1) Try.underlying32 rfl (by rw [bcs_length, L1.out]; kernel_rfl))
        | (exact soft_load rfl (Chg.refl [] _) _ _ rfl _ _ rfl _ _ (show wx.rangeAt q 128 (bcs D5) from by obtain ⟨j, _, hi⟩ := hi; obtain ⟨v', F', i1, i2, i3, i4, i5, i6, i7, i8⟩ := hi; exact (hfL.out wx i4).2) Try.underlying32 rfl (by rw [bcs_length, L5.out]; kernel_rfl))
        | (exact soft_load rfl (Chg.refl [] _) _ _ rfl _ _ rfl _ _ (show wx.rangeAt r4 0 (bcs T1) from by obtain ⟨j, _, hi⟩ := hi; obtain ⟨v', F', i1, i2, i3, i4, i5, i6, i7, i8⟩ := hi; have := ra_block i6; simpa using this) Try.underlying32 rfl (by rw [bcs_length, hT32]; kernel_rfl))
        | (exact soft_load rfl (Chg.refl [] _) _ _ rfl _ _ rfl _ _ (show wx.rangeAt r8 0 (bcs T1) from by obtain ⟨j, _, hi⟩ := hi; obtain ⟨v', F', i1, i2, i3, i4, i5, i6, i7, i8⟩ := hi; have := ra_block i7; simpa using this) Try.underlying32 rfl (by rw [bcs_length, hT32]; kernel_rfl))
        | (exact soft_load rfl (Chg.refl [] _) _ _ rfl _ _ rfl _ _ (show wx.rangeAt r10 0 (bcs T0) from by obtain ⟨j, _, hi⟩ := hi; obtain ⟨v', F', i1, i2, i3, i4, i5, i6, i7, i8⟩ := hi; have := ra_block i8; simpa using this) Try.underlying32 rfl (by rw [bcs_length, hT032]; kernel_rfl))
        | (exact soft_skip rfl)
    · intro V wx hi hd
      simp [phi, Region.binds, cst] at hd
      try simp only [hd]
      first
        | (refine soft_const rfl ?_; go_simp; done)
        | (refine soft_const rfl ?_; go_simp; exact rfl)
        | (exact soft_load rfl (Chg.refl [] _) _ _ rfl _ _ rfl _ _ (show wx.rangeAt gP 0 (bcs D1) from by obtain ⟨j, _, hi⟩ := hi; obtain ⟨v', F', i1, i2, i3, i4, i5, i6, i7, i8⟩ := hi; exact (hfP.out wx i5).1) Try.underlying32 rfl (by rw [bcs_length, L1.out]; kernel_rfl))
        | (exact soft_load rfl (Chg.refl [] _) _ _ rfl _ _ rfl _ _ (show wx.rangeAt gP 64 (bcs D5) from by obtain ⟨j, _, hi⟩ := hi; obtain ⟨v', F', i1, i2, i3, i4, i5, i6, i7, i8⟩ := hi; exact (hfP.out wx i5).2) Try.underlying32 rfl (by rw [bcs_length, L5.out]; kernel_rfl))
        | (exact soft_load rfl (Chg.refl [] _) _ _ rfl _ _ rfl _ _ (show wx.rangeAt q 0 (bcs D1) from by obtain ⟨j, _, hi⟩ := hi; obtain ⟨v', F', i1, i2, i3, i4, i5, i6, i7, i8⟩ := hi; exact (hfL.out wx i4).1) Try.underlying32 rfl (by rw [bcs_length, L1.out]; kernel_rfl))
        | (exact soft_load rfl (Chg.refl [] _) _ _ rfl _ _ rfl _ _ (show wx.rangeAt q 128 (bcs D5) from by obtain ⟨j, _, hi⟩ := hi; obtain ⟨v', F', i1, i2, i3, i4, i5, i6, i7, i8⟩ := hi; exact (hfL.out wx i4).2) Try.underlying32 rfl (by rw [bcs_length, L5.out]; kernel_rfl))
        | (exact soft_load rfl (Chg.refl [] _) _ _ rfl _ _ rfl _ _ (show wx.rangeAt r4 0 (bcs T1) from by obtain ⟨j, _, hi⟩ := hi; obtain ⟨v', F', i1, i2, i3, i4, i5, i6, i7, i8⟩ := hi; have := ra_block i6; simpa using this) Try.underlying32 rfl (by rw [bcs_length, hT32]; kernel_rfl))
        | (exact soft_load rfl (Chg.refl [] _) _ _ rfl _ _ rfl _ _ (show wx.rangeAt r8 0 (bcs T1) from by obtain ⟨j, _, hi⟩ := hi; obtain ⟨v', F', i1, i2, i3, i4, i5, i6, i7, i8⟩ := hi; have := ra_block i7; simpa using this) Try.underlying32 rfl (by rw [bcs_length, hT32]; kernel_rfl))
        | (exact soft_load rfl (Chg.refl [] _) _ _ rfl _ _ rfl _ _ (show wx.rangeAt r10 0 (bcs T0) from by obtain ⟨j, _, hi⟩ := hi; obtain ⟨v', F', i1, i2, i3, i4, i5, i6, i7, i8⟩ := hi; have := ra_block i8; simpa using this) Try.underlying32 rfl (by rw [bcs_length, hT032]; kernel_rfl))
        | (exact soft_skip rfl)
    · intro V wx hi hd
      simp [phi, Region.binds, cst] at hd
      try simp only [hd]
      first
        | (refine soft_const rfl ?_; go_simp; done)
        | (refine soft_const rfl ?_; go_simp; exact rfl)
        | (exact soft_load rfl (Chg.refl [] _) _ _ rfl _ _ rfl _ _ (show wx.rangeAt gP 0 (bcs D1) from by obtain ⟨j, _, hi⟩ := hi; obtain ⟨v', F', i1, i2, i3, i4, i5, i6, i7, i8⟩ := hi; exact (hfP.out wx i5).1) Try.underlying32 rfl (by rw [bcs_length, L1.out]; kernel_rfl))
        | (exact soft_load rfl (Chg.refl [] _) _ _ rfl _ _ rfl _ _ (show wx.rangeAt gP 64 (bcs D5) from by obtain ⟨j, _, hi⟩ := hi; obtain ⟨v', F', i1, i2, i3, i4, i5, i6, i7, i8⟩ := hi; exact (hfP.out wx i5).2) Try.underlying32 rfl (by rw [bcs_length, L5.out]; kernel_rfl))
        | (exact soft_load rfl (Chg.refl [] _) _ _ rfl _ _ rfl _ _ (show wx.rangeAt q 0 (bcs D1) from by obtain ⟨j, _, hi⟩ := hi; obtain ⟨v', F', i1, i2, i3, i4, i5, i6, i7, i8⟩ := hi; exact (hfL.out wx i4).1) Try.underlying32 rfl (by rw [bcs_length, L1.out]; kernel_rfl))
        | (exact soft_load rfl (Chg.refl [] _) _ _ rfl _ _ rfl _ _ (show wx.rangeAt q 128 (bcs D5) from by obtain ⟨j, _, hi⟩ := hi; obtain ⟨v', F', i1, i2, i3, i4, i5, i6, i7, i8⟩ := hi; exact (hfL.out wx i4).2) Try.underlying32 rfl (by rw [bcs_length, L5.out]; kernel_rfl))
        | (exact soft_load rfl (Chg.refl [] _) _ _ rfl _ _ rfl _ _ (show wx.rangeAt r4 0 (bcs T1) from by obtain ⟨j, _, hi⟩ := hi; obtain ⟨v', F', i1, i2, i3, i4, i5, i6, i7, i8⟩ := hi; have := ra_block i6; simpa using this) Try.underlying32 rfl (by rw [bcs_length, hT32]; kernel_rfl))
        | (exact soft_load rfl (Chg.refl [] _) _ _ rfl _ _ rfl _ _ (show wx.rangeAt r8 0 (bcs T1) from by obtain ⟨j, _, hi⟩ := hi; obtain ⟨v', F', i1, i2, i3, i4, i5, i6, i7, i8⟩ := hi; have := ra_block i7; simpa using this) Try.underlying32 rfl (by rw [bcs_length, hT32]; kernel_rfl))
        | (exact soft_load rfl (Chg.refl [] _) _ _ rfl _ _ rfl _ _ (show wx.rangeAt r10 0 (bcs T0) from by obtain ⟨j, _, hi⟩ := hi; obtain ⟨v', F', i1, i2, i3, i4, i5, i6, i7, i8⟩ := hi; have := ra_block i8; simpa using this) Try.underlying32 rfl (by rw [bcs_length, hT032]; kernel_rfl))
        | (exact soft_skip rfl)
    · intro V wx hi hd
      simp [phi, Region.binds, cst] at hd
      try simp only [hd]
      first
        | (refine soft_const rfl ?_; go_simp; done)
        | (refine soft_const rfl ?_; go_simp; exact rfl)
        | (exact soft_load rfl (Chg.refl [] _) _ _ rfl _ _ rfl _ _ (show wx.rangeAt gP 0 (bcs D1) from by obtain ⟨j, _, hi⟩ := hi; obtain ⟨v', F', i1, i2, i3, i4, i5, i6, i7, i8⟩ := hi; exact (hfP.out wx i5).1) Try.underlying32 rfl (by rw [bcs_length, L1.out]; kernel_rfl))
        | (exact soft_load rfl (Chg.refl [] _) _ _ rfl _ _ rfl _ _ (show wx.rangeAt gP 64 (bcs D5) from by obtain ⟨j, _, hi⟩ := hi; obtain ⟨v', F', i1, i2, i3, i4, i5, i6, i7, i8⟩ := hi; exact (hfP.out wx i5).2) Try.underlying32 rfl (by rw [bcs_length, L5.out]; kernel_rfl))
        | (exact soft_load rfl (Chg.refl [] _) _ _ rfl _ _ rfl _ _ (show wx.rangeAt q 0 (bcs D1) from by obtain ⟨j, _, hi⟩ := hi; obtain ⟨v', F', i1, i2, i3, i4, i5, i6, i7, i8⟩ := hi; exact (hfL.out wx i4).1) Try.underlying32 rfl (by rw [bcs_length, L1.out]; kernel_rfl))
        | (exact soft_load rfl (Chg.refl [] _) _ _ rfl _ _ rfl _ _ (show wx.rangeAt q 128 (bcs D5) from by obtain ⟨j, _, hi⟩ := hi; obtain ⟨v', F', i1, i2, i3, i4, i5, i6, i7, i8⟩ := hi; exact (hfL.out wx i4).2) Try.underlying32 rfl (by rw [bcs_length, L5.out]; kernel_rfl))
        | (exact soft_load rfl (Chg.refl [] _) _ _ rfl _ _ rfl _ _ (show wx.rangeAt r4 0 (bcs T1) from by obtain ⟨j, _, hi⟩ := hi; obtain ⟨v', F', i1, i2, i3, i4, i5, i6, i7, i8⟩ := hi; have := ra_block i6; simpa using this) Try.underlying32 rfl (by rw [bcs_length, hT32]; kernel_rfl))
        | (exact soft_load rfl (Chg.refl [] _) _ _ rfl _ _ rfl _ _ (show wx.rangeAt r8 0 (bcs T1) from by obtain ⟨j, _, hi⟩ := hi; obtain ⟨v', F', i1, i2, i3, i4, i5, i6, i7, i8⟩ := hi; have := ra_block i7; simpa using this) Try.underlying32 rfl (by rw [bcs_length, hT32]; kernel_rfl))
        | (exact soft_load rfl (Chg.refl [] _) _ _ rfl _ _ rfl _ _ (show wx.rangeAt r10 0 (bcs T0) from by obtain ⟨j, _, hi⟩ := hi; obtain ⟨v', F', i1, i2, i3, i4, i5, i6, i7, i8⟩ := hi; have := ra_block i8; simpa using this) Try.underlying32 rfl (by rw [bcs_length, hT032]; kernel_rfl))
        | (exact soft_skip rfl)
    · intro V wx hi hd
      simp [phi, Region.binds, cst] at hd
      try simp only [hd]
      first
        | (refine soft_const rfl ?_; go_simp; done)
        | (refine soft_const rfl ?_; go_simp; exact rfl)
        | (exact soft_load rfl (Chg.refl [] _) _ _ rfl _ _ rfl _ _ (show wx.rangeAt gP 0 (bcs D1) from by obtain ⟨j, _, hi⟩ := hi; obtain ⟨v', F', i1, i2, i3, i4, i5, i6, i7, i8⟩ := hi; exact (hfP.out wx i5).1) Try.underlying32 rfl (by rw [bcs_length, L1.out]; kernel_rfl))
        | (exact soft_load rfl (Chg.refl [] _) _ _ rfl _ _ rfl _ _ (show wx.rangeAt gP 64 (bcs D5) from by obtain ⟨j, _, hi⟩ := hi; obtain ⟨v', F', i1, i2, i3, i4, i5, i6, i7, i8⟩ := hi; exact (hfP.out wx i5).2) Try.underlying32 rfl (by rw [bcs_length, L5.out]; kernel_rfl))
        | (exact soft_load rfl (Chg.refl [] _) _ _ rfl _ _ rfl _ _ (show wx.rangeAt q 0 (bcs D1) from by obtain ⟨j, _, hi⟩ := hi; obtain ⟨v', F', i1, i2, i3, i4, i5, i6, i7, i8⟩ := hi; exact (hfL.out wx i4).1) Try.underlying32 rfl (by rw [bcs_length, L1.out]; kernel_rfl))
        | (exact soft_load rfl (Chg.refl [] _) _ _ rfl _ _ rfl _ _ (show wx.rangeAt q 128 (bcs D5) from by obtain ⟨j, _, hi⟩ := hi; obtain ⟨v', F', i1, i2, i3, i4, i5, i6, i7, i8⟩ := hi; exact (hfL.out wx i4).2) Try.underlying32 rfl (by rw [bcs_length, L5.out]; kernel_rfl))
        | (exact soft_load rfl (Chg.refl [] _) _ _ rfl _ _ rfl _ _ (show wx.rangeAt r4 0 (bcs T1) from by obtain ⟨j, _, hi⟩ := hi; obtain ⟨v', F', i1, i2, i3, i4, i5, i6, i7, i8⟩ := hi; have := ra_block i6; simpa using this) Try.underlying32 rfl (by rw [bcs_length, hT32]; kernel_rfl))
        | (exact soft_load rfl (Chg.refl [] _) _ _ rfl _ _ rfl _ _ (show wx.rangeAt r8 0 (bcs T1) from by obtain ⟨j, _, hi⟩ := hi; obtain ⟨v', F', i1, i2, i3, i4, i5, i6, i7, i8⟩ := hi; have := ra_block i7; simpa using this) Try.underlying32 rfl (by rw [bcs_length, hT32]; kernel_rfl))
        | (exact soft_load rfl (Chg.refl [] _) _ _ rfl _ _ rfl _ _ (show wx.rangeAt r10 0 (bcs T0) from by obtain ⟨j, _, hi⟩ := hi; obtain ⟨v', F', i1, i2, i3, i4, i5, i6, i7, i8⟩ := hi; have := ra_block i8; simpa using this) Try.underlying32 rfl (by rw [bcs_length, hT032]; kernel_rfl))
        | (exact soft_skip rfl)
    · intro V wx hi hd
      simp [phi, Region.binds, cst] at hd
      try simp only [hd]
      first
        | (refine soft_const rfl ?_; go_simp; done)
        | (refine soft_const rfl ?_; go_simp; exact rfl)
        | (exact soft_load rfl (Chg.refl [] _) _ _ rfl _ _ rfl _ _ (show wx.rangeAt gP 0 (bcs D1) from by obtain ⟨j, _, hi⟩ := hi; obtain ⟨v', F', i1, i2, i3, i4, i5, i6, i7, i8⟩ := hi; exact (hfP.out wx i5).1) Try.underlying32 rfl (by rw [bcs_length, L1.out]; kernel_rfl))
        | (exact soft_load rfl (Chg.refl [] _) _ _ rfl _ _ rfl _ _ (show wx.rangeAt gP 64 (bcs D5) from by obtain ⟨j, _, hi⟩ := hi; obtain ⟨v', F', i1, i2, i3, i4, i5, i6, i7, i8⟩ := hi; exact (hfP.out wx i5).2) Try.underlying32 rfl (by rw [bcs_length, L5.out]; kernel_rfl))
        | (exact soft_load rfl (Chg.refl [] _) _ _ rfl _ _ rfl _ _ (show wx.rangeAt q 0 (bcs D1) from by obtain ⟨j, _, hi⟩ := hi; obtain ⟨v', F', i1, i2, i3, i4, i5, i6, i7, i8⟩ := hi; exact (hfL.out wx i4).1) Try.underlying32 rfl (by rw [bcs_length, L1.out]; kernel_rfl))
        | (exact soft_load rfl (Chg.refl [] _) _ _ rfl _ _ rfl _ _ (show wx.rangeAt q 128 (bcs D5) from by obtain ⟨j, _, hi⟩ := hi; obtain ⟨v', F', i1, i2, i3, i4, i5, i6, i7, i8⟩ := hi; exact (hfL.out wx i4).2) Try.underlying32 rfl (by rw [bcs_length, L5.out]; kernel_rfl))
        | (exact soft_load rfl (Chg.refl [] _) _ _ rfl _ _ rfl _ _ (show wx.rangeAt r4 0 (bcs T1) from by obtain ⟨j, _, hi⟩ := hi; obtain ⟨v', F', i1, i2, i3, i4, i5, i6, i7, i8⟩ := hi; have := ra_block i6; simpa using this) Try.underlying32 rfl (by rw [bcs_length, hT32]; kernel_rfl))
        | (exact soft_load rfl (Chg.refl [] _) _ _ rfl _ _ rfl _ _ (show wx.rangeAt r8 0 (bcs T1) from by obtain ⟨j, _, hi⟩ := hi; obtain ⟨v', F', i1, i2, i3, i4, i5, i6, i7, i8⟩ := hi; have := ra_block i7; simpa using this) Try.underlying32 rfl (by rw [bcs_length, hT32]; kernel_rfl))
        | (exact soft_load rfl (Chg.refl [] _) _ _ rfl _ _ rfl _ _ (show wx.rangeAt r10 0 (bcs T0) from by obtain ⟨j, _, hi⟩ := hi; obtain ⟨v', F', i1, i2, i3, i4, i5, i6, i7, i8⟩ := hi; have := ra_block i8; simpa using this) Try.underlying32 rfl (by rw [bcs_length, hT032]; kernel_rfl))
        | (exact soft_skip rfl)
    · intro V wx hi hd
      simp [phi, Region.binds, cst] at hd
      try simp only [hd]
      first
        | (refine soft_const rfl ?_; go_simp; done)
        | (refine soft_const rfl ?_; go_simp; exact rfl)
        | (exact soft_load rfl (Chg.refl [] _) _ _ rfl _ _ rfl _ _ (show wx.rangeAt gP 0 (bcs D1) from by obtain ⟨j, _, hi⟩ := hi; obtain ⟨v', F', i1, i2, i3, i4, i5, i6, i7, i8⟩ := hi; exact (hfP.out wx i5).1) Try.underlying32 rfl (by rw [bcs_length, L1.out]; kernel_rfl))
        | (exact soft_load rfl (Chg.refl [] _) _ _ rfl _ _ rfl _ _ (show wx.rangeAt gP 64 (bcs D5) from by obtain ⟨j, _, hi⟩ := hi; obtain ⟨v', F', i1, i2, i3, i4, i5, i6, i7, i8⟩ := hi; exact (hfP.out wx i5).2) Try.underlying32 rfl (by rw [bcs_length, L5.out]; kernel_rfl))
        | (exact soft_load rfl (Chg.refl [] _) _ _ rfl _ _ rfl _ _ (show wx.rangeAt q 0 (bcs D1) from by obtain ⟨j, _, hi⟩ := hi; obtain ⟨v', F', i1, i2, i3, i4, i5, i6, i7, i8⟩ := hi; exact (hfL.out wx i4).1) Try.underlying32 rfl (by rw [bcs_length, L1.out]; kernel_rfl))
        | (exact soft_load rfl (Chg.refl [] _) _ _ rfl _ _ rfl _ _ (show wx.rangeAt q 128 (bcs D5) from by obtain ⟨j, _, hi⟩ := hi; obtain ⟨v', F', i1, i2, i3, i4, i5, i6, i7, i8⟩ := hi; exact (hfL.out wx i4).2) Try.underlying32 rfl (by rw [bcs_length, L5.out]; kernel_rfl))
        | (exact soft_load rfl (Chg.refl [] _) _ _ rfl _ _ rfl _ _ (show wx.rangeAt r4 0 (bcs T1) from by obtain ⟨j, _, hi⟩ := hi; obtain ⟨v', F', i1, i2, i3, i4, i5, i6, i7, i8⟩ := hi; have := ra_block i6; simpa using this) Try.underlying32 rfl (by rw [bcs_length, hT32]; kernel_rfl))
        | (exact soft_load rfl (Chg.refl [] _) _ _ rfl _ _ rfl _ _ (show wx.rangeAt r8 0 (bcs T1) from by obtain ⟨j, _, hi⟩ := hi; obtain ⟨v', F', i1, i2, i3, i4, i5, i6, i7, i8⟩ := hi; have := ra_block i7; simpa using this) Try.underlying32 rfl (by rw [bcs_length, hT32]; kernel_rfl))
        | (exact soft_load rfl (Chg.refl [] _) _ _ rfl _ _ rfl _ _ (show wx.rangeAt r10 0 (bcs T0) from by obtain ⟨j, _, hi⟩ := hi; obtain ⟨v', F', i1, i2, i3, i4, i5, i6, i7, i8⟩ := hi; have := ra_block i8; simpa using this) Try.underlying32 rfl (by rw [bcs_length, hT032]; kernel_rfl))
        | (exact soft_skip rfl)
    · intro V wx hi hd
      simp [phi, Region.binds, cst] at hd
      try simp only [hd]
      first
        | (refine soft_const rfl ?_; go_simp; done)
        | (refine soft_const rfl ?_; go_simp; exact rfl)
        | (exact soft_load rfl (Chg.refl [] _) _ _ rfl _ _ rfl _ _ (show wx.rangeAt gP 0 (bcs D1) from by obtain ⟨j, _, hi⟩ := hi; obtain ⟨v', F', i1, i2, i3, i4, i5, i6, i7, i8⟩ := hi; exact (hfP.out wx i5).1) Try.underlying32 rfl (by rw [bcs_length, L1.out]; kernel_rfl))
        | (exact soft_load rfl (Chg.refl [] _) _ _ rfl _ _ rfl _ _ (show wx.rangeAt gP 64 (bcs D5) from by obtain ⟨j, _, hi⟩ := hi; obtain ⟨v', F', i1, i2, i3, i4, i5, i6, i7, i8⟩ := hi; exact (hfP.out wx i5).2) Try.underlying32 rfl (by rw [bcs_length, L5.out]; kernel_rfl))
        | (exact soft_load rfl (Chg.refl [] _) _ _ rfl _ _ rfl _ _ (show wx.rangeAt q 0 (bcs D1) from by obtain ⟨j, _, hi⟩ := hi; obtain ⟨v', F', i1, i2, i3, i4, i5, i6, i7, i8⟩ := hi; exact (hfL.out wx i4).1) Try.underlying32 rfl (by rw [bcs_length, L1.out]; kernel_rfl))
        | (exact soft_load rfl (Chg.refl [] _) _ _ rfl _ _ rfl _ _ (show wx.rangeAt q 128 (bcs D5) from by obtain ⟨j, _, hi⟩ := hi; obtain ⟨v', F', i1, i2, i3, i4, i5, i6, i7, i8⟩ := hi; exact (hfL.out wx i4).2) Try.underlying32 rfl (by rw [bcs_length, L5.out]; kernel_rfl))
        | (exact soft_load rfl (Chg.refl [] _) _ _ rfl _ _ rfl _ _ (show wx.rangeAt r4 0 (bcs T1) from by obtain ⟨j, _, hi⟩ := hi; obtain ⟨v', F', i1, i2, i3, i4, i5, i6, i7, i8⟩ := hi; have := ra_block i6; simpa using this) Try.underlying32 rfl (by rw [bcs_length, hT32]; kernel_rfl))
        | (exact soft_load rfl (Chg.refl [] _) _ _ rfl _ _ rfl _ _ (show wx.rangeAt r8 0 (bcs T1) from by obtain ⟨j, _, hi⟩ := hi; obtain ⟨v', F', i1, i2, i3, i4, i5, i6, i7, i8⟩ := hi; have := ra_block i7; simpa using this) Try.underlying32 rfl (by rw [bcs_length, hT32]; kernel_rfl))
        | (exact soft_load rfl (Chg.refl [] _) _ _ rfl _ _ rfl _ _ (show wx.rangeAt r10 0 (bcs T0) from by obtain ⟨j, _, hi⟩ := hi; obtain ⟨v', F', i1, i2, i3, i4, i5, i6, i7, i8⟩ := hi; have := ra_block i8; simpa using this) Try.underlying32 rfl (by rw [bcs_length, hT032]; kernel_rfl))
        | (exact soft_skip rfl)
    · intro V wx hi hd
      simp [phi, Region.binds, cst] at hd
      try simp only [hd]
      first
        | (refine soft_const rfl ?_; go_simp; done)
        | (refine soft_const rfl ?_; go_simp; exact rfl)
        | (exact soft_load rfl (Chg.refl [] _) _ _ rfl _ _ rfl _ _ (show wx.rangeAt gP 0 (bcs D1) from by obtain ⟨j, _, hi⟩ := hi; obtain ⟨v', F', i1, i2, i3, i4, i5, i6, i7, i8⟩ := hi; exact (hfP.out wx i5).1) Try.underlying32 rfl (by rw [bcs_length, L1.out]; kernel_rfl))
        | (exact soft_load rfl (Chg.refl [] _) _ _ rfl _ _ rfl _ _ (show wx.rangeAt gP 64 (bcs D5) from by obtain ⟨j, _, hi⟩ := hi; obtain ⟨v', F', i1, i2, i3, i4, i5, i6, i7, i8⟩ := hi; exact (hfP.out wx i5).2) Try.underlying32 rfl (by rw [bcs_length, L5.out]; kernel_rfl))
        | (exact soft_load rfl (Chg.refl [] _) _ _ rfl _ _ rfl _ _ (show wx.rangeAt q 0 (bcs D1) from by obtain ⟨j, _, hi⟩ := hi; obtain ⟨v', F', i1, i2, i3, i4, i5, i6, i7, i8⟩ := hi; exact (hfL.out wx i4).1) Try.underlying32 rfl (by rw [bcs_length, L1.out]; kernel_rfl))
        | (exact soft_load rfl (Chg.refl [] _) _ _ rfl _ _ rfl _ _ (show wx.rangeAt q 128 (bcs D5) from by obtain ⟨j, _, hi⟩ := hi; obtain ⟨v', F', i1, i2, i3, i4, i5, i6, i7, i8⟩ := hi; exact (hfL.out wx i4).2) Try.underlying32 rfl (by rw [bcs_length, L5.out]; kernel_rfl))
        | (exact soft_load rfl (Chg.refl [] _) _ _ rfl _ _ rfl _ _ (show wx.rangeAt r4 0 (bcs T1) from by obtain ⟨j, _, hi⟩ := hi; obtain ⟨v', F', i1, i2, i3, i4, i5, i6, i7, i8⟩ := hi; have := ra_block i6; simpa using this) Try.underlying32 rfl (by rw [bcs_length, hT32]; kernel_rfl))
        | (exact soft_load rfl (Chg.refl [] _) _ _ rfl _ _ rfl _ _ (show wx.rangeAt r8 0 (bcs T1) from by obtain ⟨j, _, hi⟩ := hi; obtain ⟨v', F', i1, i2, i3, i4, i5, i6, i7, i8⟩ := hi; have := ra_block i7; simpa using this) Try.underlying32 rfl (by rw [bcs_length, hT32]; kernel_rfl))
        | (exact soft_load rfl (Chg.refl [] _) _ _ rfl _ _ rfl _ _ (show wx.rangeAt r10 0 (bcs T0) from by obtain ⟨j, _, hi⟩ := hi; obtain ⟨v', F', i1, i2, i3, i4, i5, i6, i7, i8⟩ := hi; have := ra_block i8; simpa using this) Try.underlying32 rfl (by rw [bcs_length, hT032]; kernel_rfl))
        | (exact soft_skip rfl)
    · intro V wx hi hd
      simp [phi, Region.binds, cst] at hd
      try simp only [hd]
      first
        | (refine soft_const rfl ?_; go_simp; done)
        | (refine soft_const rfl ?_; go_simp; exact rfl)
        | (exact soft_load rfl (Chg.refl [] _) _ _ rfl _ _ rfl _ _ (show wx.rangeAt gP 0 (bcs D1) from by obtain ⟨j, _, hi⟩ := hi; obtain ⟨v', F', i1, i2, i3, i4, i5, i6, i7, i8⟩ := hi; exact (hfP.out wx i5).1) Try.underlying32 rfl (by rw [bcs_length, L1.out]; kernel_rfl))
        | (exact soft_load rfl (Chg.refl [] _) _ _ rfl _ _ rfl _ _ (show wx.rangeAt gP 64 (bcs D5) from by obtain ⟨j, _, hi⟩ := hi; obtain ⟨v', F', i1, i2, i3, i4, i5, i6, i7, i8⟩ := hi; exact (hfP.out wx i5).2) Try.underlying32 rfl (by rw [bcs_length, L5.out]; kernel_rfl))
        | (exact soft_load rfl (Chg.refl [] _) _ _ rfl _ _ rfl _ _ (show wx.rangeAt q 0 (bcs D1) from by obtain ⟨j, _, hi⟩ := hi; obtain ⟨v', F', i1, i2, i3, i4, i5, i6, i7, i8⟩ := hi; exact (hfL.out wx i4).1) Try.underlying32 rfl (by rw [bcs_length, L1.out]; kernel_rfl))
        | (exact soft_load rfl (Chg.refl [] _) _ _ rfl _ _ rfl _ _ (show wx.rangeAt q 128 (bcs D5) from by obtain ⟨j, _, hi⟩ := hi; obtain ⟨v', F', i1, i2, i3, i4, i5, i6, i7, i8⟩ := hi; exact (hfL.out wx i4).2) Try.underlying32 rfl (by rw [bcs_length, L5.out]; kernel_rfl))
        | (exact soft_load rfl (Chg.refl [] _) _ _ rfl _ _ rfl _ _ (show wx.rangeAt r4 0 (bcs T1) from by obtain ⟨j, _, hi⟩ := hi; obtain ⟨v', F', i1, i2, i3, i4, i5, i6, i7, i8⟩ := hi; have := ra_block i6; simpa using this) Try.underlying32 rfl (by rw [bcs_length, hT32]; kernel_rfl))
        | (exact soft_load rfl (Chg.refl [] _) _ _ rfl _ _ rfl _ _ (show wx.rangeAt r8 0 (bcs T1) from by obtain ⟨j, _, hi⟩ := hi; obtain ⟨v', F', i1, i2, i3, i4, i5, i6, i7, i8⟩ := hi; have := ra_block i7; simpa using this) Try.underlying32 rfl (by rw [bcs_length, hT32]; kernel_rfl))
        | (exact soft_load rfl (Chg.refl [] _) _ _ rfl _ _ rfl _ _ (show wx.rangeAt r10 0 (bcs T0) from by obtain ⟨j, _, hi⟩ := hi; obtain ⟨v', F', i1, i2, i3, i4, i5, i6, i7, i8⟩ := hi; have := ra_block i8; simpa using this) Try.underlying32 rfl (by rw [bcs_length, hT032]; kernel_rfl))
        | (exact soft_skip rfl)
    · intro V wx hi hd
      simp [phi, Region.binds, cst] at hd
      try simp only [hd]
      first
        | (refine soft_const rfl ?_; go_simp; done)
        | (refine soft_const rfl ?_; go_simp; exact rfl)
        | (exact soft_load rfl (Chg.refl [] _) _ _ rfl _ _ rfl _ _ (show wx.rangeAt gP 0 (bcs D1) from by obtain ⟨j, _, hi⟩ := hi; obtain ⟨v', F', i1, i2, i3, i4, i5, i6, i7, i8⟩ := hi; exact (hfP.out wx i5).1) Try.underlying32 rfl (by rw [bcs_length, L1.out]; kernel_rfl))
        | (exact soft_load rfl (Chg.refl [] _) _ _ rfl _ _ rfl _ _ (show wx.rangeAt gP 64 (bcs D5) from by obtain ⟨j, _, hi⟩ := hi; obtain ⟨v', F', i1, i2, i3, i4, i5, i6, i7, i8⟩ := hi; exact (hfP.out wx i5).2) Try.underlying32 rfl (by rw [bcs_length, L5.out]; kernel_rfl))
        | (exact soft_load rfl (Chg.refl [] _) _ _ rfl _ _ rfl _ _ (show wx.rangeAt q 0 (bcs D1) from by obtain ⟨j, _, hi⟩ := hi; obtain ⟨v', F', i1, i2, i3, i4, i5, i6, i7, i8⟩ := hi; exact (hfL.out wx i4).1) Try.underlying32 rfl (by rw [bcs_length, L1.out]; kernel_rfl))
        | (exact soft_load rfl (Chg.refl [] _) _ _ rfl _ _ rfl _ _ (show wx.rangeAt q 128 (bcs D5) from by obtain ⟨j, _, hi⟩ := hi; obtain ⟨v', F', i1, i2, i3, i4, i5, i6, i7, i8⟩ := hi; exact (hfL.out wx i4).2) Try.underlying32 rfl (by rw [bcs_length, L5.out]; kernel_rfl))
        | (exact soft_load rfl (Chg.refl [] _) _ _ rfl _ _ rfl _ _ (show wx.rangeAt r4 0 (bcs T1) from by obtain ⟨j, _, hi⟩ := hi; obtain ⟨v', F', i1, i2, i3, i4, i5, i6, i7, i8⟩ := hi; have := ra_block i6; simpa using this) Try.underlying32 rfl (by rw [bcs_length, hT32]; kernel_rfl))
        | (exact soft_load rfl (Chg.refl [] _) _ _ rfl _ _ rfl _ _ (show wx.rangeAt r8 0 (bcs T1) from by obtain ⟨j, _, hi⟩ := hi; obtain ⟨v', F', i1, i2, i3, i4, i5, i6, i7, i8⟩ := hi; have := ra_block i7; simpa using this) Try.underlying32 rfl (by rw [bcs_length, hT32]; kernel_rfl))
        | (exact soft_load rfl (Chg.refl [] _) _ _ rfl _ _ rfl _ _ (show wx.rangeAt r10 0 (bcs T0) from by obtain ⟨j, _, hi⟩ := hi; obtain ⟨v', F', i1, i2, i3, i4, i5, i6, i7, i8⟩ := hi; have := ra_block i8; simpa using this) Try.underlying32 rfl (by rw [bcs_length, hT032]; kernel_rfl))
        | (exact soft_skip rfl)
    · intro V wx hi hd
      simp [phi, Region.binds, cst] at hd
      try simp only [hd]
      first
        | (refine soft_const rfl ?_; go_simp; done)
        | (refine soft_const rfl ?_; go_simp; exact rfl)
        | (exact soft_load rfl (Chg.refl [] _) _ _ rfl _ _ rfl _ _ (show wx.rangeAt gP 0 (bcs D1) from by obtain ⟨j, _, hi⟩ := hi; obtain ⟨v', F', i1, i2, i3, i4, i5, i6, i7, i8⟩ := hi; exact (hfP.out wx i5).1) Try.underlying32 rfl (by rw [bcs_length, L1.out]; kernel_rfl))
        | (exact soft_load rfl (Chg.refl [] _) _ _ rfl _ _ rfl _ _ (show wx.rangeAt gP 64 (bcs D5) from by obtain ⟨j, _, hi⟩ := hi; obtain ⟨v', F', i1, i2, i3, i4, i5, i6, i7, i8⟩ := hi; exact (hfP.out wx i5).2) Try.underlying32 rfl (by rw [bcs_length, L5.out]; kernel_rfl))
        | (exact soft_load rfl (Chg.refl [] _) _ _ rfl _ _ rfl _ _ (show wx.rangeAt q 0 (bcs D1) from by obtain ⟨j, _, hi⟩ := hi; obtain ⟨v', F', i1, i2, i3, i4, i5, i6, i7, i8⟩ := hi; exact (hfL.out wx i4).1) Try.underlying32 rfl (by rw [bcs_length, L1.out]; kernel_rfl))
        | (exact soft_load rfl (Chg.refl [] _) _ _ rfl _ _ rfl _ _ (show wx.rangeAt q 128 (bcs D5) from by obtain ⟨j, _, hi⟩ := hi; obtain ⟨v', F', i1, i2, i3, i4, i5, i6, i7, i8⟩ := hi; exact (hfL.out wx i4).2) Try.underlying32 rfl (by rw [bcs_length, L5.out]; kernel_rfl))
        | (exact soft_load rfl (Chg.refl [] _) _ _ rfl _ _ rfl _ _ (show wx.rangeAt r4 0 (bcs T1) from by obtain ⟨j, _, hi⟩ := hi; obtain ⟨v', F', i1, i2, i3, i4, i5, i6, i7, i8⟩ := hi; have := ra_block i6; simpa using this) Try.underlying32 rfl (by rw [bcs_length, hT32]; kernel_rfl))
        | (exact soft_load rfl (Chg.refl [] _) _ _ rfl _ _ rfl _ _ (show wx.rangeAt r8 0 (bcs T1) from by obtain ⟨j, _, hi⟩ := hi; obtain ⟨v', F', i1, i2, i3, i4, i5, i6, i7, i8⟩ := hi; have := ra_block i7; simpa using this) Try.underlying32 rfl (by rw [bcs_length, hT32]; kernel_rfl))
        | (exact soft_load rfl (Chg.refl [] _) _ _ rfl _ _ rfl _ _ (show wx.rangeAt r10 0 (bcs T0) from by obtain ⟨j, _, hi⟩ := hi; obtain ⟨v', F', i1, i2, i3, i4, i5, i6, i7, i8⟩ := hi; have := ra_block i8; simpa using this) Try.underlying32 rfl (by rw [bcs_length, hT032]; kernel_rfl))
        | (exact soft_skip rfl)
    · intro V wx hi hd
      simp [phi, Region.binds, cst] at hd
      try simp only [hd]
      first
        | (refine soft_const rfl ?_; go_simp; done)
        | (refine soft_const rfl ?_; go_simp; exact rfl)
        | (exact soft_load rfl (Chg.refl [] _) _ _ rfl _ _ rfl _ _ (show wx.rangeAt gP 0 (bcs D1) from by obtain ⟨j, _, hi⟩ := hi; obtain ⟨v', F', i1, i2, i3, i4, i5, i6, i7, i8⟩ := hi; exact (hfP.out wx i5).1) Try.underlying32 rfl (by rw [bcs_length, L1.out]; kernel_rfl))
        | (exact soft_load rfl (Chg.refl [] _) _ _ rfl _ _ rfl _ _ (show wx.rangeAt gP 64 (bcs D5) from by obtain ⟨j, _, hi⟩ := hi; obtain ⟨v', F', i1, i2, i3, i4, i5, i6, i7, i8⟩ := hi; exact (hfP.out wx i5).2) Try.underlying32 rfl (by rw [bcs_length, L5.out]; kernel_rfl))
        | (exact soft_load rfl (Chg.refl [] _) _ _ rfl _ _ rfl _ _ (show wx.rangeAt q 0 (bcs D1) from by obtain ⟨j, _, hi⟩ := hi; obtain ⟨v', F', i1, i2, i3, i4, i5, i6, i7, i8⟩ := hi; exact (hfL.out wx i4).1) Try.underlying32 rfl (by rw [bcs_length, L1.out]; kernel_rfl))
        | (exact soft_load rfl (Chg.refl [] _) _ _ rfl _ _ rfl _ _ (show wx.rangeAt q 128 (bcs D5) from by obtain ⟨j, _, hi⟩ := hi; obtain ⟨v', F', i1, i2, i3, i4, i5, i6, i7, i8⟩ := hi; exact (hfL.out wx i4).2) Try.underlying32 rfl (by rw [bcs_length, L5.out]; kernel_rfl))
        | (exact soft_load rfl (Chg.refl [] _) _ _ rfl _ _ rfl _ _ (show wx.rangeAt r4 0 (bcs T1) from by obtain ⟨j, _, hi⟩ := hi; obtain ⟨v', F', i1, i2, i3, i4, i5, i6, i7, i8⟩ := hi; have := ra_block i6; simpa using this) Try.underlying32 rfl (by rw [bcs_length, hT32]; kernel_rfl))
        | (exact soft_load rfl (Chg.refl [] _) _ _ rfl _ _ rfl _ _ (show wx.rangeAt r8 0 (bcs T1) from by obtain ⟨j, _, hi⟩ := hi; obtain ⟨v', F', i1, i2, i3, i4, i5, i6, i7, i8⟩ := hi; have := ra_block i7; simpa using this) Try.underlying32 rfl (by rw [bcs_length, hT32]; kernel_rfl))
        | (exact soft_load rfl (Chg.refl [] _) _ _ rfl _ _ rfl _ _ (show wx.rangeAt r10 0 (bcs T0) from by obtain ⟨j, _, hi⟩ := hi; obtain ⟨v', F', i1, i2, i3, i4, i5, i6, i7, i8⟩ := hi; have := ra_block i8; simpa using this) Try.underlying32 rfl (by rw [bcs_length, hT032]; kernel_rfl))
        | (exact soft_skip rfl)
    · intro V wx hi hd
      simp [phi, Region.binds, cst] at hd
      try simp only [hd]
      first
        | (refine soft_const rfl ?_; go_simp; done)
        | (refine soft_const rfl ?_; go_simp; exact rfl)
        | (exact soft_load rfl (Chg.refl [] _) _ _ rfl _ _ rfl _ _ (show wx.rangeAt gP 0 (bcs D1) from by obtain ⟨j, _, hi⟩ := hi; obtain ⟨v', F', i1, i2, i3, i4, i5, i6, i7, i8⟩ := hi; exact (hfP.out wx i5).1) Try.underlying32 rfl (by rw [bcs_length, L1.out]; kernel_rfl))
        | (exact soft_load rfl (Chg.refl [] _) _ _ rfl _ _ rfl _ _ (show wx.rangeAt gP 64 (bcs D5) from by obtain ⟨j, _, hi⟩ := hi; obtain ⟨v', F', i1, i2, i3, i4, i5, i6, i7, i8⟩ := hi; exact (hfP.out wx i5).2) Try.underlying32 rfl (by rw [bcs_length, L5.out]; kernel_rfl))
        | (exact soft_load rfl (Chg.refl [] _) _ _ rfl _ _ rfl _ _ (show wx.rangeAt q 0 (bcs D1) from by obtain ⟨j, _, hi⟩ := hi; obtain ⟨v', F', i1, i2, i3, i4, i5, i6, i7, i8⟩ := hi; exact (hfL.out wx i4).1) Try.underlying32 rfl (by rw [bcs_length, L1.out]; kernel_rfl))
        | (exact soft_load rfl (Chg.refl [] _) _ _ rfl _ _ rfl _ _ (show wx.rangeAt q 128 (bcs D5) from by obtain ⟨j, _, hi⟩ := hi; obtain ⟨v', F', i1, i2, i3, i4, i5, i6, i7, i8⟩ := hi; exact (hfL.out wx i4).2) Try.underlying32 rfl (by rw [bcs_length, L5.out]; kernel_rfl))
        | (exact soft_load rfl (Chg.refl [] _) _ _ rfl _ _ rfl _ _ (show wx.rangeAt r4 0 (bcs T1) from by obtain ⟨j, _, hi⟩ := hi; obtain ⟨v', F', i1, i2, i3, i4, i5, i6, i7, i8⟩ := hi; have := ra_block i6; simpa using this) Try.underlying32 rfl (by rw [bcs_length, hT32]; kernel_rfl))
        | (exact soft_load rfl (Chg.refl [] _) _ _ rfl _ _ rfl _ _ (show wx.rangeAt r8 0 (bcs T1) from by obtain ⟨j, _, hi⟩ := hi; obtain ⟨v', F', i1, i2, i3, i4, i5, i6, i7, i8⟩ := hi; have := ra_block i7; simpa using this) Try.underlying32 rfl (by rw [bcs_length, hT32]; kernel_rfl))
        | (exact soft_load rfl (Chg.refl [] _) _ _ rfl _ _ rfl _ _ (show wx.rangeAt r10 0 (bcs T0) from by obtain ⟨j, _, hi⟩ := hi; obtain ⟨v', F', i1, i2, i3, i4, i5, i6, i7, i8⟩ := hi; have := ra_block i8; simpa using this) Try.underlying32 rfl (by rw [bcs_length, hT032]; kernel_rfl))
        | (exact soft_skip rfl)
    · intro V wx hi hd
      simp [phi, Region.binds, cst] at hd
      try simp only [hd]
      obtain ⟨v', F', i1, i2, i3, i4, i5, i6, i7, i8⟩ := hi
      have hdq := Dg.ofHeap i4 five_32 (n := 5) rfl (by decide)
      have kk := root_run 5 five rfl wx p p v' F' i1 (Nat.le_of_lt i1.lt) (by have h5 : five.length = 5 := rfl; simp at i2; omega) _ hdq (fun k hk => by
        obtain ⟨_, hk2⟩ := vblk_slice.1 hk
        simp at hk2
        subst hk2
        exact i1.apartD (u := .bool true) i4)
      rw [← hT1.out] at kk
      refine wstep_call rfl _ _ (by go_simp; try exact ⟨rfl, rfl⟩) (kk.mono ?_)
      rintro e w' ⟨rfl, v8', F8', l8', hF8', g8', sn8'⟩
      have ty := i1.types (t := 32) (by decide) (by decide)
      exact ⟨_, rfl, trivial, ⟨v8', F8', l8', by have := len_log hF8'; have h9 := hT1l; have h10 := hT0l; simp at i2 ⊢; omega, i1.chg i3 (by have := hp.out; omega) (by have := hp.out; omega) g8', heap_type i4 g8' ty, own_types i5 g8' ty, heap_type i6 g8' ty, heap_type i7 g8' ty, heap_type i8 g8' ty⟩, rfl⟩
    · intro V wx hi hd
      simp [phi, Region.binds, cst] at hd
      try simp only [hd]
      refine wstep_ofSoft (F := cst (.bool true)) (by first | (refine soft_const rfl ?_; go_simp; done) | (refine soft_const rfl ?_; go_simp; exact rfl)) (fun v w' g hv => ?_)
      obtain ⟨v', F', i1, i2, i3, i4, i5, i6, i7, i8⟩ := hi
      exact ⟨trivial, ⟨v', F', i1.tr0 g, by omega, i3.t0 g, g.heap i4 (by simp), own_tr i5 g (by simp), g.heap i6 (by simp), g.heap i7 (by simp), g.heap i8 (by simp)⟩, hv⟩
    · intro V wx hi hd
      simp [phi, Region.binds, cst] at hd
      try simp only [hd]
      refine wstep_ofSoft (F := cst (.bool true)) (by first | (refine soft_const rfl ?_; go_simp; done) | (refine soft_const rfl ?_; go_simp; exact rfl)) (fun v w' g hv => ?_)
      obtain ⟨v', F', i1, i2, i3, i4, i5, i6, i7, i8⟩ := hi
      exact ⟨trivial, ⟨v', F', i1.tr0 g, by omega, i3.t0 g, g.heap i4 (by simp), own_tr i5 g (by simp), g.heap i6 (by simp), g.heap i7 (by simp), g.heap i8 (by simp)⟩, hv⟩
    · intro V wx hi hd
      simp [phi, Region.binds, cst] at hd
      try simp only [hd]
      refine wstep_ofSoft (F := cst (.bool true)) (by first | (refine soft_const rfl ?_; go_simp; done) | (refine soft_const rfl ?_; go_simp; exact rfl)) (fun v w' g hv => ?_)
      obtain ⟨v', F', i1, i2, i3, i4, i5, i6, i7, i8⟩ := hi
      exact ⟨trivial, ⟨v', F', i1.tr0 g, by omega, i3.t0 g, g.heap i4 (by simp), own_tr i5 g (by simp), g.heap i6 (by simp), g.heap i7 (by simp), g.heap i8 (by simp)⟩, hv⟩
    · intro V wx hi hd
      simp [phi, Region.binds, cst] at hd
      try simp only [hd]
      first
        | (refine soft_const rfl ?_; go_simp; done)
        | (refine soft_const rfl ?_; go_simp; exact rfl)
        | (exact soft_load rfl (Chg.refl [] _) _ _ rfl _ _ rfl _ _ (show wx.rangeAt gP 0 (bcs D1) from by obtain ⟨j, _, hi⟩ := hi; obtain ⟨v', F', i1, i2, i3, i4, i5, i6, i7, i8⟩ := hi; exact (hfP.out wx i5).1) Try.underlying32 rfl (by rw [bcs_length, L1.out]; kernel_rfl))
        | (exact soft_load rfl (Chg.refl [] _) _ _ rfl _ _ rfl _ _ (show wx.rangeAt gP 64 (bcs D5) from by obtain ⟨j, _, hi⟩ := hi; obtain ⟨v', F', i1, i2, i3, i4, i5, i6, i7, i8⟩ := hi; exact (hfP.out wx i5).2) Try.underlying32 rfl (by rw [bcs_length, L5.out]; kernel_rfl))
        | (exact soft_load rfl (Chg.refl [] _) _ _ rfl _ _ rfl _ _ (show wx.rangeAt q 0 (bcs D1) from by obtain ⟨j, _, hi⟩ := hi; obtain ⟨v', F', i1, i2, i3, i4, i5, i6, i7, i8⟩ := hi; exact (hfL.out wx i4).1) Try.underlying32 rfl (by rw [bcs_length, L1.out]; kernel_rfl))
        | (exact soft_load rfl (Chg.refl [] _) _ _ rfl _ _ rfl _ _ (show wx.rangeAt q 128 (bcs D5) from by obtain ⟨j, _, hi⟩ := hi; obtain ⟨v', F', i1, i2, i3, i4, i5, i6, i7, i8⟩ := hi; exact (hfL.out wx i4).2) Try.underlying32 rfl (by rw [bcs_length, L5.out]; kernel_rfl))
        | (exact soft_load rfl (Chg.refl [] _) _ _ rfl _ _ rfl _ _ (show wx.rangeAt r4 0 (bcs T1) from by obtain ⟨j, _, hi⟩ := hi; obtain ⟨v', F', i1, i2, i3, i4, i5, i6, i7, i8⟩ := hi; have := ra_block i6; simpa using this) Try.underlying32 rfl (by rw [bcs_length, hT32]; kernel_rfl))
        | (exact soft_load rfl (Chg.refl [] _) _ _ rfl _ _ rfl _ _ (show wx.rangeAt r8 0 (bcs T1) from by obtain ⟨j, _, hi⟩ := hi; obtain ⟨v', F', i1, i2, i3, i4, i5, i6, i7, i8⟩ := hi; have := ra_block i7; simpa using this) Try.underlying32 rfl (by rw [bcs_length, hT32]; kernel_rfl))
        | (exact soft_load rfl (Chg.refl [] _) _ _ rfl _ _ rfl _ _ (show wx.rangeAt r10 0 (bcs T0) from by obtain ⟨j, _, hi⟩ := hi; obtain ⟨v', F', i1, i2, i3, i4, i5, i6, i7, i8⟩ := hi; have := ra_block i8; simpa using this) Try.underlying32 rfl (by rw [bcs_length, hT032]; kernel_rfl))
        | (exact soft_skip rfl)
    · intro V wx hi hd
      simp [phi, Region.binds, cst] at hd
      try simp only [hd]
      first
        | (refine soft_const rfl ?_; go_simp; done)
        | (refine soft_const rfl ?_; go_simp; exact rfl)
        | (exact soft_load rfl (Chg.refl [] _) _ _ rfl _ _ rfl _ _ (show wx.rangeAt gP 0 (bcs D1) from by obtain ⟨j, _, hi⟩ := hi; obtain ⟨v', F', i1, i2, i3, i4, i5, i6, i7, i8⟩ := hi; exact (hfP.out wx i5).1) Try.underlying32 rfl (by rw [bcs_length, L1.out]; kernel_rfl))
        | (exact soft_load rfl (Chg.refl [] _) _ _ rfl _ _ rfl _ _ (show wx.rangeAt gP 64 (bcs D5) from by obtain ⟨j, _, hi⟩ := hi; obtain ⟨v', F', i1, i2, i3, i4, i5, i6, i7, i8⟩ := hi; exact (hfP.out wx i5).2) Try.underlying32 rfl (by rw [bcs_length, L5.out]; kernel_rfl))
        | (exact soft_load rfl (Chg.refl [] _) _ _ rfl _ _ rfl _ _ (show wx.rangeAt q 0 (bcs D1) from by obtain ⟨j, _, hi⟩ := hi; obtain ⟨v', F', i1, i2, i3, i4, i5, i6, i7, i8⟩ := hi; exact (hfL.out wx i4).1) Try.underlying32 rfl (by rw [bcs_length, L1.out]; kernel_rfl))
        | (exact soft_load rfl (Chg.refl [] _) _ _ rfl _ _ rfl _ _ (show wx.rangeAt q 128 (bcs D5) from by obtain ⟨j, _, hi⟩ := hi; obtain ⟨v', F', i1, i2, i3, i4, i5, i6, i7, i8⟩ := hi; exact (hfL.out wx i4).2) Try.underlying32 rfl (by rw [bcs_length, L5.out]; kernel_rfl))
        | (exact soft_load rfl (Chg.refl [] _) _ _ rfl _ _ rfl _ _ (show wx.rangeAt r4 0 (bcs T1) from by obtain ⟨j, _, hi⟩ := hi; obtain ⟨v', F', i1, i2, i3, i4, i5, i6, i7, i8⟩ := hi; have := ra_block i6; simpa using this) Try.underlying32 rfl (by rw [bcs_length, hT32]; kernel_rfl))
        | (exact soft_load rfl (Chg.refl [] _) _ _ rfl _ _ rfl _ _ (show wx.rangeAt r8 0 (bcs T1) from by obtain ⟨j, _, hi⟩ := hi; obtain ⟨v', F', i1, i2, i3, i4, i5, i6, i7, i8⟩ := hi; have := ra_block i7; simpa using this) Try.underlying32 rfl (by rw [bcs_length, hT32]; kernel_rfl))
        | (exact soft_load rfl (Chg.refl [] _) _ _ rfl _ _ rfl _ _ (show wx.rangeAt r10 0 (bcs T0) from by obtain ⟨j, _, hi⟩ := hi; obtain ⟨v', F', i1, i2, i3, i4, i5, i6, i7, i8⟩ := hi; have := ra_block i8; simpa using this) Try.underlying32 rfl (by rw [bcs_length, hT032]; kernel_rfl))
        | (exact soft_skip rfl)
    · intro V wx hi hd
      simp [phi, Region.binds, cst] at hd
      try simp only [hd]
      refine wstep_ofSoft (F := cst (.bool true)) (by first | (refine soft_const rfl ?_; go_simp; done) | (refine soft_const rfl ?_; go_simp; exact rfl)) (fun v w' g hv => ?_)
      obtain ⟨v', F', i1, i2, i3, i4, i5, i6, i7, i8⟩ := hi
      exact ⟨trivial, ⟨v', F', i1.tr0 g, by omega, i3.t0 g, g.heap i4 (by simp), own_tr i5 g (by simp), g.heap i6 (by simp), g.heap i7 (by simp), g.heap i8 (by simp)⟩, hv⟩
    · intro V wx hi hd
      simp [phi, Region.binds, cst] at hd
      try simp only [hd]
      refine wstep_ofSoft (F := cst (.bool true)) (by first | (refine soft_const rfl ?_; go_simp; done) | (refine soft_const rfl ?_; go_simp; exact rfl)) (fun v w' g hv => ?_)
      obtain ⟨v', F', i1, i2, i3, i4, i5, i6, i7, i8⟩ := hi
      exact ⟨trivial, ⟨v', F', i1.tr0 g, by omega, i3.t0 g, g.heap i4 (by simp), own_tr i5 g (by simp), g.heap i6 (by simp), g.heap i7 (by simp), g.heap i8 (by simp)⟩, hv⟩
    · intro V wx hi hd
      simp [phi, Region.binds, cst] at hd
      try simp only [hd]
      first
        | (refine soft_const rfl ?_; go_simp; done)
        | (refine soft_const rfl ?_; go_simp; exact rfl)
        | (exact soft_load rfl (Chg.refl [] _) _ _ rfl _ _ rfl _ _ (show wx.rangeAt gP 0 (bcs D1) from by obtain ⟨j, _, hi⟩ := hi; obtain ⟨v', F', i1, i2, i3, i4, i5, i6, i7, i8⟩ := hi; exact (hfP.out wx i5).1) Try.underlying32 rfl (by rw [bcs_length, L1.out]; kernel_rfl))
        | (exact soft_load rfl (Chg.refl [] _) _ _ rfl _ _ rfl _ _ (show wx.rangeAt gP 64 (bcs D5) from by obtain ⟨j, _, hi⟩ := hi; obtain ⟨v', F', i1, i2, i3, i4, i5, i6, i7, i8⟩ := hi; exact (hfP.out wx i5).2) Try.underlying32 rfl (by rw [bcs_length, L5.out]; kernel_rfl))
        | (exact soft_load rfl (Chg.refl [] _) _ _ rfl _ _ rfl _ _ (show wx.rangeAt q 0 (bcs D1) from by obtain ⟨j, _, hi⟩ := hi; obtain ⟨v', F', i1, i2, i3, i4, i5, i6, i7, i8⟩ := hi; exact (hfL.out wx i4).1) Try.underlying32 rfl (by rw [bcs_length, L1.out]; kernel_rfl))
        | (exact soft_load rfl (Chg.refl [] _) _ _ rfl _ _ rfl _ _ (show wx.rangeAt q 128 (bcs D5) from by obtain ⟨j, _, hi⟩ := hi; obtain ⟨v', F', i1, i2, i3, i4, i5, i6, i7, i8⟩ := hi; exact (hfL.out wx i4).2) Try.underlying32 rfl (by rw [bcs_length, L5.out]; kernel_rfl))
        | (exact soft_load rfl (Chg.refl [] _) _ _ rfl _ _ rfl _ _ (show wx.rangeAt r4 0 (bcs T1) from by obtain ⟨j, _, hi⟩ := hi; obtain ⟨v', F', i1, i2, i3, i4, i5, i6, i7, i8⟩ := hi; have := ra_block i6; simpa using this) Try.underlying32 rfl (by rw [bcs_length, hT32]; kernel_rfl))
        | (exact soft_load rfl (Chg.refl [] _) _ _ rfl _ _ rfl _ _ (show wx.rangeAt r8 0 (bcs T1) from by obtain ⟨j, _, hi⟩ := hi; obtain ⟨v', F', i1, i2, i3, i4, i5, i6, i7, i8⟩ := hi; have := ra_block i7; simpa using this) Try.underlying32 rfl (by rw [bcs_length, hT32]; kernel_rfl))
        | (exact soft_load rfl (Chg.refl [] _) _ _ rfl _ _ rfl _ _ (show wx.rangeAt r10 0 (bcs T0) from by obtain ⟨j, _, hi⟩ := hi; obtain ⟨v', F', i1, i2, i3, i4, i5, i6, i7, i8⟩ := hi; have := ra_block i8; simpa using this) Try.underlying32 rfl (by rw [bcs_length, hT032]; kernel_rfl))
        | (exact soft_skip rfl)
    · intro V wx hi hd
      simp [phi, Region.binds, cst] at hd
      try simp only [hd]
      refine wstep_ofSoft (F := cst (.bool true)) (by first | (refine soft_const rfl ?_; go_simp; done) | (refine soft_const rfl ?_; go_simp; exact rfl)) (fun v w' g hv => ?_)
      obtain ⟨v', F', i1, i2, i3, i4, i5, i6, i7, i8⟩ := hi
      exact ⟨trivial, ⟨v', F', i1.tr0 g, by omega, i3.t0 g, g.heap i4 (by simp), own_tr i5 g (by simp), g.heap i6 (by simp), g.heap i7 (by simp), g.heap i8 (by simp)⟩, hv⟩
    · intro V wx hi hd
      simp [phi, Region.binds, cst] at hd
      try simp only [hd]
      refine wstep_ofSoft (F := cst (.bool true)) (by first | (refine soft_const rfl ?_; go_simp; done) | (refine soft_const rfl ?_; go_simp; exact rfl)) (fun v w' g hv => ?_)
      obtain ⟨v', F', i1, i2, i3, i4, i5, i6, i7, i8⟩ := hi
      exact ⟨trivial, ⟨v', F', i1.tr0 g, by omega, i3.t0 g, g.heap i4 (by simp), own_tr i5 g (by simp), g.heap i6 (by simp), g.heap i7 (by simp), g.heap i8 (by simp)⟩, hv⟩
    · intro V wx hi hd
      simp [phi, Region.binds, cst] at hd
      try simp only [hd]
      first
        | (refine soft_const rfl ?_; go_simp; done)
        | (refine soft_const rfl ?_; go_simp; exact rfl)
        | (exact soft_load rfl (Chg.refl [] _) _ _ rfl _ _ rfl _ _ (show wx.rangeAt gP 0 (bcs D1) from by obtain ⟨j, _, hi⟩ := hi; obtain ⟨v', F', i1, i2, i3, i4, i5, i6, i7, i8⟩ := hi; exact (hfP.out wx i5).1) Try.underlying32 rfl (by rw [bcs_length, L1.out]; kernel_rfl))
        | (exact soft_load rfl (Chg.refl [] _) _ _ rfl _ _ rfl _ _ (show wx.rangeAt gP 64 (bcs D5) from by obtain ⟨j, _, hi⟩ := hi; obtain ⟨v', F', i1, i2, i3, i4, i5, i6, i7, i8⟩ := hi; exact (hfP.out wx i5).2) Try.underlying32 rfl (by rw [bcs_length, L5.out]; kernel_rfl))
        | (exact soft_load rfl (Chg.refl [] _) _ _ rfl _ _ rfl _ _ (show wx.rangeAt q 0 (bcs D1) from by obtain ⟨j, _, hi⟩ := hi; obtain ⟨v', F', i1, i2, i3, i4, i5, i6, i7, i8⟩ := hi; exact (hfL.out wx i4).1) Try.underlying32 rfl (by rw [bcs_length, L1.out]; kernel_rfl))
        | (exact soft_load rfl (Chg.refl [] _) _ _ rfl _ _ rfl _ _ (show wx.rangeAt q 128 (bcs D5) from by obtain ⟨j, _, hi⟩ := hi; obtain ⟨v', F', i1, i2, i3, i4, i5, i6, i7, i8⟩ := hi; exact (hfL.out wx i4).2) Try.underlying32 rfl (by rw [bcs_length, L5.out]; kernel_rfl))
        | (exact soft_load rfl (Chg.refl [] _) _ _ rfl _ _ rfl _ _ (show wx.rangeAt r4 0 (bcs T1) from by obtain ⟨j, _, hi⟩ := hi; obtain ⟨v', F', i1, i2, i3, i4, i5, i6, i7, i8⟩ := hi; have := ra_block i6; simpa using this) Try.underlying32 rfl (by rw [bcs_length, hT32]; kernel_rfl))
        | (exact soft_load rfl (Chg.refl [] _) _ _ rfl _ _ rfl _ _ (show wx.rangeAt r8 0 (bcs T1) from by obtain ⟨j, _, hi⟩ := hi; obtain ⟨v', F', i1, i2, i3, i4, i5, i6, i7, i8⟩ := hi; have := ra_block i7; simpa using this) Try.underlying32 rfl (by rw [bcs_length, hT32]; kernel_rfl))
        | (exact soft_load rfl (Chg.refl [] _) _ _ rfl _ _ rfl _ _ (show wx.rangeAt r10 0 (bcs T0) from by obtain ⟨j, _, hi⟩ := hi; obtain ⟨v', F', i1, i2, i3, i4, i5, i6, i7, i8⟩ := hi; have := ra_block i8; simpa using this) Try.underlying32 rfl (by rw [bcs_length, hT032]; kernel_rfl))
        | (exact soft_skip rfl)
    · intro V wx hi hd
      simp [phi, Region.binds, cst] at hd
      try simp only [hd]
      first
        | (refine soft_const rfl ?_; go_simp; done)
        | (refine soft_const rfl ?_; go_simp; exact rfl)
        | (exact soft_load rfl (Chg.refl [] _) _ _ rfl _ _ rfl _ _ (show wx.rangeAt gP 0 (bcs D1) from by obtain ⟨j, _, hi⟩ := hi; obtain ⟨v', F', i1, i2, i3, i4, i5, i6, i7, i8⟩ := hi; exact (hfP.out wx i5).1) Try.underlying32 rfl (by rw [bcs_length, L1.out]; kernel_rfl))
        | (exact soft_load rfl (Chg.refl [] _) _ _ rfl _ _ rfl _ _ (show wx.rangeAt gP 64 (bcs D5) from by obtain ⟨j, _, hi⟩ := hi; obtain ⟨v', F', i1, i2, i3, i4, i5, i6, i7, i8⟩ := hi; exact (hfP.out wx i5).2) Try.underlying32 rfl (by rw [bcs_length, L5.out]; kernel_rfl))
        | (exact soft_load rfl (Chg.refl [] _) _ _ rfl _ _ rfl _ _ (show wx.rangeAt q 0 (bcs D1) from by obtain ⟨j, _, hi⟩ := hi; obtain ⟨v', F', i1, i2, i3, i4, i5, i6, i7, i8⟩ := hi; exact (hfL.out wx i4).1) Try.underlying32 rfl (by rw [bcs_length, L1.out]; kernel_rfl))
        | (exact soft_load rfl (Chg.refl [] _) _ _ rfl _ _ rfl _ _ (show wx.rangeAt q 128 (bcs D5) from by obtain ⟨j, _, hi⟩ := hi; obtain ⟨v', F', i1, i2, i3, i4, i5, i6, i7, i8⟩ := hi; exact (hfL.out wx i4).2) Try.underlying32 rfl (by rw [bcs_length, L5.out]; kernel_rfl))
        | (exact soft_load rfl (Chg.refl [] _) _ _ rfl _ _ rfl _ _ (show wx.rangeAt r4 0 (bcs T1) from by obtain ⟨j, _, hi⟩ := hi; obtain ⟨v', F', i1, i2, i3, i4, i5, i6, i7, i8⟩ := hi; have := ra_block i6; simpa using this) Try.underlying32 rfl (by rw [bcs_length, hT32]; kernel_rfl))
        | (exact soft_load rfl (Chg.refl [] _) _ _ rfl _ _ rfl _ _ (show wx.rangeAt r8 0 (bcs T1) from by obtain ⟨j, _, hi⟩ := hi; obtain ⟨v', F', i1, i2, i3, i4, i5, i6, i7, i8⟩ := hi; have := ra_block i7; simpa using this) Try.underlying32 rfl (by rw [bcs_length, hT32]; kernel_rfl))
        | (exact soft_load rfl (Chg.refl [] _) _ _ rfl _ _ rfl _ _ (show wx.rangeAt r10 0 (bcs T0) from by obtain ⟨j, _, hi⟩ := hi; obtain ⟨v', F', i1, i2, i3, i4, i5, i6, i7, i8⟩ := hi; have := ra_block i8; simpa using this) Try.underlying32 rfl (by rw [bcs_length, hT032]; kernel_rfl))
        | (exact soft_skip rfl)
    · intro V wx hi hd
      simp [phi, Region.binds, cst] at hd
      try simp only [hd]
      first
        | (refine soft_const rfl ?_; go_simp; done)
        | (refine soft_const rfl ?_; go_simp; exact rfl)
        | (exact soft_load rfl (Chg.refl [] _) _ _ rfl _ _ rfl _ _ (show wx.rangeAt gP 0 (bcs D1) from by obtain ⟨j, _, hi⟩ := hi; obtain ⟨v', F', i1, i2, i3, i4, i5, i6, i7, i8⟩ := hi; exact (hfP.out wx i5).1) Try.underlying32 rfl (by rw [bcs_length, L1.out]; kernel_rfl))
        | (exact soft_load rfl (Chg.refl [] _) _ _ rfl _ _ rfl _ _ (show wx.rangeAt gP 64 (bcs D5) from by obtain ⟨j, _, hi⟩ := hi; obtain ⟨v', F', i1, i2, i3, i4, i5, i6, i7, i8⟩ := hi; exact (hfP.out wx i5).2) Try.underlying32 rfl (by rw [bcs_length, L5.out]; kernel_rfl))
        | (exact soft_load rfl (Chg.refl [] _) _ _ rfl _ _ rfl _ _ (show wx.rangeAt q 0 (bcs D1) from by obtain ⟨j, _, hi⟩ := hi; obtain ⟨v', F', i1, i2, i3, i4, i5, i6, i7, i8⟩ := hi; exact (hfL.out wx i4).1) Try.underlying32 rfl (by rw [bcs_length, L1.out]; kernel_rfl))
        | (exact soft_load rfl (Chg.refl [] _) _ _ rfl _ _ rfl _ _ (show wx.rangeAt q 128 (bcs D5) from by obtain ⟨j, _, hi⟩ := hi; obtain ⟨v', F', i1, i2, i3, i4, i5, i6, i7, i8⟩ := hi; exact (hfL.out wx i4).2) Try.underlying32 rfl (by rw [bcs_length, L5.out]; kernel_rfl))
        | (exact soft_load rfl (Chg.refl [] _) _ _ rfl _ _ rfl _ _ (show wx.rangeAt r4 0 (bcs T1) from by obtain ⟨j, _, hi⟩ := hi; obtain ⟨v', F', i1, i2, i3, i4, i5, i6, i7, i8⟩ := hi; have := ra_block i6; simpa using this) Try.underlying32 rfl (by rw [bcs_length, hT32]; kernel_rfl))
        | (exact soft_load rfl (Chg.refl [] _) _ _ rfl _ _ rfl _ _ (show wx.rangeAt r8 0 (bcs T1) from by obtain ⟨j, _, hi⟩ := hi; obtain ⟨v', F', i1, i2, i3, i4, i5, i6, i7, i8⟩ := hi; have := ra_block i7; simpa using this) Try.underlying32 rfl (by rw [bcs_length, hT32]; kernel_rfl))
        | (exact soft_load rfl (Chg.refl [] _) _ _ rfl _ _ rfl _ _ (show wx.rangeAt r10 0 (bcs T0) from by obtain ⟨j, _, hi⟩ := hi; obtain ⟨v', F', i1, i2, i3, i4, i5, i6, i7, i8⟩ := hi; have := ra_block i8; simpa using this) Try.underlying32 rfl (by rw [bcs_length, hT032]; kernel_rfl))
        | (exact soft_skip rfl)
    · intro V wx hi hd
      simp [phi, Region.binds, cst] at hd
      try simp only [hd]
      refine wstep_ofSoft (F := cst (.bool true)) (by first | (refine soft_const rfl ?_; go_simp; done) | (refine soft_const rfl ?_; go_simp; exact rfl)) (fun v w' g hv => ?_)
      obtain ⟨v', F', i1, i2, i3, i4, i5, i6, i7, i8⟩ := hi
      exact ⟨trivial, ⟨v', F', i1.tr0 g, by omega, i3.t0 g, g.heap i4 (by simp), own_tr i5 g (by simp), g.heap i6 (by simp), g.heap i7 (by simp), g.heap i8 (by simp)⟩, hv⟩
    · intro V wx hi hd
      simp [phi, Region.binds, cst] at hd
      try simp only [hd]
      refine wstep_ofSoft (F := cst (.bool true)) (by first | (refine soft_const rfl ?_; go_simp; done) | (refine soft_const rfl ?_; go_simp; exact rfl)) (fun v w' g hv => ?_)
      obtain ⟨v', F', i1, i2, i3, i4, i5, i6, i7, i8⟩ := hi
      exact ⟨trivial, ⟨v', F', i1.tr0 g, by omega, i3.t0 g, g.heap i4 (by simp), own_tr i5 g (by simp), g.heap i6 (by simp), g.heap i7 (by simp), g.heap i8 (by simp)⟩, hv⟩
    · intro V wx hi hd
      simp [phi, Region.binds, cst] at hd
      try simp only [hd]
      first
        | (refine soft_const rfl ?_; go_simp; done)
        | (refine soft_const rfl ?_; go_simp; exact rfl)
        | (exact soft_load rfl (Chg.refl [] _) _ _ rfl _ _ rfl _ _ (show wx.rangeAt gP 0 (bcs D1) from by obtain ⟨j, _, hi⟩ := hi; obtain ⟨v', F', i1, i2, i3, i4, i5, i6, i7, i8⟩ := hi; exact (hfP.out wx i5).1) Try.underlying32 rfl (by rw [bcs_length, L1.out]; kernel_rfl))
        | (exact soft_load rfl (Chg.refl [] _) _ _ rfl _ _ rfl _ _ (show wx.rangeAt gP 64 (bcs D5) from by obtain ⟨j, _, hi⟩ := hi; obtain ⟨v', F', i1, i2, i3, i4, i5, i6, i7, i8⟩ := hi; exact (hfP.out wx i5).2) Try.underlying32 rfl (by rw [bcs_length, L5.out]; kernel_rfl))
        | (exact soft_load rfl (Chg.refl [] _) _ _ rfl _ _ rfl _ _ (show wx.rangeAt q 0 (bcs D1) from by obtain ⟨j, _, hi⟩ := hi; obtain ⟨v', F', i1, i2, i3, i4, i5, i6, i7, i8⟩ := hi; exact (hfL.out wx i4).1) Try.underlying32 rfl (by rw [bcs_length, L1.out]; kernel_rfl))
        | (exact soft_load rfl (Chg.refl [] _) _ _ rfl _ _ rfl _ _ (show wx.rangeAt q 128 (bcs D5) from by obtain ⟨j, _, hi⟩ := hi; obtain ⟨v', F', i1, i2, i3, i4, i5, i6, i7, i8⟩ := hi; exact (hfL.out wx i4).2) Try.underlying32 rfl (by rw [bcs_length, L5.out]; kernel_rfl))
        | (exact soft_load rfl (Chg.refl [] _) _ _ rfl _ _ rfl _ _ (show wx.rangeAt r4 0 (bcs T1) from by obtain ⟨j, _, hi⟩ := hi; obtain ⟨v', F', i1, i2, i3, i4, i5, i6, i7, i8⟩ := hi; have := ra_block i6; simpa using this) Try.underlying32 rfl (by rw [bcs_length, hT32]; kernel_rfl))
        | (exact soft_load rfl (Chg.refl [] _) _ _ rfl _ _ rfl _ _ (show wx.rangeAt r8 0 (bcs T1) from by obtain ⟨j, _, hi⟩ := hi; obtain ⟨v', F', i1, i2, i3, i4, i5, i6, i7, i8⟩ := hi; have := ra_block i7; simpa using this) Try.underlying32 rfl (by rw [bcs_length, hT32]; kernel_rfl))
        | (exact soft_load rfl (Chg.refl [] _) _ _ rfl _ _ rfl _ _ (show wx.rangeAt r10 0 (bcs T0) from by obtain ⟨j, _, hi⟩ := hi; obtain ⟨v', F', i1, i2, i3, i4, i5, i6, i7, i8⟩ := hi; have := ra_block i8; simpa using this) Try.underlying32 rfl (by rw [bcs_length, hT032]; kernel_rfl))
        | (exact soft_skip rfl)
    · intro V wx hi hd
      simp [phi, Region.binds, cst] at hd
      try simp only [hd]
      refine wstep_ofSoft (F := cst (.bool true)) (by first | (refine soft_const rfl ?_; go_simp; done) | (refine soft_const rfl ?_; go_simp; exact rfl)) (fun v w' g hv => ?_)
      obtain ⟨v', F', i1, i2, i3, i4, i5, i6, i7, i8⟩ := hi
      exact ⟨trivial, ⟨v', F', i1.tr0 g, by omega, i3.t0 g, g.heap i4 (by simp), own_tr i5 g (by simp), g.heap i6 (by simp), g.heap i7 (by simp), g.heap i8 (by simp)⟩, hv⟩
    · intro V wx hi hd
      simp [phi, Region.binds, cst] at hd
      try simp only [hd]
      refine wstep_ofSoft (F := cst (.bool true)) (by first | (refine soft_const rfl ?_; go_simp; done) | (refine soft_const rfl ?_; go_simp; exact rfl)) (fun v w' g hv => ?_)
      obtain ⟨v', F', i1, i2, i3, i4, i5, i6, i7, i8⟩ := hi
      exact ⟨trivial, ⟨v', F', i1.tr0 g, by omega, i3.t0 g, g.heap i4 (by simp), own_tr i5 g (by simp), g.heap i6 (by simp), g.heap i7 (by simp), g.heap i8 (by simp)⟩, hv⟩
    · intro V wx hi hd
      simp [phi, Region.binds, cst] at hd
      try simp only [hd]
      first
        | (refine soft_const rfl ?_; go_simp; done)
        | (refine soft_const rfl ?_; go_simp; exact rfl)
        | (exact soft_load rfl (Chg.refl [] _) _ _ rfl _ _ rfl _ _ (show wx.rangeAt gP 0 (bcs D1) from by obtain ⟨j, _, hi⟩ := hi; obtain ⟨v', F', i1, i2, i3, i4, i5, i6, i7, i8⟩ := hi; exact (hfP.out wx i5).1) Try.underlying32 rfl (by rw [bcs_length, L1.out]; kernel_rfl))
        | (exact soft_load rfl (Chg.refl [] _) _ _ rfl _ _ rfl _ _ (show wx.rangeAt gP 64 (bcs D5) from by obtain ⟨j, _, hi⟩ := hi; obtain ⟨v', F', i1, i2, i3, i4, i5, i6, i7, i8⟩ := hi; exact (hfP.out wx i5).2) Try.underlying32 rfl (by rw [bcs_length, L5.out]; kernel_rfl))
        | (exact soft_load rfl (Chg.refl [] _) _ _ rfl _ _ rfl _ _ (show wx.rangeAt q 0 (bcs D1) from by obtain ⟨j, _, hi⟩ := hi; obtain ⟨v', F', i1, i2, i3, i4, i5, i6, i7, i8⟩ := hi; exact (hfL.out wx i4).1) Try.underlying32 rfl (by rw [bcs_length, L1.out]; kernel_rfl))
        | (exact soft_load rfl (Chg.refl [] _) _ _ rfl _ _ rfl _ _ (show wx.rangeAt q 128 (bcs D5) from by obtain ⟨j, _, hi⟩ := hi; obtain ⟨v', F', i1, i2, i3, i4, i5, i6, i7, i8⟩ := hi; exact (hfL.out wx i4).2) Try.underlying32 rfl (by rw [bcs_length, L5.out]; kernel_rfl))
        | (exact soft_load rfl (Chg.refl [] _) _ _ rfl _ _ rfl _ _ (show wx.rangeAt r4 0 (bcs T1) from by obtain ⟨j, _, hi⟩ := hi; obtain ⟨v', F', i1, i2, i3, i4, i5, i6, i7, i8⟩ := hi; have := ra_block i6; simpa using this) Try.underlying32 rfl (by rw [bcs_length, hT32]; kernel_rfl))
        | (exact soft_load rfl (Chg.refl [] _) _ _ rfl _ _ rfl _ _ (show wx.rangeAt r8 0 (bcs T1) from by obtain ⟨j, _, hi⟩ := hi; obtain ⟨v', F', i1, i2, i3, i4, i5, i6, i7, i8⟩ := hi; have := ra_block i7; simpa using this) Try.underlying32 rfl (by rw [bcs_length, hT32]; kernel_rfl))
        | (exact soft_load rfl (Chg.refl [] _) _ _ rfl _ _ rfl _ _ (show wx.rangeAt r10 0 (bcs T0) from by obtain ⟨j, _, hi⟩ := hi; obtain ⟨v', F', i1, i2, i3, i4, i5, i6, i7, i8⟩ := hi; have := ra_block i8; simpa using this) Try.underlying32 rfl (by rw [bcs_length, hT032]; kernel_rfl))
        | (exact soft_skip rfl)
    · intro V wx hi hd
      simp [phi, Region.binds, cst] at hd
      try simp only [hd]
      first
        | (refine soft_const rfl ?_; go_simp; done)
        | (refine soft_const rfl ?_; go_simp; exact rfl)
        | (exact soft_load rfl (Chg.refl [] _) _ _ rfl _ _ rfl _ _ (show wx.rangeAt gP 0 (bcs D1) from by obtain ⟨j, _, hi⟩ := hi; obtain ⟨v', F', i1, i2, i3, i4, i5, i6, i7, i8⟩ := hi; exact (hfP.out wx i5).1) Try.underlying32 rfl (by rw [bcs_length, L1.out]; kernel_rfl))
        | (exact soft_load rfl (Chg.refl [] _) _ _ rfl _ _ rfl _ _ (show wx.rangeAt gP 64 (bcs D5) from by obtain ⟨j, _, hi⟩ := hi; obtain ⟨v', F', i1, i2, i3, i4, i5, i6, i7, i8⟩ := hi; exact (hfP.out wx i5).2) Try.underlying32 rfl (by rw [bcs_length, L5.out]; kernel_rfl))
        | (exact soft_load rfl (Chg.refl [] _) _ _ rfl _ _ rfl _ _ (show wx.rangeAt q 0 (bcs D1) from by obtain ⟨j, _, hi⟩ := hi; obtain ⟨v', F', i1, i2, i3, i4, i5, i6, i7, i8⟩ := hi; exact (hfL.out wx i4).1) Try.underlying32 rfl (by rw [bcs_length, L1.out]; kernel_rfl))
        | (exact soft_load rfl (Chg.refl [] _) _ _ rfl _ _ rfl _ _ (show wx.rangeAt q 128 (bcs D5) from by obtain ⟨j, _, hi⟩ := hi; obtain ⟨v', F', i1, i2, i3, i4, i5, i6, i7, i8⟩ := hi; exact (hfL.out wx i4).2) Try.underlying32 rfl (by rw [bcs_length, L5.out]; kernel_rfl))
        | (exact soft_load rfl (Chg.refl [] _) _ _ rfl _ _ rfl _ _ (show wx.rangeAt r4 0 (bcs T1) from by obtain ⟨j, _, hi⟩ := hi; obtain ⟨v', F', i1, i2, i3, i4, i5, i6, i7, i8⟩ := hi; have := ra_block i6; simpa using this) Try.underlying32 rfl (by rw [bcs_length, hT32]; kernel_rfl))
        | (exact soft_load rfl (Chg.refl [] _) _ _ rfl _ _ rfl _ _ (show wx.rangeAt r8 0 (bcs T1) from by obtain ⟨j, _, hi⟩ := hi; obtain ⟨v', F', i1, i2, i3, i4, i5, i6, i7, i8⟩ := hi; have := ra_block i7; simpa using this) Try.underlying32 rfl (by rw [bcs_length, hT32]; kernel_rfl))
        | (exact soft_load rfl (Chg.refl [] _) _ _ rfl _ _ rfl _ _ (show wx.rangeAt r10 0 (bcs T0) from by obtain ⟨j, _, hi⟩ := hi; obtain ⟨v', F', i1, i2, i3, i4, i5, i6, i7, i8⟩ := hi; have := ra_block i8; simpa using this) Try.underlying32 rfl (by rw [bcs_length, hT032]; kernel_rfl))
        | (exact soft_skip rfl)
    · intro V wx hi hd
      simp [phi, Region.binds, cst] at hd
      try simp only [hd]
      obtain ⟨v', F', i1, i2, i3, i4, i5, i6, i7, i8⟩ := hi
      have kk := root_run 0 [] rfl wx p p v' F' i1 (Nat.le_of_lt i1.lt) (by simp at i2 ⊢; omega) _ (Dg.nil wx) (fun k hk => by simp [vblk] at hk)
      rw [← hT0.out] at kk
      refine wstep_call rfl _ _ (by go_simp; try exact ⟨rfl, rfl⟩) (kk.mono ?_)
      rintro e w' ⟨rfl, v8', F8', l8', hF8', g8', sn8'⟩
      have ty := i1.types (t := 32) (by decide) (by decide)
      exact ⟨_, rfl, trivial, ⟨v8', F8', l8', by have := len_log hF8'; have h9 := hT1l; have h10 := hT0l; simp at i2 ⊢; omega, i1.chg i3 (by have := hp.out; omega) (by have := hp.out; omega) g8', heap_type i4 g8' ty, own_types i5 g8' ty, heap_type i6 g8' ty, heap_type i7 g8' ty, heap_type i8 g8' ty⟩, rfl⟩
    · intro V wx hi hd
      simp [phi, Region.binds, cst] at hd
      try simp only [hd]
      first
        | (refine soft_const rfl ?_; go_simp; done)
        | (refine soft_const rfl ?_; go_simp; exact rfl)
        | (exact soft_load rfl (Chg.refl [] _) _ _ rfl _ _ rfl _ _ (show wx.rangeAt gP 0 (bcs D1) from by obtain ⟨j, _, hi⟩ := hi; obtain ⟨v', F', i1, i2, i3, i4, i5, i6, i7, i8⟩ := hi; exact (hfP.out wx i5).1) Try.underlying32 rfl (by rw [bcs_length, L1.out]; kernel_rfl))
        | (exact soft_load rfl (Chg.refl [] _) _ _ rfl _ _ rfl _ _ (show wx.rangeAt gP 64 (bcs D5) from by obtain ⟨j, _, hi⟩ := hi; obtain ⟨v', F', i1, i2, i3, i4, i5, i6, i7, i8⟩ := hi; exact (hfP.out wx i5).2) Try.underlying32 rfl (by rw [bcs_length, L5.out]; kernel_rfl))
        | (exact soft_load rfl (Chg.refl [] _) _ _ rfl _ _ rfl _ _ (show wx.rangeAt q 0 (bcs D1) from by obtain ⟨j, _, hi⟩ := hi; obtain ⟨v', F', i1, i2, i3, i4, i5, i6, i7, i8⟩ := hi; exact (hfL.out wx i4).1) Try.underlying32 rfl (by rw [bcs_length, L1.out]; kernel_rfl))
        | (exact soft_load rfl (Chg.refl [] _) _ _ rfl _ _ rfl _ _ (show wx.rangeAt q 128 (bcs D5) from by obtain ⟨j, _, hi⟩ := hi; obtain ⟨v', F', i1, i2, i3, i4, i5, i6, i7, i8⟩ := hi; exact (hfL.out wx i4).2) Try.underlying32 rfl (by rw [bcs_length, L5.out]; kernel_rfl))
        | (exact soft_load rfl (Chg.refl [] _) _ _ rfl _ _ rfl _ _ (show wx.rangeAt r4 0 (bcs T1) from by obtain ⟨j, _, hi⟩ := hi; obtain ⟨v', F', i1, i2, i3, i4, i5, i6, i7, i8⟩ := hi; have := ra_block i6; simpa using this) Try.underlying32 rfl (by rw [bcs_length, hT32]; kernel_rfl))
        | (exact soft_load rfl (Chg.refl [] _) _ _ rfl _ _ rfl _ _ (show wx.rangeAt r8 0 (bcs T1) from by obtain ⟨j, _, hi⟩ := hi; obtain ⟨v', F', i1, i2, i3, i4, i5, i6, i7, i8⟩ := hi; have := ra_block i7; simpa using this) Try.underlying32 rfl (by rw [bcs_length, hT32]; kernel_rfl))
        | (exact soft_load rfl (Chg.refl [] _) _ _ rfl _ _ rfl _ _ (show wx.rangeAt r10 0 (bcs T0) from by obtain ⟨j, _, hi⟩ := hi; obtain ⟨v', F', i1, i2, i3, i4, i5, i6, i7, i8⟩ := hi; have := ra_block i8; simpa using this) Try.underlying32 rfl (by rw [bcs_length, hT032]; kernel_rfl))
        | (exact soft_skip rfl)
    · intro V wx hi hd
      simp [phi, Region.binds, cst] at hd
      try simp only [hd]
      first
        | (refine soft_const rfl ?_; go_simp; done)
        | (refine soft_const rfl ?_; go_simp; exact rfl)
        | (exact soft_load rfl (Chg.refl [] _) _ _ rfl _ _ rfl _ _ (show wx.rangeAt gP 0 (bcs D1) from by obtain ⟨j, _, hi⟩ := hi; obtain ⟨v', F', i1, i2, i3, i4, i5, i6, i7, i8⟩ := hi; exact (hfP.out wx i5).1) Try.underlying32 rfl (by rw [bcs_length, L1.out]; kernel_rfl))
        | (exact soft_load rfl (Chg.refl [] _) _ _ rfl _ _ rfl _ _ (show wx.rangeAt gP 64 (bcs D5) from by obtain ⟨j, _, hi⟩ := hi; obtain ⟨v', F', i1, i2, i3, i4, i5, i6, i7, i8⟩ := hi; exact (hfP.out wx i5).2) Try.underlying32 rfl (by rw [bcs_length, L5.out]; kernel_rfl))
        | (exact soft_load rfl (Chg.refl [] _) _ _ rfl _ _ rfl _ _ (show wx.rangeAt q 0 (bcs D1) from by obtain ⟨j, _, hi⟩ := hi; obtain ⟨v', F', i1, i2, i3, i4, i5, i6, i7, i8⟩ := hi; exact (hfL.out wx i4).1) Try.underlying32 rfl (by rw [bcs_length, L1.out]; kernel_rfl))
        | (exact soft_load rfl (Chg.refl [] _) _ _ rfl _ _ rfl _ _ (show wx.rangeAt q 128 (bcs D5) from by obtain ⟨j, _, hi⟩ := hi; obtain ⟨v', F', i1, i2, i3, i4, i5, i6, i7, i8⟩ := hi; exact (hfL.out wx i4).2) Try.underlying32 rfl (by rw [bcs_length, L5.out]; kernel_rfl))
        | (exact soft_load rfl (Chg.refl [] _) _ _ rfl _ _ rfl _ _ (show wx.rangeAt r4 0 (bcs T1) from by obtain ⟨j, _, hi⟩ := hi; obtain ⟨v', F', i1, i2, i3, i4, i5, i6, i7, i8⟩ := hi; have := ra_block i6; simpa using this) Try.underlying32 rfl (by rw [bcs_length, hT32]; kernel_rfl))
        | (exact soft_load rfl (Chg.refl [] _) _ _ rfl _ _ rfl _ _ (show wx.rangeAt r8 0 (bcs T1) from by obtain ⟨j, _, hi⟩ := hi; obtain ⟨v', F', i1, i2, i3, i4, i5, i6, i7, i8⟩ := hi; have := ra_block i7; simpa using this) Try.underlying32 rfl (by rw [bcs_length, hT32]; kernel_rfl))
        | (exact soft_load rfl (Chg.refl [] _) _ _ rfl _ _ rfl _ _ (show wx.rangeAt r10 0 (bcs T0) from by obtain ⟨j, _, hi⟩ := hi; obtain ⟨v', F', i1, i2, i3, i4, i5, i6, i7, i8⟩ := hi; have := ra_block i8; simpa using this) Try.underlying32 rfl (by rw [bcs_length, hT032]; kernel_rfl))
        | (exact soft_skip rfl)
    · intro V wx hi hd
      simp [phi, Region.binds, cst] at hd
      try simp only [hd]
      first
        | (refine soft_const rfl ?_; go_simp; done)
        | (refine soft_const rfl ?_; go_simp; exact rfl)
        | (exact soft_load rfl (Chg.refl [] _) _ _ rfl _ _ rfl _ _ (show wx.rangeAt gP 0 (bcs D1) from by obtain ⟨j, _, hi⟩ := hi; obtain ⟨v', F', i1, i2, i3, i4, i5, i6, i7, i8⟩ := hi; exact (hfP.out wx i5).1) Try.underlying32 rfl (by rw [bcs_length, L1.out]; kernel_rfl))
        | (exact soft_load rfl (Chg.refl [] _) _ _ rfl _ _ rfl _ _ (show wx.rangeAt gP 64 (bcs D5) from by obtain ⟨j, _, hi⟩ := hi; obtain ⟨v', F', i1, i2, i3, i4, i5, i6, i7, i8⟩ := hi; exact (hfP.out wx i5).2) Try.underlying32 rfl (by rw [bcs_length, L5.out]; kernel_rfl))
        | (exact soft_load rfl (Chg.refl [] _) _ _ rfl _ _ rfl _ _ (show wx.rangeAt q 0 (bcs D1) from by obtain ⟨j, _, hi⟩ := hi; obtain ⟨v', F', i1, i2, i3, i4, i5, i6, i7, i8⟩ := hi; exact (hfL.out wx i4).1) Try.underlying32 rfl (by rw [bcs_length, L1.out]; kernel_rfl))
        | (exact soft_load rfl (Chg.refl [] _) _ _ rfl _ _ rfl _ _ (show wx.rangeAt q 128 (bcs D5) from by obtain ⟨j, _, hi⟩ := hi; obtain ⟨v', F', i1, i2, i3, i4, i5, i6, i7, i8⟩ := hi; exact (hfL.out wx i4).2) Try.underlying32 rfl (by rw [bcs_length, L5.out]; kernel_rfl))
        | (exact soft_load rfl (Chg.refl [] _) _ _ rfl _ _ rfl _ _ (show wx.rangeAt r4 0 (bcs T1) from by obtain ⟨j, _, hi⟩ := hi; obtain ⟨v', F', i1, i2, i3, i4, i5, i6, i7, i8⟩ := hi; have := ra_block i6; simpa using this) Try.underlying32 rfl (by rw [bcs_length, hT32]; kernel_rfl))
        | (exact soft_load rfl (Chg.refl [] _) _ _ rfl _ _ rfl _ _ (show wx.rangeAt r8 0 (bcs T1) from by obtain ⟨j, _, hi⟩ := hi; obtain ⟨v', F', i1, i2, i3, i4, i5, i6, i7, i8⟩ := hi; have := ra_block i7; simpa using this) Try.underlying32 rfl (by rw [bcs_length, hT32]; kernel_rfl))
        | (exact soft_load rfl (Chg.refl [] _) _ _ rfl _ _ rfl _ _ (show wx.rangeAt r10 0 (bcs T0) from by obtain ⟨j, _, hi⟩ := hi; obtain ⟨v', F', i1, i2, i3, i4, i5, i6, i7, i8⟩ := hi; have := ra_block i8; simpa using this) Try.underlying32 rfl (by rw [bcs_length, hT032]; kernel_rfl))
        | (exact soft_skip rfl)
    · intro V wx hi hd
      simp [phi, Region.binds, cst] at hd
      try simp only [hd]
      refine soft_callC rfl _ _ (by go_simp; try exact ⟨rfl, rfl⟩) (kN5.out wx 1 2 3 needP_512)
    · intro V wx hi hd
      simp [phi, Region.binds, cst] at hd
      try simp only [hd]
      first
        | (refine soft_const rfl ?_; go_simp; done)
        | (refine soft_const rfl ?_; go_simp; exact rfl)
        | (exact soft_load rfl (Chg.refl [] _) _ _ rfl _ _ rfl _ _ (show wx.rangeAt gP 0 (bcs D1) from by obtain ⟨j, _, hi⟩ := hi; obtain ⟨v', F', i1, i2, i3, i4, i5, i6, i7, i8⟩ := hi; exact (hfP.out wx i5).1) Try.underlying32 rfl (by rw [bcs_length, L1.out]; kernel_rfl))
        | (exact soft_load rfl (Chg.refl [] _) _ _ rfl _ _ rfl _ _ (show wx.rangeAt gP 64 (bcs D5) from by obtain ⟨j, _, hi⟩ := hi; obtain ⟨v', F', i1, i2, i3, i4, i5, i6, i7, i8⟩ := hi; exact (hfP.out wx i5).2) Try.underlying32 rfl (by rw [bcs_length, L5.out]; kernel_rfl))
        | (exact soft_load rfl (Chg.refl [] _) _ _ rfl _ _ rfl _ _ (show wx.rangeAt q 0 (bcs D1) from by obtain ⟨j, _, hi⟩ := hi; obtain ⟨v', F', i1, i2, i3, i4, i5, i6, i7, i8⟩ := hi; exact (hfL.out wx i4).1) Try.underlying32 rfl (by rw [bcs_length, L1.out]; kernel_rfl))
        | (exact soft_load rfl (Chg.refl [] _) _ _ rfl _ _ rfl _ _ (show wx.rangeAt q 128 (bcs D5) from by obtain ⟨j, _, hi⟩ := hi; obtain ⟨v', F', i1, i2, i3, i4, i5, i6, i7, i8⟩ := hi; exact (hfL.out wx i4).2) Try.underlying32 rfl (by rw [bcs_length, L5.out]; kernel_rfl))
        | (exact soft_load rfl (Chg.refl [] _) _ _ rfl _ _ rfl _ _ (show wx.rangeAt r4 0 (bcs T1) from by obtain ⟨j, _, hi⟩ := hi; obtain ⟨v', F', i1, i2, i3, i4, i5, i6, i7, i8⟩ := hi; have := ra_block i6; simpa using this) Try.underlying32 rfl (by rw [bcs_length, hT32]; kernel_rfl))
        | (exact soft_load rfl (Chg.refl [] _) _ _ rfl _ _ rfl _ _ (show wx.rangeAt r8 0 (bcs T1) from by obtain ⟨j, _, hi⟩ := hi; obtain ⟨v', F', i1, i2, i3, i4, i5, i6, i7, i8⟩ := hi; have := ra_block i7; simpa using this) Try.underlying32 rfl (by rw [bcs_length, hT32]; kernel_rfl))
        | (exact soft_load rfl (Chg.refl [] _) _ _ rfl _ _ rfl _ _ (show wx.rangeAt r10 0 (bcs T0) from by obtain ⟨j, _, hi⟩ := hi; obtain ⟨v', F', i1, i2, i3, i4, i5, i6, i7, i8⟩ := hi; have := ra_block i8; simpa using this) Try.underlying32 rfl (by rw [bcs_length, hT032]; kernel_rfl))
        | (exact soft_skip rfl)
    · intro V wx hi hd
      simp [phi, Region.binds, cst] at hd
      try simp only [hd]
      first
        | (refine soft_const rfl ?_; go_simp; done)
        | (refine soft_const rfl ?_; go_simp; exact rfl)
        | (exact soft_load rfl (Chg.refl [] _) _ _ rfl _ _ rfl _ _ (show wx.rangeAt gP 0 (bcs D1) from by obtain ⟨j, _, hi⟩ := hi; obtain ⟨v', F', i1, i2, i3, i4, i5, i6, i7, i8⟩ := hi; exact (hfP.out wx i5).1) Try.underlying32 rfl (by rw [bcs_length, L1.out]; kernel_rfl))
        | (exact soft_load rfl (Chg.refl [] _) _ _ rfl _ _ rfl _ _ (show wx.rangeAt gP 64 (bcs D5) from by obtain ⟨j, _, hi⟩ := hi; obtain ⟨v', F', i1, i2, i3, i4, i5, i6, i7, i8⟩ := hi; exact (hfP.out wx i5).2) Try.underlying32 rfl (by rw [bcs_length, L5.out]; kernel_rfl))
        | (exact soft_load rfl (Chg.refl [] _) _ _ rfl _ _ rfl _ _ (show wx.rangeAt q 0 (bcs D1) from by obtain ⟨j, _, hi⟩ := hi; obtain ⟨v', F', i1, i2, i3, i4, i5, i6, i7, i8⟩ := hi; exact (hfL.out wx i4).1) Try.underlying32 rfl (by rw [bcs_length, L1.out]; kernel_rfl))
        | (exact soft_load rfl (Chg.refl [] _) _ _ rfl _ _ rfl _ _ (show wx.rangeAt q 128 (bcs D5) from by obtain ⟨j, _, hi⟩ := hi; obtain ⟨v', F', i1, i2, i3, i4, i5, i6, i7, i8⟩ := hi; exact (hfL.out wx i4).2) Try.underlying32 rfl (by rw [bcs_length, L5.out]; kernel_rfl))
        | (exact soft_load rfl (Chg.refl [] _) _ _ rfl _ _ rfl _ _ (show wx.rangeAt r4 0 (bcs T1) from by obtain ⟨j, _, hi⟩ := hi; obtain ⟨v', F', i1, i2, i3, i4, i5, i6, i7, i8⟩ := hi; have := ra_block i6; simpa using this) Try.underlying32 rfl (by rw [bcs_length, hT32]; kernel_rfl))
        | (exact soft_load rfl (Chg.refl [] _) _ _ rfl _ _ rfl _ _ (show wx.rangeAt r8 0 (bcs T1) from by obtain ⟨j, _, hi⟩ := hi; obtain ⟨v', F', i1, i2, i3, i4, i5, i6, i7, i8⟩ := hi; have := ra_block i7; simpa using this) Try.underlying32 rfl (by rw [bcs_length, hT32]; kernel_rfl))
        | (exact soft_load rfl (Chg.refl [] _) _ _ rfl _ _ rfl _ _ (show wx.rangeAt r10 0 (bcs T0) from by obtain ⟨j, _, hi⟩ := hi; obtain ⟨v', F', i1, i2, i3, i4, i5, i6, i7, i8⟩ := hi; have := ra_block i8; simpa using this) Try.underlying32 rfl (by rw [bcs_length, hT032]; kernel_rfl))
        | (exact soft_skip rfl)
    · intro V wx hi hd
      simp [phi, Region.binds, cst] at hd
      try simp only [hd]
      first
        | (refine soft_const rfl ?_; go_simp; done)
        | (refine soft_const rfl ?_; go_simp; exact rfl)
        | (exact soft_load rfl (Chg.refl [] _) _ _ rfl _ _ rfl _ _ (show wx.rangeAt gP 0 (bcs D1) from by obtain ⟨j, _, hi⟩ := hi; obtain ⟨v', F', i1, i2, i3, i4, i5, i6, i7, i8⟩ := hi; exact (hfP.out wx i5).1) Try.underlying32 rfl (by rw [bcs_length, L1.out]; kernel_rfl))
        | (exact soft_load rfl (Chg.refl [] _) _ _ rfl _ _ rfl _ _ (show wx.rangeAt gP 64 (bcs D5) from by obtain ⟨j, _, hi⟩ := hi; obtain ⟨v', F', i1, i2, i3, i4, i5, i6, i7, i8⟩ := hi; exact (hfP.out wx i5).2) Try.underlying32 rfl (by rw [bcs_length, L5.out]; kernel_rfl))
        | (exact soft_load rfl (Chg.refl [] _) _ _ rfl _ _ rfl _ _ (show wx.rangeAt q 0 (bcs D1) from by obtain ⟨j, _, hi⟩ := hi; obtain ⟨v', F', i1, i2, i3, i4, i5, i6, i7, i8⟩ := hi; exact (hfL.out wx i4).1) Try.underlying32 rfl (by rw [bcs_length, L1.out]; kernel_rfl))
        | (exact soft_load rfl (Chg.refl [] _) _ _ rfl _ _ rfl _ _ (show wx.rangeAt q 128 (bcs D5) from by obtain ⟨j, _, hi⟩ := hi; obtain ⟨v', F', i1, i2, i3, i4, i5, i6, i7, i8⟩ := hi; exact (hfL.out wx i4).2) Try.underlying32 rfl (by rw [bcs_length, L5.out]; kernel_rfl))
        | (exact soft_load rfl (Chg.refl [] _) _ _ rfl _ _ rfl _ _ (show wx.rangeAt r4 0 (bcs T1) from by obtain ⟨j, _, hi⟩ := hi; obtain ⟨v', F', i1, i2, i3, i4, i5, i6, i7, i8⟩ := hi; have := ra_block i6; simpa using this) Try.underlying32 rfl (by rw [bcs_length, hT32]; kernel_rfl))
        | (exact soft_load rfl (Chg.refl [] _) _ _ rfl _ _ rfl _ _ (show wx.rangeAt r8 0 (bcs T1) from by obtain ⟨j, _, hi⟩ := hi; obtain ⟨v', F', i1, i2, i3, i4, i5, i6, i7, i8⟩ := hi; have := ra_block i7; simpa using this) Try.underlying32 rfl (by rw [bcs_length, hT32]; kernel_rfl))
        | (exact soft_load rfl (Chg.refl [] _) _ _ rfl _ _ rfl _ _ (show wx.rangeAt r10 0 (bcs T0) from by obtain ⟨j, _, hi⟩ := hi; obtain ⟨v', F', i1, i2, i3, i4, i5, i6, i7, i8⟩ := hi; have := ra_block i8; simpa using this) Try.underlying32 rfl (by rw [bcs_length, hT032]; kernel_rfl))
        | (exact soft_skip rfl)
    · intro V wx hi hd
      simp [phi, Region.binds, cst] at hd
      try simp only [hd]
      refine soft_callC rfl _ _ (by go_simp; try exact ⟨rfl, rfl⟩) (kN5.out wx 0 5 0 needP_505)
    · intro V wx hi hd
      simp [phi, Region.binds, cst] at hd
      try simp only [hd]
      first
        | (refine soft_const rfl ?_; go_simp; done)
        | (refine soft_const rfl ?_; go_simp; exact rfl)
        | (exact soft_load rfl (Chg.refl [] _) _ _ rfl _ _ rfl _ _ (show wx.rangeAt gP 0 (bcs D1) from by obtain ⟨j, _, hi⟩ := hi; obtain ⟨v', F', i1, i2, i3, i4, i5, i6, i7, i8⟩ := hi; exact (hfP.out wx i5).1) Try.underlying32 rfl (by rw [bcs_length, L1.out]; kernel_rfl))
        | (exact soft_load rfl (Chg.refl [] _) _ _ rfl _ _ rfl _ _ (show wx.rangeAt gP 64 (bcs D5) from by obtain ⟨j, _, hi⟩ := hi; obtain ⟨v', F', i1, i2, i3, i4, i5, i6, i7, i8⟩ := hi; exact (hfP.out wx i5).2) Try.underlying32 rfl (by rw [bcs_length, L5.out]; kernel_rfl))
        | (exact soft_load rfl (Chg.refl [] _) _ _ rfl _ _ rfl _ _ (show wx.rangeAt q 0 (bcs D1) from by obtain ⟨j, _, hi⟩ := hi; obtain ⟨v', F', i1, i2, i3, i4, i5, i6, i7, i8⟩ := hi; exact (hfL.out wx i4).1) Try.underlying32 rfl (by rw [bcs_length, L1.out]; kernel_rfl))
        | (exact soft_load rfl (Chg.refl [] _) _ _ rfl _ _ rfl _ _ (show wx.rangeAt q 128 (bcs D5) from by obtain ⟨j, _, hi⟩ := hi; obtain ⟨v', F', i1, i2, i3, i4, i5, i6, i7, i8⟩ := hi; exact (hfL.out wx i4).2) Try.underlying32 rfl (by rw [bcs_length, L5.out]; kernel_rfl))
        | (exact soft_load rfl (Chg.refl [] _) _ _ rfl _ _ rfl _ _ (show wx.rangeAt r4 0 (bcs T1) from by obtain ⟨j, _, hi⟩ := hi; obtain ⟨v', F', i1, i2, i3, i4, i5, i6, i7, i8⟩ := hi; have := ra_block i6; simpa using this) Try.underlying32 rfl (by rw [bcs_length, hT32]; kernel_rfl))
        | (exact soft_load rfl (Chg.refl [] _) _ _ rfl _ _ rfl _ _ (show wx.rangeAt r8 0 (bcs T1) from by obtain ⟨j, _, hi⟩ := hi; obtain ⟨v', F', i1, i2, i3, i4, i5, i6, i7, i8⟩ := hi; have := ra_block i7; simpa using this) Try.underlying32 rfl (by rw [bcs_length, hT32]; kernel_rfl))
        | (exact soft_load rfl (Chg.refl [] _) _ _ rfl _ _ rfl _ _ (show wx.rangeAt r10 0 (bcs T0) from by obtain ⟨j, _, hi⟩ := hi; obtain ⟨v', F', i1, i2, i3, i4, i5, i6, i7, i8⟩ := hi; have := ra_block i8; simpa using this) Try.underlying32 rfl (by rw [bcs_length, hT032]; kernel_rfl))
        | (exact soft_skip rfl)
    · intro V wx hi hd
      simp [phi, Region.binds, cst] at hd
      try simp only [hd]
      first
        | (refine soft_const rfl ?_; go_simp; done)
        | (refine soft_const rfl ?_; go_simp; exact rfl)
        | (exact soft_load rfl (Chg.refl [] _) _ _ rfl _ _ rfl _ _ (show wx.rangeAt gP 0 (bcs D1) from by obtain ⟨j, _, hi⟩ := hi; obtain ⟨v', F', i1, i2, i3, i4, i5, i6, i7, i8⟩ := hi; exact (hfP.out wx i5).1) Try.underlying32 rfl (by rw [bcs_length, L1.out]; kernel_rfl))
        | (exact soft_load rfl (Chg.refl [] _) _ _ rfl _ _ rfl _ _ (show wx.rangeAt gP 64 (bcs D5) from by obtain ⟨j, _, hi⟩ := hi; obtain ⟨v', F', i1, i2, i3, i4, i5, i6, i7, i8⟩ := hi; exact (hfP.out wx i5).2) Try.underlying32 rfl (by rw [bcs_length, L5.out]; kernel_rfl))
        | (exact soft_load rfl (Chg.refl [] _) _ _ rfl _ _ rfl _ _ (show wx.rangeAt q 0 (bcs D1) from by obtain ⟨j, _, hi⟩ := hi; obtain ⟨v', F', i1, i2, i3, i4, i5, i6, i7, i8⟩ := hi; exact (hfL.out wx i4).1) Try.underlying32 rfl (by rw [bcs_length, L1.out]; kernel_rfl))
        | (exact soft_load rfl (Chg.refl [] _) _ _ rfl _ _ rfl _ _ (show wx.rangeAt q 128 (bcs D5) from by obtain ⟨j, _, hi⟩ := hi; obtain ⟨v', F', i1, i2, i3, i4, i5, i6, i7, i8⟩ := hi; exact (hfL.out wx i4).2) Try.underlying32 rfl (by rw [bcs_length, L5.out]; kernel_rfl))
        | (exact soft_load rfl (Chg.refl [] _) _ _ rfl _ _ rfl _ _ (show wx.rangeAt r4 0 (bcs T1) from by obtain ⟨j, _, hi⟩ := hi; obtain ⟨v', F', i1, i2, i3, i4, i5, i6, i7, i8⟩ := hi; have := ra_block i6; simpa using this) Try.underlying32 rfl (by rw [bcs_length, hT32]; kernel_rfl))
        | (exact soft_load rfl (Chg.refl [] _) _ _ rfl _ _ rfl _ _ (show wx.rangeAt r8 0 (bcs T1) from by obtain ⟨j, _, hi⟩ := hi; obtain ⟨v', F', i1, i2, i3, i4, i5, i6, i7, i8⟩ := hi; have := ra_block i7; simpa using this) Try.underlying32 rfl (by rw [bcs_length, hT32]; kernel_rfl))
        | (exact soft_load rfl (Chg.refl [] _) _ _ rfl _ _ rfl _ _ (show wx.rangeAt r10 0 (bcs T0) from by obtain ⟨j, _, hi⟩ := hi; obtain ⟨v', F', i1, i2, i3, i4, i5, i6, i7, i8⟩ := hi; have := ra_block i8; simpa using this) Try.underlying32 rfl (by rw [bcs_length, hT032]; kernel_rfl))
        | (exact soft_skip rfl)
    · intro V wx hi hd
      simp [phi, Region.binds, cst] at hd
      try simp only [hd]
      first
        | (refine soft_const rfl ?_; go_simp; done)
        | (refine soft_const rfl ?_; go_simp; exact rfl)
        | (exact soft_load rfl (Chg.refl [] _) _ _ rfl _ _ rfl _ _ (show wx.rangeAt gP 0 (bcs D1) from by obtain ⟨j, _, hi⟩ := hi; obtain ⟨v', F', i1, i2, i3, i4, i5, i6, i7, i8⟩ := hi; exact (hfP.out wx i5).1) Try.underlying32 rfl (by rw [bcs_length, L1.out]; kernel_rfl))
        | (exact soft_load rfl (Chg.refl [] _) _ _ rfl _ _ rfl _ _ (show wx.rangeAt gP 64 (bcs D5) from by obtain ⟨j, _, hi⟩ := hi; obtain ⟨v', F', i1, i2, i3, i4, i5, i6, i7, i8⟩ := hi; exact (hfP.out wx i5).2) Try.underlying32 rfl (by rw [bcs_length, L5.out]; kernel_rfl))
        | (exact soft_load rfl (Chg.refl [] _) _ _ rfl _ _ rfl _ _ (show wx.rangeAt q 0 (bcs D1) from by obtain ⟨j, _, hi⟩ := hi; obtain ⟨v', F', i1, i2, i3, i4, i5, i6, i7, i8⟩ := hi; exact (hfL.out wx i4).1) Try.underlying32 rfl (by rw [bcs_length, L1.out]; kernel_rfl))
        | (exact soft_load rfl (Chg.refl [] _) _ _ rfl _ _ rfl _ _ (show wx.rangeAt q 128 (bcs D5) from by obtain ⟨j, _, hi⟩ := hi; obtain ⟨v', F', i1, i2, i3, i4, i5, i6, i7, i8⟩ := hi; exact (hfL.out wx i4).2) Try.underlying32 rfl (by rw [bcs_length, L5.out]; kernel_rfl))
        | (exact soft_load rfl (Chg.refl [] _) _ _ rfl _ _ rfl _ _ (show wx.rangeAt r4 0 (bcs T1) from by obtain ⟨j, _, hi⟩ := hi; obtain ⟨v', F', i1, i2, i3, i4, i5, i6, i7, i8⟩ := hi; have := ra_block i6; simpa using this) Try.underlying32 rfl (by rw [bcs_length, hT32]; kernel_rfl))
        | (exact soft_load rfl (Chg.refl [] _) _ _ rfl _ _ rfl _ _ (show wx.rangeAt r8 0 (bcs T1) from by obtain ⟨j, _, hi⟩ := hi; obtain ⟨v', F', i1, i2, i3, i4, i5, i6, i7, i8⟩ := hi; have := ra_block i7; simpa using this) Try.underlying32 rfl (by rw [bcs_length, hT32]; kernel_rfl))
        | (exact soft_load rfl (Chg.refl [] _) _ _ rfl _ _ rfl _ _ (show wx.rangeAt r10 0 (bcs T0) from by obtain ⟨j, _, hi⟩ := hi; obtain ⟨v', F', i1, i2, i3, i4, i5, i6, i7, i8⟩ := hi; have := ra_block i8; simpa using this) Try.underlying32 rfl (by rw [bcs_length, hT032]; kernel_rfl))
        | (exact soft_skip rfl)
    · intro V wx hi hd
      simp [phi, Region.binds, cst] at hd
      try simp only [hd]
      refine soft_callC rfl _ _ (by go_simp; try exact ⟨rfl, rfl⟩) (kN5.out wx 3 2 (-1) needP_532)
    · intro V wx hi hd
      simp [phi, Region.binds, cst] at hd
      try simp only [hd]
      first
        | (refine soft_const rfl ?_; go_simp; done)
        | (refine soft_const rfl ?_; go_simp; exact rfl)
        | (exact soft_load rfl (Chg.refl [] _) _ _ rfl _ _ rfl _ _ (show wx.rangeAt gP 0 (bcs D1) from by obtain ⟨j, _, hi⟩ := hi; obtain ⟨v', F', i1, i2, i3, i4, i5, i6, i7, i8⟩ := hi; exact (hfP.out wx i5).1) Try.underlying32 rfl (by rw [bcs_length, L1.out]; kernel_rfl))
        | (exact soft_load rfl (Chg.refl [] _) _ _ rfl _ _ rfl _ _ (show wx.rangeAt gP 64 (bcs D5) from by obtain ⟨j, _, hi⟩ := hi; obtain ⟨v', F', i1, i2, i3, i4, i5, i6, i7, i8⟩ := hi; exact (hfP.out wx i5).2) Try.underlying32 rfl (by rw [bcs_length, L5.out]; kernel_rfl))
        | (exact soft_load rfl (Chg.refl [] _) _ _ rfl _ _ rfl _ _ (show wx.rangeAt q 0 (bcs D1) from by obtain ⟨j, _, hi⟩ := hi; obtain ⟨v', F', i1, i2, i3, i4, i5, i6, i7, i8⟩ := hi; exact (hfL.out wx i4).1) Try.underlying32 rfl (by rw [bcs_length, L1.out]; kernel_rfl))
        | (exact soft_load rfl (Chg.refl [] _) _ _ rfl _ _ rfl _ _ (show wx.rangeAt q 128 (bcs D5) from by obtain ⟨j, _, hi⟩ := hi; obtain ⟨v', F', i1, i2, i3, i4, i5, i6, i7, i8⟩ := hi; exact (hfL.out wx i4).2) Try.underlying32 rfl (by rw [bcs_length, L5.out]; kernel_rfl))
        | (exact soft_load rfl (Chg.refl [] _) _ _ rfl _ _ rfl _ _ (show wx.rangeAt r4 0 (bcs T1) from by obtain ⟨j, _, hi⟩ := hi; obtain ⟨v', F', i1, i2, i3, i4, i5, i6, i7, i8⟩ := hi; have := ra_block i6; simpa using this) Try.underlying32 rfl (by rw [bcs_length, hT32]; kernel_rfl))
        | (exact soft_load rfl (Chg.refl [] _) _ _ rfl _ _ rfl _ _ (show wx.rangeAt r8 0 (bcs T1) from by obtain ⟨j, _, hi⟩ := hi; obtain ⟨v', F', i1, i2, i3, i4, i5, i6, i7, i8⟩ := hi; have := ra_block i7; simpa using this) Try.underlying32 rfl (by rw [bcs_length, hT32]; kernel_rfl))
        | (exact soft_load rfl (Chg.refl [] _) _ _ rfl _ _ rfl _ _ (show wx.rangeAt r10 0 (bcs T0) from by obtain ⟨j, _, hi⟩ := hi; obtain ⟨v', F', i1, i2, i3, i4, i5, i6, i7, i8⟩ := hi; have := ra_block i8; simpa using this) Try.underlying32 rfl (by rw [bcs_length, hT032]; kernel_rfl))
        | (exact soft_skip rfl)
    · intro V wx hi hd
      simp [phi, Region.binds, cst] at hd
      try simp only [hd]
      first
        | (refine soft_const rfl ?_; go_simp; done)
        | (refine soft_const rfl ?_; go_simp; exact rfl)
        | (exact soft_load rfl (Chg.refl [] _) _ _ rfl _ _ rfl _ _ (show wx.rangeAt gP 0 (bcs D1) from by obtain ⟨j, _, hi⟩ := hi; obtain ⟨v', F', i1, i2, i3, i4, i5, i6, i7, i8⟩ := hi; exact (hfP.out wx i5).1) Try.underlying32 rfl (by rw [bcs_length, L1.out]; kernel_rfl))
        | (exact soft_load rfl (Chg.refl [] _) _ _ rfl _ _ rfl _ _ (show wx.rangeAt gP 64 (bcs D5) from by obtain ⟨j, _, hi⟩ := hi; obtain ⟨v', F', i1, i2, i3, i4, i5, i6, i7, i8⟩ := hi; exact (hfP.out wx i5).2) Try.underlying32 rfl (by rw [bcs_length, L5.out]; kernel_rfl))
        | (exact soft_load rfl (Chg.refl [] _) _ _ rfl _ _ rfl _ _ (show wx.rangeAt q 0 (bcs D1) from by obtain ⟨j, _, hi⟩ := hi; obtain ⟨v', F', i1, i2, i3, i4, i5, i6, i7, i8⟩ := hi; exact (hfL.out wx i4).1) Try.underlying32 rfl (by rw [bcs_length, L1.out]; kernel_rfl))
        | (exact soft_load rfl (Chg.refl [] _) _ _ rfl _ _ rfl _ _ (show wx.rangeAt q 128 (bcs D5) from by obtain ⟨j, _, hi⟩ := hi; obtain ⟨v', F', i1, i2, i3, i4, i5, i6, i7, i8⟩ := hi; exact (hfL.out wx i4).2) Try.underlying32 rfl (by rw [bcs_length, L5.out]; kernel_rfl))
        | (exact soft_load rfl (Chg.refl [] _) _ _ rfl _ _ rfl _ _ (show wx.rangeAt r4 0 (bcs T1) from by obtain ⟨j, _, hi⟩ := hi; obtain ⟨v', F', i1, i2, i3, i4, i5, i6, i7, i8⟩ := hi; have := ra_block i6; simpa using this) Try.underlying32 rfl (by rw [bcs_length, hT32]; kernel_rfl))
        | (exact soft_load rfl (Chg.refl [] _) _ _ rfl _ _ rfl _ _ (show wx.rangeAt r8 0 (bcs T1) from by obtain ⟨j, _, hi⟩ := hi; obtain ⟨v', F', i1, i2, i3, i4, i5, i6, i7, i8⟩ := hi; have := ra_block i7; simpa using this) Try.underlying32 rfl (by rw [bcs_length, hT32]; kernel_rfl))
        | (exact soft_load rfl (Chg.refl [] _) _ _ rfl _ _ rfl _ _ (show wx.rangeAt r10 0 (bcs T0) from by obtain ⟨j, _, hi⟩ := hi; obtain ⟨v', F', i1, i2, i3, i4, i5, i6, i7, i8⟩ := hi; have := ra_block i8; simpa using this) Try.underlying32 rfl (by rw [bcs_length, hT032]; kernel_rfl))
        | (exact soft_skip rfl)
    · intro V wx hi hd
      simp [phi, Region.binds, cst] at hd
      try simp only [hd]
      first
        | (refine soft_const rfl ?_; go_simp; done)
        | (refine soft_const rfl ?_; go_simp; exact rfl)
        | (exact soft_load rfl (Chg.refl [] _) _ _ rfl _ _ rfl _ _ (show wx.rangeAt gP 0 (bcs D1) from by obtain ⟨j, _, hi⟩ := hi; obtain ⟨v', F', i1, i2, i3, i4, i5, i6, i7, i8⟩ := hi; exact (hfP.out wx i5).1) Try.underlying32 rfl (by rw [bcs_length, L1.out]; kernel_rfl))
        | (exact soft_load rfl (Chg.refl [] _) _ _ rfl _ _ rfl _ _ (show wx.rangeAt gP 64 (bcs D5) from by obtain ⟨j, _, hi⟩ := hi; obtain ⟨v', F', i1, i2, i3, i4, i5, i6, i7, i8⟩ := hi; exact (hfP.out wx i5).2) Try.underlying32 rfl (by rw [bcs_length, L5.out]; kernel_rfl))
        | (exact soft_load rfl (Chg.refl [] _) _ _ rfl _ _ rfl _ _ (show wx.rangeAt q 0 (bcs D1) from by obtain ⟨j, _, hi⟩ := hi; obtain ⟨v', F', i1, i2, i3, i4, i5, i6, i7, i8⟩ := hi; exact (hfL.out wx i4).1) Try.underlying32 rfl (by rw [bcs_length, L1.out]; kernel_rfl))
        | (exact soft_load rfl (Chg.refl [] _) _ _ rfl _ _ rfl _ _ (show wx.rangeAt q 128 (bcs D5) from by obtain ⟨j, _, hi⟩ := hi; obtain ⟨v', F', i1, i2, i3, i4, i5, i6, i7, i8⟩ := hi; exact (hfL.out wx i4).2) Try.underlying32 rfl (by rw [bcs_length, L5.out]; kernel_rfl))
        | (exact soft_load rfl (Chg.refl [] _) _ _ rfl _ _ rfl _ _ (show wx.rangeAt r4 0 (bcs T1) from by obtain ⟨j, _, hi⟩ := hi; obtain ⟨v', F', i1, i2, i3, i4, i5, i6, i7, i8⟩ := hi; have := ra_block i6; simpa using this) Try.underlying32 rfl (by rw [bcs_length, hT32]; kernel_rfl))
        | (exact soft_load rfl (Chg.refl [] _) _ _ rfl _ _ rfl _ _ (show wx.rangeAt r8 0 (bcs T1) from by obtain ⟨j, _, hi⟩ := hi; obtain ⟨v', F', i1, i2, i3, i4, i5, i6, i7, i8⟩ := hi; have := ra_block i7; simpa using this) Try.underlying32 rfl (by rw [bcs_length, hT32]; kernel_rfl))
        | (exact soft_load rfl (Chg.refl [] _) _ _ rfl _ _ rfl _ _ (show wx.rangeAt r10 0 (bcs T0) from by obtain ⟨j, _, hi⟩ := hi; obtain ⟨v', F', i1, i2, i3, i4, i5, i6, i7, i8⟩ := hi; have := ra_block i8; simpa using this) Try.underlying32 rfl (by rw [bcs_length, hT032]; kernel_rfl))
        | (exact soft_skip rfl)
    · intro V wx hi hd
      simp [phi, Region.binds, cst] at hd
      try simp only [hd]
      refine soft_callC rfl _ _ (by go_simp; try exact ⟨rfl, rfl⟩) (kN5.out wx 2 2 1 needP_522)
    · intro V wx hi hd
      simp [phi, Region.binds, cst] at hd
      try simp only [hd]
      first
        | (refine soft_const rfl ?_; go_simp; done)
        | (refine soft_const rfl ?_; go_simp; exact rfl)
        | (exact soft_load rfl (Chg.refl [] _) _ _ rfl _ _ rfl _ _ (show wx.rangeAt gP 0 (bcs D1) from by obtain ⟨j, _, hi⟩ := hi; obtain ⟨v', F', i1, i2, i3, i4, i5, i6, i7, i8⟩ := hi; exact (hfP.out wx i5).1) Try.underlying32 rfl (by rw [bcs_length, L1.out]; kernel_rfl))
        | (exact soft_load rfl (Chg.refl [] _) _ _ rfl _ _ rfl _ _ (show wx.rangeAt gP 64 (bcs D5) from by obtain ⟨j, _, hi⟩ := hi; obtain ⟨v', F', i1, i2, i3, i4, i5, i6, i7, i8⟩ := hi; exact (hfP.out wx i5).2) Try.underlying32 rfl (by rw [bcs_length, L5.out]; kernel_rfl))
        | (exact soft_load rfl (Chg.refl [] _) _ _ rfl _ _ rfl _ _ (show wx.rangeAt q 0 (bcs D1) from by obtain ⟨j, _, hi⟩ := hi; obtain ⟨v', F', i1, i2, i3, i4, i5, i6, i7, i8⟩ := hi; exact (hfL.out wx i4).1) Try.underlying32 rfl (by rw [bcs_length, L1.out]; kernel_rfl))
        | (exact soft_load rfl (Chg.refl [] _) _ _ rfl _ _ rfl _ _ (show wx.rangeAt q 128 (bcs D5) from by obtain ⟨j, _, hi⟩ := hi; obtain ⟨v', F', i1, i2, i3, i4, i5, i6, i7, i8⟩ := hi; exact (hfL.out wx i4).2) Try.underlying32 rfl (by rw [bcs_length, L5.out]; kernel_rfl))
        | (exact soft_load rfl (Chg.refl [] _) _ _ rfl _ _ rfl _ _ (show wx.rangeAt r4 0 (bcs T1) from by obtain ⟨j, _, hi⟩ := hi; obtain ⟨v', F', i1, i2, i3, i4, i5, i6, i7, i8⟩ := hi; have := ra_block i6; simpa using this) Try.underlying32 rfl (by rw [bcs_length, hT32]; kernel_rfl))
        | (exact soft_load rfl (Chg.refl [] _) _ _ rfl _ _ rfl _ _ (show wx.rangeAt r8 0 (bcs T1) from by obtain ⟨j, _, hi⟩ := hi; obtain ⟨v', F', i1, i2, i3, i4, i5, i6, i7, i8⟩ := hi; have := ra_block i7; simpa using this) Try.underlying32 rfl (by rw [bcs_length, hT32]; kernel_rfl))
        | (exact soft_load rfl (Chg.refl [] _) _ _ rfl _ _ rfl _ _ (show wx.rangeAt r10 0 (bcs T0) from by obtain ⟨j, _, hi⟩ := hi; obtain ⟨v', F', i1, i2, i3, i4, i5, i6, i7, i8⟩ := hi; have := ra_block i8; simpa using this) Try.underlying32 rfl (by rw [bcs_length, hT032]; kernel_rfl))
        | (exact soft_skip rfl)
    · intro V wx hi hd
      simp [phi, Region.binds, cst] at hd
      try simp only [hd]
      first
        | (refine soft_const rfl ?_; go_simp; done)
        | (refine soft_const rfl ?_; go_simp; exact rfl)
        | (exact soft_load rfl (Chg.refl [] _) _ _ rfl _ _ rfl _ _ (show wx.rangeAt gP 0 (bcs D1) from by obtain ⟨j, _, hi⟩ := hi; obtain ⟨v', F', i1, i2, i3, i4, i5, i6, i7, i8⟩ := hi; exact (hfP.out wx i5).1) Try.underlying32 rfl (by rw [bcs_length, L1.out]; kernel_rfl))
        | (exact soft_load rfl (Chg.refl [] _) _ _ rfl _ _ rfl _ _ (show wx.rangeAt gP 64 (bcs D5) from by obtain ⟨j, _, hi⟩ := hi; obtain ⟨v', F', i1, i2, i3, i4, i5, i6, i7, i8⟩ := hi; exact (hfP.out wx i5).2) Try.underlying32 rfl (by rw [bcs_length, L5.out]; kernel_rfl))
        | (exact soft_load rfl (Chg.refl [] _) _ _ rfl _ _ rfl _ _ (show wx.rangeAt q 0 (bcs D1) from by obtain ⟨j, _, hi⟩ := hi; obtain ⟨v', F', i1, i2, i3, i4, i5, i6, i7, i8⟩ := hi; exact (hfL.out wx i4).1) Try.underlying32 rfl (by rw [bcs_length, L1.out]; kernel_rfl))
        | (exact soft_load rfl (Chg.refl [] _) _ _ rfl _ _ rfl _ _ (show wx.rangeAt q 128 (bcs D5) from by obtain ⟨j, _, hi⟩ := hi; obtain ⟨v', F', i1, i2, i3, i4, i5, i6, i7, i8⟩ := hi; exact (hfL.out wx i4).2) Try.underlying32 rfl (by rw [bcs_length, L5.out]; kernel_rfl))
        | (exact soft_load rfl (Chg.refl [] _) _ _ rfl _ _ rfl _ _ (show wx.rangeAt r4 0 (bcs T1) from by obtain ⟨j, _, hi⟩ := hi; obtain ⟨v', F', i1, i2, i3, i4, i5, i6, i7, i8⟩ := hi; have := ra_block i6; simpa using this) Try.underlying32 rfl (by rw [bcs_length, hT32]; kernel_rfl))
        | (exact soft_load rfl (Chg.refl [] _) _ _ rfl _ _ rfl _ _ (show wx.rangeAt r8 0 (bcs T1) from by obtain ⟨j, _, hi⟩ := hi; obtain ⟨v', F', i1, i2, i3, i4, i5, i6, i7, i8⟩ := hi; have := ra_block i7; simpa using this) Try.underlying32 rfl (by rw [bcs_length, hT32]; kernel_rfl))
        | (exact soft_load rfl (Chg.refl [] _) _ _ rfl _ _ rfl _ _ (show wx.rangeAt r10 0 (bcs T0) from by obtain ⟨j, _, hi⟩ := hi; obtain ⟨v', F', i1, i2, i3, i4, i5, i6, i7, i8⟩ := hi; have := ra_block i8; simpa using this) Try.underlying32 rfl (by rw [bcs_length, hT032]; kernel_rfl))
        | (exact soft_skip rfl)
  intro V w15 hi hk
  have j67 := hk 67 (by decide)
  simp [phi, cst] at j67
  simp only [j67, List.drop_succ_cons, List.drop_zero]
  obtain ⟨v', F', _, _, i3, _⟩ := hi
  clear hk j67
  go_wp2
  go_ret
  exact ⟨rfl, i3⟩
end Go.Proofs.Ytgepfmofignmfaa
namespace Go.Proofs.Ytgepfmofignmfaa
set_option linter.unusedSimpArgs false
set_option linter.unusedVariables false
open Go.RowKit

/-- Another log's own block is written. -/
theorem LogAt.logRow2 {w w' : World} {p q base b2 : Nat} {v u : Value} {F G : RowsB} (h : LogAt w p base v F) (k : LogAt w q b2 u G) (g : Chg [q] w w') (hpq : p ≠ q) : LogAt w' p base v F :=
  ⟨g.heap h.cell (by simpa using hpq), h.rows.trT g k.cell (by decide) (by decide)⟩
theorem joinR_fits {n : Nat} {lo : Int} {part proof Y T Z : List Bytes} {t : Bytes} (h : joinR n lo part proof Y = (t, true, Z)) : 0 ≤ lo ∧ lo + part.length ≤ n := by
  unfold joinR at h
  split at h
  · rename_i hc
    obtain ⟨h1, h2, h3⟩ := hc
    refine ⟨h1, ?_⟩
    unfold needP at h3
    split at h3
    · rename_i hf
      simp only [fitsP, Bool.and_eq_true, decide_eq_true_eq] at hf
      omega
    · omega
  · simp at h
theorem sound_law {L part proof Z : List Bytes} {lo : Int} {t : Bytes} (hL : ∀ x ∈ L, x.length = 32) (hp : ∀ x ∈ part, x.length = 32) (hq : ∀ x ∈ proof, x.length = 32) (h : joinR L.length lo part proof [] = (t, true, Z)) (ht : t = (treeV L).1)
    (hne : part ≠ (L.drop lo.toNat).take part.length) : ∃ u v, extT (treeV L).2 Z = (u, v, true) ∧ u ∈ (treeV L).2 ∧ v ∈ Z ∧ sumB v = sumB u ∧ v ≠ u := by
  have hf := joinR_fits (T := []) h
  obtain ⟨h1, h2⟩ := hf
  by_cases h0 : L.length = 0
  · have : part = [] := by apply List.eq_nil_of_length_eq_zero; omega
    subst this
    simp at hne
  unfold joinR at h
  split at h
  · obtain ⟨e1, e2⟩ := Prod.ext_iff.1 h
    have e3 := (Prod.ext_iff.1 e2).2
    dsimp only at e1 e3
    subst e1 e3
    have hs := join_sound hL hp (lo := lo.toNat) (hi := lo.toNat + part.length) (a := 0) (b := L.length) rfl (by omega) (by omega) (Nat.le_refl _) (proof, []) hq (by rw [ht, cutL_all])
    rcases hs with hs | ⟨x, hx, y, hy, q1, q2⟩
    · refine absurd ?_ hne
      apply List.ext_getElem?
      intro i
      by_cases hi : i < part.length
      · have := hs (lo.toNat + i) (by omega) (by omega) (by omega) (by omega)
        rw [show lo.toNat + i - lo.toNat = i by omega] at this
        rw [this, List.getElem?_take, if_pos hi, List.getElem?_drop]
      · rw [List.getElem?_eq_none (by omega), List.getElem?_eq_none (by simp; omega)]
    · rw [cutL_all] at hx
      exact ext_found hx hy q1 q2
  · simp at h
set_option maxHeartbeats 16000000 in
set_option maxRecDepth 100000 in
theorem proofSound_run (w : World) (va : Value) (L : List Bytes) (lo : Int) (vb : Value) (B : List Bytes) (vc : Value) (Q : List Bytes) (hsA : Sl w va L.length (L.flatMap bcs)) (okA : ∀ x ∈ L, x.length = 32) (_ba : L.length * 32 ≤ 140737488351232) (wl : (Lit.int .i64 lo).wf = true)
    (hsB : Sl w vb B.length (B.flatMap bcs)) (okB : ∀ x ∈ B, x.length = 32) (_bb : B.length * 32 ≤ 140737488351232)
    (hsC : Sl w vc Q.length (Q.flatMap bcs)) (okC : ∀ x ∈ Q, x.length = 32) (_bc : Q.length * 32 ≤ 140737488351232) :
    Calls Try.prog 11 #[va, .int .i64 lo, vb, vc] w fun e w' => e = .returned (.bool true) ∧ Chg [] w w' := by
  have hA : Dg w va L := ⟨hsA, okA⟩
  have hB : Dg w vb B := ⟨hsB, okB⟩
  have hC : Dg w vc Q := ⟨hsC, okC⟩
  have hle := hsA.le
  have hle2 := hsB.le
  have hle3 := hsC.le
  unfold maxLen at hle hle2 hle3
  obtain ⟨aa, ca, rfl⟩ := hsA.shape
  obtain ⟨ab, cb, rfl⟩ := hsB.shape
  obtain ⟨ac, cc, rfl⟩ := hsC.shape
  clear hsA hsB hsC _ba _bb _bc
  have hlo : I64 lo := i64_wf wl
  clear wl
  have tL := treeV_len okA
  have nL := treeV_count L
  have sL := treeV_short okA
  have hjs := joinR_short okB okC L.length lo (Y := []) Short.nil
  have hj32 := joinR_32 okB okC L.length lo []
  have hjl := joinR_len L.length lo B Q []
  have hfit := fun t Z (h : joinR L.length lo B Q [] = (t, true, Z)) => joinR_fits (T := []) h
  have hlaw := fun t Z (h : joinR L.length lo B Q [] = (t, true, Z)) ht hne => sound_law okA okB okC h ht hne
  replace okA := Lib.hid okA
  replace okB := Lib.hid okB
  replace okC := Lib.hid okC
  replace hlo := Lib.hid hlo
  replace nL := Lib.hid nL
  replace sL := Lib.hid sL
  replace hjs := Lib.hid hjs
  replace hjl := Lib.hid hjl
  replace hfit := Lib.hid hfit
  replace hlaw := Lib.hid hlaw
  go_enter Try.func11, Try.ntmps11
  go_wp2_with fail
  refine (small22_ok w).mono ?_
  rintro e w1 ⟨rfl, g1⟩
  go_wp2_with fail
  refine (lognew_ok w1 w1.heap.size).mono ?_
  rintro e w2 ⟨rfl, l2, g2⟩
  have c2 := g1.t0 g2
  have zp := g1.size
  have hpq : w1.heap.size < w2.heap.size := l2.lt
  generalize w1.heap.size = p at *
  clear g1 g2
  go_wp2_with fail
  refine (lognew_ok w2 w2.heap.size).mono ?_
  rintro e w3 ⟨rfl, m3, g3⟩
  have c3 := c2.t0 g3
  have l3 := l2.tr0 g3
  generalize w2.heap.size = q at *
  clear g3 l2 c2
  by_cases h40 : 40 < L.length
  · have h4' : (40 : Int) < L.length := by omega
    go_wp2
    go_ret
    exact ⟨rfl, c3⟩
  have h40i : (L.length : Int) ≤ 40 := by omega
  by_cases h41 : 40 < B.length
  · have h4' : (40 : Int) < B.length := by omega
    go_wp2
    go_ret
    exact ⟨rfl, c3⟩
  have h41i : (B.length : Int) ≤ 40 := by omega
  by_cases h60 : 60 < Q.length
  · have h4' : (60 : Int) < Q.length := by omega
    go_wp2
    go_ret
    exact ⟨rfl, c3⟩
  have h60i : (Q.length : Int) ≤ 60 := by omega
  have zq : w.heap.size ≤ q := by omega
  have kA := root_new _ w3 p _ _ l3 c3 zp Short.nil L (by simp; omega) _ hA
  obtain ⟨xA, fA, hRA⟩ : ∃ xA fA, treeV L = (xA, fA) := ⟨_, _, rfl⟩
  rw [hRA] at kA tL nL sL hlaw
  dsimp only at kA tL nL sL hlaw
  clear hRA
  go_wp2_with fail
  refine kA.mono ?_
  rintro e w4 ⟨rfl, v4, F4, l4, hF4, g4, c4, S4⟩
  have m4 : LogAt w4 q q (.slice none 0 0) [] := ⟨g4.heap m3.cell (by simp [Value.ownBlock]; omega), OwnsB.nil _ _⟩
  simp only [List.map_nil, List.nil_append] at hF4
  clear kA l3 m3 g4 c3
  replace hF4 := Lib.hid hF4
  replace S4 := Lib.hid S4
  go_wp2_with (first
    | (refine alloc_bytes (by rfl) 32 (by rfl) 32 (by kernel_rfl) ?_; intro w5 h5 g5 z5; replace z5 : Hid _ := z5)
    | (refine store_bytes (by rfl) 32 (.tmp 12) (.tmp 55) (by rfl) _ 32 _ (by rfl) xA (by rfl) _ h5 (by kernel_rfl) tL (by rw [List.length_replicate]) ?_; intro w6 h6 g6 z6; replace z6 : Hid _ := z6))
  have g46 : Chg [] w4 w6 := g5.tn g6 (Nat.le_refl _)
  have l6 := l4.tr0 g46
  have m6 := m4.tr0 g46
  have c6 := c4.t0 g46
  have hq4 := m4.lt
  generalize hq : w4.heap.size = r1 at *
  clear h5 g5 g6 z5 z6 g46 l4 m4 c4 hq
  have kJ := join_ok w6 q _ [] m6 L.length (by omega) lo hlo.out _ B (hB.tr0 c6) (by omega) _ Q (hC.tr0 c6) (by simp) (fun k hk => by
    rcases hk with hk | hk
    · exact m6.apart hB.sl zq zq k hk
    · exact m6.apart hC.sl zq zq k hk)
  simp only [List.map_nil] at kJ
  obtain ⟨xB, o2, Z, hJ⟩ : ∃ xB o2 Z, joinR L.length lo B Q [] = (xB, o2, Z) := ⟨_, _, _, rfl⟩
  rw [hJ] at kJ hj32 hjl hjs hfit hlaw
  dsimp only at kJ hj32 hjl hjs
  clear hJ
  go_wp2_with fail
  refine kJ.mono ?_
  clear kJ
  rintro e w8 ⟨rfl, v8, F8, m8, hF8, g8, _, _⟩
  have h8 := m6.dig g8 (by omega) h6
  have c8 := m6.chg c6 zq zq g8
  have l8 := l6.logRow2 m6 (by simpa [Value.ownBlock] using g8) (by omega)
  have S8 : Short (F8.map (·.2)) := by rw [hF8]; exact hjs.out
  clear hjs l6 m6 g8 c6 h6
  replace hF8 := Lib.hid hF8
  replace S8 := Lib.hid S8
  cases o2
  · go_wp2_with (first
      | (refine alloc_bytes (by rfl) 32 (by rfl) 32 (by kernel_rfl) ?_; intro w9 h9 g9 z9; replace z9 : Hid _ := z9)
      | (refine store_bytes (by rfl) 32 (.tmp 13) (.tmp 64) (by rfl) _ 32 _ (by rfl) xB (by rfl) _ h9 (by kernel_rfl) hj32 (by rw [List.length_replicate]) ?_; intro w10 h10 g10 z10; replace z10 : Hid _ := z10))
    go_ret
    exact ⟨rfl, c8.t0 (g9.tn g10 (Nat.le_refl _))⟩
  have NE := fun w => neq_dv (P := Try.prog) w 32 5 32 Try.underlying32 Try.underlying5 (fun w => by go_simp) xB xA hj32 tL
  have NG := fun w x y => eqg_dv (P := Try.prog) w .neq 32 x y xB xA (by kernel_rfl)
  unfold dv at NE NG
  by_cases hr : xB = xA
  rotate_left
  · have hnr : (xB != xA) = true := by rw [bne_iff_ne]; exact hr
    rw [hnr] at NE
    clear hr hnr
    go_wp2_with (first
      | (refine alloc_bytes (by rfl) 32 (by rfl) 32 (by kernel_rfl) ?_; intro w9 h9 g9 z9; replace z9 : Hid _ := z9)
      | (refine store_bytes (by rfl) 32 (.tmp 13) (.tmp 64) (by rfl) _ 32 _ (by rfl) xB (by rfl) _ h9 (by kernel_rfl) hj32 (by rw [List.length_replicate]) ?_; intro w10 h10 g10 z10; replace z10 : Hid _ := z10; have h8' := (g9.tn g10 (Nat.le_refl _)).heap h8 (by simp); have R1 := ra_block h8'; have R2 := ra_block h10; simp only [List.toList_toArray] at R1 R2; replace R1 := Lib.hid R1; replace R2 := Lib.hid R2)
      | (refine load_raG (by rfl) 32 (.tmp 12) (by rfl) r1 0 (by rfl) (bcs xA) _ R1.out Try.underlying32 (by rfl) (by rw [bcs_length, tL]; kernel_rfl) ?_)
      | (refine load_raG (by rfl) 32 (.tmp 13) (by rfl) _ 0 (by rfl) (bcs xB) _ R2.out Try.underlying32 (by rfl) (by rw [bcs_length, hj32]; kernel_rfl) ?_))
    go_ret
    exact ⟨rfl, c8.t0 (g9.tn g10 (Nat.le_refl _))⟩
  subst hr
  simp only [bne_self_eq_false] at NE
  have hf := hfit.out _ _ rfl
  have hx := hlaw.out _ _ rfl rfl
  clear hlaw hfit
  obtain ⟨hf1, hf2⟩ := hf
  obtain ⟨l, rfl⟩ : ∃ l : Nat, lo = l := ⟨lo.toNat, by omega⟩
  rw [Int.toNat_natCast] at hx
  have b5 : (l : Int) ≤ L.length := by omega
  have b6 : (B.length : Int) ≤ (L.length : Int) - l := by omega
  have htk : ∀ k, k < B.length → ∀ (h1 : k < B.length) (h2 : l + k < L.length), (B.take (k + 1) = (L.drop l).take (k + 1) ↔ B.take k = (L.drop l).take k ∧ B[k] = L[l + k]) := fun k hk h1 h2 => by
    rw [List.take_succ_eq_append_getElem h1, List.take_succ_eq_append_getElem (l := L.drop l) (by simp; omega), List.getElem_drop]
    constructor
    · intro h
      have := List.append_inj h (by simp; omega)
      exact ⟨this.1, by simpa using this.2⟩
    · rintro ⟨h3, h4⟩; rw [h3, h4]
  replace hx := Lib.hid hx
  replace htk := Lib.hid htk
  clear hf1 hlo
  go_wp2_with (first
    | (refine alloc_bytes (by rfl) 32 (by rfl) 32 (by kernel_rfl) ?_; intro w9 h9 g9 z9; replace z9 : Hid _ := z9)
    | (refine store_bytes (by rfl) 32 (.tmp 13) (.tmp 64) (by rfl) _ 32 _ (by rfl) xB (by rfl) _ h9 (by kernel_rfl) hj32 (by rw [List.length_replicate]) ?_; intro w10 h10 g10 z10; replace z10 : Hid _ := z10; have h8' := (g9.tn g10 (Nat.le_refl _)).heap h8 (by simp); have R1 := ra_block h8'; have R2 := ra_block h10; simp only [List.toList_toArray] at R1 R2; replace R1 := Lib.hid R1; replace R2 := Lib.hid R2)
    | (refine load_raG (by rfl) 32 (.tmp 12) (by rfl) r1 0 (by rfl) (bcs xB) _ R1.out Try.underlying32 (by rfl) (by rw [bcs_length, tL]; kernel_rfl) ?_)
    | (refine load_raG (by rfl) 32 (.tmp 13) (by rfl) _ 0 (by rfl) (bcs xB) _ R2.out Try.underlying32 (by rfl) (by rw [bcs_length, hj32]; kernel_rfl) ?_))
  have g810 : Chg [] w8 w10 := g9.tn g10 (Nat.le_refl _)
  have l10 := l8.tr0 g810
  have m10 := m8.tr0 g810
  have c10 := c8.t0 g810
  have hA10 := hA.tr0 c10
  have hB10 := hB.tr0 c10
  clear NE NG R1 R2 h8' h10 h9 g9 g10 z9 z10 g810 l8 m8 c8 h8
  go_loopw [15, 16] (fun sv iv wr => ∃ (k : Nat), k ≤ B.length ∧ iv = .int .i64 k ∧ sv = .bool (decide (B.take k = (L.drop l).take k)) ∧ Chg [] w10 wr) (fun _ iv _ => B.length - (intOf iv).toNat)
  case atStart => exact ⟨0, Nat.zero_le _, rfl, by simp, Chg.refl _ _⟩
  case round =>
    obtain ⟨k, hk, rfl, rfl, hc⟩ := hrel
    by_cases hlt : k < B.length
    · have hlA : l + k < L.length := by omega
      obtain ⟨b1, o1, c1, e1, hc1, hm1, hb1, hr1⟩ := hB10.at (by omega)
      cases e1
      obtain ⟨b2, o2, c2, e2, hc2, hm2, hb2, hr2⟩ := hA10.at (by omega)
      cases e2
      have y1 := hc.range (hr1 k hlt) (by simp)
      have y2 := hc.range (hr2 (l + k) hlA) (by simp)
      have ht := htk.out k hlt hlt hlA
      have u1 := okB.out _ (List.getElem_mem hlt)
      have u2 := okA.out _ (List.getElem_mem hlA)
      have hkd : (k : Int) < B.length := by omega
      clear hr1 hr2 htk
      generalize B[k] = d1 at *
      generalize L[l + k] = d2 at *
      have iw : IntKind.i64.wrap ((l : Int) + (k : Int)) = ((l + k : Nat) : Int) := by
        unfold IntKind.wrap; simp [IntKind.bits, IntKind.signed]; omega
      have hjd : ((l + k : Nat) : Int) < L.length := by omega
      generalize l + k = j at *
      have EQ := fun w => eql_dv (P := Try.prog) w 32 5 32 Try.underlying32 Try.underlying5 (fun w => by go_simp) d1 d2 u1 u2
      have GQ := fun w x y => eqg_dv (P := Try.prog) w .eql 32 x y d1 d2 (by kernel_rfl)
      unfold dv at EQ GQ
      have hd12 : (d1 == d2) = decide (d1 = d2) := by rw [Bool.eq_iff_iff]; simp
      rw [hd12] at EQ
      clear hd12
      by_cases hs : B.take k = (L.drop l).take k
      · have hs1 : decide (B.take k = (L.drop l).take k) = true := decide_eq_true hs
        have hnx : decide (B.take (k + 1) = (L.drop l).take (k + 1)) = decide (d1 = d2) := by rw [decide_eq_decide, ht]; exact ⟨fun h => h.2, fun h => ⟨hs, h⟩⟩
        rw [hs1]
        clear hs hs1 ht
        generalize decide (d1 = d2) = bv at *
        replace hnx := Lib.hid hnx
        go_wp2_with fail
        refine' region_soft 14 [cst (.bool true), cst (.bool true), cst (.slice (some ⟨b1, o1, none⟩) B.length cb), cst (.int .i64 k), cst (.pointer (some ⟨b1, o1 + k * 32, none⟩)), cst (.agg (bcs d1).toArray), cst (.slice (some ⟨b2, o2, none⟩) L.length ca), cst (.int .i64 l), cst (.int .i64 k), cst (.int .i64 j), cst (.pointer (some ⟨b2, o2 + j * 32, none⟩)), cst (.agg (bcs d2).toArray), cst (.bool bv), cst (.bool bv)] rfl (by kernel_rfl) (by kernel_rfl) (stays_cons (Stays.cst _) (stays_cons (Stays.cst _) (stays_cons (Stays.cst _) (stays_cons (Stays.cst _) (stays_cons (Stays.cst _) (stays_cons (Stays.cst _) (stays_cons (Stays.cst _) (stays_cons (Stays.cst _) (stays_cons (Stays.cst _) (stays_cons (Stays.cst _) (stays_cons (Stays.cst _) (stays_cons (Stays.cst _) (stays_cons (Stays.cst _) (stays_cons (Stays.cst _) stays_nil)))))))))))))) _ (fun V => by simp only [putAll, Act.put, List.take_succ_cons, List.take_zero, List.setIfInBounds_toArray, List.set_cons_zero, List.set_cons_succ, Nat.reduceAdd]; exact rfl) ?hs1 ?ht1
        case hs1 =>
          simp only [List.take_succ_cons, List.take_zero, softs]
          refine ⟨?_, ?_, ?_, ?_, ?_, ?_, ?_, ?_, ?_, ?_, ?_, ?_, ?_, ?_, trivial⟩
          · intro V wx hw hd
            simp [phi, Region.binds, cst] at hd
            try simp only [hd]
            first
              | (refine soft_const rfl ?_; go_simp; done)
              | (refine soft_const rfl ?_; go_simp; exact rfl)
              | (exact soft_load rfl hw _ _ rfl _ _ rfl _ _ y1 Try.underlying32 rfl (by rw [bcs_length, u1]; kernel_rfl))
              | (exact soft_load rfl hw _ _ rfl _ _ rfl _ _ y2 Try.underlying32 rfl (by rw [bcs_length, u2]; kernel_rfl))
              | (exact soft_skip rfl)
          · intro V wx hw hd
            simp [phi, Region.binds, cst] at hd
            try simp only [hd]
            first
              | (refine soft_const rfl ?_; go_simp; done)
              | (refine soft_const rfl ?_; go_simp; exact rfl)
              | (exact soft_load rfl hw _ _ rfl _ _ rfl _ _ y1 Try.underlying32 rfl (by rw [bcs_length, u1]; kernel_rfl))
              | (exact soft_load rfl hw _ _ rfl _ _ rfl _ _ y2 Try.underlying32 rfl (by rw [bcs_length, u2]; kernel_rfl))
              | (exact soft_skip rfl)
          · intro V wx hw hd
            simp [phi, Region.binds, cst] at hd
            try simp only [hd]
            first
              | (refine soft_const rfl ?_; go_simp; done)
              | (refine soft_const rfl ?_; go_simp; exact rfl)
              | (exact soft_load rfl hw _ _ rfl _ _ rfl _ _ y1 Try.underlying32 rfl (by rw [bcs_length, u1]; kernel_rfl))
              | (exact soft_load rfl hw _ _ rfl _ _ rfl _ _ y2 Try.underlying32 rfl (by rw [bcs_length, u2]; kernel_rfl))
              | (exact soft_skip rfl)
          · intro V wx hw hd
            simp [phi, Region.binds, cst] at hd
            try simp only [hd]
            first
              | (refine soft_const rfl ?_; go_simp; done)
              | (refine soft_const rfl ?_; go_simp; exact rfl)
              | (exact soft_load rfl hw _ _ rfl _ _ rfl _ _ y1 Try.underlying32 rfl (by rw [bcs_length, u1]; kernel_rfl))
              | (exact soft_load rfl hw _ _ rfl _ _ rfl _ _ y2 Try.underlying32 rfl (by rw [bcs_length, u2]; kernel_rfl))
              | (exact soft_skip rfl)
          · intro V wx hw hd
            simp [phi, Region.binds, cst] at hd
            try simp only [hd]
            first
              | (refine soft_const rfl ?_; go_simp; done)
              | (refine soft_const rfl ?_; go_simp; exact rfl)
              | (exact soft_load rfl hw _ _ rfl _ _ rfl _ _ y1 Try.underlying32 rfl (by rw [bcs_length, u1]; kernel_rfl))
              | (exact soft_load rfl hw _ _ rfl _ _ rfl _ _ y2 Try.underlying32 rfl (by rw [bcs_length, u2]; kernel_rfl))
              | (exact soft_skip rfl)
          · intro V wx hw hd
            simp [phi, Region.binds, cst] at hd
            try simp only [hd]
            first
              | (refine soft_const rfl ?_; go_simp; done)
              | (refine soft_const rfl ?_; go_simp; exact rfl)
              | (exact soft_load rfl hw _ _ rfl _ _ rfl _ _ y1 Try.underlying32 rfl (by rw [bcs_length, u1]; kernel_rfl))
              | (exact soft_load rfl hw _ _ rfl _ _ rfl _ _ y2 Try.underlying32 rfl (by rw [bcs_length, u2]; kernel_rfl))
              | (exact soft_skip rfl)
          · intro V wx hw hd
            simp [phi, Region.binds, cst] at hd
            try simp only [hd]
            first
              | (refine soft_const rfl ?_; go_simp; done)
              | (refine soft_const rfl ?_; go_simp; exact rfl)
              | (exact soft_load rfl hw _ _ rfl _ _ rfl _ _ y1 Try.underlying32 rfl (by rw [bcs_length, u1]; kernel_rfl))
              | (exact soft_load rfl hw _ _ rfl _ _ rfl _ _ y2 Try.underlying32 rfl (by rw [bcs_length, u2]; kernel_rfl))
              | (exact soft_skip rfl)
          · intro V wx hw hd
            simp [phi, Region.binds, cst] at hd
            try simp only [hd]
            first
              | (refine soft_const rfl ?_; go_simp; done)
              | (refine soft_const rfl ?_; go_simp; exact rfl)
              | (exact soft_load rfl hw _ _ rfl _ _ rfl _ _ y1 Try.underlying32 rfl (by rw [bcs_length, u1]; kernel_rfl))
              | (exact soft_load rfl hw _ _ rfl _ _ rfl _ _ y2 Try.underlying32 rfl (by rw [bcs_length, u2]; kernel_rfl))
              | (exact soft_skip rfl)
          · intro V wx hw hd
            simp [phi, Region.binds, cst] at hd
            try simp only [hd]
            first
              | (refine soft_const rfl ?_; go_simp; done)
              | (refine soft_const rfl ?_; go_simp; exact rfl)
              | (exact soft_load rfl hw _ _ rfl _ _ rfl _ _ y1 Try.underlying32 rfl (by rw [bcs_length, u1]; kernel_rfl))
              | (exact soft_load rfl hw _ _ rfl _ _ rfl _ _ y2 Try.underlying32 rfl (by rw [bcs_length, u2]; kernel_rfl))
              | (exact soft_skip rfl)
          · intro V wx hw hd
            simp [phi, Region.binds, cst] at hd
            try simp only [hd]
            first
              | (refine soft_const rfl ?_; go_simp; done)
              | (refine soft_const rfl ?_; go_simp; exact rfl)
              | (exact soft_load rfl hw _ _ rfl _ _ rfl _ _ y1 Try.underlying32 rfl (by rw [bcs_length, u1]; kernel_rfl))
              | (exact soft_load rfl hw _ _ rfl _ _ rfl _ _ y2 Try.underlying32 rfl (by rw [bcs_length, u2]; kernel_rfl))
              | (exact soft_skip rfl)
          · intro V wx hw hd
            simp [phi, Region.binds, cst] at hd
            try simp only [hd]
            first
              | (refine soft_const rfl ?_; go_simp; done)
              | (refine soft_const rfl ?_; go_simp; exact rfl)
              | (exact soft_load rfl hw _ _ rfl _ _ rfl _ _ y1 Try.underlying32 rfl (by rw [bcs_length, u1]; kernel_rfl))
              | (exact soft_load rfl hw _ _ rfl _ _ rfl _ _ y2 Try.underlying32 rfl (by rw [bcs_length, u2]; kernel_rfl))
              | (exact soft_skip rfl)
          · intro V wx hw hd
            simp [phi, Region.binds, cst] at hd
            try simp only [hd]
            first
              | (refine soft_const rfl ?_; go_simp; done)
              | (refine soft_const rfl ?_; go_simp; exact rfl)
              | (exact soft_load rfl hw _ _ rfl _ _ rfl _ _ y1 Try.underlying32 rfl (by rw [bcs_length, u1]; kernel_rfl))
              | (exact soft_load rfl hw _ _ rfl _ _ rfl _ _ y2 Try.underlying32 rfl (by rw [bcs_length, u2]; kernel_rfl))
              | (exact soft_skip rfl)
          · intro V wx hw hd
            simp [phi, Region.binds, cst] at hd
            try simp only [hd]
            first
              | (refine soft_const rfl ?_; go_simp; done)
              | (refine soft_const rfl ?_; go_simp; exact rfl)
              | (exact soft_load rfl hw _ _ rfl _ _ rfl _ _ y1 Try.underlying32 rfl (by rw [bcs_length, u1]; kernel_rfl))
              | (exact soft_load rfl hw _ _ rfl _ _ rfl _ _ y2 Try.underlying32 rfl (by rw [bcs_length, u2]; kernel_rfl))
              | (exact soft_skip rfl)
          · intro V wx hw hd
            simp [phi, Region.binds, cst] at hd
            try simp only [hd]
            first
              | (refine soft_const rfl ?_; go_simp; done)
              | (refine soft_const rfl ?_; go_simp; exact rfl)
              | (exact soft_load rfl hw _ _ rfl _ _ rfl _ _ y1 Try.underlying32 rfl (by rw [bcs_length, u1]; kernel_rfl))
              | (exact soft_load rfl hw _ _ rfl _ _ rfl _ _ y2 Try.underlying32 rfl (by rw [bcs_length, u2]; kernel_rfl))
              | (exact soft_skip rfl)
        intro V w11 g11 hk2
        have h11 := hk2 13 (by decide)
        simp [phi, cst] at h11
        simp only [h11, List.drop_succ_cons, List.drop_zero]
        clear hk2
        go_wp2
        go_roundw
        case rel => exact ⟨k + 1, by omega, by go_num, by rw [hnx.out], hc.t0 g11⟩
        case measure => simp [intOf]; omega
      · have hs1 : decide (B.take k = (L.drop l).take k) = false := decide_eq_false hs
        have hnx : decide (B.take (k + 1) = (L.drop l).take (k + 1)) = false := by rw [decide_eq_false_iff_not, ht]; exact fun h => hs h.1
        rw [hs1]
        clear hs hs1 ht
        replace hnx := Lib.hid hnx
        go_wp2_with fail
        refine' region_soft 14 [cst (.bool false), cst (.bool false), cst undef, cst undef, cst undef, cst undef, cst undef, cst undef, cst undef, cst undef, cst undef, cst undef, cst undef, cst (.bool false)] rfl (by kernel_rfl) (by kernel_rfl) (stays_cons (Stays.cst _) (stays_cons (Stays.cst _) (stays_cons (Stays.cst _) (stays_cons (Stays.cst _) (stays_cons (Stays.cst _) (stays_cons (Stays.cst _) (stays_cons (Stays.cst _) (stays_cons (Stays.cst _) (stays_cons (Stays.cst _) (stays_cons (Stays.cst _) (stays_cons (Stays.cst _) (stays_cons (Stays.cst _) (stays_cons (Stays.cst _) (stays_cons (Stays.cst _) stays_nil)))))))))))))) _ (fun V => by simp only [putAll, Act.put, List.take_succ_cons, List.take_zero, List.setIfInBounds_toArray, List.set_cons_zero, List.set_cons_succ, Nat.reduceAdd]; exact rfl) ?hs2 ?ht2
        case hs2 =>
          simp only [List.take_succ_cons, List.take_zero, softs]
          refine ⟨?_, ?_, ?_, ?_, ?_, ?_, ?_, ?_, ?_, ?_, ?_, ?_, ?_, ?_, trivial⟩
          · intro V wx hw hd
            simp [phi, Region.binds, cst] at hd
            try simp only [hd]
            first
              | (refine soft_const rfl ?_; go_simp; done)
              | (refine soft_const rfl ?_; go_simp; exact rfl)
              | (exact soft_skip rfl)
          · intro V wx hw hd
            simp [phi, Region.binds, cst] at hd
            try simp only [hd]
            first
              | (refine soft_const rfl ?_; go_simp; done)
              | (refine soft_const rfl ?_; go_simp; exact rfl)
              | (exact soft_skip rfl)
          · intro V wx hw hd
            simp [phi, Region.binds, cst] at hd
            try simp only [hd]
            first
              | (refine soft_const rfl ?_; go_simp; done)
              | (refine soft_const rfl ?_; go_simp; exact rfl)
              | (exact soft_skip rfl)
          · intro V wx hw hd
            simp [phi, Region.binds, cst] at hd
            try simp only [hd]
            first
              | (refine soft_const rfl ?_; go_simp; done)
              | (refine soft_const rfl ?_; go_simp; exact rfl)
              | (exact soft_skip rfl)
          · intro V wx hw hd
            simp [phi, Region.binds, cst] at hd
            try simp only [hd]
            first
              | (refine soft_const rfl ?_; go_simp; done)
              | (refine soft_const rfl ?_; go_simp; exact rfl)
              | (exact soft_skip rfl)
          · intro V wx hw hd
            simp [phi, Region.binds, cst] at hd
            try simp only [hd]
            first
              | (refine soft_const rfl ?_; go_simp; done)
              | (refine soft_const rfl ?_; go_simp; exact rfl)
              | (exact soft_skip rfl)
          · intro V wx hw hd
            simp [phi, Region.binds, cst] at hd
            try simp only [hd]
            first
              | (refine soft_const rfl ?_; go_simp; done)
              | (refine soft_const rfl ?_; go_simp; exact rfl)
              | (exact soft_skip rfl)
          · intro V wx hw hd
            simp [phi, Region.binds, cst] at hd
            try simp only [hd]
            first
              | (refine soft_const rfl ?_; go_simp; done)
              | (refine soft_const rfl ?_; go_simp; exact rfl)
              | (exact soft_skip rfl)
          · intro V wx hw hd
            simp [phi, Region.binds, cst] at hd
            try simp only [hd]
            first
              | (refine soft_const rfl ?_; go_simp; done)
              | (refine soft_const rfl ?_; go_simp; exact rfl)
              | (exact soft_skip rfl)
          · intro V wx hw hd
            simp [phi, Region.binds, cst] at hd
            try simp only [hd]
            first
              | (refine soft_const rfl ?_; go_simp; done)
              | (refine soft_const rfl ?_; go_simp; exact rfl)
              | (exact soft_skip rfl)
          · intro V wx hw hd
            simp [phi, Region.binds, cst] at hd
            try simp only [hd]
            first
              | (refine soft_const rfl ?_; go_simp; done)
              | (refine soft_const rfl ?_; go_simp; exact rfl)
              | (exact soft_skip rfl)
          · intro V wx hw hd
            simp [phi, Region.binds, cst] at hd
            try simp only [hd]
            first
              | (refine soft_const rfl ?_; go_simp; done)
              | (refine soft_const rfl ?_; go_simp; exact rfl)
              | (exact soft_skip rfl)
          · intro V wx hw hd
            simp [phi, Region.binds, cst] at hd
            try simp only [hd]
            first
              | (refine soft_const rfl ?_; go_simp; done)
              | (refine soft_const rfl ?_; go_simp; exact rfl)
              | (exact soft_skip rfl)
          · intro V wx hw hd
            simp [phi, Region.binds, cst] at hd
            try simp only [hd]
            first
              | (refine soft_const rfl ?_; go_simp; done)
              | (refine soft_const rfl ?_; go_simp; exact rfl)
              | (exact soft_skip rfl)
        intro V w11 g11 hk2
        have h11 := hk2 13 (by decide)
        simp [phi, cst] at h11
        simp only [h11, List.drop_succ_cons, List.drop_zero]
        clear hk2
        go_wp2
        go_roundw
        case rel => exact ⟨k + 1, by omega, by go_num, by rw [hnx.out], hc.t0 g11⟩
        case measure => simp [intOf]; omega
    · obtain rfl : k = B.length := by omega
      rw [List.take_of_length_le (Nat.le_refl _)]
      have cw := c10.t0 hc
      have kE := extract_ok wr p q p q v4 v8 F4 F8 (l10.tr0 hc) (m10.tr0 hc) (by
        have := congrArg List.length hF4.out
        have := nL.out
        simp at *; split at this <;> omega) (by
        have := congrArg List.length hF8.out
        have := hjl.out
        simp at *; omega) S4.out.rows S8.out.rows
      rw [hF4.out, hF8.out] at kE
      clear l10 m10
      by_cases hs : B = (L.drop l).take B.length
      · have hs1 : decide (B = (L.drop l).take B.length) = true := decide_eq_true hs
        rw [hs1]
        clear hs hs1 hx htk
        generalize (extT fA Z).1 = T1 at *
        generalize (extT fA Z).2.1 = T2 at *
        generalize (extT fA Z).2.2 = TO at *
        go_wp2_with fail
        refine kE.mono ?_
        clear kE
        rintro e w11 ⟨y1, y2, rfl, o1, o2, g11⟩
        have cw11 := cw.t0 g11
        obtain ⟨a1, q1, rfl⟩ := own_shape o1
        obtain ⟨a2, q2, rfl⟩ := own_shape o2
        clear o1 o2
        go_wp2
        go_ret
        exact ⟨by simp, cw11⟩
      · have hs1 : decide (B = (L.drop l).take B.length) = false := decide_eq_false hs
        obtain ⟨u, v, hex, hu, hv, hsum, hne⟩ := hx.out hs
        rw [hs1]
        rw [hex] at kE
        dsimp only at kE
        have bu := sL.out u hu
        have bv := (show Short Z by rw [← hF8.out]; exact S8.out) v hv
        have L1 := sumB_len u
        have hub : (v == u) = false := by simpa using hne
        have huc : (u == v) = false := by simpa using fun e => hne e.symm
        replace hne := Lib.hid hne
        clear hs hs1 hx htk
        go_wp2_with fail
        refine kE.mono ?_
        clear kE
        rintro e w11 ⟨y1, y2, rfl, o1, o2, g11⟩
        have s1 := Sl.ofOwns o1
        have s2 := Sl.ofOwns o2
        have k1 := run_str (P := Try.prog) Try.underlying22 Try.underlying5 Try.underlying9 s1 rfl
        have k2 := run_str (P := Try.prog) Try.underlying22 Try.underlying5 Try.underlying9 s2 rfl
        obtain ⟨a1, q1, rfl⟩ := s1.shape
        obtain ⟨a2, q2, rfl⟩ := s2.shape
        have cw11 := cw.t0 g11
        have kp := fun wx (g : Chg [] w11 wx) => sum_ok wx _ u (s1.tr0 g) (by omega)
        have kq := fun wx (g : Chg [] w11 wx) => sum_ok wx _ v (s2.tr0 g) (by omega)
        rw [hsum] at kq
        have E := fun w => eql_dv (P := Try.prog) w 32 5 32 Try.underlying32 Try.underlying5 (fun w => by go_simp) (sumB u) (sumB u) L1 L1
        have GG := fun w x y => eqg_dv (P := Try.prog) w .eql 32 x y (sumB u) (sumB u) (by kernel_rfl)
        unfold dv at E GG
        simp only [beq_self_eq_true] at E
        generalize sumB u = H1 at *
        clear hsum o1 o2 hex hu hv
        go_wp2_with fail
        refine (kp w11 (Chg.refl _ _)).mono ?_
        rintro e w12 ⟨rfl, g12⟩
        go_wp2_with fail
        refine (kq w12 g12).mono ?_
        rintro e w13 ⟨rfl, g13⟩
        go_wp2
        go_ret
        exact ⟨by simp, (cw11.t0 g12).t0 g13⟩
end Go.Proofs.Ytgepfmofignmfaa
namespace Go.Proofs.Ytgepfmofignmfaa
set_option linter.unusedSimpArgs false
set_option linter.unusedVariables false
open Go.ChangeShapes Go.WideShapes Go.ChangeAt Go.RowKit
open Go.ChangeMaps (open_string shut_string)
set_option linter.unusedVariables false

theorem ownProofSound : ownKnob Try.prog.godebug = none := by kernel_rfl
theorem laidOutProofSound : laidOutB Try.prog = true := by kernel_rfl

set_option maxRecDepth 100000 in
set_option maxHeartbeats 4000000 in
theorem proofSound_lifted (os : Os) (started : os.Started) (H : Type) (enc : TypeId × Value → H) :
    ReturnsInHanded {} Try.checked os 11 .any (Rows.proofSoundSpec.pre6 enc Try.prog Try.f11 Rows.proofSoundRow.domain false) (Rows.proofSoundSpec.post enc Try.prog Try.f11 false true false false) := by
  refine returnsInHanded_of_change_sized (C := Try.checked) ownProofSound started (by kernel_rfl) Try.func11
    (ChangeSpec.witness6 (enc := enc) (C := Try.checked) false ⟨#[], #[.slice none 0 0, .int .i64 0, .slice none 0 0, .slice none 0 0], []⟩ 8 (by kernel_rfl) (by kernel_rfl) (by kernel_rfl) (by kernel_rfl)) ?_
  intro W base args ds gs before hval0 hW hcnd hsz0 _
  have hval : ∀ (j : Nat) t v, Try.f11.params[j]? = some t → args[j]? = some v → Value.okWide Try.prog W .any base t v := hval0
  have hsz : (DataW.weightsEach Try.prog (Try.f11.params.toList ++ Rows.proofSoundSpec.plain.varTypes Try.prog) (ds ++ gs)).all (· ≤ reachBytes) = true := hsz0
  have hW' := hW
  obtain ⟨p, q, hA0, hV, rfl, hfz, hnd⟩ := hW
  have hA : DataW.TrodAll enc Try.prog W 0 (fun _ => true) true Try.f11.params.toList args.toList ds p := hA0
  rw [Try.params11] at hA hval hsz
  obtain ⟨v0, vs0, d0, ds0, p0, q0, hargs, rfl, rfl, h0, r0⟩ := trodAll_cons hA
  obtain ⟨v1, vs1, d1, ds1, p1, q1, rfl, rfl, rfl, h1, r1⟩ := trodAll_cons r0
  obtain ⟨v2, vs2, d2, ds2, p2, q2, rfl, rfl, rfl, h2, r2⟩ := trodAll_cons r1
  obtain ⟨v3, vs3, d3, ds3, p3, q3, rfl, rfl, rfl, h3, r3⟩ := trodAll_cons r2
  obtain ⟨rfl, rfl, rfl⟩ := trodAll_nil r3
  obtain rfl : args = #[v0, v1, v2, v3] := by cases args; simp_all
  obtain ⟨rfl, rfl⟩ := trodVars_none hV
  have k0 := h0
  have lt0 : ∀ x ∈ p0, x.block < W.heap.size := by obtain ⟨m, hm⟩ := k0; exact DataW.trod_lt m _ _ _ hm
  obtain ⟨l0, sl0, ok0, bd0⟩ := open_sl (bytes := 32) dec_digest Try.underlying23 (by kernel_rfl) (by kernel_rfl) (by decide) (hval 0 23 v0 rfl rfl) h0 (small_of hsz (j := 0) (t := 23) rfl rfl)
  obtain ⟨a1, rfl, rfl, rfl, w1⟩ := open_int Try.underlying3 (hval 1 3 v1 rfl rfl) h1
  have k2 := h2
  have lt2 : ∀ x ∈ p2, x.block < W.heap.size := by obtain ⟨m, hm⟩ := k2; exact DataW.trod_lt m _ _ _ hm
  obtain ⟨l2, sl2, ok2, bd2⟩ := open_sl (bytes := 32) dec_digest Try.underlying23 (by kernel_rfl) (by kernel_rfl) (by decide) (hval 2 23 v2 rfl rfl) h2 (small_of hsz (j := 2) (t := 23) rfl rfl)
  have k3 := h3
  have lt3 : ∀ x ∈ p3, x.block < W.heap.size := by obtain ⟨m, hm⟩ := k3; exact DataW.trod_lt m _ _ _ hm
  obtain ⟨l3, sl3, ok3, bd3⟩ := open_sl (bytes := 32) dec_digest Try.underlying23 (by kernel_rfl) (by kernel_rfl) (by decide) (hval 3 23 v3 rfl rfl) h3 (small_of hsz (j := 3) (t := 23) rfl rfl)
  clear hA0 hval0 hsz0 hsz
  refine (proofSound_run W v0 l0 a1 v2 l2 v3 l3 sl0 ok0 bd0 w1 sl2 ok2 bd2 sl3 ok3 bd3).mono fun e W' ⟨he, chg⟩ => ?_
  have bel := chg.below
  subst he
  exact ⟨_, rfl, _, _, _, [], _, [], hW', trodAll_mk1 (shut_bool Try.underlying4 _), (trodAll_cons_mk (Below.trod laidOutProofSound (by kernel_rfl) (of_decide_eq_true (by kernel_rfl)) k0 bel lt0) (trodAll_cons_mk (shut_int Try.underlying3 w1) (trodAll_cons_mk (Below.trod laidOutProofSound (by kernel_rfl) (of_decide_eq_true (by kernel_rfl)) k2 bel lt2) (trodAll_cons_mk (Below.trod laidOutProofSound (by kernel_rfl) (of_decide_eq_true (by kernel_rfl)) k3 bel lt3) trodAll_mk0)))), rfl, bel.frame _, fun h => by cases h⟩

set_option maxHeartbeats 4000000 in
theorem proofSound_closed : joinedFacts Try.checked.prog 11 Try.f11 Rows.proofSoundSpec Rows.proofSoundRow = true := by
  unfold joinedFacts
  simp only [Bool.and_eq_true]
  repeat' apply And.intro
  all_goals (as_aux_lemma => kernel_rfl)

theorem proofSound_over : Rows.proofSoundRow.holds Try.pinned (OpenSpec.ofChange Rows.proofSoundSpec) :=
  OpenClaim.holds_of_wide 11 Try.f11 rfl rfl rfl rfl rfl rfl rfl ⟨rfl, rfl, rfl, rfl, rfl⟩ rfl rfl rfl rfl rfl (by kernel_rfl) Try.func11 proofSound_closed
    (of_decide_eq_true (by kernel_rfl)) (by unfold Func.isWrapper; first | (rw [if_pos (by decide +kernel)]; kernel_rfl) | (rw [if_neg (by decide +kernel)]; exact ⟨rfl, rfl⟩))
    (fun os started H enc _ => proofSound_lifted os started H enc)

theorem proofSound_proved : Rows.ProofSoundSaid := proofSound_over
#print axioms proofSound_proved
end Go.Proofs.Ytgepfmofignmfaa
