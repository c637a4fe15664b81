/-
  Proofs: the contract of proof.Prove.
-/
import Derived.Test.YtgepfmofignmfaaNeed
namespace Go.Proofs.Ytgepfmofignmfaa
set_option linter.unusedSimpArgs false
set_option linter.unusedVariables false
open Go.RowKit

theorem el_dig : ElemT Try.prog 23 32 32 32 := by
  obtain ⟨i, hi, hz, h1, h2⟩ := info_parts (P := Try.prog) (e := 32) (z := .agg (Array.replicate 32 (.int .u8 0))) (size := 32) (bytes := 32) (by kernel_rfl)
  exact ⟨Try.underlying23, ⟨i, _, hi, hz, h1, h2, rfl⟩, by decide, by decide⟩
theorem flat32_len {L : List Bytes} (h : ∀ x ∈ L, x.length = 32) : (L.flatMap bcs).length = L.length * 32 := flat_length bcs 32 L (bcs_32 h)
theorem flat32_one (L : List Bytes) : ∀ u ∈ L.flatMap bcs, u.oneCell' = true := by
  intro u hu
  obtain ⟨c, _, hc⟩ := List.mem_flatMap.1 hu
  exact bcs_one c u hc
theorem LogAt.byType {w w' : World} {p base : Nat} {v : Value} {F : RowsB} {T : List Nat} (h : LogAt w p base v F) (g : Chg T w w') (hT : ∀ q ∈ T, ∃ cs f, w.heap[q]? = some (.cells cs 32 f)) : LogAt w' p base v F := by
  refine ⟨g.heap h.cell fun hm => ?_, ownB_trD h.rows.1 g fun j hj => ?_, fun x hx => ownB_trD (h.rows.2 x hx) g fun j hj => ?_⟩
  · obtain ⟨cs, f, e⟩ := hT p hm
    rw [h.cell] at e
    simp at e
  · obtain ⟨cs, f, e⟩ := hT j hj
    exact ownB_not h.rows.1 e (by decide)
  · obtain ⟨cs, f, e⟩ := hT j hj
    exact ownB_not (h.rows.2 x hx) e (by decide)
/-- A cell of another type is none of those. -/
theorem heap_type {w w' : World} {q t : Nat} {cs : Array Value} {f : Nat × Nat} {T : List Nat} (h : w.heap[q]? = some (.cells cs t f)) (g : Chg T w w') (hT : ∀ q ∈ T, ∃ cs t2 f, t2 ≠ t ∧ w.heap[q]? = some (.cells cs t2 f)) : w'.heap[q]? = some (.cells cs t f) :=
  g.heap h fun hm => by
    obtain ⟨cs2, t2, f2, hne, e⟩ := hT q hm
    rw [h] at e
    simp at e
    exact hne e.2.1.symm
/-- What a log's call turns, by types. -/
theorem LogAt.types {w : World} {p base : Nat} {v : Value} {F : RowsB} (h : LogAt w p base v F) {t : Nat} (h1 : t ≠ 62) (h2 : t ≠ 22) : ∀ q ∈ p :: v.ownBlock.toList, ∃ cs t2 f, t2 ≠ t ∧ w.heap[q]? = some (.cells cs t2 f) := by
  intro q hq
  rcases List.mem_cons.1 hq with rfl | hq
  · exact ⟨_, _, _, h1.symm, h.cell⟩
  · obtain ⟨cs, f, e⟩ := ownB_type h.rows.1 q (by simpa using hq)
    exact ⟨_, _, _, h2.symm, e⟩
theorem own_types {w w' : World} {base e size n : Nat} {v : Value} {xs : List Value} {T : List Nat} (h : w.ownsRow base e size v n xs) (g : Chg T w w') (hT : ∀ q ∈ T, ∃ cs t2 f, t2 ≠ e ∧ w.heap[q]? = some (.cells cs t2 f)) : w'.ownsRow base e size v n xs := by
  refine ownB_trD h g fun j hj => ?_
  obtain ⟨cs, t2, f, hne, e2⟩ := hT j hj
  exact ownB_not h e2 hne.symm
/-- What is known while a proof is made. -/
structure PrvAt (L : List Bytes) (p base qo ql qv bo : Nat) (v : Value) (s : List Bytes × List Bytes) (w : World) (vl vo : Value) (F : RowsB) : Prop where
  log : LogAt w p base vl F
  frames : F.map (·.2) = s.2
  ocell : w.heap[qo]? = some (.cells #[vo] 23 (0, 0))
  orow : w.ownsRow bo 32 32 vo s.1.length (s.1.flatMap bcs)
  o32 : ∀ x ∈ s.1, x.length = 32
  lcell : w.heap[ql]? = some (.cells #[.pointer (some ⟨p, 0, none⟩)] 25 (0, 0))
  vcell : w.heap[qv]? = some (.cells #[v] 23 (0, 0))
  dg : Dg w v L
  ne : qo ≠ qv
  ap : ∀ k, vblk v = some k → k ≠ p ∧ k ≠ qo ∧ vl.ownBlock ≠ some k ∧ vo.ownBlock ≠ some k
  bb : base ≤ w.heap.size ∧ bo ≤ w.heap.size
theorem PrvAt.tr0 {L : List Bytes} {p base qo ql qv bo : Nat} {v : Value} {s : List Bytes × List Bytes} {w w' : World} {vl vo : Value} {F : RowsB} (h : PrvAt L p base qo ql qv bo v s w vl vo F) (g : Chg [] w w') : PrvAt L p base qo ql qv bo v s w' vl vo F :=
  ⟨h.log.tr0 g, h.frames, g.heap h.ocell (by simp), own_tr h.orow g (by simp), h.o32, g.heap h.lcell (by simp), g.heap h.vcell (by simp), h.dg.tr0 g, h.ne, h.ap, Nat.le_trans h.bb.1 g.size, Nat.le_trans h.bb.2 g.size⟩
def setP (p qo : Nat) (vl vo : Value) : List Nat := p :: qo :: (vl.ownBlock.toList ++ vo.ownBlock.toList)
theorem mem_setP {p qo q : Nat} {vl vo : Value} : q ∈ setP p qo vl vo ↔ q = p ∨ q = qo ∨ vl.ownBlock = some q ∨ vo.ownBlock = some q := by
  unfold setP
  simp only [List.mem_cons, List.mem_append, Option.mem_toList, Option.mem_def]
/-- Digests of the walk's own are written. -/
theorem PrvAt.keep {L : List Bytes} {p base qo ql qv bo B : Nat} {v : Value} {s : List Bytes × List Bytes} {w w' : World} {vl vo : Value} {F : RowsB} {T : List Nat} (h : PrvAt L p base qo ql qv bo v s w vl vo F) (hB : ∀ k, vblk v = some k → k < B) (g : Chg T w w')
    (hT : ∀ q ∈ T, q ∉ setP p qo vl vo ∧ B ≤ q ∧ ∃ cs f, w.heap[q]? = some (.cells cs 32 f)) : PrvAt L p base qo ql qv bo v s w' vl vo F := by
  have hD : ∀ t, 32 ≠ t → ∀ q ∈ T, ∃ cs t2 f, t2 ≠ t ∧ w.heap[q]? = some (.cells cs t2 f) := fun t ht q hq => by
    obtain ⟨_, _, cs, f, e⟩ := hT q hq
    exact ⟨cs, _, f, ht, e⟩
  refine ⟨h.log.byType g fun q hq => (hT q hq).2.2, h.frames, heap_type h.ocell g (hD _ (by decide)), ownB_trD h.orow g fun j hj => ?_, h.o32, heap_type h.lcell g (hD _ (by decide)), heap_type h.vcell g (hD _ (by decide)), h.dg.tr g fun k hk hm => ?_, h.ne, h.ap, Nat.le_trans h.bb.1 g.size, Nat.le_trans h.bb.2 g.size⟩
  · exact fun e => (hT j hj).1 (mem_setP.2 (.inr (.inr (.inr e))))
  · have := hB k hk
    have := (hT k hm).2.1
    omega
set_option maxHeartbeats 8000000 in
set_option maxRecDepth 100000 in
theorem prove1_run (w : World) {L : List Bytes} {p base qo ql qv bo : Nat} {v : Value} {s : List Bytes × List Bytes} {vl vo : Value} {F : RowsB} (h : PrvAt L p base qo ql qv bo v s w vl vo F) (a b : Nat) (hab : a < b) (hb : b ≤ L.length) (hfl : F.length + L.length ≤ 900000) (hol : s.1.length ≤ 100000) :
    Calls Try.prog 52 #[.int .i64 a, .int .i64 b, .pointer (some ⟨qo, 0, none⟩), .pointer (some ⟨ql, 0, none⟩), .pointer (some ⟨qv, 0, none⟩)] w fun e w' => e = .returned (.agg (bcs zero32).toArray) ∧
      ∃ vl' vo' F', PrvAt L p base qo ql qv bo v (s.1 ++ [(treeV (cutL L a b)).1], s.2 ++ (treeV (cutL L a b)).2) w' vl' vo' F' ∧ Chg (setP p qo vl vo) w w' ∧ SameNew w vl vl' ∧ SameNew w vo vo' := by
  have hs1 := h.dg.sl.le
  unfold maxLen at hs1
  obtain ⟨b0, off, c0, rfl, hc1, hc2, hbl, _⟩ := h.dg.at (by omega)
  obtain ⟨X, Y⟩ := s
  dsimp only at hol ⊢
  obtain ⟨ao, co, rfl⟩ := own_shape h.orow
  have dC : Dg w (.slice (some ⟨b0, off + a * 32, none⟩) (b - a) (c0 - a)) (cutL L a b) := by
    have d1 := h.dg.take (k := b) hb
    have hl : (L.take b).length = b := by rw [List.length_take]; omega
    have d2 := Dg.drop (L := L.take b) (b := b0) (off := off) (c := c0) (by rw [hl]; exact d1) (k := a) (by omega) (by omega)
    rw [hl] at d2
    exact d2
  have hcl : (cutL L a b).length = b - a := cutL_len hb
  have t32 : (treeV (cutL L a b)).1.length = 32 := treeV_len dC.len
  have hap := h.ap
  have kR := fun wx vl' F' (l : LogAt wx p base vl' F') (g1 : base ≤ wx.heap.size) (g2 : F'.length + (cutL L a b).length ≤ 900000) v' h1 h2 => root_run _ (cutL L a b) rfl wx p base vl' F' l g1 g2 v' h1 h2
  rw [hcl] at kR
  generalize cutL L a b = C at *
  generalize treeV C = R at *
  obtain ⟨x, f⟩ := R
  dsimp only at *
  have k0 := h.ocell
  have k1 := h.lcell
  have k2 := h.vcell
  have hbn := hap b0 (vblk_slice.2 ⟨by omega, rfl⟩)
  have tyL := h.log.types (t := 32) (by decide) (by decide)
  have tyO := h.log.types (t := 23) (by decide) (by decide)
  have tyP := h.log.types (t := 25) (by decide) (by decide)
  have hLi : (L.length : Int) ≤ 9223372036854775807 := by omega
  have hbi : (b : Int) ≤ L.length := by omega
  have hai : (a : Int) < b := by omega
  replace hap := Lib.hid hap
  replace kR := Lib.hid kR
  replace tyL := Lib.hid tyL
  replace tyO := Lib.hid tyO
  replace tyP := Lib.hid tyP
  replace hbn := Lib.hid hbn
  have hwq := lt_of_heap k0
  have hpw := h.log.lt
  have hdg := h.dg
  have hX32 := Lib.hid h.o32
  go_enter Try.func52, Try.ntmps52
  go_wp2_with (refine alloc_bytes (by rfl) 32 (by rfl) 32 (by kernel_rfl) ?_; intro w0 h0 g0 s0; replace s0 : Hid _ := s0)
  have z0 := h.tr0 g0
  have hlw : ∀ j, (Value.slice ao X.length co).ownBlock = some j → j < w.heap.size := fun j hj => (h.orow.lt j hj).2
  have hll : ∀ j, vl.ownBlock = some j → j < w.heap.size := fun j hj => (h.log.rows.1.lt j hj).2
  replace hlw := Lib.hid hlw
  replace hll := Lib.hid hll
  clear k0 k1 k2 h
  refine' region_softW (fun m => match m with | 0 => p :: vl.ownBlock.toList | 1 => (Value.slice ao X.length co).ownBlock.toList | _ => []) (fun m wx => w0.heap.size ≤ wx.heap.size ∧ wx.heap[w.heap.size]? = some (.cells (bcs (List.replicate 32 0)).toArray 32 (0, 0)) ∧ Chg (p :: (vl.ownBlock.toList ++ (Value.slice ao X.length co).ownBlock.toList)) w wx ∧ ∃ vl' F', LogAt wx p base vl' F' ∧ F'.map (·.2) = (if m = 0 then Y else Y ++ f) ∧ SameNew w vl vl' ∧ (m = 0 → vl' = vl ∧ F' = F) ∧ wx.heap[qo]? = some (.cells #[.slice ao X.length co] 23 (0, 0)) ∧ (m ≤ 1 → wx.ownsRow bo 32 32 (.slice ao X.length co) X.length (X.flatMap bcs)) ∧ wx.heap[ql]? = some (.cells #[.pointer (some ⟨p, 0, none⟩)] 25 (0, 0)) ∧ wx.heap[qv]? = some (.cells #[.slice (some ⟨b0, off, none⟩) L.length c0] 23 (0, 0))) 9 [cst (.slice ao X.length co), cst (.pointer (some ⟨p, 0, none⟩)), cst (.slice (some ⟨b0, off, none⟩) L.length c0), cst (.int .i64 a), cst (.int .i64 b), cst (.slice (some ⟨b0, off + a * 32, none⟩) (b - a) (c0 - a)), cst (.agg (bcs x).toArray), fun v w => Dg w v [x] ∧ ∀ k, vblk v = some k → w0.heap.size ≤ k, fun v w' => w'.ownsRow bo 32 32 v (X.length + 1) ((X ++ [x]).flatMap bcs) ∧ SameNew w0 (.slice ao X.length co) v] [false, false, false, false, false, false, true, false, true] [99, 99, 99, 99, 99, 99, 99, 99, 99] rfl rfl rfl (by kernel_rfl) (by kernel_rfl) (by kernel_rfl) (by kernel_rfl) (by intro j w w' ⟨i0, i1, i2, vl', F', i3, i4, i5, i6, i7, i8, i9, i10⟩ g; exact ⟨Nat.le_trans i0 g.size, g.heap i1 (by simp), i2.t0 g, vl', F', i3.tr0 g, i4, i5, i6, g.heap i7 (by simp), fun h => own_tr (i8 h) g (by simp), g.heap i9 (by simp), g.heap i10 (by simp)⟩) (⟨Nat.le_refl _, h0, g0.of0, vl, F, z0.log, z0.frames, SameNew.refl _ _, fun _ => ⟨rfl, rfl⟩, z0.ocell, fun _ => z0.orow, z0.lcell, z0.vcell⟩) ⟨staysW_cst _ _, ⟨staysW_cst _ _, ⟨staysW_cst _ _, ⟨staysW_cst _ _, ⟨staysW_cst _ _, ⟨staysW_cst _ _, ⟨staysW_cstW _ _ _, ⟨⟨fun _ _ _ ⟨h1, h2⟩ g => ⟨h1.tr0 g, h2⟩, fun m v w' w'' ⟨h1, h2⟩ g => ⟨h1.tr g (fun k hk hm => by have h3 := h2 k hk; have hgs := g0.size; match m, hm with | 0, hm => (rcases List.mem_cons.1 hm with e | e; omega; have := hll.out k (by simpa using e); omega) | 1, hm => (have := hlw.out k (by simpa using hm); omega) | m + 2, hm => simp at hm), h2⟩⟩, ⟨⟨fun _ _ _ h g => ⟨own_tr h.1 g (by simp), h.2⟩, fun m hm v w' w'' h g => ⟨ownB_trD h.1 g (fun j hj => by match m, hm, hj with | m + 2, _, hj => simp at hj), h.2⟩⟩, trivial⟩⟩⟩⟩⟩⟩⟩⟩⟩ _ (fun V => by simp only [putAll, Act.put, List.take_succ_cons, List.take_zero, List.setIfInBounds_toArray, List.set_cons_zero, List.set_cons_succ, Nat.reduceAdd]; exact rfl) ?hs1 ?ht1
  case hs1 =>
    simp only [List.take_succ_cons, List.take_zero, softsW]
    refine ⟨?_, ?_, ?_, ?_, ?_, ?_, ?_, ?_, ?_, trivial⟩
    · intro V wx hi hd
      simp [phi, Region.binds, cst] at hd
      try simp only [hd]
      first
        | (refine soft_const rfl ?_; go_simp; done)
        | (refine soft_const rfl ?_; go_simp; exact rfl)
        | (exact soft_cellN rfl _ _ rfl _ rfl _ _ ((by obtain ⟨j, _, hi⟩ := hi; obtain ⟨i0, i1, i2, vl', F', i3, i4, i5, i6, i7, i8, i9, i10⟩ := hi; exact (cells1 i7).1)) Try.underlying23 rfl)
        | (exact soft_cellN rfl _ _ rfl _ rfl _ _ ((by obtain ⟨j, _, hi⟩ := hi; obtain ⟨i0, i1, i2, vl', F', i3, i4, i5, i6, i7, i8, i9, i10⟩ := hi; exact (cells1 i9).1)) Try.underlying25 rfl)
        | (exact soft_cellN rfl _ _ rfl _ rfl _ _ ((by obtain ⟨j, _, hi⟩ := hi; obtain ⟨i0, i1, i2, vl', F', i3, i4, i5, i6, i7, i8, i9, i10⟩ := hi; exact (cells1 i10).1)) Try.underlying23 rfl)
        | (exact soft_skip rfl)
    · intro V wx hi hd
      simp [phi, Region.binds, cst] at hd
      try simp only [hd]
      first
        | (refine soft_const rfl ?_; go_simp; done)
        | (refine soft_const rfl ?_; go_simp; exact rfl)
        | (exact soft_cellN rfl _ _ rfl _ rfl _ _ ((by obtain ⟨j, _, hi⟩ := hi; obtain ⟨i0, i1, i2, vl', F', i3, i4, i5, i6, i7, i8, i9, i10⟩ := hi; exact (cells1 i7).1)) Try.underlying23 rfl)
        | (exact soft_cellN rfl _ _ rfl _ rfl _ _ ((by obtain ⟨j, _, hi⟩ := hi; obtain ⟨i0, i1, i2, vl', F', i3, i4, i5, i6, i7, i8, i9, i10⟩ := hi; exact (cells1 i9).1)) Try.underlying25 rfl)
        | (exact soft_cellN rfl _ _ rfl _ rfl _ _ ((by obtain ⟨j, _, hi⟩ := hi; obtain ⟨i0, i1, i2, vl', F', i3, i4, i5, i6, i7, i8, i9, i10⟩ := hi; exact (cells1 i10).1)) Try.underlying23 rfl)
        | (exact soft_skip rfl)
    · intro V wx hi hd
      simp [phi, Region.binds, cst] at hd
      try simp only [hd]
      first
        | (refine soft_const rfl ?_; go_simp; done)
        | (refine soft_const rfl ?_; go_simp; exact rfl)
        | (exact soft_cellN rfl _ _ rfl _ rfl _ _ ((by obtain ⟨j, _, hi⟩ := hi; obtain ⟨i0, i1, i2, vl', F', i3, i4, i5, i6, i7, i8, i9, i10⟩ := hi; exact (cells1 i7).1)) Try.underlying23 rfl)
        | (exact soft_cellN rfl _ _ rfl _ rfl _ _ ((by obtain ⟨j, _, hi⟩ := hi; obtain ⟨i0, i1, i2, vl', F', i3, i4, i5, i6, i7, i8, i9, i10⟩ := hi; exact (cells1 i9).1)) Try.underlying25 rfl)
        | (exact soft_cellN rfl _ _ rfl _ rfl _ _ ((by obtain ⟨j, _, hi⟩ := hi; obtain ⟨i0, i1, i2, vl', F', i3, i4, i5, i6, i7, i8, i9, i10⟩ := hi; exact (cells1 i10).1)) Try.underlying23 rfl)
        | (exact soft_skip rfl)
    · intro V wx hi hd
      simp [phi, Region.binds, cst] at hd
      try simp only [hd]
      first
        | (refine soft_const rfl ?_; go_simp; done)
        | (refine soft_const rfl ?_; go_simp; exact rfl)
        | (exact soft_cellN rfl _ _ rfl _ rfl _ _ ((by obtain ⟨j, _, hi⟩ := hi; obtain ⟨i0, i1, i2, vl', F', i3, i4, i5, i6, i7, i8, i9, i10⟩ := hi; exact (cells1 i7).1)) Try.underlying23 rfl)
        | (exact soft_cellN rfl _ _ rfl _ rfl _ _ ((by obtain ⟨j, _, hi⟩ := hi; obtain ⟨i0, i1, i2, vl', F', i3, i4, i5, i6, i7, i8, i9, i10⟩ := hi; exact (cells1 i9).1)) Try.underlying25 rfl)
        | (exact soft_cellN rfl _ _ rfl _ rfl _ _ ((by obtain ⟨j, _, hi⟩ := hi; obtain ⟨i0, i1, i2, vl', F', i3, i4, i5, i6, i7, i8, i9, i10⟩ := hi; exact (cells1 i10).1)) Try.underlying23 rfl)
        | (exact soft_skip rfl)
    · intro V wx hi hd
      simp [phi, Region.binds, cst] at hd
      try simp only [hd]
      first
        | (refine soft_const rfl ?_; go_simp; done)
        | (refine soft_const rfl ?_; go_simp; exact rfl)
        | (exact soft_cellN rfl _ _ rfl _ rfl _ _ ((by obtain ⟨j, _, hi⟩ := hi; obtain ⟨i0, i1, i2, vl', F', i3, i4, i5, i6, i7, i8, i9, i10⟩ := hi; exact (cells1 i7).1)) Try.underlying23 rfl)
        | (exact soft_cellN rfl _ _ rfl _ rfl _ _ ((by obtain ⟨j, _, hi⟩ := hi; obtain ⟨i0, i1, i2, vl', F', i3, i4, i5, i6, i7, i8, i9, i10⟩ := hi; exact (cells1 i9).1)) Try.underlying25 rfl)
        | (exact soft_cellN rfl _ _ rfl _ rfl _ _ ((by obtain ⟨j, _, hi⟩ := hi; obtain ⟨i0, i1, i2, vl', F', i3, i4, i5, i6, i7, i8, i9, i10⟩ := hi; exact (cells1 i10).1)) Try.underlying23 rfl)
        | (exact soft_skip rfl)
    · intro V wx hi hd
      simp [phi, Region.binds, cst] at hd
      try simp only [hd]
      refine soft_const rfl ?_
      go_simp
      rw [if_pos (by omega), if_pos (by omega), if_neg (by omega)]
    · intro V wx hi hd
      simp [phi, Region.binds, cst] at hd
      try simp only [hd]
      obtain ⟨i0, i1, i2, vl', F', i3, i4, i5, i6, i7, i8, i9, i10⟩ := hi
      obtain ⟨rfl, rfl⟩ := i6 (by first | rfl | trivial)
      have hbn := hbn.out
      have hd2 : Dg wx (.slice (some ⟨b0, off + a * 32, none⟩) (b - a) (c0 - a)) C := dC.tr i2 (fun k hk hm => by
        obtain ⟨_, hk2⟩ := vblk_slice.1 hk
        simp at hk2
        subst hk2
        rcases List.mem_cons.1 hm with e | e
        · exact hbn.1 e
        · rcases List.mem_append.1 e with e | e
          · exact hbn.2.2.1 (by simpa using e)
          · exact hbn.2.2.2 (by simpa using e))
      refine wstep_call rfl _ _ (by go_simp; try exact ⟨rfl, rfl⟩) ((kR.out wx vl' F' i3 (Nat.le_trans z0.bb.1 i0) (by omega) _ hd2 (fun k hk => by
        obtain ⟨_, hk2⟩ := vblk_slice.1 hk
        simp at hk2
        subst hk2
        exact ⟨hbn.1, hbn.2.2.1⟩)).mono ?_)
      rintro e w' ⟨rfl, v4, F4, l4, hF4, g4, sn4⟩
      exact ⟨_, rfl, g4, ⟨Nat.le_trans i0 g4.size, heap_type i1 g4 (i3.types (by decide) (by decide)), i2.trans g4 (fun q hq => .inl (by
        rcases List.mem_cons.1 hq with e | e
        · exact List.mem_cons.2 (.inl e)
        · exact List.mem_cons_of_mem _ (List.mem_append_left _ e))), v4, F4, l4, by rw [hF4, i4]; rfl, (by
        rcases sn4 with e | e
        · exact .inl e
        · exact .inr fun k hk => Nat.le_trans (Nat.le_trans g0.size i0) (e k hk)), fun h => absurd h (by decide), heap_type i7 g4 (i3.types (by decide) (by decide)), fun _ => own_types (i8 (by decide)) g4 (i3.types (by decide) (by decide)), heap_type i9 g4 (i3.types (by decide) (by decide)), heap_type i10 g4 (i3.types (by decide) (by decide))⟩, rfl⟩
    · intro V wx hi hd
      simp [phi, Region.binds, cst] at hd
      try simp only [hd]
      obtain ⟨j, _, hi⟩ := hi
      have hi0 := hi.1
      exact soft_made (w' := wx.alloc (.cells ([x].flatMap bcs).toArray 32)) (v := .slice (some ⟨wx.heap.size, 0, none⟩) 1 1) rfl (exec_build_digs 23 32 1 _ (by rfl) [x] rfl (by simp [t32]) (by simp) (by simp) (by rw [Array.toList_map]; rfl) Try.underlying23 (by kernel_rfl) (by kernel_rfl)) (Chg.alloc _ _ _) ⟨Dg.lit wx [x] (by simp [t32]) (by simp) (by simp) 32 1 rfl, fun k hk => by
        obtain ⟨_, hk2⟩ := vblk_slice.1 hk
        simp at hk2
        omega⟩
    · intro V wx hi hd
      simp [phi, Region.binds, cst] at hd
      try simp only [hd]
      obtain ⟨i0, i1, i2, vl', F', i3, i4, i5, i6, i7, i8, i9, i10⟩ := hi
      have hd0 : Dg wx (V 7) [x] := hd.2.1.1
      have hB := i8 (by decide)
      refine wstep_list rfl (wpList_append_slF _ rfl (.tmp 8) (.tmp 15) 23 32 32 32 rfl el_dig bo (.slice ao X.length co) X.length _ rfl hB (V 7) 1 ([x].flatMap bcs) rfl hd0.sl (by simp [bcs_length, t32]) (flat32_one [x]) (by unfold big; omega) (Nat.le_trans z0.bb.2 i0) (fun v' w' q1 q2 q3 => ?_))
      have g := Chg.grown q2
      have hty : ∀ t, 32 ≠ t → ∀ q ∈ (Value.slice ao X.length co).ownBlock.toList, ∃ cs t2 f, t2 ≠ t ∧ wx.heap[q]? = some (.cells cs t2 f) := fun t ht q hq => by
        obtain ⟨cs, f, e⟩ := ownB_type hB q (by simpa using hq)
        exact ⟨cs, _, f, ht, e⟩
      refine ⟨v', rfl, g, ⟨Nat.le_trans i0 g.size, g.heap i1 (fun hm => by have := hlw.out _ (by simpa using hm); omega), i2.trans g (fun q hq => .inl (List.mem_cons_of_mem _ (List.mem_append_right _ hq))), vl', F', i3.byType g (fun q hq => ?_), by simpa using i4, i5, fun h => absurd h (by decide), heap_type i7 g (hty _ (by decide)), fun h => absurd h (by decide), heap_type i9 g (hty _ (by decide)), heap_type i10 g (hty _ (by decide))⟩, ?_, ?_⟩
      · obtain ⟨cs, f, e⟩ := ownB_type hB q (by simpa using hq)
        exact ⟨cs, f, e⟩
      · rw [List.flatMap_append]
        exact q1
      · rcases q3 with e | e
        · exact .inl e
        · exact .inr fun k hk => Nat.le_trans i0 (e k hk)
  intro V w5 hi hk
  obtain ⟨i0, i1, i2, vl', F', i3, i4, i5, i6, i7, i8, i9, i10⟩ := hi
  have j8 := hk 8 (by decide)
  replace j8 : w5.ownsRow bo 32 32 (V 8) (X.length + 1) ((X ++ [x]).flatMap bcs) ∧ SameNew w0 (.slice ao X.length co) (V 8) := j8
  replace i4 : F'.map (·.2) = Y ++ f := i4
  simp only [List.drop_succ_cons, List.drop_zero]
  generalize V 8 = v8 at *
  obtain ⟨o8, sn8⟩ := j8
  obtain ⟨a8, c8, rfl⟩ := own_shape o8
  obtain ⟨e0, f0⟩ := cells1 i7
  clear hk i6 i8 kR tyL tyO tyP dC
  have gS := Chg.setCell w5 ⟨qo, 0, none⟩ (.slice a8 (X.length + 1) c8)
  have hoq : w.heap.size ≠ qo := by omega
  have hty : ∀ t, 23 ≠ t → ∀ q ∈ [qo], ∃ cs t2 f, t2 ≠ t ∧ w5.heap[q]? = some (.cells cs t2 f) := fun t ht q hq => by
    rw [List.mem_singleton.1 hq]
    exact ⟨_, _, _, ht, i7⟩
  have u1 := gS.heap i1 (by simpa using hoq)
  have u3 : LogAt (w5.setCell ⟨qo, 0, none⟩ (.slice a8 (X.length + 1) c8)) p base vl' F' := ⟨heap_type i3.cell gS (hty _ (by decide)), own_types i3.rows.1 gS (hty _ (by decide)), fun x hx => own_types (i3.rows.2 x hx) gS (hty _ (by decide))⟩
  have u7 : (w5.setCell ⟨qo, 0, none⟩ (.slice a8 (X.length + 1) c8)).heap[qo]? = some (.cells #[.slice a8 (X.length + 1) c8] 23 (0, 0)) := by
    rw [heap_setCell_same _ qo 0 _ _ _ i7]; rfl
  have u8 := own_types o8 gS (hty _ (by decide))
  have u9 := heap_type i9 gS (hty _ (by decide))
  have hne := z0.ne
  have u10 := gS.heap i10 (by simpa using fun e => hne e.symm)
  have c5 : Chg (setP p qo vl (.slice ao X.length co)) w (w5.setCell ⟨qo, 0, none⟩ (.slice a8 (X.length + 1) c8)) := by
    refine (i2.mono (fun q hq => .inl ?_)).trans gS (fun q hq => .inl ?_)
    · rw [mem_setP]
      rcases List.mem_cons.1 hq with e | e
      · exact .inl e
      · rcases List.mem_append.1 e with e | e
        · exact .inr (.inr (.inl (by simpa using e)))
        · exact .inr (.inr (.inr (by simpa using e)))
    · rw [mem_setP]
      exact .inr (.inl (List.mem_singleton.1 hq))
  have hbb := z0.bb
  have hz5 : w0.heap.size ≤ (w5.setCell ⟨qo, 0, none⟩ (.slice a8 (X.length + 1) c8)).heap.size := Nat.le_trans i0 gS.size
  replace u3 := Lib.hid u3
  replace u7 := Lib.hid u7
  replace u9 := Lib.hid u9
  replace u10 := Lib.hid u10
  clear i1 i2 i3 i9 i10 gS hty o8 z0
  go_wp2_with (refine store_bytes (by rfl) 32 _ _ (by rfl) w.heap.size 32 _ (by rfl) zero32 (by rfl) (List.replicate 32 0) u1 (by kernel_rfl) zero32_len (by simp) ?_; intro w9 h9 g9 s9)
  generalize w5.setCell ⟨qo, 0, none⟩ (.slice a8 (X.length + 1) c8) = w6 at *
  have hty9 : ∀ t, 32 ≠ t → ∀ q ∈ [w.heap.size], ∃ cs t2 f, t2 ≠ t ∧ w6.heap[q]? = some (.cells cs t2 f) := fun t ht q hq => by
    rw [List.mem_singleton.1 hq]
    exact ⟨_, _, _, ht, u1⟩
  have hz0 := s0.out
  have snw : SameNew w (.slice ao X.length co) (.slice a8 (X.length + 1) c8) := by
    rcases sn8 with e | e
    · exact .inl e
    · exact .inr fun k hk => Nat.le_trans g0.size (e k hk)
  have c9 := c5.tn g9 (Nat.le_refl _)
  refine ret_bytes 7 32 (by rfl) 32 5 Try.underlying32 (by kernel_rfl) (by rfl) _ rfl zero32 _ h9 zero32_len ⟨rfl, vl', _, F', ⟨u3.out.byType g9 (fun q hq => by rw [List.mem_singleton.1 hq]; exact ⟨_, _, u1⟩), i4, heap_type u7.out g9 (hty9 _ (by decide)), ?_, ?_, heap_type u9.out g9 (hty9 _ (by decide)), heap_type u10.out g9 (hty9 _ (by decide)), ?_, hne, ?_, ?_⟩, c9, i5, snw⟩
  · rw [List.length_append]
    exact ownB_trD u8 g9 (fun j hj e => by
      rw [List.mem_singleton.1 hj] at e
      rcases sn8 with k | k
      · have := hlw.out w.heap.size (by rw [← k]; exact e)
        omega
      · have := k _ e
        omega)
  · intro y hy
    rcases List.mem_append.1 hy with e | e
    · exact hX32.out y e
    · rw [List.mem_singleton.1 e]; exact t32
  · refine hdg.tr c9 fun k hk hm => ?_
    have hk2 := hap.out k hk
    rcases mem_setP.1 hm with e | e | e | e
    · exact hk2.1 e
    · exact hk2.2.1 e
    · exact hk2.2.2.1 e
    · exact hk2.2.2.2 e
  · intro k hk
    have hk2 := hap.out k hk
    have hk3 := hdg.lt k hk
    exact ⟨hk2.1, hk2.2.1, i5.ne hk3 hk2.2.2.1, snw.ne hk3 hk2.2.2.2⟩
  · exact ⟨Nat.le_trans hbb.1 (Nat.le_trans hz5 g9.size), Nat.le_trans hbb.2 (Nat.le_trans hz5 g9.size)⟩
def IPrv (L : List Bytes) (p base qo ql qv bo B : Nat) (v : Value) (s : List Bytes × List Bytes) (w : World) (S : List Nat) : Prop := ∃ vl vo F, PrvAt L p base qo ql qv bo v s w vl vo F ∧ S = setP p qo vl vo ∧ B ≤ w.heap.size
def KPrv (s : List Bytes × List Bytes) (c _d : Nat) : Prop := s.2.length + 100 * c ≤ 800000 ∧ s.1.length + c ≤ 50000
theorem PrvAt.lts {L : List Bytes} {p base qo ql qv bo : Nat} {v : Value} {s : List Bytes × List Bytes} {w : World} {vl vo : Value} {F : RowsB} (h : PrvAt L p base qo ql qv bo v s w vl vo F) : ∀ q ∈ setP p qo vl vo, q < w.heap.size := by
  intro q hq
  rcases mem_setP.1 hq with rfl | rfl | e | e
  · exact h.log.lt
  · exact lt_of_heap h.ocell
  · exact (h.log.rows.1.lt q e).2
  · exact (h.orow.lt q e).2
theorem tree_cut_len {L : List Bytes} (hl : L.length ≤ 100) (a b : Nat) : (treeV (cutL L a b)).2.length ≤ 100 := by
  rw [treeV_count]
  have : (cutL L a b).length ≤ L.length := by simp [cutL]; omega
  split <;> omega
theorem proveWalks {L : List Bytes} (hl : L.length ≤ 100) (p base qo ql qv bo B lo hi : Nat) (v : Value) (hB : ∀ k, vblk v = some k → k < B) :
    Walks (proveA L) (IPrv L p base qo ql qv bo B v) KPrv B lo hi L.length 46 52 48 #[] #[.pointer (some ⟨qo, 0, none⟩), .pointer (some ⟨ql, 0, none⟩), .pointer (some ⟨qv, 0, none⟩)] #[] where
  ein := fun args w => by go_simp
  ebe := fun args w => by go_simp
  eno := fun args w => by go_simp
  keep := fun s w w' S T ⟨vl, vo, F, h1, h2, h3⟩ g hT => ⟨vl, vo, F, h1.keep hB g (by rw [← h2]; exact hT), h2, Nat.le_trans h3 g.size⟩
  lt := fun s w S ⟨vl, vo, F, h1, h2, h3⟩ => ⟨h3, by rw [h2]; exact h1.lts⟩
  inn := fun s w S a b c d ⟨vl, vo, F, h1, h2, h3⟩ _ _ _ _ _ => (none_ok' w _ _).mono fun e w' ⟨he, g⟩ => ⟨he, zero32_len, S, ⟨vl, vo, F, h1.tr0 g, h2, Nat.le_trans h3 g.size⟩, g.of0, fun x hx => .inl hx⟩
  bes := fun s w S a b c d ⟨vl, vo, F, h1, h2, h3⟩ ⟨k1, k2⟩ hab hb => (prove1_run w h1 a b hab hb (by have := congrArg List.length h1.frames; simp at this; omega) (by omega)).mono fun e w' ⟨he, vl', vo', F', h4, g, s1, s2⟩ => by
    refine ⟨he, zero32_len, setP p qo vl' vo', ⟨vl', vo', F', h4, rfl, Nat.le_trans h3 g.size⟩, by rw [h2]; exact g, fun q hq => ?_⟩
    rw [h2]
    rcases mem_setP.1 hq with e | e | e | e
    · exact .inl (mem_setP.2 (.inl e))
    · exact .inl (mem_setP.2 (.inr (.inl e)))
    · rcases s1 with k | k
      · exact .inl (mem_setP.2 (.inr (.inr (.inl (by rw [← k]; exact e)))))
      · exact .inr (k q e)
    · rcases s2 with k | k
      · exact .inl (mem_setP.2 (.inr (.inr (.inr (by rw [← k]; exact e)))))
      · exact .inr (k q e)
  nod := fun s w S x y c d ⟨vl, vo, F, h1, h2, h3⟩ _ _ _ => (nothing_ok w x y).mono fun e w' ⟨he, g⟩ => ⟨he, zero32_len, S, ⟨vl, vo, F, h1.tr0 g, h2, Nat.le_trans h3 g.size⟩, g.of0, fun x hx => .inl hx⟩
  kinn := fun s a b c d _ _ h => h
  kbes := fun s a b c d _ _ ⟨k1, k2⟩ => by
    have := tree_cut_len hl a b
    refine ⟨?_, ?_⟩
    · show (s.2 ++ (treeV (cutL L a b)).2).length + 100 * c ≤ 800000
      rw [List.length_append]; omega
    · show (s.1 ++ [(treeV (cutL L a b)).1]).length + c ≤ 50000
      rw [List.length_append]; simp; omega
  knod := fun s x y c d h => h
def proveV (L : List Bytes) (lo hi : Nat) : List Bytes := if L.length = 0 then [] else (overV (proveA L) lo hi 0 L.length ([], [])).2.1
def proveL (L : List Bytes) (lo hi : Nat) (Y : List Bytes) : List Bytes := if L.length = 0 then Y else (overV (proveA L) lo hi 0 L.length ([], Y)).2.2

set_option maxHeartbeats 8000000 in
set_option maxRecDepth 100000 in
theorem prove_ok (w : World) (p : Nat) (vl : Value) (F : RowsB) (hF : LogAt w p p vl F) (v : Value) (L : List Bytes) (hd : Dg w v L) (hl : L.length ≤ 100) (hfl : F.length ≤ 700000) (hap : ∀ k, vblk v = some k → k ≠ p ∧ vl.ownBlock ≠ some k) (lo hi : Nat) (h1 : lo ≤ hi) (h2 : hi ≤ L.length) :
    Calls Try.prog 32 #[.pointer (some ⟨p, 0, none⟩), v, .int .i64 lo, .int .i64 hi] w fun e w' => ∃ vr, e = .returned vr ∧ w'.ownsRow w.heap.size 32 32 vr (proveV L lo hi).length ((proveV L lo hi).flatMap bcs) ∧
      ∃ v' F', LogAt w' p p v' F' ∧ F'.map (·.2) = proveL L lo hi (F.map (·.2)) ∧ Chg (p :: vl.ownBlock.toList) w w' ∧ SameNew w vl v' := by
  have kF := fun w => pfits_ok w (L.length : Int) lo hi
  have hfit : fitsP L.length lo hi = true := by simp only [fitsP, Bool.and_eq_true, decide_eq_true_eq]; omega
  rw [hfit] at kF
  clear hfit
  have hpw := hF.lt
  by_cases h0 : L.length = 0
  · have e1 : proveV L lo hi = [] := by unfold proveV; rw [if_pos h0]
    have e2 : ∀ Y, proveL L lo hi Y = Y := fun Y => by unfold proveL; rw [if_pos h0]
    rw [e1, e2]
    obtain ⟨a0, c0, rfl⟩ := hd.sl.shape
    rw [h0]
    have gb := (Chg.alloc [] w (.cells #[.pointer (some ⟨p, 0, none⟩)] 25)).t0 (Chg.alloc [] _ (.cells #[.slice a0 0 c0] 23))
    clear kF hap
    go_enter Try.func32, Try.ntmps32
    go_wp2
    go_ret
    exact ⟨_, rfl, World.ownsRow_nil _ _ _ _, vl, F, hF.tr0 gb, rfl, gb.of0, SameNew.refl _ _⟩
  · obtain ⟨b0, off, c0, rfl, hc1, hc2, hbl, _⟩ := hd.at (by omega)
    have hbn := hap b0 (vblk_slice.2 ⟨by omega, rfl⟩)
    have hne0 : (L.length : Int) ≠ 0 := by omega
    have e1 : proveV L lo hi = (overV (proveA L) lo hi 0 L.length ([], F.map (·.2))).2.1 := by
      unfold proveV
      rw [if_neg h0, prove_add (by omega) ([], F.map (·.2))]
      rfl
    have e2 : proveL L lo hi (F.map (·.2)) = (overV (proveA L) lo hi 0 L.length ([], F.map (·.2))).2.2 := by unfold proveL; rw [if_neg h0]
    rw [e1, e2]
    clear e1 e2
    have hn := need_le (lo := lo) (hi := hi) (n := L.length) (by omega) (by omega) h2
    have kO := fun qo ql qv B hB wx S hI => over_run (proveWalks hl p p qo ql qv w.heap.size B lo hi (.slice (some ⟨b0, off, none⟩) L.length c0) hB) (by omega) (by omega) (by omega) 0 L.length (by omega) (Nat.le_refl _) 0 0 ([], F.map (·.2)) wx S hI (by
      refine ⟨?_, ?_⟩
      · simp; omega
      · simp; omega)
    generalize overV (proveA L) lo hi 0 L.length ([], F.map (·.2)) = R at *
    obtain ⟨x, P, Y⟩ := R
    dsimp only at *
    replace kO := Lib.hid kO
    replace hap := Lib.hid hap
    have hb1 := heap_alloc_new w (.cells #[.pointer (some ⟨p, 0, none⟩)] 25)
    have ga := Chg.alloc [] w (.cells #[.pointer (some ⟨p, 0, none⟩)] 25)
    have hb2 := heap_alloc_new (w.alloc (.cells #[.pointer (some ⟨p, 0, none⟩)] 25)) (.cells #[.slice (some ⟨b0, off, none⟩) L.length c0] 23)
    have gb := Chg.alloc [] (w.alloc (.cells #[.pointer (some ⟨p, 0, none⟩)] 25)) (.cells #[.slice (some ⟨b0, off, none⟩) L.length c0] 23)
    replace hb1 := gb.heap hb1 (by simp)
    replace ga := ga.t0 gb
    rw [World.size_alloc] at hb2
    have hz : ((w.alloc (.cells #[.pointer (some ⟨p, 0, none⟩)] 25)).alloc (.cells #[.slice (some ⟨b0, off, none⟩) L.length c0] 23)).heap.size = w.heap.size + 2 := by simp
    replace hz := Lib.hid hz
    go_enter Try.func32, Try.ntmps32
    go_wp2_with fail
    refine (kF _).mono ?_
    rintro e w1 ⟨rfl, rfl⟩
    go_wp2_with fail
    generalize (w.alloc (.cells #[.pointer (some ⟨p, 0, none⟩)] 25)).alloc (.cells #[.slice (some ⟨b0, off, none⟩) L.length c0] 23) = w1 at *
    have hb3 := heap_alloc_new w1 (.cells #[.slice none 0 0] 23)
    have gc := Chg.alloc [] w1 (.cells #[.slice none 0 0] 23)
    rw [hz.out] at hb3
    replace hb1 := gc.heap hb1 (by simp)
    replace hb2 := gc.heap hb2 (by simp)
    replace ga := ga.t0 gc
    have hz1 : (w1.alloc (.cells #[.slice none 0 0] 23)).heap.size = w.heap.size + 3 := by rw [World.size_alloc, hz.out]
    generalize w1.alloc (.cells #[.slice none 0 0] 23) = w2 at *
    have hpv : PrvAt L p p (w.heap.size + 1 + 1) w.heap.size (w.heap.size + 1) w.heap.size (.slice (some ⟨b0, off, none⟩) L.length c0) ([], F.map (·.2)) w2 vl (.slice none 0 0) F :=
      ⟨hF.tr0 ga, rfl, hb3, World.ownsRow_nil _ _ _ _, by simp, hb1, hb2, hd.tr0 ga, by omega, fun k hk => by
        have h1 := hap.out k hk
        have h2 := hd.lt k hk
        exact ⟨h1.1, by omega, h1.2, by simp [Value.ownBlock]⟩, by omega, by omega⟩
    refine (kO.out (w.heap.size + 1 + 1) w.heap.size (w.heap.size + 1) w2.heap.size (fun k hk => by have := hd.lt k hk; omega) w2 _ ⟨vl, _, F, hpv, rfl, Nat.le_refl _⟩).mono ?_
    clear hpv kO hb1 hb2 hb3 gb gc
    rintro e w3 ⟨rfl, _, _, S', ⟨vl', vo', F', q1, q2, q3⟩, g3, n3⟩
    have k0 := (cells1 q1.ocell).1
    have c3 : Chg (p :: vl.ownBlock.toList) w w3 := ga.of0.trans g3 (fun q hq => by
      rcases mem_setP.1 hq with e | e | e | e
      · exact .inl (List.mem_cons.2 (.inl e))
      · exact .inr (by omega)
      · exact .inl (List.mem_cons_of_mem _ (by simpa using e))
      · simp [Value.ownBlock] at e)
    have sn : SameNew w vl vl' := by
      by_cases e : vl'.ownBlock = vl.ownBlock
      · exact .inl e
      · refine .inr fun k hk => ?_
        have hm := n3 k (by rw [q2]; exact mem_setP.2 (.inr (.inr (.inl hk))))
        rcases hm with hm | hm
        · rcases mem_setP.1 hm with h | h | h | h
          · have h5 := ownB_not q1.log.rows.1 q1.log.cell (by decide)
            rw [h] at hk
            exact absurd hk h5
          · omega
          · exact absurd (by rw [hk, h]) e
          · simp [Value.ownBlock] at h
        · omega
    have ho := q1.orow
    have hl2 := q1.log
    have hfr := q1.frames
    obtain ⟨a3, c4, rfl⟩ := own_shape ho
    clear q1 q2 q3 g3 n3
    go_wp2
    go_ret
    exact ⟨_, rfl, ho, vl', F', hl2, hfr, c3, sn⟩
end Go.Proofs.Ytgepfmofignmfaa
