/-
  What is joined: the contract of proof.Join.
-/
import Derived.Test.YtgepfmofignmfaaProve
namespace Go.Proofs.Ytgepfmofignmfaa
set_option linter.unusedSimpArgs false
set_option linter.unusedVariables false
open Go.RowKit

/-- What is known while digests are joined. -/
structure JnAt (part : List Bytes) (lo p base q9 ql qf qp : Nat) (vp : Value) (s : List Bytes × List Bytes) (w : World) (vl vr : Value) (F : RowsB) : Prop where
  log : LogAt w p base vl F
  frames : F.map (·.2) = s.2
  rcell : w.heap[q9]? = some (.cells #[vr] 23 (0, 0))
  rdg : Dg w vr s.1
  lcell : w.heap[ql]? = some (.cells #[.pointer (some ⟨p, 0, none⟩)] 25 (0, 0))
  fcell : w.heap[qf]? = some (.cells #[.int .i64 lo] 3 (0, 0))
  pcell : w.heap[qp]? = some (.cells #[vp] 23 (0, 0))
  dg : Dg w vp part
  ne : q9 ≠ qp
  ap : ∀ k, (vblk vp = some k ∨ vblk vr = some k) → k ≠ p ∧ k ≠ q9 ∧ vl.ownBlock ≠ some k
  bb : base ≤ w.heap.size
theorem JnAt.tr0 {part : List Bytes} {lo p base q9 ql qf qp : Nat} {vp : Value} {s : List Bytes × List Bytes} {w w' : World} {vl vr : Value} {F : RowsB} (h : JnAt part lo p base q9 ql qf qp vp s w vl vr F) (g : Chg [] w w') : JnAt part lo p base q9 ql qf qp vp s w' vl vr F :=
  ⟨h.log.tr0 g, h.frames, g.heap h.rcell (by simp), h.rdg.tr0 g, g.heap h.lcell (by simp), g.heap h.fcell (by simp), g.heap h.pcell (by simp), h.dg.tr0 g, h.ne, h.ap, Nat.le_trans h.bb g.size⟩
def setJ (p q9 : Nat) (vl : Value) : List Nat := p :: q9 :: vl.ownBlock.toList
theorem mem_setJ {p q9 q : Nat} {vl : Value} : q ∈ setJ p q9 vl ↔ q = p ∨ q = q9 ∨ vl.ownBlock = some q := by
  unfold setJ
  simp only [List.mem_cons, Option.mem_toList, Option.mem_def]
theorem JnAt.keep {part : List Bytes} {lo p base q9 ql qf qp B : Nat} {vp : Value} {s : List Bytes × List Bytes} {w w' : World} {vl vr : Value} {F : RowsB} {T : List Nat} (h : JnAt part lo p base q9 ql qf qp vp s w vl vr F) (hB : ∀ k, (vblk vp = some k ∨ vblk vr = some k) → k < B) (g : Chg T w w')
    (hT : ∀ q ∈ T, q ∉ setJ p q9 vl ∧ B ≤ q ∧ ∃ cs f, w.heap[q]? = some (.cells cs 32 f)) : JnAt part lo p base q9 ql qf qp vp s w' vl vr F := by
  have hD : ∀ t, 32 ≠ t → ∀ q ∈ T, ∃ cs t2 f, t2 ≠ t ∧ w.heap[q]? = some (.cells cs t2 f) := fun t ht q hq => by
    obtain ⟨_, _, cs, f, e⟩ := hT q hq
    exact ⟨cs, _, f, ht, e⟩
  refine ⟨h.log.byType g fun q hq => (hT q hq).2.2, h.frames, heap_type h.rcell g (hD _ (by decide)), h.rdg.tr g fun k hk hm => ?_, heap_type h.lcell g (hD _ (by decide)), heap_type h.fcell g (hD _ (by decide)), heap_type h.pcell g (hD _ (by decide)), h.dg.tr g fun k hk hm => ?_, h.ne, h.ap, Nat.le_trans h.bb g.size⟩
  · have := hB k (.inr hk); have := (hT k hm).2.1; omega
  · have := hB k (.inl hk); have := (hT k hm).2.1; omega
/-- A log's call was made. -/
theorem JnAt.log' {part : List Bytes} {lo p base q9 ql qf qp : Nat} {vp : Value} {s : List Bytes × List Bytes} {w w' : World} {vl vr vl' : Value} {F F' : RowsB} {A : List Bytes} (h : JnAt part lo p base q9 ql qf qp vp s w vl vr F) (l : LogAt w' p base vl' F') (e : F'.map (·.2) = F.map (·.2) ++ A) (g : Chg (p :: vl.ownBlock.toList) w w') (sn : SameNew w vl vl') :
    JnAt part lo p base q9 ql qf qp vp (s.1, s.2 ++ A) w' vl' vr F' := by
  have hm : ∀ k, (vblk vp = some k ∨ vblk vr = some k) → k ∉ p :: vl.ownBlock.toList := fun k hk hm => by
    have := h.ap k hk
    rcases List.mem_cons.1 hm with e | e
    · exact this.1 e
    · exact this.2.2 (by simpa using e)
  refine ⟨l, by rw [e, h.frames], heap_type h.rcell g (h.log.types (by decide) (by decide)), h.rdg.tr g fun k hk => hm k (.inr hk), heap_type h.lcell g (h.log.types (by decide) (by decide)), heap_type h.fcell g (h.log.types (by decide) (by decide)), heap_type h.pcell g (h.log.types (by decide) (by decide)), h.dg.tr g fun k hk => hm k (.inl hk), h.ne, fun k hk => ?_, Nat.le_trans h.bb g.size⟩
  have h1 := h.ap k hk
  have h2 : k < w.heap.size := by
    rcases hk with hk | hk
    · exact h.dg.lt k hk
    · exact h.rdg.lt k hk
  exact ⟨h1.1, h1.2.1, sn.ne h2 h1.2.2⟩

set_option maxHeartbeats 8000000 in
set_option maxRecDepth 100000 in
theorem join1_run (w : World) {part : List Bytes} {lo p base q9 ql qf qp : Nat} {vp : Value} {s : List Bytes × List Bytes} {vl vr : Value} {F : RowsB} (h : JnAt part lo p base q9 ql qf qp vp s w vl vr F) (a b : Nat) (hlo : lo ≤ a) (hab : a < b) (hb : b ≤ lo + part.length) (hbN : b ≤ 65536) (hfl : F.length + (b - a) ≤ 900000) :
    Calls Try.prog 53 #[.int .i64 a, .int .i64 b, .pointer (some ⟨ql, 0, none⟩), .pointer (some ⟨qp, 0, none⟩), .pointer (some ⟨qf, 0, none⟩)] w fun e w' => e = .returned (.agg (bcs (treeV (cutL part (a - lo) (b - lo))).1).toArray) ∧
      ∃ vl' F', JnAt part lo p base q9 ql qf qp vp (s.1, s.2 ++ (treeV (cutL part (a - lo) (b - lo))).2) w' vl' vr F' ∧ Chg (p :: vl.ownBlock.toList) w w' ∧ SameNew w vl vl' := by
  have hs1 := h.dg.sl.le
  unfold maxLen at hs1
  obtain ⟨b0, off, c0, rfl, hc1, hc2, hbl, _⟩ := h.dg.at (by omega)
  obtain ⟨a', rfl⟩ : ∃ a', a = lo + a' := ⟨a - lo, by omega⟩
  obtain ⟨b', rfl⟩ : ∃ b', b = lo + b' := ⟨b - lo, by omega⟩
  simp only [Nat.add_sub_cancel_left]
  have dC : Dg w (.slice (some ⟨b0, off + a' * 32, none⟩) (b' - a') (c0 - a')) (cutL part a' b') := by
    have d1 := h.dg.take (k := b') (by omega)
    have hl : (part.take b').length = b' := by rw [List.length_take]; omega
    have d2 := Dg.drop (L := part.take b') (b := b0) (off := off) (c := c0) (by rw [hl]; exact d1) (k := a') (by omega) (by omega)
    rw [hl] at d2
    exact d2
  have hcl : (cutL part a' b').length = b' - a' := cutL_len (by omega)
  have t32 : (treeV (cutL part a' b')).1.length = 32 := treeV_len dC.len
  have hbn := h.ap b0 (.inl (vblk_slice.2 ⟨by omega, rfl⟩))
  have kR := fun wx (g : Chg [] w wx) => root_run _ (cutL part a' b') rfl wx p base vl F (h.log.tr0 g) (Nat.le_trans h.bb g.size) (by omega) _ (dC.tr0 g) (fun k hk => by
    obtain ⟨_, hk2⟩ := vblk_slice.1 hk
    simp at hk2
    subst hk2
    exact ⟨hbn.1, hbn.2.2⟩)
  generalize cutL part a' b' = C at *
  generalize treeV C = R at *
  obtain ⟨x, f⟩ := R
  dsimp only at *
  have k1 := (cells1 h.lcell).1
  have k2 := (cells1 h.pcell).1
  have k3 := (cells1 h.fcell).1
  have hLi : (part.length : Int) ≤ 9223372036854775807 := by omega
  have hbi : (b' : Int) ≤ part.length := by omega
  have hai : (a' : Int) < b' := by omega
  have hpw := h.log.lt
  have hll : ∀ j, vl.ownBlock = some j → j < w.heap.size := fun j hj => (h.log.rows.1.lt j hj).2
  have hw1 : IntKind.i64.wrap ((lo : Int) + a' - lo) = (a' : Int) := by rw [show (lo : Int) + a' - lo = a' by omega]; unfold IntKind.wrap; simp [IntKind.bits, IntKind.signed]; omega
  have hw2 : IntKind.i64.wrap ((lo : Int) + b' - lo) = (b' : Int) := by rw [show (lo : Int) + b' - lo = b' by omega]; unfold IntKind.wrap; simp [IntKind.bits, IntKind.signed]; omega
  replace kR := Lib.hid kR
  replace hbn := Lib.hid hbn
  replace hll := Lib.hid hll
  simp only [Int.natCast_add]
  go_enter Try.func53, Try.ntmps53
  go_wp2_with (refine alloc_bytes (by rfl) 32 (by rfl) 32 (by kernel_rfl) ?_; intro w0 h0 g0 s0; replace s0 : Hid _ := s0)
  have k1' := g0.cellv k1 (by simp)
  have k2' := g0.cellv k2 (by simp)
  have k3' := g0.cellv k3 (by simp)
  refine' region_soft 9 [cst (.pointer (some ⟨p, 0, none⟩)), cst (.slice (some ⟨b0, off, none⟩) part.length c0), cst (.int .i64 (lo + a')), cst (.int .i64 lo), cst (.int .i64 a'), cst (.int .i64 (lo + b')), cst (.int .i64 lo), cst (.int .i64 b'), cst (.slice (some ⟨b0, off + a' * 32, none⟩) (b' - a') (c0 - a'))] rfl (by kernel_rfl) (by kernel_rfl) (stays_cons (Stays.cst _) (stays_cons (Stays.cst _) (stays_cons (Stays.cst _) (stays_cons (Stays.cst _) (stays_cons (Stays.cst _) (stays_cons (Stays.cst _) (stays_cons (Stays.cst _) (stays_cons (Stays.cst _) (stays_cons (Stays.cst _) stays_nil))))))))) _ (fun V => by simp only [putAll, Act.put, List.take_succ_cons, List.take_zero, List.setIfInBounds_toArray, List.set_cons_zero, List.set_cons_succ, Nat.reduceAdd]; exact rfl) ?hs1 ?ht1
  case hs1 =>
    simp only [List.take_succ_cons, List.take_zero, softs]
    refine ⟨?_, ?_, ?_, ?_, ?_, ?_, ?_, ?_, ?_, trivial⟩
    · intro V wx hw hd
      simp [phi, Region.binds, cst] at hd
      try simp only [hd]
      first
        | (refine soft_const rfl ?_; go_simp; done)
        | (refine soft_const rfl ?_; go_simp; exact rfl)
        | (exact soft_cell rfl hw _ _ rfl _ rfl _ _ k1' Try.underlying25 rfl)
        | (exact soft_cell rfl hw _ _ rfl _ rfl _ _ k2' Try.underlying23 rfl)
        | (exact soft_cell rfl hw _ _ rfl _ rfl _ _ k3' Try.underlying3 rfl)
        | (exact soft_skip rfl)
    · intro V wx hw hd
      simp [phi, Region.binds, cst] at hd
      try simp only [hd]
      first
        | (refine soft_const rfl ?_; go_simp; done)
        | (refine soft_const rfl ?_; go_simp; exact rfl)
        | (exact soft_cell rfl hw _ _ rfl _ rfl _ _ k1' Try.underlying25 rfl)
        | (exact soft_cell rfl hw _ _ rfl _ rfl _ _ k2' Try.underlying23 rfl)
        | (exact soft_cell rfl hw _ _ rfl _ rfl _ _ k3' Try.underlying3 rfl)
        | (exact soft_skip rfl)
    · intro V wx hw hd
      simp [phi, Region.binds, cst] at hd
      try simp only [hd]
      first
        | (refine soft_const rfl ?_; go_simp; done)
        | (refine soft_const rfl ?_; go_simp; exact rfl)
        | (exact soft_cell rfl hw _ _ rfl _ rfl _ _ k1' Try.underlying25 rfl)
        | (exact soft_cell rfl hw _ _ rfl _ rfl _ _ k2' Try.underlying23 rfl)
        | (exact soft_cell rfl hw _ _ rfl _ rfl _ _ k3' Try.underlying3 rfl)
        | (exact soft_skip rfl)
    · intro V wx hw hd
      simp [phi, Region.binds, cst] at hd
      try simp only [hd]
      first
        | (refine soft_const rfl ?_; go_simp; done)
        | (refine soft_const rfl ?_; go_simp; exact rfl)
        | (exact soft_cell rfl hw _ _ rfl _ rfl _ _ k1' Try.underlying25 rfl)
        | (exact soft_cell rfl hw _ _ rfl _ rfl _ _ k2' Try.underlying23 rfl)
        | (exact soft_cell rfl hw _ _ rfl _ rfl _ _ k3' Try.underlying3 rfl)
        | (exact soft_skip rfl)
    · intro V wx hw hd
      simp [phi, Region.binds, cst] at hd
      try simp only [hd]
      first
        | (refine soft_const rfl ?_; go_simp; done)
        | (refine soft_const rfl ?_; go_simp; exact rfl)
        | (exact soft_cell rfl hw _ _ rfl _ rfl _ _ k1' Try.underlying25 rfl)
        | (exact soft_cell rfl hw _ _ rfl _ rfl _ _ k2' Try.underlying23 rfl)
        | (exact soft_cell rfl hw _ _ rfl _ rfl _ _ k3' Try.underlying3 rfl)
        | (exact soft_skip rfl)
    · intro V wx hw hd
      simp [phi, Region.binds, cst] at hd
      try simp only [hd]
      first
        | (refine soft_const rfl ?_; go_simp; done)
        | (refine soft_const rfl ?_; go_simp; exact rfl)
        | (exact soft_cell rfl hw _ _ rfl _ rfl _ _ k1' Try.underlying25 rfl)
        | (exact soft_cell rfl hw _ _ rfl _ rfl _ _ k2' Try.underlying23 rfl)
        | (exact soft_cell rfl hw _ _ rfl _ rfl _ _ k3' Try.underlying3 rfl)
        | (exact soft_skip rfl)
    · intro V wx hw hd
      simp [phi, Region.binds, cst] at hd
      try simp only [hd]
      first
        | (refine soft_const rfl ?_; go_simp; done)
        | (refine soft_const rfl ?_; go_simp; exact rfl)
        | (exact soft_cell rfl hw _ _ rfl _ rfl _ _ k1' Try.underlying25 rfl)
        | (exact soft_cell rfl hw _ _ rfl _ rfl _ _ k2' Try.underlying23 rfl)
        | (exact soft_cell rfl hw _ _ rfl _ rfl _ _ k3' Try.underlying3 rfl)
        | (exact soft_skip rfl)
    · intro V wx hw hd
      simp [phi, Region.binds, cst] at hd
      try simp only [hd]
      first
        | (refine soft_const rfl ?_; go_simp; done)
        | (refine soft_const rfl ?_; go_simp; exact rfl)
        | (exact soft_cell rfl hw _ _ rfl _ rfl _ _ k1' Try.underlying25 rfl)
        | (exact soft_cell rfl hw _ _ rfl _ rfl _ _ k2' Try.underlying23 rfl)
        | (exact soft_cell rfl hw _ _ rfl _ rfl _ _ k3' Try.underlying3 rfl)
        | (exact soft_skip rfl)
    · intro V wx hw hd
      simp [phi, Region.binds, cst] at hd
      try simp only [hd]
      refine soft_const rfl ?_
      go_simp
      rw [if_pos (by omega), if_pos (by omega), if_neg (by omega)]
  intro V w1 g1 hk
  have j0 := hk 0 (by decide)
  have j8 := hk 8 (by decide)
  simp [phi, cst] at j0 j8
  simp only [j0, j8, List.drop_succ_cons, List.drop_zero]
  replace h0 := g1.heap h0 (by simp)
  have g01 := g0.t0 g1
  clear hk j0 j8 k1' k2' k3' g0 g1
  go_wp2_with fail
  refine (kR.out w1 g01).mono ?_
  rintro e w2 ⟨rfl, v4, F4, l4, hF4, g4, sn4⟩
  have hz0 := s0.out
  have hne : w.heap.size ∉ p :: vl.ownBlock.toList := by
    intro hm
    rcases List.mem_cons.1 hm with e | e
    · omega
    · have := hll.out _ (by simpa using e); omega
  replace h0 := g4.heap h0 hne
  have z1 := h.tr0 g01
  have z2 := z1.log' l4 hF4 g4 sn4
  have c02 := chg_new g01 g4
  have sn02 := sn_new g01 sn4
  have hap : ∀ k, (vblk (Value.slice (some ⟨b0, off, none⟩) part.length c0) = some k ∨ vblk vr = some k) → k < w.heap.size := fun k hk => by
    rcases hk with hk | hk
    · exact h.dg.lt k hk
    · exact h.rdg.lt k hk
  have hpq : p ≠ w.heap.size := by omega
  have hq9 := lt_of_heap h.rcell
  have hso : w.heap.size ∉ setJ p q9 v4 := fun hm => by
    rcases mem_setJ.1 hm with e | e | e
    · omega
    · omega
    · exact ownB_not l4.rows.1 h0 (by decide) e
  clear kR g4 sn4 z1 l4 hF4 h k1 k2 k3 dC
  replace z2 := Lib.hid z2
  replace hap := Lib.hid hap
  go_wp2_with (refine store_bytes (by rfl) 32 _ _ (by rfl) w.heap.size 32 _ (by rfl) x (by rfl) (List.replicate 32 0) h0 (by kernel_rfl) t32 (by simp) ?_; intro w9 h9 g9 s9)
  exact ret_bytes 7 32 (by rfl) 32 5 Try.underlying32 (by kernel_rfl) (by rfl) _ rfl x _ h9 t32 ⟨rfl, v4, F4, z2.out.keep (B := w.heap.size) hap.out g9 (fun q hq => by rw [List.mem_singleton.1 hq]; exact ⟨hso, Nat.le_refl _, _, _, h0⟩), c02.tn g9 (Nat.le_refl _), sn02⟩
theorem JnAt.pop {part : List Bytes} {lo p base q9 ql qf qp : Nat} {vp : Value} {x : Bytes} {X Y : List Bytes} {w : World} {vl vr vr' : Value} {F : RowsB} (h : JnAt part lo p base q9 ql qf qp vp (x :: X, Y) w vl vr F) (hd : Dg w vr' X) (hb : ∀ k, vblk vr' = some k → vblk vr = some k) :
    JnAt part lo p base q9 ql qf qp vp (X, Y) (w.setCell ⟨q9, 0, none⟩ vr') vl vr' F := by
  have gS := Chg.setCell w ⟨q9, 0, none⟩ vr'
  have hty : ∀ t, 23 ≠ t → ∀ q ∈ [q9], ∃ cs t2 f, t2 ≠ t ∧ w.heap[q]? = some (.cells cs t2 f) := fun t ht q hq => by
    rw [List.mem_singleton.1 hq]
    exact ⟨_, _, _, ht, h.rcell⟩
  refine ⟨⟨heap_type h.log.cell gS (hty _ (by decide)), own_types h.log.rows.1 gS (hty _ (by decide)), fun y hy => own_types (h.log.rows.2 y hy) gS (hty _ (by decide))⟩, h.frames, by rw [heap_setCell_same _ q9 0 _ _ _ h.rcell]; rfl, hd.tr gS fun k hk hm => ?_, heap_type h.lcell gS (hty _ (by decide)), heap_type h.fcell gS (hty _ (by decide)), gS.heap h.pcell (by simpa using fun e => h.ne e.symm), h.dg.tr gS fun k hk hm => ?_, h.ne, fun k hk => ?_, Nat.le_trans h.bb gS.size⟩
  · exact (h.ap k (.inr (hb k hk))).2.1 (List.mem_singleton.1 hm)
  · exact (h.ap k (.inl hk)).2.1 (List.mem_singleton.1 hm)
  · rcases hk with hk | hk
    · exact h.ap k (.inl hk)
    · exact h.ap k (.inr (hb k hk))
set_option maxHeartbeats 8000000 in
set_option maxRecDepth 100000 in
theorem join2_run (w : World) {part : List Bytes} {lo p base q9 ql qf qp : Nat} {vp : Value} {s : List Bytes × List Bytes} {vl vr : Value} {F : RowsB} (h : JnAt part lo p base q9 ql qf qp vp s w vl vr F) (a b : Value) (hs : 0 < s.1.length) :
    Calls Try.prog 54 #[a, b, .pointer (some ⟨q9, 0, none⟩)] w fun e w' => e = .returned (.agg (bcs (s.1.headD zero32)).toArray) ∧
      ∃ vr', JnAt part lo p base q9 ql qf qp vp (s.1.tail, s.2) w' vl vr' F ∧ Chg [q9] w w' ∧ (∀ k, vblk vr' = some k → vblk vr = some k) := by
  obtain ⟨X, Y⟩ := s
  match X, hs, h with
  | x :: X, _, h =>
  have hs1 := h.rdg.sl.le
  unfold maxLen at hs1
  obtain ⟨b0, off, c0, rfl, hc1, hc2, hbl, hr⟩ := h.rdg.at (by simp)
  have hr0 := hr 0 (by simp)
  have hx := h.rdg.len x (List.mem_cons_self ..)
  simp only [List.headD_cons, List.tail_cons, List.length_cons, List.getElem_cons_zero, Nat.zero_mul, Nat.add_zero] at *
  have k9 := h.rcell
  have hq9 := lt_of_heap k9
  have hn1 : ((X.length + 1 : Nat) : Int) ≤ 9223372036854775807 := by omega
  -- the rest of the proof
  have hrest : ∃ vr', vr' = (if c0 = 1 then Value.slice (some ⟨b0, off, none⟩) X.length 0 else .slice (some ⟨b0, off + 32, none⟩) X.length (c0 - 1)) ∧ Dg w vr' X ∧ ∀ k, vblk vr' = some k → k = b0 := by
    refine ⟨_, rfl, ?_, ?_⟩
    · by_cases hc : c0 = 1
      · rw [if_pos hc]
        have hX : X = [] := by have : X.length = 0 := by omega
                               simpa using this
        subst hX
        refine ⟨⟨_, _, rfl, Nat.le_refl _, Nat.zero_le _, fun h => (by cases h), fun y _ h0 => absurd h0 (by simp), fun _ => rfl, fun j u hj => by simp at hj⟩, by simp⟩
      · rw [if_neg hc]
        have := Dg.drop (L := x :: X) (b := b0) (off := off) (c := c0) (by simpa using h.rdg) (k := 1) (by simp) hc
        simpa using this
    · intro k hk
      split at hk
      · simp [vblk] at hk
      · obtain ⟨_, hk2⟩ := vblk_slice.1 hk
        simpa using hk2.symm
  obtain ⟨vr', hv', hd', hb'⟩ := hrest
  have hap := h.ap
  have gS0 : ∀ wx u, Chg [q9] wx (wx.setCell ⟨q9, 0, none⟩ u) := fun wx u => Chg.setCell wx ⟨q9, 0, none⟩ u
  have hh := Lib.hid h
  replace hap := Lib.hid hap
  replace hd' := Lib.hid hd'
  replace hb' := Lib.hid hb'
  replace hr0 := Lib.hid hr0
  replace gS0 := Lib.hid gS0
  clear hr h
  have hcase : c0 = 1 ∨ ¬ c0 = 1 := by omega
  rcases hcase with hc | hc
  all_goals
    first
      | rw [if_pos hc] at hv'
      | rw [if_neg hc] at hv'
    subst hv'
    go_enter Try.func54, Try.ntmps54
    go_wp2_with (first
      | (refine load_ra (by rfl) 32 (.tmp 6) (by rfl) w0.heap.size 0 (by rfl) (bcs x) _ (by simpa using ra_block ((gS0.out w2 _).heap h2 (by have := s0.out; simp; omega))) Try.underlying32 (by rfl) (by rw [bcs_length, hx]; kernel_rfl) ?_)
      | (refine store_bytes (by rfl) 32 (.tmp 5) (.tmp 12) (by rfl) w.heap.size 32 _ (by rfl) x (by rfl) (List.replicate 32 0) ((gS0.out w2 _).heap (g02.heap h0 (by simp)) (by simp; omega)) (by kernel_rfl) hx (by simp) ?_; intro w4 h4 g4 s4)
      | (have hfirst := hq9; refine alloc_bytes (by rfl) 32 (by rfl) 32 (by kernel_rfl) ?_; clear hq9; intro w0 h0 g0 s0; have hq9 := hfirst; replace hfirst := Lib.hid hfirst; replace s0 : Hid _ := s0; have k90 := g0.heap k9 (by simp); obtain ⟨e0, f0⟩ := cells1 k90; have r0 := g0.range hr0.out (by simp); replace r0 := Lib.hid r0)
      | (refine load_ra (by rfl) 32 (.tmp 8) (by rfl) b0 off (by rfl) (bcs x) _ r0.out Try.underlying32 (by rfl) (by rw [bcs_length, hx]; kernel_rfl) ?_)
      | (refine alloc_bytes (by rfl) 32 (by rfl) 32 (by kernel_rfl) ?_; intro w1 h1 g1 s1; replace s1 : Hid _ := s1)
      | (refine store_bytes (by rfl) 32 (.tmp 6) (.tmp 9) (by rfl) _ 32 _ (by rfl) x (by rfl) _ h1 (by kernel_rfl) hx (by rw [List.length_replicate]) ?_; intro w2 h2 g2 s2; replace s2 : Hid _ := s2; have g02 : Chg [] w0 w2 := g1.tn g2 (Nat.le_refl _); have k92 := g02.heap k90 (by simp); replace e0 := Lib.hid e0; replace f0 := Lib.hid f0; obtain ⟨e2, f2⟩ := cells1 k92))
    have z2 := hh.out.tr0 (g0.t0 g02)
    have z5 := z2.pop (hd'.out.tr0 (g0.t0 g02)) (fun k hk => by
      rw [hb'.out k hk]
      exact vblk_slice.2 ⟨by omega, rfl⟩)
    have zlt : ∀ k, (vblk vp = some k ∨ vblk (Value.slice (some ⟨b0, off, none⟩) (X.length + 1) c0) = some k) → k < w.heap.size := fun k hk => by
      rcases hk with hk | hk
      · exact hh.out.dg.lt k hk
      · exact hh.out.rdg.lt k hk
    have z6 := z5.keep (B := w.heap.size) (fun k hk => by
      rcases hk with hk | hk
      · exact zlt k (.inl hk)
      · exact zlt k (.inr (by rw [hb'.out k hk]; exact vblk_slice.2 ⟨by omega, rfl⟩))) g4 (fun q hq => by
      rw [List.mem_singleton.1 hq]
      refine ⟨fun hm => ?_, Nat.le_refl _, _, _, (gS0.out w2 _).heap (g02.heap h0 (by simp)) (by simp; omega)⟩
      rcases mem_setJ.1 hm with e | e | e
      · have := hh.out.log.lt; omega
      · omega
      · have := (hh.out.log.rows.1.lt _ e).2; omega)
    exact ret_bytes 5 32 (by rfl) 32 5 Try.underlying32 (by kernel_rfl) (by rfl) _ rfl x _ h4 hx ⟨rfl, _, z6, ((g0.t0 g02).of0.t1 (gS0.out w2 _)).tn g4 (Nat.le_refl _), fun k hk => by rw [hb'.out k hk]; exact vblk_slice.2 ⟨by omega, rfl⟩⟩
set_option maxHeartbeats 8000000 in
set_option maxRecDepth 100000 in
theorem join3_run (w : World) {part : List Bytes} {lo p base q9 ql qf qp : Nat} {vp : Value} {s : List Bytes × List Bytes} {vl vr : Value} {F : RowsB} (h : JnAt part lo p base q9 ql qf qp vp s w vl vr F) (x y : Bytes) (hx : x.length = 32) (hy : y.length = 32) (hfl : F.length ≤ 900000) :
    Calls Try.prog 55 #[.agg (bcs x).toArray, .agg (bcs y).toArray, .pointer (some ⟨ql, 0, none⟩)] w fun e w' => e = .returned (.agg (bcs (hashV nodeS [x, y])).toArray) ∧
      ∃ vl' F', JnAt part lo p base q9 ql qf qp vp (s.1, s.2 ++ [frameB nodeS [x, y]]) w' vl' vr F' ∧ Chg (p :: vl.ownBlock.toList) w w' ∧ SameNew w vl vl' := by
  have t32 : (hashV nodeS [x, y]).length = 32 := hashV_len _ _
  have kN := fun wx (g : Chg [] w wx) => node_run wx p base vl F (h.log.tr0 g) (Nat.le_trans h.bb g.size) (by omega) x y hx hy
  generalize hashV nodeS [x, y] = H at *
  generalize frameB nodeS [x, y] = fr at *
  have hpw := h.log.lt
  have hll : ∀ j, vl.ownBlock = some j → j < w.heap.size := fun j hj => (h.log.rows.1.lt j hj).2
  have hb1 := heap_alloc_new w (.cells (bcs x).toArray 32)
  have ga := Chg.alloc [] w (.cells (bcs x).toArray 32)
  have hb2 := heap_alloc_new (w.alloc (.cells (bcs x).toArray 32)) (.cells (bcs y).toArray 32)
  have gb := Chg.alloc [] (w.alloc (.cells (bcs x).toArray 32)) (.cells (bcs y).toArray 32)
  replace hb1 := gb.heap hb1 (by simp)
  replace ga := ga.t0 gb
  rw [World.size_alloc] at hb2
  have k1 := (cells1 (h.tr0 ga).lcell).1
  have hz : ((w.alloc (.cells (bcs x).toArray 32)).alloc (.cells (bcs y).toArray 32)).heap.size = w.heap.size + 2 := by simp
  replace kN := Lib.hid kN
  replace hll := Lib.hid hll
  have hh := Lib.hid h
  replace hz := Lib.hid hz
  replace hb1 := Lib.hid hb1
  replace hb2 := Lib.hid hb2
  have hpq := Lib.hid (lt_of_heap h.rcell)
  clear h gb
  go_enter Try.func55, Try.ntmps55
  go_wp2_with (first
    | (refine alloc_bytes (by rfl) 32 (by rfl) 32 (by kernel_rfl) ?_; intro w0 h0 g0 s0; rw [hz.out] at h0 s0; replace s0 := Lib.hid s0; have r1 := g0.heap hb1.out (by simp); have r2 := g0.heap hb2.out (by simp); have k1' := g0.cellv k1 (by simp); replace r1 := Lib.hid r1; replace r2 := Lib.hid r2; replace ga := ga.t0 g0)
    | (refine load_ra (by rfl) 32 (.tmp 3) (by rfl) w.heap.size 0 (by rfl) (bcs x) _ (by simpa using ra_block r1.out) Try.underlying32 (by rfl) (by rw [bcs_length, hx]; kernel_rfl) ?_)
    | (refine load_ra (by rfl) 32 (.tmp 4) (by rfl) (w.heap.size + 1) 0 (by rfl) (bcs y) _ (by simpa using ra_block r2.out) Try.underlying32 (by rfl) (by rw [bcs_length, hy]; kernel_rfl) ?_))
  refine (kN.out w0 ga).mono ?_
  rintro e w2 ⟨rfl, v4, F4, l4, hF4, g4, sn4⟩
  have hz0 := s0.out
  have hne : w.heap.size + 2 ∉ p :: vl.ownBlock.toList := by
    intro hm
    rcases List.mem_cons.1 hm with e | e
    · omega
    · have := hll.out _ (by simpa using e); omega
  replace h0 := g4.heap h0 hne
  have z2 := (hh.out.tr0 ga).log' l4 hF4 g4 sn4
  have c02 := chg_new ga g4
  have sn02 := sn_new ga sn4
  have zlt : ∀ k, (vblk vp = some k ∨ vblk vr = some k) → k < w.heap.size := fun k hk => by
    rcases hk with hk | hk
    · exact hh.out.dg.lt k hk
    · exact hh.out.rdg.lt k hk
  have hso : w.heap.size + 2 ∉ setJ p q9 v4 := fun hm => by
    have := hpq.out
    rcases mem_setJ.1 hm with e | e | e
    · omega
    · omega
    · exact ownB_not l4.rows.1 h0 (by decide) e
  clear kN g4 sn4 l4 hF4 k1 k1' r1 r2 hb1 hb2
  replace z2 := Lib.hid z2
  replace zlt := Lib.hid zlt
  go_wp2_with (refine store_bytes (by rfl) 32 _ _ (by rfl) (w.heap.size + 2) 32 _ (by rfl) H (by rfl) (List.replicate 32 0) h0 (by kernel_rfl) t32 (by simp) ?_; intro w9 h9 g9 s9)
  exact ret_bytes 5 32 (by rfl) 32 5 Try.underlying32 (by kernel_rfl) (by rfl) _ rfl H _ h9 t32 ⟨rfl, v4, F4, z2.out.keep (B := w.heap.size) zlt.out g9 (fun q hq => by rw [List.mem_singleton.1 hq]; exact ⟨hso, by omega, _, _, h0⟩), c02.tn g9 (by omega), sn02⟩
def IJn (part : List Bytes) (lo p base q9 ql qf qp B : Nat) (vp : Value) (s : List Bytes × List Bytes) (w : World) (S : List Nat) : Prop := ∃ vl vr F, JnAt part lo p base q9 ql qf qp vp s w vl vr F ∧ S = setJ p q9 vl ∧ B ≤ w.heap.size ∧ ∀ k, (vblk vp = some k ∨ vblk vr = some k) → k < B
def KJn (s : List Bytes × List Bytes) (c d : Nat) : Prop := c ≤ s.1.length ∧ s.2.length + d ≤ 800000
theorem JnAt.lts {part : List Bytes} {lo p base q9 ql qf qp : Nat} {vp : Value} {s : List Bytes × List Bytes} {w : World} {vl vr : Value} {F : RowsB} (h : JnAt part lo p base q9 ql qf qp vp s w vl vr F) : ∀ q ∈ setJ p q9 vl, q < w.heap.size := by
  intro q hq
  rcases mem_setJ.1 hq with rfl | rfl | e
  · exact h.log.lt
  · exact lt_of_heap h.rcell
  · exact (h.log.rows.1.lt q e).2
theorem JnAt.lenF {part : List Bytes} {lo p base q9 ql qf qp : Nat} {vp : Value} {s : List Bytes × List Bytes} {w : World} {vl vr : Value} {F : RowsB} (h : JnAt part lo p base q9 ql qf qp vp s w vl vr F) : F.length = s.2.length := by
  rw [← h.frames, List.length_map]
theorem setJ_new {w : World} {p q9 : Nat} {vl vl' : Value} (sn : SameNew w vl vl') : ∀ q ∈ setJ p q9 vl', q ∈ setJ p q9 vl ∨ w.heap.size ≤ q := by
  intro q hq
  rcases mem_setJ.1 hq with e | e | e
  · exact .inl (mem_setJ.2 (.inl e))
  · exact .inl (mem_setJ.2 (.inr (.inl e)))
  · rcases sn with k | k
    · exact .inl (mem_setJ.2 (.inr (.inr (by rw [← k]; exact e))))
    · exact .inr (k q e)
theorem setJ_log {w w' : World} {p q9 : Nat} {vl : Value} (g : Chg (p :: vl.ownBlock.toList) w w') : Chg (setJ p q9 vl) w w' := g.mono fun q hq => .inl (by
  rcases List.mem_cons.1 hq with e | e
  · exact mem_setJ.2 (.inl e)
  · exact mem_setJ.2 (.inr (.inr (by simpa using e))))
theorem join_cut_len (part : List Bytes) {lo a b : Nat} (h : a < b) : (treeV (cutL part (a - lo) (b - lo))).2.length ≤ 2 * (b - a) - 1 := by
  rw [treeV_count]
  have : (cutL part (a - lo) (b - lo)).length ≤ (b - lo) - (a - lo) := by simp [cutL]; omega
  split <;> omega
theorem joinWalks {part : List Bytes} (lo p base q9 ql qf qp B hi N : Nat) (vp : Value) (hhi : hi = lo + part.length) (hN : N ≤ 65536) :
    Walks (joinA part lo) (IJn part lo p base q9 ql qf qp B vp) KJn B lo hi N 53 54 55 #[.pointer (some ⟨ql, 0, none⟩), .pointer (some ⟨qp, 0, none⟩), .pointer (some ⟨qf, 0, none⟩)] #[.pointer (some ⟨q9, 0, none⟩)] #[.pointer (some ⟨ql, 0, none⟩)] where
  ein := fun args w => by go_simp
  ebe := fun args w => by go_simp
  eno := fun args w => by go_simp
  keep := fun s w w' S T ⟨vl, vr, F, h1, h2, h3, h4⟩ g hT => ⟨vl, vr, F, h1.keep h4 g (by rw [← h2]; exact hT), h2, Nat.le_trans h3 g.size, h4⟩
  lt := fun s w S ⟨vl, vr, F, h1, h2, h3, h4⟩ => ⟨h3, by rw [h2]; exact h1.lts⟩
  inn := fun s w S a b c d ⟨vl, vr, F, h1, h2, h3, h4⟩ ⟨k1, k2⟩ q1 q2 q3 q4 => (join1_run w h1 a b q1 q2 (by omega) (by omega) (by have := h1.lenF; omega)).mono fun e w' ⟨he, vl', F', h5, g, sn⟩ => ⟨he, treeV_len (cutL_32 h1.dg.len), setJ p q9 vl', ⟨vl', vr, F', h5, rfl, Nat.le_trans h3 g.size, h4⟩, by rw [h2]; exact setJ_log g, by rw [h2]; exact setJ_new sn⟩
  bes := fun s w S a b c d ⟨vl, vr, F, h1, h2, h3, h4⟩ ⟨k1, k2⟩ q1 q2 => (join2_run w h1 _ _ (by omega)).mono fun e w' ⟨he, vr', h5, g, hb⟩ => ⟨he, headD_32 h1.rdg.len, setJ p q9 vl, ⟨vl, vr', F, h5, rfl, Nat.le_trans h3 g.size, fun k hk => by
    rcases hk with hk | hk
    · exact h4 k (.inl hk)
    · exact h4 k (.inr (hb k hk))⟩, by rw [h2]; exact g.mono fun q hq => .inl (mem_setJ.2 (.inr (.inl (List.mem_singleton.1 hq)))), by rw [h2]; exact fun q hq => .inl hq⟩
  nod := fun s w S x y c d ⟨vl, vr, F, h1, h2, h3, h4⟩ ⟨k1, k2⟩ q1 q2 => (join3_run w h1 x y q1 q2 (by have := h1.lenF; omega)).mono fun e w' ⟨he, vl', F', h5, g, sn⟩ => ⟨he, (show (hashV nodeS [_, _]).length = 32 from hashV_len _ _), setJ p q9 vl', ⟨vl', vr, F', h5, rfl, Nat.le_trans h3 g.size, h4⟩, by rw [h2]; exact setJ_log g, by rw [h2]; exact setJ_new sn⟩
  kinn := fun s a b c d q1 _ ⟨k1, k2⟩ => ⟨k1, by
    have := join_cut_len part (lo := lo) q1
    show (s.2 ++ (treeV (cutL part (a - lo) (b - lo))).2).length + d ≤ 800000
    rw [List.length_append]; omega⟩
  kbes := fun s a b c d _ _ ⟨k1, k2⟩ => ⟨by show c ≤ s.1.tail.length; rw [List.length_tail]; omega, by show s.2.length + d ≤ 800000; omega⟩
  knod := fun s x y c d ⟨k1, k2⟩ => ⟨k1, by show (s.2 ++ [frameB nodeS [x, y]]).length + d ≤ 800000; rw [List.length_append]; simp; omega⟩
/-- What is joined, whether it is, and the log behind it. -/
def joinR (n : Nat) (lo : Int) (part proof : List Bytes) (Y : List Bytes) : Bytes × Bool × List Bytes :=
  if 0 ≤ lo ∧ lo ≤ n ∧ needP n lo (lo + part.length) = proof.length then
    (if n = 0 then ((treeV []).1, true, Y ++ (treeV []).2) else ((overV (joinA part lo.toNat) lo.toNat (lo.toNat + part.length) 0 n (proof, Y)).1, true, (overV (joinA part lo.toNat) lo.toNat (lo.toNat + part.length) 0 n (proof, Y)).2.2))
  else (zero32, false, Y)
/-- Four blocks more. -/
theorem four_new (w : World) (o1 o2 o3 o4 : Obj) : ((((w.alloc o1).alloc o2).alloc o3).alloc o4).heap[w.heap.size]? = some o1 ∧ ((((w.alloc o1).alloc o2).alloc o3).alloc o4).heap[w.heap.size + 1]? = some o2 ∧ ((((w.alloc o1).alloc o2).alloc o3).alloc o4).heap[w.heap.size + 2]? = some o3 ∧ ((((w.alloc o1).alloc o2).alloc o3).alloc o4).heap[w.heap.size + 3]? = some o4 ∧
    Chg [] w ((((w.alloc o1).alloc o2).alloc o3).alloc o4) ∧ ((((w.alloc o1).alloc o2).alloc o3).alloc o4).heap.size = w.heap.size + 4 := by
  have g1 := Chg.alloc [] w o1
  have g2 := Chg.alloc [] (w.alloc o1) o2
  have g3 := Chg.alloc [] ((w.alloc o1).alloc o2) o3
  have g4 := Chg.alloc [] (((w.alloc o1).alloc o2).alloc o3) o4
  have h1 := heap_alloc_new w o1
  have h2 := heap_alloc_new (w.alloc o1) o2
  have h3 := heap_alloc_new ((w.alloc o1).alloc o2) o3
  have h4 := heap_alloc_new (((w.alloc o1).alloc o2).alloc o3) o4
  simp only [World.size_alloc] at h2 h3 h4
  exact ⟨g4.heap (g3.heap (g2.heap h1 (by simp)) (by simp)) (by simp), g4.heap (g3.heap h2 (by simp)) (by simp), g4.heap h3 (by simp), h4, ((g1.t0 g2).t0 g3).t0 g4, by simp⟩

set_option maxHeartbeats 8000000 in
set_option maxRecDepth 100000 in
theorem join_ok (w : World) (p : Nat) (vl : Value) (F : RowsB) (hF : LogAt w p p vl F) (n : Nat) (hn : n ≤ 100) (lo : Int) (hlo : I64 lo) (vp : Value) (part : List Bytes) (hp : Dg w vp part) (hpl : part.length ≤ 100) (vr : Value) (proof : List Bytes) (hr : Dg w vr proof) (hfl : F.length ≤ 700000) (hap : ∀ k, (vblk vp = some k ∨ vblk vr = some k) → k ≠ p ∧ vl.ownBlock ≠ some k) :
    Calls Try.prog 33 #[.pointer (some ⟨p, 0, none⟩), .int .i64 n, .int .i64 lo, vp, vr] w fun e w' => e = .returned (.tuple #[.agg (bcs (joinR n lo part proof (F.map (·.2))).1).toArray, .bool (joinR n lo part proof (F.map (·.2))).2.1]) ∧
      ∃ v' F', LogAt w' p p v' F' ∧ F'.map (·.2) = (joinR n lo part proof (F.map (·.2))).2.2 ∧ Chg (p :: vl.ownBlock.toList) w w' ∧ SameNew w vl v' ∧ ((joinR n lo part proof (F.map (·.2))).2.1 = false → Chg [] w w') := by
  obtain ⟨ap, cp, rfl⟩ := hp.sl.shape
  obtain ⟨ar, cr, rfl⟩ := hr.sl.shape
  have hrl := hr.sl.le
  unfold maxLen at hrl
  have hlts := fun k => hp.lt k
  have hpw := hF.lt
  have hll : ∀ j, vl.ownBlock = some j → j < w.heap.size := fun j hj => (hF.rows.1.lt j hj).2
  obtain ⟨hb1, hb2, hb3, hb4, ga, hz⟩ := four_new w (.cells #[.pointer (some ⟨p, 0, none⟩)] 25) (.cells #[.int .i64 lo] 3) (.cells #[.slice ap part.length cp] 23) (.cells #[.slice ar proof.length cr] 23)
  obtain ⟨hlo1, hlo2⟩ := hlo
  obtain ⟨J, hJ⟩ : ∃ J, J = joinR n lo part proof (F.map (·.2)) := ⟨_, rfl⟩
  rw [← hJ]
  unfold joinR at hJ
  replace hJ := Lib.hid hJ
  replace hz := Lib.hid hz
  replace hll := Lib.hid hll
  replace hap := Lib.hid hap
  have hpl0 : (0 : Int) ≤ part.length := by omega
  have hpl1 : (part.length : Int) ≤ 100 := by omega
  have hni : (n : Int) ≤ 100 := by omega
  have kN : ∀ wx, Calls Try.prog 30 #[.int .i64 n, .int .i64 lo, .int .i64 (lo + part.length)] wx fun e w' => e = .returned (.int .i64 (needP n lo (lo + part.length))) ∧ Chg [] wx w' := fun wx => need_ok wx _ _ _
  go_enter Try.func33, Try.ntmps33
  go_wp2_with (refine alloc_bytes (by rfl) 32 (by rfl) 32 (by kernel_rfl) ?_; intro w0 h0 g0 s0; rw [hz.out] at h0 s0; replace s0 : Hid _ := s0; replace hb1 := g0.heap hb1 (by simp); replace hb2 := g0.heap hb2 (by simp); replace hb3 := g0.heap hb3 (by simp); replace hb4 := g0.heap hb4 (by simp); replace ga := ga.t0 g0; clear g0)
  have kf := (cells1 hb2).1
  have kp := (cells1 hb3).1
  have kr := (cells1 hb4).1
  by_cases hA : lo < 0
  · have hJ1 : J = (zero32, false, F.map (·.2)) := by rw [hJ.out, if_neg (by omega)]
    subst hJ1
    clear hJ
    refine' region_soft 19 [cst (.int .i64 lo), cst (.bool true), cst (.bool true), cst undef, cst undef, cst undef, cst (.bool true), cst (.bool true), cst undef, cst undef, cst undef, cst undef, cst undef, cst undef, cst undef, cst undef, cst undef, cst undef, cst (.bool true)] rfl (by kernel_rfl) (by kernel_rfl) (stays_cons (Stays.cst _) (stays_cons (Stays.cst _) (stays_cons (Stays.cst _) (stays_cons (Stays.cst _) (stays_cons (Stays.cst _) (stays_cons (Stays.cst _) (stays_cons (Stays.cst _) (stays_cons (Stays.cst _) (stays_cons (Stays.cst _) (stays_cons (Stays.cst _) (stays_cons (Stays.cst _) (stays_cons (Stays.cst _) (stays_cons (Stays.cst _) (stays_cons (Stays.cst _) (stays_cons (Stays.cst _) (stays_cons (Stays.cst _) (stays_cons (Stays.cst _) (stays_cons (Stays.cst _) (stays_cons (Stays.cst _) stays_nil))))))))))))))))))) _ (fun V => by simp only [putAll, Act.put, List.take_succ_cons, List.take_zero, List.setIfInBounds_toArray, List.set_cons_zero, List.set_cons_succ, Nat.reduceAdd]; exact rfl) ?hs2 ?ht2
    case hs2 =>
      simp only [List.take_succ_cons, List.take_zero, softs]
      refine ⟨?_, ?_, ?_, ?_, ?_, ?_, ?_, ?_, ?_, ?_, ?_, ?_, ?_, ?_, ?_, ?_, ?_, ?_, ?_, trivial⟩
      · intro V wx hw hd
        simp [phi, Region.binds, cst] at hd
        try simp only [hd]
        first
          | (refine soft_const rfl ?_; go_simp; done)
          | (refine soft_const rfl ?_; go_simp; exact rfl)
          | (exact soft_cell rfl hw _ _ rfl _ rfl _ _ kf Try.underlying3 rfl)
          | (exact soft_skip rfl)
      · intro V wx hw hd
        simp [phi, Region.binds, cst] at hd
        try simp only [hd]
        first
          | (refine soft_const rfl ?_; go_simp; done)
          | (refine soft_const rfl ?_; go_simp; exact rfl)
          | (exact soft_cell rfl hw _ _ rfl _ rfl _ _ kf Try.underlying3 rfl)
          | (exact soft_skip rfl)
      · intro V wx hw hd
        simp [phi, Region.binds, cst] at hd
        try simp only [hd]
        first
          | (refine soft_const rfl ?_; go_simp; done)
          | (refine soft_const rfl ?_; go_simp; exact rfl)
          | (exact soft_cell rfl hw _ _ rfl _ rfl _ _ kf Try.underlying3 rfl)
          | (exact soft_skip rfl)
      · intro V wx hw hd
        simp [phi, Region.binds, cst] at hd
        try simp only [hd]
        first
          | (refine soft_const rfl ?_; go_simp; done)
          | (refine soft_const rfl ?_; go_simp; exact rfl)
          | (exact soft_cell rfl hw _ _ rfl _ rfl _ _ kf Try.underlying3 rfl)
          | (exact soft_skip rfl)
      · intro V wx hw hd
        simp [phi, Region.binds, cst] at hd
        try simp only [hd]
        first
          | (refine soft_const rfl ?_; go_simp; done)
          | (refine soft_const rfl ?_; go_simp; exact rfl)
          | (exact soft_cell rfl hw _ _ rfl _ rfl _ _ kf Try.underlying3 rfl)
          | (exact soft_skip rfl)
      · intro V wx hw hd
        simp [phi, Region.binds, cst] at hd
        try simp only [hd]
        first
          | (refine soft_const rfl ?_; go_simp; done)
          | (refine soft_const rfl ?_; go_simp; exact rfl)
          | (exact soft_cell rfl hw _ _ rfl _ rfl _ _ kf Try.underlying3 rfl)
          | (exact soft_skip rfl)
      · intro V wx hw hd
        simp [phi, Region.binds, cst] at hd
        try simp only [hd]
        first
          | (refine soft_const rfl ?_; go_simp; done)
          | (refine soft_const rfl ?_; go_simp; exact rfl)
          | (exact soft_cell rfl hw _ _ rfl _ rfl _ _ kf Try.underlying3 rfl)
          | (exact soft_skip rfl)
      · intro V wx hw hd
        simp [phi, Region.binds, cst] at hd
        try simp only [hd]
        first
          | (refine soft_const rfl ?_; go_simp; done)
          | (refine soft_const rfl ?_; go_simp; exact rfl)
          | (exact soft_cell rfl hw _ _ rfl _ rfl _ _ kf Try.underlying3 rfl)
          | (exact soft_skip rfl)
      · intro V wx hw hd
        simp [phi, Region.binds, cst] at hd
        try simp only [hd]
        first
          | (refine soft_const rfl ?_; go_simp; done)
          | (refine soft_const rfl ?_; go_simp; exact rfl)
          | (exact soft_cell rfl hw _ _ rfl _ rfl _ _ kf Try.underlying3 rfl)
          | (exact soft_skip rfl)
      · intro V wx hw hd
        simp [phi, Region.binds, cst] at hd
        try simp only [hd]
        first
          | (refine soft_const rfl ?_; go_simp; done)
          | (refine soft_const rfl ?_; go_simp; exact rfl)
          | (exact soft_cell rfl hw _ _ rfl _ rfl _ _ kf Try.underlying3 rfl)
          | (exact soft_skip rfl)
      · intro V wx hw hd
        simp [phi, Region.binds, cst] at hd
        try simp only [hd]
        first
          | (refine soft_const rfl ?_; go_simp; done)
          | (refine soft_const rfl ?_; go_simp; exact rfl)
          | (exact soft_cell rfl hw _ _ rfl _ rfl _ _ kf Try.underlying3 rfl)
          | (exact soft_skip rfl)
      · intro V wx hw hd
        simp [phi, Region.binds, cst] at hd
        try simp only [hd]
        first
          | (refine soft_const rfl ?_; go_simp; done)
          | (refine soft_const rfl ?_; go_simp; exact rfl)
          | (exact soft_cell rfl hw _ _ rfl _ rfl _ _ kf Try.underlying3 rfl)
          | (exact soft_skip rfl)
      · intro V wx hw hd
        simp [phi, Region.binds, cst] at hd
        try simp only [hd]
        first
          | (refine soft_const rfl ?_; go_simp; done)
          | (refine soft_const rfl ?_; go_simp; exact rfl)
          | (exact soft_cell rfl hw _ _ rfl _ rfl _ _ kf Try.underlying3 rfl)
          | (exact soft_skip rfl)
      · intro V wx hw hd
        simp [phi, Region.binds, cst] at hd
        try simp only [hd]
        first
          | (refine soft_const rfl ?_; go_simp; done)
          | (refine soft_const rfl ?_; go_simp; exact rfl)
          | (exact soft_cell rfl hw _ _ rfl _ rfl _ _ kf Try.underlying3 rfl)
          | (exact soft_skip rfl)
      · intro V wx hw hd
        simp [phi, Region.binds, cst] at hd
        try simp only [hd]
        first
          | (refine soft_const rfl ?_; go_simp; done)
          | (refine soft_const rfl ?_; go_simp; exact rfl)
          | (exact soft_cell rfl hw _ _ rfl _ rfl _ _ kf Try.underlying3 rfl)
          | (exact soft_skip rfl)
      · intro V wx hw hd
        simp [phi, Region.binds, cst] at hd
        try simp only [hd]
        first
          | (refine soft_const rfl ?_; go_simp; done)
          | (refine soft_const rfl ?_; go_simp; exact rfl)
          | (exact soft_cell rfl hw _ _ rfl _ rfl _ _ kf Try.underlying3 rfl)
          | (exact soft_skip rfl)
      · intro V wx hw hd
        simp [phi, Region.binds, cst] at hd
        try simp only [hd]
        first
          | (refine soft_const rfl ?_; go_simp; done)
          | (refine soft_const rfl ?_; go_simp; exact rfl)
          | (exact soft_cell rfl hw _ _ rfl _ rfl _ _ kf Try.underlying3 rfl)
          | (exact soft_skip rfl)
      · intro V wx hw hd
        simp [phi, Region.binds, cst] at hd
        try simp only [hd]
        first
          | (refine soft_const rfl ?_; go_simp; done)
          | (refine soft_const rfl ?_; go_simp; exact rfl)
          | (exact soft_cell rfl hw _ _ rfl _ rfl _ _ kf Try.underlying3 rfl)
          | (exact soft_skip rfl)
      · intro V wx hw hd
        simp [phi, Region.binds, cst] at hd
        try simp only [hd]
        first
          | (refine soft_const rfl ?_; go_simp; done)
          | (refine soft_const rfl ?_; go_simp; exact rfl)
          | (exact soft_cell rfl hw _ _ rfl _ rfl _ _ kf Try.underlying3 rfl)
          | (exact soft_skip rfl)
    intro V w1 g1 hk
    have j18 := hk 18 (by decide)
    simp [phi, cst] at j18
    simp only [j18, List.drop_succ_cons, List.drop_zero, List.drop_nil]
    replace h0 := g1.heap h0 (by simp)
    clear hk j18
    go_wp2_with (refine store_bytes (by rfl) 32 _ _ (by rfl) (w.heap.size + 4) 32 _ (by rfl) zero32 (by rfl) (List.replicate 32 0) h0 (by kernel_rfl) zero32_len (by simp) ?_; intro w9 h9 g9 s9)
    have g09 := (ga.t0 g1).tn g9 (show w.heap.size ≤ w.heap.size + 4 by omega)
    exact ret_row2 10 11 32 rfl _ Try.underlying32 rfl (bcs zero32) (by rw [bcs_length, zero32_len]; kernel_rfl) rfl _ rfl (by simpa using ra_block h9) ⟨rfl, vl, F, hF.tr0 g09, rfl, g09.of0, SameNew.refl _ _, g09⟩
  by_cases hB : (n : Int) < lo
  · have hJ1 : J = (zero32, false, F.map (·.2)) := by rw [hJ.out, if_neg (by omega)]
    subst hJ1
    clear hJ
    have hA' : ¬ lo < 0 := hA
    refine' region_soft 19 [cst (.int .i64 lo), cst (.bool false), cst (.bool false), cst (.int .i64 lo), cst (.int .i64 n), cst (.bool true), cst (.bool true), cst (.bool true), cst undef, cst undef, cst undef, cst undef, cst undef, cst undef, cst undef, cst undef, cst undef, cst undef, cst (.bool true)] rfl (by kernel_rfl) (by kernel_rfl) (stays_cons (Stays.cst _) (stays_cons (Stays.cst _) (stays_cons (Stays.cst _) (stays_cons (Stays.cst _) (stays_cons (Stays.cst _) (stays_cons (Stays.cst _) (stays_cons (Stays.cst _) (stays_cons (Stays.cst _) (stays_cons (Stays.cst _) (stays_cons (Stays.cst _) (stays_cons (Stays.cst _) (stays_cons (Stays.cst _) (stays_cons (Stays.cst _) (stays_cons (Stays.cst _) (stays_cons (Stays.cst _) (stays_cons (Stays.cst _) (stays_cons (Stays.cst _) (stays_cons (Stays.cst _) (stays_cons (Stays.cst _) stays_nil))))))))))))))))))) _ (fun V => by simp only [putAll, Act.put, List.take_succ_cons, List.take_zero, List.setIfInBounds_toArray, List.set_cons_zero, List.set_cons_succ, Nat.reduceAdd]; exact rfl) ?hs3 ?ht3
    case hs3 =>
      simp only [List.take_succ_cons, List.take_zero, softs]
      refine ⟨?_, ?_, ?_, ?_, ?_, ?_, ?_, ?_, ?_, ?_, ?_, ?_, ?_, ?_, ?_, ?_, ?_, ?_, ?_, trivial⟩
      · intro V wx hw hd
        simp [phi, Region.binds, cst] at hd
        try simp only [hd]
        first
          | (refine soft_const rfl ?_; go_simp; done)
          | (refine soft_const rfl ?_; go_simp; exact rfl)
          | (exact soft_cell rfl hw _ _ rfl _ rfl _ _ kf Try.underlying3 rfl)
          | (exact soft_skip rfl)
      · intro V wx hw hd
        simp [phi, Region.binds, cst] at hd
        try simp only [hd]
        first
          | (refine soft_const rfl ?_; go_simp; done)
          | (refine soft_const rfl ?_; go_simp; exact rfl)
          | (exact soft_cell rfl hw _ _ rfl _ rfl _ _ kf Try.underlying3 rfl)
          | (exact soft_skip rfl)
      · intro V wx hw hd
        simp [phi, Region.binds, cst] at hd
        try simp only [hd]
        first
          | (refine soft_const rfl ?_; go_simp; done)
          | (refine soft_const rfl ?_; go_simp; exact rfl)
          | (exact soft_cell rfl hw _ _ rfl _ rfl _ _ kf Try.underlying3 rfl)
          | (exact soft_skip rfl)
      · intro V wx hw hd
        simp [phi, Region.binds, cst] at hd
        try simp only [hd]
        first
          | (refine soft_const rfl ?_; go_simp; done)
          | (refine soft_const rfl ?_; go_simp; exact rfl)
          | (exact soft_cell rfl hw _ _ rfl _ rfl _ _ kf Try.underlying3 rfl)
          | (exact soft_skip rfl)
      · intro V wx hw hd
        simp [phi, Region.binds, cst] at hd
        try simp only [hd]
        first
          | (refine soft_const rfl ?_; go_simp; done)
          | (refine soft_const rfl ?_; go_simp; exact rfl)
          | (exact soft_cell rfl hw _ _ rfl _ rfl _ _ kf Try.underlying3 rfl)
          | (exact soft_skip rfl)
      · intro V wx hw hd
        simp [phi, Region.binds, cst] at hd
        try simp only [hd]
        first
          | (refine soft_const rfl ?_; go_simp; done)
          | (refine soft_const rfl ?_; go_simp; exact rfl)
          | (exact soft_cell rfl hw _ _ rfl _ rfl _ _ kf Try.underlying3 rfl)
          | (exact soft_skip rfl)
      · intro V wx hw hd
        simp [phi, Region.binds, cst] at hd
        try simp only [hd]
        first
          | (refine soft_const rfl ?_; go_simp; done)
          | (refine soft_const rfl ?_; go_simp; exact rfl)
          | (exact soft_cell rfl hw _ _ rfl _ rfl _ _ kf Try.underlying3 rfl)
          | (exact soft_skip rfl)
      · intro V wx hw hd
        simp [phi, Region.binds, cst] at hd
        try simp only [hd]
        first
          | (refine soft_const rfl ?_; go_simp; done)
          | (refine soft_const rfl ?_; go_simp; exact rfl)
          | (exact soft_cell rfl hw _ _ rfl _ rfl _ _ kf Try.underlying3 rfl)
          | (exact soft_skip rfl)
      · intro V wx hw hd
        simp [phi, Region.binds, cst] at hd
        try simp only [hd]
        first
          | (refine soft_const rfl ?_; go_simp; done)
          | (refine soft_const rfl ?_; go_simp; exact rfl)
          | (exact soft_cell rfl hw _ _ rfl _ rfl _ _ kf Try.underlying3 rfl)
          | (exact soft_skip rfl)
      · intro V wx hw hd
        simp [phi, Region.binds, cst] at hd
        try simp only [hd]
        first
          | (refine soft_const rfl ?_; go_simp; done)
          | (refine soft_const rfl ?_; go_simp; exact rfl)
          | (exact soft_cell rfl hw _ _ rfl _ rfl _ _ kf Try.underlying3 rfl)
          | (exact soft_skip rfl)
      · intro V wx hw hd
        simp [phi, Region.binds, cst] at hd
        try simp only [hd]
        first
          | (refine soft_const rfl ?_; go_simp; done)
          | (refine soft_const rfl ?_; go_simp; exact rfl)
          | (exact soft_cell rfl hw _ _ rfl _ rfl _ _ kf Try.underlying3 rfl)
          | (exact soft_skip rfl)
      · intro V wx hw hd
        simp [phi, Region.binds, cst] at hd
        try simp only [hd]
        first
          | (refine soft_const rfl ?_; go_simp; done)
          | (refine soft_const rfl ?_; go_simp; exact rfl)
          | (exact soft_cell rfl hw _ _ rfl _ rfl _ _ kf Try.underlying3 rfl)
          | (exact soft_skip rfl)
      · intro V wx hw hd
        simp [phi, Region.binds, cst] at hd
        try simp only [hd]
        first
          | (refine soft_const rfl ?_; go_simp; done)
          | (refine soft_const rfl ?_; go_simp; exact rfl)
          | (exact soft_cell rfl hw _ _ rfl _ rfl _ _ kf Try.underlying3 rfl)
          | (exact soft_skip rfl)
      · intro V wx hw hd
        simp [phi, Region.binds, cst] at hd
        try simp only [hd]
        first
          | (refine soft_const rfl ?_; go_simp; done)
          | (refine soft_const rfl ?_; go_simp; exact rfl)
          | (exact soft_cell rfl hw _ _ rfl _ rfl _ _ kf Try.underlying3 rfl)
          | (exact soft_skip rfl)
      · intro V wx hw hd
        simp [phi, Region.binds, cst] at hd
        try simp only [hd]
        first
          | (refine soft_const rfl ?_; go_simp; done)
          | (refine soft_const rfl ?_; go_simp; exact rfl)
          | (exact soft_cell rfl hw _ _ rfl _ rfl _ _ kf Try.underlying3 rfl)
          | (exact soft_skip rfl)
      · intro V wx hw hd
        simp [phi, Region.binds, cst] at hd
        try simp only [hd]
        first
          | (refine soft_const rfl ?_; go_simp; done)
          | (refine soft_const rfl ?_; go_simp; exact rfl)
          | (exact soft_cell rfl hw _ _ rfl _ rfl _ _ kf Try.underlying3 rfl)
          | (exact soft_skip rfl)
      · intro V wx hw hd
        simp [phi, Region.binds, cst] at hd
        try simp only [hd]
        first
          | (refine soft_const rfl ?_; go_simp; done)
          | (refine soft_const rfl ?_; go_simp; exact rfl)
          | (exact soft_cell rfl hw _ _ rfl _ rfl _ _ kf Try.underlying3 rfl)
          | (exact soft_skip rfl)
      · intro V wx hw hd
        simp [phi, Region.binds, cst] at hd
        try simp only [hd]
        first
          | (refine soft_const rfl ?_; go_simp; done)
          | (refine soft_const rfl ?_; go_simp; exact rfl)
          | (exact soft_cell rfl hw _ _ rfl _ rfl _ _ kf Try.underlying3 rfl)
          | (exact soft_skip rfl)
      · intro V wx hw hd
        simp [phi, Region.binds, cst] at hd
        try simp only [hd]
        first
          | (refine soft_const rfl ?_; go_simp; done)
          | (refine soft_const rfl ?_; go_simp; exact rfl)
          | (exact soft_cell rfl hw _ _ rfl _ rfl _ _ kf Try.underlying3 rfl)
          | (exact soft_skip rfl)
    intro V w1 g1 hk
    have j18 := hk 18 (by decide)
    simp [phi, cst] at j18
    simp only [j18, List.drop_succ_cons, List.drop_zero, List.drop_nil]
    replace h0 := g1.heap h0 (by simp)
    clear hk j18
    go_wp2_with (refine store_bytes (by rfl) 32 _ _ (by rfl) (w.heap.size + 4) 32 _ (by rfl) zero32 (by rfl) (List.replicate 32 0) h0 (by kernel_rfl) zero32_len (by simp) ?_; intro w9 h9 g9 s9)
    have g09 := (ga.t0 g1).tn g9 (show w.heap.size ≤ w.heap.size + 4 by omega)
    exact ret_row2 10 11 32 rfl _ Try.underlying32 rfl (bcs zero32) (by rw [bcs_length, zero32_len]; kernel_rfl) rfl _ rfl (by simpa using ra_block h9) ⟨rfl, vl, F, hF.tr0 g09, rfl, g09.of0, SameNew.refl _ _, g09⟩
  obtain ⟨l, rfl⟩ : ∃ l : Nat, lo = l := ⟨lo.toNat, by omega⟩
  have hln : l ≤ n := by omega
  have hadd : IntKind.i64.wrap ((l : Int) + part.length) = (l : Int) + part.length := by unfold IntKind.wrap; simp [IntKind.bits, IntKind.signed]; omega
  obtain ⟨nd, hnd⟩ : ∃ nd, nd = needP n l (l + part.length) := ⟨_, rfl⟩
  rw [← hnd] at hJ
  simp only [← hnd] at kN
  replace hnd := Lib.hid hnd
  by_cases hC : nd = proof.length
  rotate_left
  · have hJ1 : J = (zero32, false, F.map (·.2)) := by rw [hJ.out, if_neg (by omega)]
    subst hJ1
    clear hJ
    have hA' : ¬ (l : Int) < 0 := hA
    have hCb : (nd != proof.length) = true := by rw [bne_iff_ne]; exact hC
    refine' region_soft 19 [cst (.int .i64 l), cst (.bool false), cst (.bool false), cst (.int .i64 l), cst (.int .i64 n), cst (.bool false), cst (.bool false), cst (.bool false), cst (.int .i64 n), cst (.int .i64 l), cst (.int .i64 l), cst (.slice ap part.length cp), cst (.int .i64 part.length), cst (.int .i64 (l + part.length)), cst (.int .i64 nd), cst (.slice ar proof.length cr), cst (.int .i64 proof.length), cst (.bool true), cst (.bool true)] rfl (by kernel_rfl) (by kernel_rfl) (stays_cons (Stays.cst _) (stays_cons (Stays.cst _) (stays_cons (Stays.cst _) (stays_cons (Stays.cst _) (stays_cons (Stays.cst _) (stays_cons (Stays.cst _) (stays_cons (Stays.cst _) (stays_cons (Stays.cst _) (stays_cons (Stays.cst _) (stays_cons (Stays.cst _) (stays_cons (Stays.cst _) (stays_cons (Stays.cst _) (stays_cons (Stays.cst _) (stays_cons (Stays.cst _) (stays_cons (Stays.cst _) (stays_cons (Stays.cst _) (stays_cons (Stays.cst _) (stays_cons (Stays.cst _) (stays_cons (Stays.cst _) stays_nil))))))))))))))))))) _ (fun V => by simp only [putAll, Act.put, List.take_succ_cons, List.take_zero, List.setIfInBounds_toArray, List.set_cons_zero, List.set_cons_succ, Nat.reduceAdd]; exact rfl) ?hs4 ?ht4
    case hs4 =>
      simp only [List.take_succ_cons, List.take_zero, softs]
      refine ⟨?_, ?_, ?_, ?_, ?_, ?_, ?_, ?_, ?_, ?_, ?_, ?_, ?_, ?_, ?_, ?_, ?_, ?_, ?_, trivial⟩
      · intro V wx hw hd
        simp [phi, Region.binds, cst] at hd
        try simp only [hd]
        first
          | (refine soft_const rfl ?_; go_simp; done)
          | (refine soft_const rfl ?_; go_simp; exact rfl)
          | (exact soft_cell rfl hw _ _ rfl _ rfl _ _ kf Try.underlying3 rfl)
          | (exact soft_cell rfl hw _ _ rfl _ rfl _ _ kp Try.underlying23 rfl)
          | (exact soft_cell rfl hw _ _ rfl _ rfl _ _ kr Try.underlying23 rfl)
          | (exact soft_skip rfl)
      · intro V wx hw hd
        simp [phi, Region.binds, cst] at hd
        try simp only [hd]
        first
          | (refine soft_const rfl ?_; go_simp; done)
          | (refine soft_const rfl ?_; go_simp; exact rfl)
          | (exact soft_cell rfl hw _ _ rfl _ rfl _ _ kf Try.underlying3 rfl)
          | (exact soft_cell rfl hw _ _ rfl _ rfl _ _ kp Try.underlying23 rfl)
          | (exact soft_cell rfl hw _ _ rfl _ rfl _ _ kr Try.underlying23 rfl)
          | (exact soft_skip rfl)
      · intro V wx hw hd
        simp [phi, Region.binds, cst] at hd
        try simp only [hd]
        first
          | (refine soft_const rfl ?_; go_simp; done)
          | (refine soft_const rfl ?_; go_simp; exact rfl)
          | (exact soft_cell rfl hw _ _ rfl _ rfl _ _ kf Try.underlying3 rfl)
          | (exact soft_cell rfl hw _ _ rfl _ rfl _ _ kp Try.underlying23 rfl)
          | (exact soft_cell rfl hw _ _ rfl _ rfl _ _ kr Try.underlying23 rfl)
          | (exact soft_skip rfl)
      · intro V wx hw hd
        simp [phi, Region.binds, cst] at hd
        try simp only [hd]
        first
          | (refine soft_const rfl ?_; go_simp; done)
          | (refine soft_const rfl ?_; go_simp; exact rfl)
          | (exact soft_cell rfl hw _ _ rfl _ rfl _ _ kf Try.underlying3 rfl)
          | (exact soft_cell rfl hw _ _ rfl _ rfl _ _ kp Try.underlying23 rfl)
          | (exact soft_cell rfl hw _ _ rfl _ rfl _ _ kr Try.underlying23 rfl)
          | (exact soft_skip rfl)
      · intro V wx hw hd
        simp [phi, Region.binds, cst] at hd
        try simp only [hd]
        first
          | (refine soft_const rfl ?_; go_simp; done)
          | (refine soft_const rfl ?_; go_simp; exact rfl)
          | (exact soft_cell rfl hw _ _ rfl _ rfl _ _ kf Try.underlying3 rfl)
          | (exact soft_cell rfl hw _ _ rfl _ rfl _ _ kp Try.underlying23 rfl)
          | (exact soft_cell rfl hw _ _ rfl _ rfl _ _ kr Try.underlying23 rfl)
          | (exact soft_skip rfl)
      · intro V wx hw hd
        simp [phi, Region.binds, cst] at hd
        try simp only [hd]
        first
          | (refine soft_const rfl ?_; go_simp; done)
          | (refine soft_const rfl ?_; go_simp; exact rfl)
          | (exact soft_cell rfl hw _ _ rfl _ rfl _ _ kf Try.underlying3 rfl)
          | (exact soft_cell rfl hw _ _ rfl _ rfl _ _ kp Try.underlying23 rfl)
          | (exact soft_cell rfl hw _ _ rfl _ rfl _ _ kr Try.underlying23 rfl)
          | (exact soft_skip rfl)
      · intro V wx hw hd
        simp [phi, Region.binds, cst] at hd
        try simp only [hd]
        first
          | (refine soft_const rfl ?_; go_simp; done)
          | (refine soft_const rfl ?_; go_simp; exact rfl)
          | (exact soft_cell rfl hw _ _ rfl _ rfl _ _ kf Try.underlying3 rfl)
          | (exact soft_cell rfl hw _ _ rfl _ rfl _ _ kp Try.underlying23 rfl)
          | (exact soft_cell rfl hw _ _ rfl _ rfl _ _ kr Try.underlying23 rfl)
          | (exact soft_skip rfl)
      · intro V wx hw hd
        simp [phi, Region.binds, cst] at hd
        try simp only [hd]
        first
          | (refine soft_const rfl ?_; go_simp; done)
          | (refine soft_const rfl ?_; go_simp; exact rfl)
          | (exact soft_cell rfl hw _ _ rfl _ rfl _ _ kf Try.underlying3 rfl)
          | (exact soft_cell rfl hw _ _ rfl _ rfl _ _ kp Try.underlying23 rfl)
          | (exact soft_cell rfl hw _ _ rfl _ rfl _ _ kr Try.underlying23 rfl)
          | (exact soft_skip rfl)
      · intro V wx hw hd
        simp [phi, Region.binds, cst] at hd
        try simp only [hd]
        first
          | (refine soft_const rfl ?_; go_simp; done)
          | (refine soft_const rfl ?_; go_simp; exact rfl)
          | (exact soft_cell rfl hw _ _ rfl _ rfl _ _ kf Try.underlying3 rfl)
          | (exact soft_cell rfl hw _ _ rfl _ rfl _ _ kp Try.underlying23 rfl)
          | (exact soft_cell rfl hw _ _ rfl _ rfl _ _ kr Try.underlying23 rfl)
          | (exact soft_skip rfl)
      · intro V wx hw hd
        simp [phi, Region.binds, cst] at hd
        try simp only [hd]
        first
          | (refine soft_const rfl ?_; go_simp; done)
          | (refine soft_const rfl ?_; go_simp; exact rfl)
          | (exact soft_cell rfl hw _ _ rfl _ rfl _ _ kf Try.underlying3 rfl)
          | (exact soft_cell rfl hw _ _ rfl _ rfl _ _ kp Try.underlying23 rfl)
          | (exact soft_cell rfl hw _ _ rfl _ rfl _ _ kr Try.underlying23 rfl)
          | (exact soft_skip rfl)
      · intro V wx hw hd
        simp [phi, Region.binds, cst] at hd
        try simp only [hd]
        first
          | (refine soft_const rfl ?_; go_simp; done)
          | (refine soft_const rfl ?_; go_simp; exact rfl)
          | (exact soft_cell rfl hw _ _ rfl _ rfl _ _ kf Try.underlying3 rfl)
          | (exact soft_cell rfl hw _ _ rfl _ rfl _ _ kp Try.underlying23 rfl)
          | (exact soft_cell rfl hw _ _ rfl _ rfl _ _ kr Try.underlying23 rfl)
          | (exact soft_skip rfl)
      · intro V wx hw hd
        simp [phi, Region.binds, cst] at hd
        try simp only [hd]
        first
          | (refine soft_const rfl ?_; go_simp; done)
          | (refine soft_const rfl ?_; go_simp; exact rfl)
          | (exact soft_cell rfl hw _ _ rfl _ rfl _ _ kf Try.underlying3 rfl)
          | (exact soft_cell rfl hw _ _ rfl _ rfl _ _ kp Try.underlying23 rfl)
          | (exact soft_cell rfl hw _ _ rfl _ rfl _ _ kr Try.underlying23 rfl)
          | (exact soft_skip rfl)
      · intro V wx hw hd
        simp [phi, Region.binds, cst] at hd
        try simp only [hd]
        first
          | (refine soft_const rfl ?_; go_simp; done)
          | (refine soft_const rfl ?_; go_simp; exact rfl)
          | (exact soft_cell rfl hw _ _ rfl _ rfl _ _ kf Try.underlying3 rfl)
          | (exact soft_cell rfl hw _ _ rfl _ rfl _ _ kp Try.underlying23 rfl)
          | (exact soft_cell rfl hw _ _ rfl _ rfl _ _ kr Try.underlying23 rfl)
          | (exact soft_skip rfl)
      · intro V wx hw hd
        simp [phi, Region.binds, cst] at hd
        try simp only [hd]
        first
          | (refine soft_const rfl ?_; go_simp; done)
          | (refine soft_const rfl ?_; go_simp; exact rfl)
          | (exact soft_cell rfl hw _ _ rfl _ rfl _ _ kf Try.underlying3 rfl)
          | (exact soft_cell rfl hw _ _ rfl _ rfl _ _ kp Try.underlying23 rfl)
          | (exact soft_cell rfl hw _ _ rfl _ rfl _ _ kr Try.underlying23 rfl)
          | (exact soft_skip rfl)
      · intro V wx hw hd
        simp [phi, Region.binds, cst] at hd
        try simp only [hd]
        refine soft_callC rfl _ _ (by go_simp; try exact ⟨rfl, rfl⟩) (kN wx)
      · intro V wx hw hd
        simp [phi, Region.binds, cst] at hd
        try simp only [hd]
        first
          | (refine soft_const rfl ?_; go_simp; done)
          | (refine soft_const rfl ?_; go_simp; exact rfl)
          | (exact soft_cell rfl hw _ _ rfl _ rfl _ _ kf Try.underlying3 rfl)
          | (exact soft_cell rfl hw _ _ rfl _ rfl _ _ kp Try.underlying23 rfl)
          | (exact soft_cell rfl hw _ _ rfl _ rfl _ _ kr Try.underlying23 rfl)
          | (exact soft_skip rfl)
      · intro V wx hw hd
        simp [phi, Region.binds, cst] at hd
        try simp only [hd]
        first
          | (refine soft_const rfl ?_; go_simp; done)
          | (refine soft_const rfl ?_; go_simp; exact rfl)
          | (exact soft_cell rfl hw _ _ rfl _ rfl _ _ kf Try.underlying3 rfl)
          | (exact soft_cell rfl hw _ _ rfl _ rfl _ _ kp Try.underlying23 rfl)
          | (exact soft_cell rfl hw _ _ rfl _ rfl _ _ kr Try.underlying23 rfl)
          | (exact soft_skip rfl)
      · intro V wx hw hd
        simp [phi, Region.binds, cst] at hd
        try simp only [hd]
        first
          | (refine soft_const rfl ?_; go_simp; done)
          | (refine soft_const rfl ?_; go_simp; exact rfl)
          | (exact soft_cell rfl hw _ _ rfl _ rfl _ _ kf Try.underlying3 rfl)
          | (exact soft_cell rfl hw _ _ rfl _ rfl _ _ kp Try.underlying23 rfl)
          | (exact soft_cell rfl hw _ _ rfl _ rfl _ _ kr Try.underlying23 rfl)
          | (exact soft_skip rfl)
      · intro V wx hw hd
        simp [phi, Region.binds, cst] at hd
        try simp only [hd]
        first
          | (refine soft_const rfl ?_; go_simp; done)
          | (refine soft_const rfl ?_; go_simp; exact rfl)
          | (exact soft_cell rfl hw _ _ rfl _ rfl _ _ kf Try.underlying3 rfl)
          | (exact soft_cell rfl hw _ _ rfl _ rfl _ _ kp Try.underlying23 rfl)
          | (exact soft_cell rfl hw _ _ rfl _ rfl _ _ kr Try.underlying23 rfl)
          | (exact soft_skip rfl)
    intro V w1 g1 hk
    have j18 := hk 18 (by decide)
    simp [phi, cst] at j18
    simp only [j18, List.drop_succ_cons, List.drop_zero, List.drop_nil]
    replace h0 := g1.heap h0 (by simp)
    clear hk j18
    go_wp2_with (refine store_bytes (by rfl) 32 _ _ (by rfl) (w.heap.size + 4) 32 _ (by rfl) zero32 (by rfl) (List.replicate 32 0) h0 (by kernel_rfl) zero32_len (by simp) ?_; intro w9 h9 g9 s9)
    have g09 := (ga.t0 g1).tn g9 (show w.heap.size ≤ w.heap.size + 4 by omega)
    exact ret_row2 10 11 32 rfl _ Try.underlying32 rfl (bcs zero32) (by rw [bcs_length, zero32_len]; kernel_rfl) rfl _ rfl (by simpa using ra_block h9) ⟨rfl, vl, F, hF.tr0 g09, rfl, g09.of0, SameNew.refl _ _, g09⟩
  subst hC
  have hA' : ¬ (l : Int) < 0 := hA
  refine' region_soft 19 [cst (.int .i64 l), cst (.bool false), cst (.bool false), cst (.int .i64 l), cst (.int .i64 n), cst (.bool false), cst (.bool false), cst (.bool false), cst (.int .i64 n), cst (.int .i64 l), cst (.int .i64 l), cst (.slice ap part.length cp), cst (.int .i64 part.length), cst (.int .i64 (l + part.length)), cst (.int .i64 proof.length), cst (.slice ar proof.length cr), cst (.int .i64 proof.length), cst (.bool false), cst (.bool false)] rfl (by kernel_rfl) (by kernel_rfl) (stays_cons (Stays.cst _) (stays_cons (Stays.cst _) (stays_cons (Stays.cst _) (stays_cons (Stays.cst _) (stays_cons (Stays.cst _) (stays_cons (Stays.cst _) (stays_cons (Stays.cst _) (stays_cons (Stays.cst _) (stays_cons (Stays.cst _) (stays_cons (Stays.cst _) (stays_cons (Stays.cst _) (stays_cons (Stays.cst _) (stays_cons (Stays.cst _) (stays_cons (Stays.cst _) (stays_cons (Stays.cst _) (stays_cons (Stays.cst _) (stays_cons (Stays.cst _) (stays_cons (Stays.cst _) (stays_cons (Stays.cst _) stays_nil))))))))))))))))))) _ (fun V => by simp only [putAll, Act.put, List.take_succ_cons, List.take_zero, List.setIfInBounds_toArray, List.set_cons_zero, List.set_cons_succ, Nat.reduceAdd]; exact rfl) ?hs5 ?ht5
  case hs5 =>
    simp only [List.take_succ_cons, List.take_zero, softs]
    refine ⟨?_, ?_, ?_, ?_, ?_, ?_, ?_, ?_, ?_, ?_, ?_, ?_, ?_, ?_, ?_, ?_, ?_, ?_, ?_, trivial⟩
    · intro V wx hw hd
      simp [phi, Region.binds, cst] at hd
      try simp only [hd]
      first
        | (refine soft_const rfl ?_; go_simp; done)
        | (refine soft_const rfl ?_; go_simp; exact rfl)
        | (exact soft_cell rfl hw _ _ rfl _ rfl _ _ kf Try.underlying3 rfl)
        | (exact soft_cell rfl hw _ _ rfl _ rfl _ _ kp Try.underlying23 rfl)
        | (exact soft_cell rfl hw _ _ rfl _ rfl _ _ kr Try.underlying23 rfl)
        | (exact soft_skip rfl)
    · intro V wx hw hd
      simp [phi, Region.binds, cst] at hd
      try simp only [hd]
      first
        | (refine soft_const rfl ?_; go_simp; done)
        | (refine soft_const rfl ?_; go_simp; exact rfl)
        | (exact soft_cell rfl hw _ _ rfl _ rfl _ _ kf Try.underlying3 rfl)
        | (exact soft_cell rfl hw _ _ rfl _ rfl _ _ kp Try.underlying23 rfl)
        | (exact soft_cell rfl hw _ _ rfl _ rfl _ _ kr Try.underlying23 rfl)
        | (exact soft_skip rfl)
    · intro V wx hw hd
      simp [phi, Region.binds, cst] at hd
      try simp only [hd]
      first
        | (refine soft_const rfl ?_; go_simp; done)
        | (refine soft_const rfl ?_; go_simp; exact rfl)
        | (exact soft_cell rfl hw _ _ rfl _ rfl _ _ kf Try.underlying3 rfl)
        | (exact soft_cell rfl hw _ _ rfl _ rfl _ _ kp Try.underlying23 rfl)
        | (exact soft_cell rfl hw _ _ rfl _ rfl _ _ kr Try.underlying23 rfl)
        | (exact soft_skip rfl)
    · intro V wx hw hd
      simp [phi, Region.binds, cst] at hd
      try simp only [hd]
      first
        | (refine soft_const rfl ?_; go_simp; done)
        | (refine soft_const rfl ?_; go_simp; exact rfl)
        | (exact soft_cell rfl hw _ _ rfl _ rfl _ _ kf Try.underlying3 rfl)
        | (exact soft_cell rfl hw _ _ rfl _ rfl _ _ kp Try.underlying23 rfl)
        | (exact soft_cell rfl hw _ _ rfl _ rfl _ _ kr Try.underlying23 rfl)
        | (exact soft_skip rfl)
    · intro V wx hw hd
      simp [phi, Region.binds, cst] at hd
      try simp only [hd]
      first
        | (refine soft_const rfl ?_; go_simp; done)
        | (refine soft_const rfl ?_; go_simp; exact rfl)
        | (exact soft_cell rfl hw _ _ rfl _ rfl _ _ kf Try.underlying3 rfl)
        | (exact soft_cell rfl hw _ _ rfl _ rfl _ _ kp Try.underlying23 rfl)
        | (exact soft_cell rfl hw _ _ rfl _ rfl _ _ kr Try.underlying23 rfl)
        | (exact soft_skip rfl)
    · intro V wx hw hd
      simp [phi, Region.binds, cst] at hd
      try simp only [hd]
      first
        | (refine soft_const rfl ?_; go_simp; done)
        | (refine soft_const rfl ?_; go_simp; exact rfl)
        | (exact soft_cell rfl hw _ _ rfl _ rfl _ _ kf Try.underlying3 rfl)
        | (exact soft_cell rfl hw _ _ rfl _ rfl _ _ kp Try.underlying23 rfl)
        | (exact soft_cell rfl hw _ _ rfl _ rfl _ _ kr Try.underlying23 rfl)
        | (exact soft_skip rfl)
    · intro V wx hw hd
      simp [phi, Region.binds, cst] at hd
      try simp only [hd]
      first
        | (refine soft_const rfl ?_; go_simp; done)
        | (refine soft_const rfl ?_; go_simp; exact rfl)
        | (exact soft_cell rfl hw _ _ rfl _ rfl _ _ kf Try.underlying3 rfl)
        | (exact soft_cell rfl hw _ _ rfl _ rfl _ _ kp Try.underlying23 rfl)
        | (exact soft_cell rfl hw _ _ rfl _ rfl _ _ kr Try.underlying23 rfl)
        | (exact soft_skip rfl)
    · intro V wx hw hd
      simp [phi, Region.binds, cst] at hd
      try simp only [hd]
      first
        | (refine soft_const rfl ?_; go_simp; done)
        | (refine soft_const rfl ?_; go_simp; exact rfl)
        | (exact soft_cell rfl hw _ _ rfl _ rfl _ _ kf Try.underlying3 rfl)
        | (exact soft_cell rfl hw _ _ rfl _ rfl _ _ kp Try.underlying23 rfl)
        | (exact soft_cell rfl hw _ _ rfl _ rfl _ _ kr Try.underlying23 rfl)
        | (exact soft_skip rfl)
    · intro V wx hw hd
      simp [phi, Region.binds, cst] at hd
      try simp only [hd]
      first
        | (refine soft_const rfl ?_; go_simp; done)
        | (refine soft_const rfl ?_; go_simp; exact rfl)
        | (exact soft_cell rfl hw _ _ rfl _ rfl _ _ kf Try.underlying3 rfl)
        | (exact soft_cell rfl hw _ _ rfl _ rfl _ _ kp Try.underlying23 rfl)
        | (exact soft_cell rfl hw _ _ rfl _ rfl _ _ kr Try.underlying23 rfl)
        | (exact soft_skip rfl)
    · intro V wx hw hd
      simp [phi, Region.binds, cst] at hd
      try simp only [hd]
      first
        | (refine soft_const rfl ?_; go_simp; done)
        | (refine soft_const rfl ?_; go_simp; exact rfl)
        | (exact soft_cell rfl hw _ _ rfl _ rfl _ _ kf Try.underlying3 rfl)
        | (exact soft_cell rfl hw _ _ rfl _ rfl _ _ kp Try.underlying23 rfl)
        | (exact soft_cell rfl hw _ _ rfl _ rfl _ _ kr Try.underlying23 rfl)
        | (exact soft_skip rfl)
    · intro V wx hw hd
      simp [phi, Region.binds, cst] at hd
      try simp only [hd]
      first
        | (refine soft_const rfl ?_; go_simp; done)
        | (refine soft_const rfl ?_; go_simp; exact rfl)
        | (exact soft_cell rfl hw _ _ rfl _ rfl _ _ kf Try.underlying3 rfl)
        | (exact soft_cell rfl hw _ _ rfl _ rfl _ _ kp Try.underlying23 rfl)
        | (exact soft_cell rfl hw _ _ rfl _ rfl _ _ kr Try.underlying23 rfl)
        | (exact soft_skip rfl)
    · intro V wx hw hd
      simp [phi, Region.binds, cst] at hd
      try simp only [hd]
      first
        | (refine soft_const rfl ?_; go_simp; done)
        | (refine soft_const rfl ?_; go_simp; exact rfl)
        | (exact soft_cell rfl hw _ _ rfl _ rfl _ _ kf Try.underlying3 rfl)
        | (exact soft_cell rfl hw _ _ rfl _ rfl _ _ kp Try.underlying23 rfl)
        | (exact soft_cell rfl hw _ _ rfl _ rfl _ _ kr Try.underlying23 rfl)
        | (exact soft_skip rfl)
    · intro V wx hw hd
      simp [phi, Region.binds, cst] at hd
      try simp only [hd]
      first
        | (refine soft_const rfl ?_; go_simp; done)
        | (refine soft_const rfl ?_; go_simp; exact rfl)
        | (exact soft_cell rfl hw _ _ rfl _ rfl _ _ kf Try.underlying3 rfl)
        | (exact soft_cell rfl hw _ _ rfl _ rfl _ _ kp Try.underlying23 rfl)
        | (exact soft_cell rfl hw _ _ rfl _ rfl _ _ kr Try.underlying23 rfl)
        | (exact soft_skip rfl)
    · intro V wx hw hd
      simp [phi, Region.binds, cst] at hd
      try simp only [hd]
      first
        | (refine soft_const rfl ?_; go_simp; done)
        | (refine soft_const rfl ?_; go_simp; exact rfl)
        | (exact soft_cell rfl hw _ _ rfl _ rfl _ _ kf Try.underlying3 rfl)
        | (exact soft_cell rfl hw _ _ rfl _ rfl _ _ kp Try.underlying23 rfl)
        | (exact soft_cell rfl hw _ _ rfl _ rfl _ _ kr Try.underlying23 rfl)
        | (exact soft_skip rfl)
    · intro V wx hw hd
      simp [phi, Region.binds, cst] at hd
      try simp only [hd]
      refine soft_callC rfl _ _ (by go_simp; try exact ⟨rfl, rfl⟩) (kN wx)
    · intro V wx hw hd
      simp [phi, Region.binds, cst] at hd
      try simp only [hd]
      first
        | (refine soft_const rfl ?_; go_simp; done)
        | (refine soft_const rfl ?_; go_simp; exact rfl)
        | (exact soft_cell rfl hw _ _ rfl _ rfl _ _ kf Try.underlying3 rfl)
        | (exact soft_cell rfl hw _ _ rfl _ rfl _ _ kp Try.underlying23 rfl)
        | (exact soft_cell rfl hw _ _ rfl _ rfl _ _ kr Try.underlying23 rfl)
        | (exact soft_skip rfl)
    · intro V wx hw hd
      simp [phi, Region.binds, cst] at hd
      try simp only [hd]
      first
        | (refine soft_const rfl ?_; go_simp; done)
        | (refine soft_const rfl ?_; go_simp; exact rfl)
        | (exact soft_cell rfl hw _ _ rfl _ rfl _ _ kf Try.underlying3 rfl)
        | (exact soft_cell rfl hw _ _ rfl _ rfl _ _ kp Try.underlying23 rfl)
        | (exact soft_cell rfl hw _ _ rfl _ rfl _ _ kr Try.underlying23 rfl)
        | (exact soft_skip rfl)
    · intro V wx hw hd
      simp [phi, Region.binds, cst] at hd
      try simp only [hd]
      first
        | (refine soft_const rfl ?_; go_simp; done)
        | (refine soft_const rfl ?_; go_simp; exact rfl)
        | (exact soft_cell rfl hw _ _ rfl _ rfl _ _ kf Try.underlying3 rfl)
        | (exact soft_cell rfl hw _ _ rfl _ rfl _ _ kp Try.underlying23 rfl)
        | (exact soft_cell rfl hw _ _ rfl _ rfl _ _ kr Try.underlying23 rfl)
        | (exact soft_skip rfl)
    · intro V wx hw hd
      simp [phi, Region.binds, cst] at hd
      try simp only [hd]
      first
        | (refine soft_const rfl ?_; go_simp; done)
        | (refine soft_const rfl ?_; go_simp; exact rfl)
        | (exact soft_cell rfl hw _ _ rfl _ rfl _ _ kf Try.underlying3 rfl)
        | (exact soft_cell rfl hw _ _ rfl _ rfl _ _ kp Try.underlying23 rfl)
        | (exact soft_cell rfl hw _ _ rfl _ rfl _ _ kr Try.underlying23 rfl)
        | (exact soft_skip rfl)
  intro V w1 g1 hk
  have j18 := hk 18 (by decide)
  simp [phi, cst] at j18
  simp only [j18, List.drop_succ_cons, List.drop_zero, List.drop_nil]
  replace h0 := g1.heap h0 (by simp)
  replace hb1 := g1.heap hb1 (by simp)
  replace hb2 := g1.heap hb2 (by simp)
  replace hb3 := g1.heap hb3 (by simp)
  replace hb4 := g1.heap hb4 (by simp)
  replace ga := ga.t0 g1
  have hz1 : w.heap.size + 5 ≤ w1.heap.size := by have := g1.size; have := s0.out; omega
  clear hk j18 kf kp kr g1 kN s0
  have hJ1 := hJ.out
  rw [if_pos (by omega), Int.toNat_natCast] at hJ1
  clear hJ
  by_cases h0n : n = 0
  · rw [if_pos h0n, treeV_nil] at hJ1
    subst hJ1
    subst h0n
    have kl := (cells1 hb1).1
    have tN : (hashV noneS []).length = 32 := hashV_len _ _
    have kR := root_run 0 [] rfl w1 p p vl F (hF.tr0 ga) (by have := ga.size; omega) (by simp; omega) _ (Dg.nil _) (fun k hk => by simp [vblk] at hk)
    rw [treeV_nil] at kR
    dsimp only at kR
    go_wp2_with fail
    refine kR.mono ?_
    rintro e w2 ⟨rfl, v2, F2, l2, e2, g2, sn2⟩
    have hne : w.heap.size + 4 ∉ p :: vl.ownBlock.toList := by
      intro hm
      rcases List.mem_cons.1 hm with e | e
      · omega
      · have := hll.out _ (by simpa using e); omega
    replace h0 := g2.heap h0 hne
    have c2 := chg_new ga g2
    have sn := sn_new ga sn2
    clear kR g2 sn2 hb1 hb2 hb3 hb4 kl
    replace e2 := Lib.hid e2
    go_wp2_with (refine store_bytes (by rfl) 32 _ _ (by rfl) (w.heap.size + 4) 32 _ (by rfl) (hashV noneS []) (by rfl) (List.replicate 32 0) h0 (by kernel_rfl) tN (by simp) ?_; intro w9 h9 g9 s9)
    exact ret_row2 10 11 32 rfl _ Try.underlying32 rfl (bcs (hashV noneS [])) (by rw [bcs_length, tN]; kernel_rfl) rfl _ rfl (by simpa using ra_block h9) ⟨rfl, v2, F2, l2.store g9 (by omega) h0, e2.out, c2.tn g9 (by omega), sn⟩
  · rw [if_neg h0n] at hJ1
    have hnn := hnd.out
    have hfp : fitsP n l (l + part.length) = true := by
      cases hf : fitsP n l (l + part.length) with
      | true => rfl
      | false =>
        unfold needP at hnn
        rw [if_neg (by rw [hf]; decide)] at hnn
        omega
    have hff := hfp
    simp only [fitsP, Bool.and_eq_true, decide_eq_true_eq] at hff
    have hnV : needV l (l + part.length) 0 n = proof.length := by
      unfold needP at hnn
      rw [if_pos hfp, if_neg (by omega)] at hnn
      rw [show ((l : Int) + part.length).toNat = l + part.length by omega, Int.toNat_natCast, Int.toNat_natCast] at hnn
      omega
    clear hnn hfp hnd
    have kO := fun q9 ql qf qp B wx S hI => over_run (joinWalks (part := part) l p p q9 ql qf qp B (l + part.length) n (.slice ap part.length cp) rfl (by omega)) (by omega) (by omega) (by omega) 0 n (by omega) (Nat.le_refl _) 0 0 (proof, F.map (·.2)) wx S hI (by
      refine ⟨?_, ?_⟩
      · show needV l (l + part.length) 0 n + 0 ≤ proof.length; omega
      · show (F.map (·.2)).length + (2 * (n - 0) - 1 + 0) ≤ 800000; rw [List.length_map]; omega)
    generalize overV (joinA part l) l (l + part.length) 0 n (proof, F.map (·.2)) = R at *
    obtain ⟨x, rest, Y⟩ := R
    dsimp only at hJ1 kO
    subst hJ1
    have hjn : JnAt part l p p (w.heap.size + 3) w.heap.size (w.heap.size + 1) (w.heap.size + 2) (.slice ap part.length cp) (proof, F.map (·.2)) w1 vl (.slice ar proof.length cr) F :=
      ⟨hF.tr0 ga, rfl, hb4, hr.tr0 ga, hb1, hb2, hb3, hp.tr0 ga, by omega, fun k hk => by
        have h1 := hap.out k hk
        have h2 : k < w.heap.size := by
          rcases hk with hk | hk
          · exact hp.lt k hk
          · exact hr.lt k hk
        exact ⟨h1.1, by omega, h1.2⟩, by omega⟩
    have kk := kO (w.heap.size + 3) w.heap.size (w.heap.size + 1) (w.heap.size + 2) w1.heap.size w1 _ ⟨vl, _, F, hjn, rfl, Nat.le_refl _, fun k hk => by
      have h2 : k < w.heap.size := by
        rcases hk with hk | hk
        · exact hp.lt k hk
        · exact hr.lt k hk
      omega⟩
    have kf1 := (cells1 hb2).1
    have kp1 := (cells1 hb3).1
    simp only [Int.natCast_add] at kk
    have hn0i : (n : Int) ≠ 0 := by omega
    replace kk := Lib.hid kk
    clear kO hjn hb1 hb2 hb3 hb4 hff hnV
    go_wp2_with fail
    refine kk.out.mono ?_
    rintro e w3 ⟨rfl, hx, _, S', ⟨vl', vr', F', q1, q2, _, _⟩, g3, n3⟩
    have hne : w.heap.size + 4 ∉ setJ p (w.heap.size + 3) vl := by
      intro hm
      rcases mem_setJ.1 hm with e | e | e
      · omega
      · omega
      · have := hll.out _ e; omega
    replace h0 := g3.heap h0 hne
    have c3 : Chg (p :: vl.ownBlock.toList) w w3 := ga.of0.trans g3 (fun q hq => by
      rcases mem_setJ.1 hq with e | e | e
      · exact .inl (List.mem_cons.2 (.inl e))
      · exact .inr (by omega)
      · exact .inl (List.mem_cons_of_mem _ (by simpa using e)))
    have sn : SameNew w vl vl' := by
      by_cases e : vl'.ownBlock = vl.ownBlock
      · exact .inl e
      · refine .inr fun k hk => ?_
        have hm := n3 k (by rw [q2]; exact mem_setJ.2 (.inr (.inr hk)))
        rcases hm with hm | hm
        · rcases mem_setJ.1 hm with h | h | h
          · rw [h] at hk
            exact absurd hk (ownB_not q1.log.rows.1 q1.log.cell (by decide))
          · omega
          · exact absurd (by rw [hk, h]) e
        · omega
    have l3 := q1.log
    have e3 := Lib.hid q1.frames
    clear q1 q2 g3 n3 kk kf1 kp1
    go_wp2_with (refine store_bytes (by rfl) 32 _ _ (by rfl) (w.heap.size + 4) 32 _ (by rfl) x (by rfl) (List.replicate 32 0) h0 (by kernel_rfl) hx (by simp) ?_; intro w9 h9 g9 s9)
    exact ret_row2 10 11 32 rfl _ Try.underlying32 rfl (bcs x) (by rw [bcs_length, hx]; kernel_rfl) rfl _ rfl (by simpa using ra_block h9) ⟨rfl, vl', F', l3.store g9 (by omega) h0, e3.out, c3.tn g9 (by omega), sn⟩
end Go.Proofs.Ytgepfmofignmfaa
