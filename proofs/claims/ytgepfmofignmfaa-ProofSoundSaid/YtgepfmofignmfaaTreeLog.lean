/-
  Leaves, nodes and roots: the contracts of tree.Leaf, tree.Node, tree.Root.
-/
import Derived.Test.YtgepfmofignmfaaTreeNum
import Derived.Test.YtgepfmofignmfaaTagExt
import Derived.Test.YtgepfmofignmfaaLay
import Derived.Test.YtgepfmofignmfaaSoftW
namespace Go.Proofs.Ytgepfmofignmfaa
set_option linter.unusedSimpArgs false
set_option linter.unusedVariables false
open Go.RowKit

/-- 'load t p' of what lies somewhere. -/
theorem load_ra {P : Program} {ops : Array Oper} {rest : List Oper} {o : Oper} {a : Act} {w : World} {Q : Exit → Act → World → Prop} (hg : o.guard = none) (ty : TypeId) (x : Operand) (ho : o.op = .load ty x) (p off : Nat) (hx : a.eval x = .pointer (some ⟨p, off, none⟩))
    (cs : List Value) (d : TypeDesc) (hr : w.rangeAt p off cs) (hu : P.underlying ty = some d) (hd : d.isRow = true) (hi : (P.info? ty).map (·.size) = some cs.length) (h : wpList P ops Q rest (a.put o.dst (.agg cs.toArray)) w) : wpList P ops Q (o :: rest) a w := by
  refine wpList_plain hg fun K hK => ?_
  unfold Oper.wp execOp
  simp only [ho, hx, Instr.loadAt, Instr.sureAddr, Sem.run_bind, Sem.run_pure, Result.andThen_ok, run_loadVar_mid w p off ty cs d hr hu hd hi]
  exact hK _ _ h
theorem SlB.mk2 (m : World) (u1 u2 : Value) (p1 p2 : Bytes) (h1 : Sl m u1 p1.length (bcs p1)) (h2 : Sl m u2 p2.length (bcs p2)) (e : Nat) : SlB (m.alloc (.cells #[u1, u2] e)) (.slice (some ⟨m.heap.size, 0, none⟩) 2 2) [(u1, p1), (u2, p2)] := by
  refine ⟨Sl.lit m #[u1, u2] e 2 (by decide), fun y hy => ?_⟩
  simp only [List.mem_cons, List.not_mem_nil, or_false] at hy
  rcases hy with rfl | rfl
  · exact h1.tr0 (Chg.alloc _ _ _)
  · exact h2.tr0 (Chg.alloc _ _ _)
theorem SlB.mk3 (m : World) (u1 u2 u3 : Value) (p1 p2 p3 : Bytes) (h1 : Sl m u1 p1.length (bcs p1)) (h2 : Sl m u2 p2.length (bcs p2)) (h3 : Sl m u3 p3.length (bcs p3)) (e : Nat) : SlB (m.alloc (.cells #[u1, u2, u3] e)) (.slice (some ⟨m.heap.size, 0, none⟩) 3 3) [(u1, p1), (u2, p2), (u3, p3)] := by
  refine ⟨Sl.lit m #[u1, u2, u3] e 3 (by decide), fun y hy => ?_⟩
  simp only [List.mem_cons, List.not_mem_nil, or_false] at hy
  rcases hy with rfl | rfl | rfl
  · exact h1.tr0 (Chg.alloc _ _ _)
  · exact h2.tr0 (Chg.alloc _ _ _)
  · exact h3.tr0 (Chg.alloc _ _ _)
theorem n64_wrap (n : Int) : IntKind.u64.wrap n = ((n64 n : Nat) : Int) := by
  unfold n64 IntKind.wrap
  simp [IntKind.bits, IntKind.signed, IntKind.min, IntKind.max]
  omega
theorem lowb8_len (n : Nat) : (lowb n 8).length = 8 := lowb_length _ _
set_option maxHeartbeats 4000000 in
theorem number_ok (w : World) (n : Int) :
    Calls Try.prog 37 #[.int .i64 n] w fun e w' => ∃ v', e = .returned v' ∧ w'.ownsRow w.heap.size 5 1 v' 8 (bcs (lowb (n64 n) 8)) ∧ Chg [] w w' := by
  have hc := n64_wrap n
  have kP := fun w => putU64_ok w (.slice none 0 0) [] (n64 n) (Sl.nil w) (by simp [big])
  simp only [List.length_nil, Nat.zero_add, List.nil_append] at kP
  generalize n64 n = N at *
  go_enter Try.func37, Try.ntmps37
  go_wp2_with fail
  refine (kP _).mono ?_
  rintro e w1 ⟨v', rfl, o1, g1⟩
  go_wp2
  go_ret
  exact ⟨_, rfl, o1, g1⟩

/-- What a log's call turns, over calls. -/
theorem chg_log {w w1 w2 : World} {p : Nat} {v v1 : Value} (g1 : Chg (p :: v.ownBlock.toList) w w1) (s1 : SameNew w v v1) (g2 : Chg (p :: v1.ownBlock.toList) w1 w2) : Chg (p :: v.ownBlock.toList) w w2 := by
  refine g1.trans g2 fun x hx => ?_
  rcases List.mem_cons.1 hx with rfl | hx
  · exact .inl (List.mem_cons_self ..)
  · have hx : v1.ownBlock = some x := by simpa using hx
    rcases s1 with h | h
    · exact .inl (List.mem_cons_of_mem _ (by rw [← h, hx]; simp))
    · exact .inr (h x hx)
theorem chg_new {w w1 w2 : World} {p : Nat} {v : Value} (g1 : Chg [] w w1) (g2 : Chg (p :: v.ownBlock.toList) w1 w2) : Chg (p :: v.ownBlock.toList) w w2 := g1.of0.t1 g2
theorem sn_new {w w1 : World} {v v' : Value} (g1 : Chg [] w w1) (h : SameNew w1 v v') : SameNew w v v' := by
  rcases h with h | h
  · exact .inl h
  · exact .inr fun k hk => Nat.le_trans g1.size (h k hk)

set_option maxHeartbeats 4000000 in
set_option maxRecDepth 100000 in
theorem leaf_run (w : World) (p base : Nat) (vl : Value) (F : RowsB) (hF : LogAt w p base vl F) (hbase : base ≤ w.heap.size) (hfl : F.length ≤ 1000000) (s : Bytes) (hsl : s.length ≤ maxLen) (k n : Int) (v : Value) (d : Bytes) (hd : Sl w v d.length (bcs d)) (hdl : d.length ≤ 2147479900) :
    Calls Try.prog 15 #[.pointer (some ⟨p, 0, none⟩), .string (bstr s), .int .i64 k, .int .i64 n, v] w fun e w' => e = .returned (.agg (bcs (hashV s (leafP k n d))).toArray) ∧
      ∃ v' F', LogAt w' p base v' F' ∧ F'.map (·.2) = F.map (·.2) ++ logB s (leafP k n d) ∧ Chg (p :: vl.ownBlock.toList) w w' ∧ SameNew w vl v' := by
  obtain ⟨a0, c0, rfl⟩ := hd.shape
  obtain ⟨H, hH⟩ : ∃ H, H = hashV s (leafP k n d) := ⟨_, rfl⟩
  have hHl : H.length = 32 := by rw [hH]; exact hashV_len _ _
  rw [← hH]
  replace hH := Lib.hid hH
  have hpw := hF.lt
  have hsb : ∀ j, vl.ownBlock = some j → j < w.heap.size := fun j hj => (hF.rows.1.lt j hj).2
  go_enter Try.func15, Try.ntmps15
  go_wp2_with (refine alloc_bytes (by rfl) 32 (by rfl) 32 (by kernel_rfl) ?_; intro w0 h0 g0 s0; replace s0 : Hid _ := s0)
  refine (number_ok w0 k).mono ?_
  rintro e w1 ⟨v1, rfl, o1, g1⟩
  replace h0 := g1.heap h0 (by simp)
  have g01 := g0.t0 g1
  clear g0 g1
  go_wp2_with fail
  refine (number_ok w1 n).mono ?_
  rintro e w2 ⟨v2, rfl, o2, g2⟩
  replace h0 := g2.heap h0 (by simp)
  have g02 := g01.t0 g2
  have x1 := (Sl.ofOwns o1).tr0 g2
  have x2 := Sl.ofOwns o2
  have x3 := hd.tr0 g02
  obtain ⟨a1, c1, rfl⟩ := own_shape o1
  obtain ⟨a2, c2, rfl⟩ := own_shape o2
  clear g01 g2 o1 o2
  have ga := Chg.alloc [] w2 (.cells #[.slice a1 8 c1, .slice a2 8 c2, .slice a0 d.length c0] 22)
  have b3 := SlB.mk3 w2 (.slice a1 8 c1) (.slice a2 8 c2) (.slice a0 d.length c0) (lowb (n64 k) 8) (lowb (n64 n) 8) d (by rw [lowb8_len]; exact x1) (by rw [lowb8_len]; exact x2) x3 22
  have g03 := g02.t0 ga
  have kH := loghash_ok _ p base vl F (hF.tr0 g03) (Nat.le_trans hbase g03.size) hfl s _ _ b3 hsl (by simp [maxLen]) (by simp [sumL, lowb8_len]; omega)
  rw [show (List.map (fun x : Value × Bytes => x.2) [(Value.slice a1 8 c1, lowb (n64 k) 8), (Value.slice a2 8 c2, lowb (n64 n) 8), (Value.slice a0 d.length c0, d)]) = leafP k n d from rfl, ← hH.out] at kH
  replace h0 := ga.heap h0 (by simp)
  go_wp2_with fail
  refine kH.mono ?_
  rintro e w4 ⟨rfl, v', F', hL, hF', g4, sn⟩
  have g04 := chg_new g03 g4
  have hne : w.heap.size ∉ p :: vl.ownBlock.toList := by
    intro hm
    rcases List.mem_cons.1 hm with h | h
    · omega
    · have := hsb _ (by simpa using h); omega
  replace h0 := g4.heap h0 hne
  have sn0 := sn_new g03 sn
  clear kH b3 x1 x2 x3 ga g03 g4 sn g02
  go_wp2_with (refine store_bytes (by rfl) 32 _ _ (by rfl) w.heap.size 32 _ rfl H (by rfl) (List.replicate 32 0) h0 (by kernel_rfl) hHl (by simp) ?_; intro w5 h5 g5 s5)
  have hL5 : LogAt w5 p base v' F' := ⟨g5.heap hL.cell (by simp; omega), hL.rows.trT g5 h0 (by decide) (by decide)⟩
  have g05 := g04.tn g5 (Nat.le_refl _)
  go_wp2
  exact ret_bytes 10 32 (by rfl) 32 5 Try.underlying32 (by kernel_rfl) (by rfl) _ rfl H _ h5 hHl ⟨rfl, v', F', hL5, hF', g05, sn0⟩
theorem Sl.ofBlock {w : World} {p e : Nat} {f : Nat × Nat} {l : Bytes} (h : w.heap[p]? = some (.cells (bcs l).toArray e (0, 0))) (hl : l.length ≤ maxLen) : Sl w (.slice (some ⟨p, 0, none⟩) l.length l.length) l.length (bcs l) := by
  clear f
  have ho : w.ownsRow 0 e 1 (.slice (some ⟨p, 0, none⟩) l.length l.length) l.length (bcs l) := ⟨by simp [bcs], .inr ⟨p, l.length, (bcs l).toArray, rfl, Nat.zero_le _, h, Nat.le_refl _, hl, by simp [bcs], by rw [List.take_of_length_le (by simp [bcs])]⟩⟩
  exact Sl.ofOwns ho
/-- A row of two parts. -/
def Row2 (a b : Bytes) (v : Value) (w : World) : Prop := ∃ u1 u2, SlB w v [(u1, a), (u2, b)]
theorem Row2.stays {a b : Bytes} : Stays (Row2 a b) := fun _ _ _ ⟨u1, u2, h⟩ g => ⟨u1, u2, h.tr0 g⟩
set_option maxHeartbeats 4000000 in
set_option maxRecDepth 100000 in
theorem node_run (w : World) (p base : Nat) (vl : Value) (F : RowsB) (hF : LogAt w p base vl F) (hbase : base ≤ w.heap.size) (hfl : F.length ≤ 1000000) (a b : Bytes) (ha : a.length = 32) (hb : b.length = 32) :
    Calls Try.prog 17 #[.pointer (some ⟨p, 0, none⟩), .agg (bcs a).toArray, .agg (bcs b).toArray] w fun e w' => e = .returned (.agg (bcs (hashV nodeS [a, b])).toArray) ∧
      ∃ v' F', LogAt w' p base v' F' ∧ F'.map (·.2) = F.map (·.2) ++ [frameB nodeS [a, b]] ∧ Chg (p :: vl.ownBlock.toList) w w' ∧ SameNew w vl v' := by
  rw [← log_node]
  obtain ⟨H, hH⟩ : ∃ H, H = hashV nodeS [a, b] := ⟨_, rfl⟩
  have hHl : H.length = 32 := by rw [hH]; exact hashV_len _ _
  rw [← hH]
  replace hH := Lib.hid hH
  have hpw := hF.lt
  have hsb : ∀ j, vl.ownBlock = some j → j < w.heap.size := fun j hj => (hF.rows.1.lt j hj).2
  have x1 : Sl (w.alloc (.cells (bcs a).toArray 32)) (.slice (some ⟨w.heap.size, 0, none⟩) 32 32) 32 (bcs a) := by
    have := Sl.lit w (bcs a).toArray 32 32 (by decide)
    simpa using this
  have x2 : Sl ((w.alloc (.cells (bcs a).toArray 32)).alloc (.cells (bcs b).toArray 32)) (.slice (some ⟨w.heap.size + 1, 0, none⟩) 32 32) 32 (bcs b) := by
    have := Sl.lit (w.alloc (.cells (bcs a).toArray 32)) (bcs b).toArray 32 32 (by decide)
    simpa using this
  have g1 : Chg [] w ((w.alloc (.cells (bcs a).toArray 32)).alloc (.cells (bcs b).toArray 32)) := (Chg.alloc _ _ _).t0 (Chg.alloc _ _ _)
  replace x1 := x1.tr0 (Chg.alloc [] _ (.cells (bcs b).toArray 32))
  have hz : ((w.alloc (.cells (bcs a).toArray 32)).alloc (.cells (bcs b).toArray 32)).heap.size = w.heap.size + 2 := by simp
  go_enter Try.func17, Try.ntmps17
  go_wp2_with (refine alloc_bytes (by rfl) 32 (by rfl) 32 (by kernel_rfl) ?_; intro w0 h0 g0 s0; replace s0 : Hid _ := s0)
  replace x1 := x1.tr0 g0
  replace x2 := x2.tr0 g0
  have g00 := g1.t0 g0
  clear g0 g1
  generalize (w.alloc (.cells (bcs a).toArray 32)).alloc (.cells (bcs b).toArray 32) = wb at *
  generalize wb.heap.size = pr at *
  subst hz
  have kN : ∀ wx v, Chg [] w0 wx → Row2 a b v wx → Calls Try.prog 36 #[.pointer (some ⟨p, 0, none⟩), .string { data := #[110, 111, 100, 101] }, v] wx fun e w' => e = .returned (.agg (bcs H).toArray) ∧ ∃ v' F', LogAt w' p base v' F' ∧ F'.map (·.2) = F.map (·.2) ++ logB nodeS [a, b] ∧ Chg (p :: vl.ownBlock.toList) wx w' ∧ SameNew wx vl v' := fun wx v g ⟨u1, u2, hs⟩ => by
    have k := loghash_ok wx p base vl F (hF.tr0 (g00.t0 g)) (Nat.le_trans hbase (g00.t0 g).size) hfl nodeS v _ hs (by simp [nodeS, maxLen]) (by simp [maxLen]) (by simp [sumL]; omega)
    rw [show (List.map (fun x : Value × Bytes => x.2) [(u1, a), (u2, b)]) = [a, b] from rfl, ← hH.out] at k
    exact k
  generalize hq : w.heap.size = q at *
  replace hq := Lib.hid hq
  refine' region_soft 4 [cst (.pointer (some ⟨p, 0, none⟩)), cst (.slice (some ⟨q, 0, none⟩) 32 32), cst (.slice (some ⟨q + 1, 0, none⟩) 32 32), Row2 a b] rfl (by kernel_rfl) (by kernel_rfl) (stays_cons (Stays.cst _) (stays_cons (Stays.cst _) (stays_cons (Stays.cst _) (stays_cons (Row2.stays) stays_nil)))) _ (fun V => by simp only [putAll, Act.put, List.take_succ_cons, List.take_zero, List.setIfInBounds_toArray, List.set_cons_zero, List.set_cons_succ, Nat.reduceAdd]; exact rfl) ?hs1 ?ht1
  case hs1 =>
    simp only [List.take_succ_cons, List.take_zero, softs]
    refine ⟨?_, ?_, ?_, ?_, trivial⟩
    · intro V wx hw hd
      simp [phi, Region.binds, cst] at hd
      try simp only [hd]
      first
        | (refine soft_const rfl ?_; go_simp; done)
        | (refine soft_const rfl ?_; go_simp; exact rfl)
        | (exact soft_skip rfl)
    · intro V wx hw hd
      simp [phi, Region.binds, cst] at hd
      try simp only [hd]
      first
        | (refine soft_const rfl ?_; go_simp; done)
        | (refine soft_const rfl ?_; go_simp; exact rfl)
        | (exact soft_skip rfl)
    · intro V wx hw hd
      simp [phi, Region.binds, cst] at hd
      try simp only [hd]
      first
        | (refine soft_const rfl ?_; go_simp; done)
        | (refine soft_const rfl ?_; go_simp; exact rfl)
        | (exact soft_skip rfl)
    · intro V wx hw hd
      simp [phi, Region.binds, cst] at hd
      try simp only [hd]
      exact soft_made (w' := wx.alloc (.cells #[.slice (some ⟨q, 0, none⟩) 32 32, .slice (some ⟨q + 1, 0, none⟩) 32 32] 22)) (v := .slice (some ⟨wx.heap.size, 0, none⟩) 2 2) rfl (by go_simp) (Chg.alloc _ _ _) ⟨_, _, SlB.mk2 wx _ _ a b (by rw [ha]; exact x1.tr0 hw) (by rw [hb]; exact x2.tr0 hw) _⟩
  intro V w1 g1 hk
  have h1 := hk 0 (by decide)
  have h4 := hk 3 (by decide)
  simp [phi, cst] at h1 h4
  simp only [h1, List.drop_succ_cons, List.drop_zero]
  generalize V 3 = v at *
  have g01 := g00.t0 g1
  replace h0 := g1.heap h0 (by simp)
  have kH := kN w1 v g1 h4
  clear hk h1 h4 kN x1 x2 g00 g1
  go_wp2_with fail
  refine kH.mono ?_
  rintro e w4 ⟨rfl, v', F', hL, hF', g4, sn⟩
  have g04 := chg_new g01 g4
  have hne : q + 2 ∉ p :: vl.ownBlock.toList := by
    intro hm
    rcases List.mem_cons.1 hm with h | h
    · omega
    · have := hsb _ (by simpa using h); omega
  replace h0 := g4.heap h0 hne
  have sn0 := sn_new g01 sn
  clear kH g01 g4 sn
  go_wp2_with (refine store_bytes (by rfl) 32 _ _ (by rfl) (q + 2) 32 _ rfl H (by rfl) (List.replicate 32 0) h0 (by kernel_rfl) hHl (by simp) ?_; intro w5 h5 g5 s5)
  have hL5 : LogAt w5 p base v' F' := ⟨g5.heap hL.cell (by simp; omega), hL.rows.trT g5 h0 (by decide) (by decide)⟩
  have g05 := g04.tn g5 (by have := hq.out; omega)
  go_wp2
  exact ret_bytes 6 32 (by rfl) 32 5 Try.underlying32 (by kernel_rfl) (by rfl) _ rfl H _ h5 hHl ⟨rfl, v', F', hL5, hF', g05, sn0⟩
end Go.Proofs.Ytgepfmofignmfaa
