/-
  The reference's Compress.
-/
import Derived.Test.YtgepfmofignmfaaProg
import Derived.Test.YtgepfmofignmfaaSha5
namespace Go.Proofs.Ytgepfmofignmfaa
set_option linter.unusedSimpArgs false
set_option linter.unusedVariables false
open Go.RowKit

/-- 'alloc t', t an array of n words. -/
theorem alloc_words {P : Program} {ops : Array Oper} {rest : List Oper} {o : Oper} {a : Act} {w : World} {Q : Exit → Act → World → Prop} (hg : o.guard = none) (t : TypeId) (ho : o.op = .alloc t) (n : Nat)
    (hz : (P.info? t).map (·.zero) = some (some (.agg (Array.replicate n (.int .u32 0)))))
    (h : ∀ w', Wat w' w.heap.size (List.replicate n 0#32) → Chg [] w w' → w'.heap.size = w.heap.size + 1 → wpList P ops Q rest (a.put o.dst (.pointer (some ⟨w.heap.size, 0, none⟩))) w') : wpList P ops Q (o :: rest) a w := by
  refine wpList_alloc_z hg t ho _ hz (h _ ⟨t, ?_⟩ (Chg.alloc _ _ _) (World.size_alloc ..))
  rw [heap_alloc_new]
  have e : (wcs (List.replicate n 0#32)).toArray = Array.replicate n (Value.int .u32 0) := by
    apply Array.ext'
    simp [wcs, wv, iw]
  rw [← e]; rfl
/-- 'store t p v', a row of words over a row of as many. -/
theorem store_words {P : Program} {ops : Array Oper} {rest : List Oper} {o : Oper} {a : Act} {w : World} {Q : Exit → Act → World → Prop} (hg : o.guard = none) (t : TypeId) (x y : Operand) (ho : o.op = .store t x y) (p n : Nat)
    (hx : a.eval x = .pointer (some ⟨p, 0, none⟩)) (L : List W32) (hy : a.eval y = aw L) (Z : List W32) (hw : Wat w p Z) (hi : (P.info? t).map (·.size) = some n) (hL : L.length = n) (hZ : Z.length = n)
    (h : ∀ w', Wat w' p L → Chg [p] w w' → w'.heap.size = w.heap.size → wpList P ops Q rest (a.put o.dst undef) w') : wpList P ops Q (o :: rest) a w := by
  obtain ⟨e, hp⟩ := hw
  refine wpList_store_row hg t x y ho p (wcs L).toArray hx hy e _ hp (by rw [hi]; simp [wcs, hL]) (by simp [wcs, hL, hZ]) (wcs_all L) (h _ ⟨e, setRow_heap w p _ _ e _ hp⟩ ?_ (by simp))
  exact ⟨rfl, rfl, rfl, by simp, fun k _ hk => setRow_other w p k _ (fun e => hk (by simp [e]))⟩
/-- 'load t p' of a row of words. -/
theorem load_words {P : Program} {ops : Array Oper} {rest : List Oper} {o : Oper} {a : Act} {w : World} {Q : Exit → Act → World → Prop} (hg : o.guard = none) (t : TypeId) (x : Operand) (ho : o.op = .load t x) (p n : Nat) (e : TypeId)
    (hx : a.eval x = .pointer (some ⟨p, 0, none⟩)) (L : List W32) (hw : Wat w p L) (hu : P.underlying t = some (.array n e)) (hi : (P.info? t).map (·.size) = some n) (hL : L.length = n)
    (h : wpList P ops Q rest (a.put o.dst (aw L)) w) : wpList P ops Q (o :: rest) a w := by
  obtain ⟨e', hp⟩ := hw
  exact wpList_load_row hg t x ho p hx e' _ (0, 0) _ hp hu rfl (by rw [hi]; simp [wcs, hL]) h
/-- 'load t p' of a row of bytes. -/
theorem load_bytes {P : Program} {ops : Array Oper} {rest : List Oper} {o : Oper} {a : Act} {w : World} {Q : Exit → Act → World → Prop} (hg : o.guard = none) (t : TypeId) (x : Operand) (ho : o.op = .load t x) (p n : Nat) (e : TypeId)
    (hx : a.eval x = .pointer (some ⟨p, 0, none⟩)) (L : List UInt8) (hw : Bat w p L) (hu : P.underlying t = some (.array n e)) (hi : (P.info? t).map (·.size) = some n) (hL : L.length = n)
    (h : wpList P ops Q rest (a.put o.dst (.agg (bcs L).toArray)) w) : wpList P ops Q (o :: rest) a w := by
  obtain ⟨e', hp⟩ := hw
  exact wpList_load_row hg t x ho p hx e' _ (0, 0) _ hp hu rfl (by rw [hi]; simp [bcs, hL]) h
/-- The result lies in a row of words. -/
theorem ret_words {P : Program} {fn : Func} {R : Ending → World → Prop} {a : Act} {w : World} (s : Tmp) (ty : TypeId) (hf : fn.results = #[.cell s ty]) (n : Nat) (e : TypeId) (hu : P.underlying ty = some (.array n e)) (hi : (P.info? ty).map (·.size) = some n)
    (hd : a.defers = []) (p : Nat) (hp : a.tmps.getD s undef = .pointer (some ⟨p, 0, none⟩)) (L : List W32) (hw : Wat w p L) (hL : L.length = n) (hR : R (.returned (aw L)) w) : bodyPost P fn R .ret a w := by
  obtain ⟨t, hg⟩ := hw
  exact ret_array s ty hf n e hu hi hd p hp _ t hg (by simp [wcs, hL]) hR

theorem list8 (l : List W32) (h : l.length = 8) : l = [l.getD 0 0#32, l.getD 1 0#32, l.getD 2 0#32, l.getD 3 0#32, l.getD 4 0#32, l.getD 5 0#32, l.getD 6 0#32, l.getD 7 0#32] := by
  match l, h with
  | [a, b, c, d, e, f, g, i], _ => rfl

theorem iw_not (a : W32) : bits .xor .u32 (if IntKind.u32.signed = true then -1 else IntKind.u32.max) (iw a) = iw (~~~a) := by
  show bits .xor .u32 4294967295 (iw a) = _
  unfold bits
  simp only [IntKind.bits, ofInt_iw]
  rw [wrap_iw]
  rfl

set_option maxRecDepth 100000 in
theorem ref01_compress_ok (w : World) (h : List W32) (hh : h.length = 8) (b : List UInt8) (hb : b.length = 64) :
    Calls Try.prog 74 #[aw h, .agg (bcs b).toArray] w fun e w' => e = .returned (aw (comp h b)) ∧ Chg [] w w' := by
  have hH : Wat (w.alloc (.cells (wcs h).toArray 72)) w.heap.size h := ⟨_, heap_alloc_new _ _⟩
  have hB : Bat ((w.alloc (.cells (wcs h).toArray 72)).alloc (.cells (bcs b).toArray 75)) (w.heap.size + 1) b := ⟨_, by have := heap_alloc_new (w.alloc (.cells (wcs h).toArray 72)) (.cells (bcs b).toArray 75); rwa [World.size_alloc] at this⟩
  have hH2 := hH.tr (Chg.alloc [] _ (.cells (bcs b).toArray 75)) (by simp)
  have hG := (Chg.alloc [] w (.cells (wcs h).toArray 72)).t0 (Chg.alloc [] _ (.cells (bcs b).toArray 75))
  have hS : Hid (((w.alloc (.cells (wcs h).toArray 72)).alloc (.cells (bcs b).toArray 75)).heap.size = w.heap.size + 2) := by unfold Hid; simp
  clear hH
  unfold aw
  obtain ⟨K, hK, hx, hKl⟩ : ∃ K : List W32, Hid (K = kt) ∧ Hid (((kt.map iw).map (Value.int .u32)).toArray = (wcs K).toArray) ∧ Hid (K.length = 64) := ⟨kt, rfl, by unfold Hid; rw [List.map_map]; rfl, rfl⟩
  go_enter Try.func74, Try.ntmps74
  go_wp2_with (first
    | (refine wpList_buildFlatArr (by rfl) 95 71 64 _ (by rfl) .u32 (kt.map iw) Try.underlying95 (by kernel_rfl) (by kernel_rfl) (by rfl) ?_; rw [hx.out])
    | (refine alloc_words (by rfl) 72 (by rfl) 8 (by kernel_rfl) ?_; intro w3 h3 g3 s3; replace s3 : Hid _ := s3; have hB3 := hB.tr g3 (by simp); have hH3 := hH2.tr g3 (by simp); have hG3 := hG.t0 g3)
    | (refine alloc_words (by rfl) 95 (by rfl) 64 (by kernel_rfl) ?_; intro w4 h4 g4 s4; replace s4 : Hid _ := s4)
    | (refine store_words (by rfl) 95 (.tmp 5) (.tmp 18) (by rfl) _ 64 (by rfl) K (by rfl) _ h4 (by kernel_rfl) hKl (by rw [List.length_replicate]) ?_; intro w5 h5 g5 s5; replace s5 : Hid _ := s5)
    | (refine load_bytes (by rfl) 75 (.tmp 3) (by rfl) (w.heap.size + 1) 64 5 (by rfl) b ((hB3.tr g4 (by simp)).tr g5 (by have := s3.out; have := hS.out; simp; omega)) Try.underlying75 (by kernel_rfl) hb ?_))
  refine (words_ok w5 b hb).mono ?_
  rintro e w6 ⟨rfl, g6⟩
  have z3 := s3.out; have zS := hS.out; have z4 := s4.out; have z5 := s5.out; have z6 := g6.size
  have hH6 := ((hH3.tr g4 (by simp)).tr g5 (by simp; omega)).tr g6 (by simp)
  have h36 := ((h3.tr g4 (by simp)).tr g5 (by simp; omega)).tr g6 (by simp)
  have h56 := h5.tr g6 (by simp)
  have hG6 := ((hG3.t0 g4).tn g5 (by omega)).t0 g6
  have hne : w3.heap.size ≠ w.heap.size ∧ w3.heap.size ≠ w.heap.size + 2 := by omega
  rw [show ((w.alloc (.cells (wcs h).toArray 72)).alloc (.cells (bcs b).toArray 75)).heap.size = w.heap.size + 1 + 1 by simp] at h36
  clear hB hH2 hG hS h3 g3 s3 hB3 hH3 hG3 h4 g4 s4 h5 g5 s5 g6
  obtain ⟨p1, e1⟩ : ∃ p, w.heap.size = p := ⟨_, rfl⟩
  obtain ⟨p2, e2⟩ : ∃ p, w.heap.size + 1 = p := ⟨_, rfl⟩
  obtain ⟨p3, e3⟩ : ∃ p, w.heap.size + 1 + 1 = p := ⟨_, rfl⟩
  obtain ⟨p4, e4⟩ : ∃ p, w3.heap.size = p := ⟨_, rfl⟩
  obtain ⟨p6, e6⟩ : ∃ p, w6.heap.size = p := ⟨_, rfl⟩
  have n61 : p6 ≠ p1 := by omega
  have n63 : p6 ≠ p3 := by omega
  have n64 : p6 ≠ p4 := by omega
  have n34 : p3 ≠ p4 := by omega
  have m3 : Hid (w.heap.size ≤ p3) := by unfold Hid; omega
  have m6 : Hid (w.heap.size ≤ p6) := by unfold Hid; omega
  rw [e3, e2, e4, e1]
  rw [e1] at hH6; rw [e3] at h36; rw [e4] at h56
  clear e1 e2 e3 e4 z3 zS z4 z5 z6 hne
  obtain ⟨E, hE⟩ : ∃ E : List W32, Hid (E = ext b 64) := ⟨_, rfl⟩
  have hEl : Hid (E.length = 64) := by unfold Hid; rw [hE.out, ext_length]
  rw [← hE.out]
  go_wp2_with (first
    | (refine alloc_words (by rfl) 95 (by rfl) 64 (by kernel_rfl) ?_; intro w7 h7 g7 s7; rw [e6] at *; replace s7 : Hid _ := s7)
    | (refine store_words (by rfl) 95 (.tmp 6) (.tmp 20) (by rfl) _ 64 (by rfl) E (by rfl) _ h7 (by kernel_rfl) hEl (by rw [List.length_replicate]) ?_; intro w8 h8 g8 s8; replace s8 : Hid _ := s8))
  have hH8 := (hH6.tr g7 (by simp)).tr g8 (by simp [Ne.symm n61])
  have h38 := (h36.tr g7 (by simp)).tr g8 (by simp [Ne.symm n63])
  have h58 := (h56.tr g7 (by simp)).tr g8 (by simp [Ne.symm n64])
  have hG8 := (hG6.t0 g7).tn g8 m6.out
  clear hH6 h36 h56 hG6 h7 g7 s7 g8 s8 e6
  have c0 := hH8.cell 0 (by omega)
  have c1 := hH8.cell 1 (by omega)
  have c2 := hH8.cell 2 (by omega)
  have c3 := hH8.cell 3 (by omega)
  have c4 := hH8.cell 4 (by omega)
  have c5 := hH8.cell 5 (by omega)
  have c6 := hH8.cell 6 (by omega)
  have c7 := hH8.cell 7 (by omega)
  have hl8 : Hid (h = _) := list8 h hh
  generalize h.getD 0 0#32 = x0 at c0 hl8
  generalize h.getD 1 0#32 = x1 at c1 hl8
  generalize h.getD 2 0#32 = x2 at c2 hl8
  generalize h.getD 3 0#32 = x3 at c3 hl8
  generalize h.getD 4 0#32 = x4 at c4 hl8
  generalize h.getD 5 0#32 = x5 at c5 hl8
  generalize h.getD 6 0#32 = x6 at c6 hl8
  generalize h.getD 7 0#32 = x7 at c7 hl8
  go_quiet (fail)
  generalize nq = nq'1 at *
  go_wp2_with fail
  go_quiet (fail)
  go_wp2_with fail
  clear c0 c1 c2 c3 c4 c5 c6 c7
  have hW := (Chg.drewN [] w8 nq'1).t0 (Chg.drewN [] _ nq)
  have hH9 := hH8.tr hW (by simp)
  have h39 := h38.tr hW (by simp)
  have h59 := h58.tr hW (by simp)
  have h69 := h8.tr hW (by simp)
  have hG9 := hG8.t0 hW
  generalize (w8.drewN nq'1).drewN nq = W at *
  clear hW hH8 h38 h58 h8 hG8
  go_loopw [7, 8, 9, 10, 11, 12, 13, 14, 15] (fun va vb vc vd ve vf vg vi vt wr => ∃ (t : Nat) (a b' c d e f g i : W32), t ≤ 64 ∧ va = .int .u32 (iw a) ∧ vb = .int .u32 (iw b') ∧ vc = .int .u32 (iw c) ∧ vd = .int .u32 (iw d) ∧ ve = .int .u32 (iw e) ∧ vf = .int .u32 (iw f) ∧ vg = .int .u32 (iw g) ∧ vi = .int .u32 (iw i) ∧ vt = .int .i64 t ∧
    rounds h b t = [a, b', c, d, e, f, g, i] ∧ Wat wr p1 h ∧ Wat wr p3 (List.replicate 8 0#32) ∧ Wat wr p4 K ∧ Wat wr p6 E ∧ Chg [] w wr) (fun _ _ _ _ _ _ _ _ vt _ => 64 - (intOf vt).toNat)
  case atStart => exact ⟨0, x0, x1, x2, x3, x4, x5, x6, x7, by omega, rfl, rfl, rfl, rfl, rfl, rfl, rfl, rfl, rfl, hl8.out, hH9, h39, h59, h69, hG9⟩
  case round =>
    clear hH9 h39 h59 h69 hG9 hl8
    obtain ⟨t, a, b', c, d, e, f, g, i, ht, rfl, rfl, rfl, rfl, rfl, rfl, rfl, rfl, rfl, hr, hH, h3, h4, h6, hG⟩ := hrel
    have hR : Hid _ := hr
    clear hr
    by_cases hlt : t < 64
    · have ck := h4.cell t (by rw [hKl.out]; exact hlt)
      have cw := h6.cell t (by rw [hEl.out]; exact hlt)
      have hk : Hid (K.getD t 0#32 = kAt t) := by unfold Hid kAt; rw [hK.out]
      have hw : Hid (E.getD t 0#32 = wAt b t) := by unfold Hid; rw [hE.out, ext_get b 64 t hlt hlt]
      generalize K.getD t 0#32 = xk at *
      generalize E.getD t 0#32 = xw at *
      have q5 : (t : Int) < 64 := by omega
      have e1 := iw_xor (rr e 6) (rr e 11)
      have e2 : bits .xor .u32 (iw (rr e 6 ^^^ rr e 11)) (iw (rr e 25)) = iw (turned3 e 6 11 25) := iw_xor _ _
      have e3 := iw_and e f
      have e4 := iw_not e
      have e5 := iw_and (~~~e) g
      have e6 := iw_xor (e &&& f) (~~~e &&& g)
      have a1 := iw_addw i (turned3 e 6 11 25)
      have a2 := iw_addw (i + turned3 e 6 11 25) ((e &&& f) ^^^ (~~~e &&& g))
      have a3 := iw_addw (i + turned3 e 6 11 25 + ((e &&& f) ^^^ (~~~e &&& g))) xk
      have a4 := iw_addw (i + turned3 e 6 11 25 + ((e &&& f) ^^^ (~~~e &&& g)) + xk) xw
      go_wp2_with fail
      go_quiet ((go_at_call 76; exact Calls.quiet_of_same (right_q _ _ _ (by omega) (by omega))))
      have b1 := iw_xor (rr a 2) (rr a 13)
      have b2 : bits .xor .u32 (iw (rr a 2 ^^^ rr a 13)) (iw (rr a 22)) = iw (turned3 a 2 13 22) := iw_xor _ _
      have b3 := iw_and a b'
      have b4 := iw_and a c
      have b5 := iw_and b' c
      have b6 := iw_xor (a &&& b') (a &&& c)
      have b7 := iw_xor ((a &&& b') ^^^ (a &&& c)) (b' &&& c)
      have b8 := iw_add (turned3 a 2 13 22) ((a &&& b') ^^^ (a &&& c) ^^^ (b' &&& c))
      generalize hp : i + turned3 e 6 11 25 + ((e &&& f) ^^^ (~~~e &&& g)) + xk + xw = P at *
      generalize hq : turned3 a 2 13 22 + ((a &&& b') ^^^ (a &&& c) ^^^ (b' &&& c)) = Q at *
      have b9 := iw_add d P
      have b10 := iw_add P Q
      have hp' : Hid _ := hp
      have hq' : Hid _ := hq
      clear hp hq
      go_wp2_with (go_at_call 76; refine (right_q _ _ _ (by omega) (by omega)).mono ?_; rintro e w' ⟨rfl, rfl⟩)
      go_roundw
      case rel =>
        refine ⟨t + 1, P + Q, a, b', c, d + P, e, f, g, by omega, rfl, rfl, rfl, rfl, rfl, rfl, rfl, rfl, by go_num, ?_, hH.drewN _, h3.drewN _, h4.drewN _, h6.drewN _, hG.t0 (Chg.drewN [] _ _)⟩
        show rnd (rounds h b t) (kAt t, wAt b t) = _
        rw [hR.out, ← hk.out, ← hw.out, ← hp'.out, ← hq'.out]
        rfl
      case measure => simp [intOf]; omega
    · have h64 : t = 64 := by omega
      rw [h64] at hR
      clear h64
      have c0 := hH.cell 0 (by omega)
      have c1 := hH.cell 1 (by omega)
      have c2 := hH.cell 2 (by omega)
      have c3 := hH.cell 3 (by omega)
      have c4 := hH.cell 4 (by omega)
      have c5 := hH.cell 5 (by omega)
      have c6 := hH.cell 6 (by omega)
      have c7 := hH.cell 7 (by omega)
      have hl8 : Hid (h = _) := list8 h hh
      generalize h.getD 0 0#32 = x0 at c0 hl8
      generalize h.getD 1 0#32 = x1 at c1 hl8
      generalize h.getD 2 0#32 = x2 at c2 hl8
      generalize h.getD 3 0#32 = x3 at c3 hl8
      generalize h.getD 4 0#32 = x4 at c4 hl8
      generalize h.getD 5 0#32 = x5 at c5 hl8
      generalize h.getD 6 0#32 = x6 at c6 hl8
      generalize h.getD 7 0#32 = x7 at c7 hl8
      have a0 := iw_add x0 a
      have a1 := iw_add x1 b'
      have a2 := iw_add x2 c
      have a3 := iw_add x3 d
      have a4 := iw_add x4 e
      have a5 := iw_add x5 f
      have a6 := iw_add x6 g
      have a7 := iw_add x7 i
      go_wp2_with (first
        | (refine store_words (by rfl) 72 (.tmp 4) (.tmp 132) (by rfl) p3 8 (by rfl) [x0 + a, x1 + b', x2 + c, x3 + d, x4 + e, x5 + f, x6 + g, x7 + i] (by rfl) _ h3 (by kernel_rfl) (by rfl) (by rw [List.length_replicate]) ?_; intro w9 h9 g9 s9; replace s9 : Hid _ := s9))
      refine ret_words 4 72 (by rfl) 8 71 Try.underlying72 (by kernel_rfl) rfl p3 (by rfl) _ h9 rfl ⟨?_, hG.tn g9 m3.out⟩
      unfold comp
      rw [hR.out, hl8.out]
      simp [List.zipWith, BitVec.add_comm, aw]
end Go.Proofs.Ytgepfmofignmfaa
