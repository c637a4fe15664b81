/-
  Package sha: Compress.
-/
import Derived.Test.YtgepfmofignmfaaProg
import Derived.Test.YtgepfmofignmfaaSha6
import Derived.Deep.RegionHeld3
namespace Go.Proofs.Ytgepfmofignmfaa
set_option linter.unusedSimpArgs false
set_option linter.unusedVariables false
open Go.RowKit

theorem ringAt_zero (b : List UInt8) : ringAt b 0 = part b 16 0 16 := rfl

theorem Wat.lt {w : World} {p : Nat} {l : List W32} (h : Wat w p l) : p < w.heap.size := by
  obtain ⟨t, h⟩ := h
  exact lt_of_heap h
theorem turned_q (w : World) (n : Nat) (x : W32) (a b c : Int) (ha : 0 < a) (ha' : a < 32) (hb : 0 < b) (hb' : b < 32) (hc : 0 < c) (hc' : c < 32) :
    Calls Try.prog 64 #[.int .u32 (iw x), .int .i64 a, .int .i64 b, .int .i64 c] (w.drewN n) fun e w'' => e = .returned (.int .u32 (iw (turned3 x a.toNat b.toNat c.toNat))) ∧ ∃ m, w'' = w.drewN m := by
  obtain ⟨a, rfl⟩ : ∃ k : Nat, a = k := ⟨a.toNat, by omega⟩
  obtain ⟨b, rfl⟩ : ∃ k : Nat, b = k := ⟨b.toNat, by omega⟩
  obtain ⟨c, rfl⟩ : ∃ k : Nat, c = k := ⟨c.toNat, by omega⟩
  exact Calls.quiet_of_same ((turned_ok (w.drewN n) x a b c (by omega) (by omega) (by omega) (by omega) (by omega) (by omega)).mono fun _ _ h => ⟨h.1, h.2.symm⟩)
theorem turned6 (w : World) (x : W32) :
    Calls Try.prog 64 #[.int .u32 (iw x), .int .i64 6, .int .i64 11, .int .i64 25] w fun e w'' => e = .returned (.int .u32 (iw (turned3 x 6 11 25))) ∧ w = w'' :=
  turned_ok w x 6 11 25 (by omega) (by omega) (by omega) (by omega) (by omega) (by omega)
/-- The cells of a row are moved up by one: the first stays, the last is lost. -/
theorem copy_down {P : Program} {ops : Array Oper} {rest : List Oper} {o : Oper} {a : Act} {w : World} {Q : Exit → Act → World → Prop} (hg : o.guard = none) (d s : Operand) (t e : TypeId)
    (ho : o.op = .call { callee := .builtin .copy, args := #[d, s], argTypes := #[t, t] }) (hu : P.underlying t = some (.slice e)) (hsz : (P.info? e).map (·.size) = some 1) (p : Nat) (c1 c2 : Nat)
    (hd : a.eval d = .slice (some ⟨p, 1, none⟩) 7 c1) (hs : a.eval s = .slice (some ⟨p, 0, none⟩) 7 c2) (x0 x1 x2 x3 x4 x5 x6 x7 : W32) (hw : Wat w p [x0, x1, x2, x3, x4, x5, x6, x7])
    (h : ∀ w', Wat w' p [x0, x0, x1, x2, x3, x4, x5, x6] → Chg [p] w w' → w'.heap.size = w.heap.size → wpList P ops Q rest (a.put o.dst (goInt 7)) w') : wpList P ops Q (o :: rest) a w := by
  obtain ⟨e', hp⟩ := hw
  refine wpList_copy_own hg d s t t ho e hu hsz p 1 7 c1 ⟨p, 0, none⟩ 7 c2 hd hs _ e' hp (wcs [x0, x1, x2, x3, x4, x5, x6]) rfl (fun j v hj => ?_) (by simp [wcs]) (by intro v hv; obtain ⟨x, _, rfl⟩ := List.mem_map.1 hv; rfl) (h _ ⟨e', ?_⟩ ?_ (by simp))
  · rw [Addr.add_lit, cell_of_row w p _ _ _ _ hp]
    simp only [Nat.zero_add, List.getElem?_toArray]
    rw [← hj]
    have hj7 : j < 7 := by
      have := (List.getElem?_eq_some_iff.1 hj).1
      simpa [wcs] using this
    match j, hj7 with
    | 0, _ => rfl
    | 1, _ => rfl
    | 2, _ => rfl
    | 3, _ => rfl
    | 4, _ => rfl
    | 5, _ => rfl
    | 6, _ => rfl
  · rw [setRow_heap w p _ _ e' _ hp]; rfl
  · exact ⟨rfl, rfl, rfl, by simp, fun k _ hk => setRow_other w p k _ (fun e => hk (by simp [e]))⟩

/-- k of the sums are made. -/
def addsTo (s h : List W32) (k : Nat) : List W32 := (List.range 8).map fun j => if j < k then s.getD j 0#32 + h.getD j 0#32 else s.getD j 0#32
theorem addsTo_length (s h : List W32) (k : Nat) : (addsTo s h k).length = 8 := by simp [addsTo]
theorem addsTo_zero (s h : List W32) (hs : s.length = 8) : addsTo s h 0 = s := by
  apply List.ext_getElem (by simp [addsTo, hs])
  intro j h1 h2
  simp [addsTo, List.getD, h2]
theorem addsTo_get (s h : List W32) (k : Nat) (hk : k < 8) : (addsTo s h k).getD k 0#32 = s.getD k 0#32 := by simp [addsTo, List.getD, hk]
theorem addsTo_set (s h : List W32) (k : Nat) : (addsTo s h k).set k (s.getD k 0#32 + h.getD k 0#32) = addsTo s h (k + 1) := by
  apply List.ext_getElem (by simp [addsTo])
  intro j h1 h2
  simp only [addsTo, List.getElem_set, List.getElem_map, List.getElem_range]
  by_cases hj : k = j
  · subst hj; simp
  · by_cases h3 : j < k
    · simp [hj, h3, Nat.lt_succ_of_lt h3]
    · have : ¬ j < k + 1 := by omega
      simp [hj, h3, this]
theorem addsTo_all (s h : List W32) (hs : s.length = 8) (hh : h.length = 8) : addsTo s h 8 = List.zipWith (· + ·) s h := by
  apply List.ext_getElem (by simp [addsTo, hs, hh])
  intro j h1 h2
  have hj : j < 8 := by simpa [addsTo] using h1
  simp [addsTo, List.getD, hs, hh, hj]

set_option maxRecDepth 100000 in
theorem compress_ok (w : World) (h : List W32) (hh : h.length = 8) (b : List UInt8) (hb : b.length = 64) :
    Calls Try.prog 44 #[aw h, .agg (bcs b).toArray] w fun e w' => e = .returned (aw (comp h b)) ∧ Chg [] w w' := by
  have hH : Wat (w.alloc (.cells (wcs h).toArray 72)) w.heap.size h := ⟨_, heap_alloc_new _ _⟩
  have hB : Bat ((w.alloc (.cells (wcs h).toArray 72)).alloc (.cells (bcs b).toArray 75)) (w.heap.size + 1) b := ⟨_, by have := heap_alloc_new (w.alloc (.cells (wcs h).toArray 72)) (.cells (bcs b).toArray 75); rwa [World.size_alloc] at this⟩
  have hH2 := hH.tr (Chg.alloc [] _ (.cells (bcs b).toArray 75)) (by simp)
  have hG := (Chg.alloc [] w (.cells (wcs h).toArray 72)).t0 (Chg.alloc [] _ (.cells (bcs b).toArray 75))
  have hS : Hid (((w.alloc (.cells (wcs h).toArray 72)).alloc (.cells (bcs b).toArray 75)).heap.size = w.heap.size + 2) := by unfold Hid; simp
  clear hH
  unfold aw
  go_enter Try.func44, Try.ntmps44
  go_wp2_with (first
    | (refine alloc_words (by rfl) 72 (by rfl) 8 (by kernel_rfl) ?_; intro w3 h3 g3 s3; replace s3 : Hid _ := s3; have hB3 := hB.tr g3 (by simp); have hH3 := hH2.tr g3 (by simp); have hG3 := hG.t0 g3)
    | (refine alloc_words (by rfl) 90 (by rfl) 16 (by kernel_rfl) ?_; intro w4 h4 g4 s4; replace s4 : Hid _ := s4))
  have z3 := s3.out; have zS := hS.out; have z4 := s4.out
  have hH6 := hH3.tr g4 (by simp)
  have hB6 := hB3.tr g4 (by simp)
  have h36 := h3.tr g4 (by simp)
  have hG6 := hG3.t0 g4
  rw [show ((w.alloc (.cells (wcs h).toArray 72)).alloc (.cells (bcs b).toArray 75)).heap.size = w.heap.size + 1 + 1 by simp] at h36
  clear hB hH2 hG hS h3 g3 s3 hB3 hH3 hG3 g4 s4
  obtain ⟨p1, e1⟩ : ∃ p, w.heap.size = p := ⟨_, rfl⟩
  obtain ⟨p2, e2⟩ : ∃ p, w.heap.size + 1 = p := ⟨_, rfl⟩
  obtain ⟨p3, e3⟩ : ∃ p, w.heap.size + 1 + 1 = p := ⟨_, rfl⟩
  obtain ⟨p4, e4⟩ : ∃ p, w3.heap.size = p := ⟨_, rfl⟩
  have n41 : p4 ≠ p1 := by omega
  have n42 : p4 ≠ p2 := by omega
  have n43 : p4 ≠ p3 := by omega
  have m1 : p1 < w4.heap.size := by omega
  have m2 : p2 < w4.heap.size := by omega
  have m3' : p3 < w4.heap.size := by omega
  have m4' : p4 < w4.heap.size := by omega
  have m3 : Hid (w.heap.size ≤ p3) := by unfold Hid; omega
  have m4 : Hid (w.heap.size ≤ p4) := by unfold Hid; omega
  have M : Hid (p1 < w4.heap.size ∧ p2 < w4.heap.size ∧ p3 < w4.heap.size ∧ p4 < w4.heap.size) := ⟨m1, m2, m3', m4'⟩
  rw [e3, e2, e4, e1]
  rw [e1] at hH6; rw [e2] at hB6; rw [e3] at h36; rw [e4] at h4
  clear e1 e2 e3 e4 z3 zS z4 m1 m2 m3' m4'
  rw [← part_zero b] at h4
  go_loopw [14] (fun iv wr => ∃ k : Nat, k ≤ 16 ∧ iv = .int .i64 k ∧ Wat wr p4 (part b k 0 16) ∧ Wat wr p1 h ∧ Wat wr p3 (List.replicate 8 0#32) ∧ Bat wr p2 b ∧ Chg [] w wr) (fun iv _ => 16 - (intOf iv).toNat)
  case atStart => exact ⟨0, Nat.zero_le _, rfl, h4, hH6, h36, hB6, hG6⟩
  case round =>
    clear h4 hH6 h36 hB6 hG6
    obtain ⟨k, hk, rfl, h4, h1, h3, h2, hG⟩ := hrel
    by_cases hlt : k < 16
    · obtain ⟨j, j2, f1, f2, f3, f4, f5⟩ : ∃ j j2 : Nat, (4 : Int) * k = j ∧ (4 : Int) * (k + 1) = j2 ∧ j ≤ j2 ∧ j2 ≤ 64 ∧ Hid (j2 = j + 4 ∧ j = 4 * k) := ⟨4 * k, 4 * k + 4, by omega, by omega, by omega, by omega, rfl, rfl⟩
      have f6 : (j2 : Int) ≤ 64 := by omega
      go_wp2_with fail
      obtain ⟨wo, rfl⟩ : ∃ wo : World, wo = wr := ⟨_, rfl⟩
      generalize decide ((k : Int) < 16) = vb
      obtain ⟨g1, g2⟩ := f5.out
      have g3 : Hid (j2 - j = 4) := by unfold Hid; omega
      generalize j2 - j = n4 at *
      clear g1 f5 f1 f2
      go_loopw [24] (fun iv wr => ∃ i : Nat, i ≤ n4 ∧ iv = .int .i64 i ∧ Wat wr p4 (part b k i 16) ∧ Wat wr p1 h ∧ Wat wr p3 (List.replicate 8 0#32) ∧ Bat wr p2 b ∧ Chg [] w wr) (fun iv _ => n4 - (intOf iv).toNat)
      case atStart => exact ⟨0, Nat.zero_le _, rfl, h4, h1, h3, h2, hG⟩
      case round =>
        clear h4 h1 h3 h2 hG
        obtain ⟨i, hi, rfl, h4, h1, h3, h2, hG⟩ := hrel
        have hi4 : i ≤ 4 := by have := g3.out; omega
        by_cases hit : i < n4
        · have c3 := h4.cell k (by rw [part_length]; omega)
          rw [part_at b k i 16 (by omega)] at c3
          have f3 := h4.frozen k
          have hset := h4.set k (256#32 * pw b k i + bw8 (b.getD (4 * k + i) 0))
          rw [part_set, ← g2] at hset
          have c1 := h2.cell (j + i) (by have := g3.out; omega)
          generalize b.getD (j + i) 0 = c at *
          generalize pw b k i = x at *
          have qk : (k : Int) < 16 := by omega
          have b1 : iw x * (256 : Int) % 4294967296 = iw (x <<< 8) := iw_shl x 8
          have b2 : bits .or .u32 (iw (x <<< 8)) (iw (bw8 c)) = iw (256#32 * x + bw8 c) := by rw [iw_or, pw_or]
          have b4 : IntKind.u32.wrap (iw x * (256 : Int)) = iw (x <<< 8) := b1
          have b3 : iw (bw8 c) % 4294967296 = iw (bw8 c) := by have := iw_lt (bw8 c); omega
          clear g2
          go_wp2_with fail
          go_roundw
          case rel => exact ⟨i + 1, by omega, by go_num, hset, h1.tr (Chg.setCell _ ⟨p4, k, none⟩ _) (by simp [Ne.symm n41]), h3.tr (Chg.setCell _ ⟨p4, k, none⟩ _) (by simp [Ne.symm n43]), h2.tr (Chg.setCell _ ⟨p4, k, none⟩ _) (by simp [Ne.symm n42]), hG.tn (Chg.setCell _ ⟨p4, k, none⟩ _) m4.out⟩
          case measure => simp [intOf]; omega
        · have e4 : i = 4 := by have := g3.out; omega
          rw [e4, part_next] at h4
          clear e4
          go_wp2_with fail
          go_roundw
          case rel => exact ⟨k + 1, by omega, by go_num, h4, h1, h3, h2, hG⟩
          case measure => simp [intOf]; omega
    · have hk16 : k = 16 := by omega
      rw [hk16, ← ringAt_zero] at h4
      clear hk16
      go_wp2_with (first
        | (refine load_words (by rfl) 72 (.tmp 2) (by rfl) p1 8 71 (by rfl) h h1 Try.underlying72 (by kernel_rfl) hh ?_)
        | (refine alloc_words (by rfl) 72 (by rfl) 8 (by kernel_rfl) ?_; intro w7 h7 g7 s7; replace s7 : Hid _ := s7)
        | (refine store_words (by rfl) 72 (.tmp 9) (.tmp 39) (by rfl) _ 8 (by rfl) h (by rfl) _ h7 (by kernel_rfl) hh (by rw [List.length_replicate]) ?_; intro w8 h8 g8 s8; replace s8 : Hid _ := s8))
      generalize decide ((k : Int) < 16) = vb
      obtain ⟨p9, e9⟩ : ∃ p, wr.heap.size = p := ⟨_, rfl⟩
      have n91 : p9 ≠ p1 := by have := h1.lt; omega
      have n93 : p9 ≠ p3 := by have := h3.lt; omega
      have n94 : p9 ≠ p4 := by have := h4.lt; omega
      have m9 : Hid (w.heap.size ≤ p9) := by unfold Hid; have := hG.size; omega
      rw [e9] at h7 h8 g8
      rw [e9]
      have h4' := (h4.tr g7 (by simp)).tr g8 (by simp [Ne.symm n94])
      have h1' := (h1.tr g7 (by simp)).tr g8 (by simp [Ne.symm n91])
      have h3' := (h3.tr g7 (by simp)).tr g8 (by simp [Ne.symm n93])
      have hG' := (hG.t0 g7).tn g8 m9.out
      clear h4 h1 h3 h2 hG g7 g8 s7 s8 h7 e9
      have hr0 : Hid (h = _) := list8 h hh
      go_loopw [40] (fun iv wr => ∃ (t : Nat) (a b' c d e f g i : W32), t ≤ 64 ∧ iv = .int .i64 t ∧ rounds h b t = [a, b', c, d, e, f, g, i] ∧ Wat wr p9 [a, b', c, d, e, f, g, i] ∧ Wat wr p4 (ringAt b t) ∧ Wat wr p1 h ∧ Wat wr p3 (List.replicate 8 0#32) ∧ Chg [] w wr) (fun iv _ => 64 - (intOf iv).toNat)
      case atStart => exact ⟨0, _, _, _, _, _, _, _, _, by omega, rfl, hr0.out, by rw [hr0.out] at h8; exact h8, h4', h1', h3', hG'⟩
      case round =>
        clear h8 h4' h1' h3' hG' hr0
        obtain ⟨t, a, b', c, d, e, f, g, i, ht, rfl, hr, h9, h4, h1, h3, hG⟩ := hrel
        have hR : Hid _ := hr
        clear hr
        by_cases hlt : t < 64
        · have q5 : (t : Int) < 64 := by omega
          have c4 : wr.cell? ⟨p9, 4, none⟩ = some (.int .u32 (iw e)) := h9.cell 4 (by simp)
          have c5 : wr.cell? ⟨p9, 5, none⟩ = some (.int .u32 (iw f)) := h9.cell 5 (by simp)
          have c6 : wr.cell? ⟨p9, 6, none⟩ = some (.int .u32 (iw g)) := h9.cell 6 (by simp)
          have c7 : wr.cell? ⟨p9, 7, none⟩ = some (.int .u32 (iw i)) := h9.cell 7 (by simp)
          have e1 := iw_xor f g
          have e2 := iw_and e (f ^^^ g)
          have e3 : bits .xor .u32 (iw g) (iw (e &&& (f ^^^ g))) = iw ((e &&& f) ^^^ (~~~e &&& g)) := by rw [iw_xor, ch_eq]
          have a1 := iw_addw i (turned3 e 6 11 25)
          have a2 := iw_addw (i + turned3 e 6 11 25) ((e &&& f) ^^^ (~~~e &&& g))
          have a3 := iw_addw (i + turned3 e 6 11 25 + ((e &&& f) ^^^ (~~~e &&& g))) (kAt t)
          have hnW : Hid (nextW (ringAt b t) t = wAt b t) := nextW_ring b t
          have a4 := iw_addw (i + turned3 e 6 11 25 + ((e &&& f) ^^^ (~~~e &&& g)) + kAt t) (nextW (ringAt b t) t)
          generalize hP : i + turned3 e 6 11 25 + ((e &&& f) ^^^ (~~~e &&& g)) + kAt t + nextW (ringAt b t) t = P at *
          have hP' : Hid _ := hP
          clear hP
          go_wp2_with fail
          go_region_held3 (fun w' => w'.cell? ⟨p9, 4, none⟩ = some (.int .u32 (iw e)) ∧ w'.cell? ⟨p9, 5, none⟩ = some (.int .u32 (iw f)) ∧ w'.cell? ⟨p9, 6, none⟩ = some (.int .u32 (iw g)) ∧ w'.cell? ⟨p9, 7, none⟩ = some (.int .u32 (iw i)))
            (first
              | go_keep
              | (go_split_ands; exact ⟨gk.cellv (by assumption) (by simp), gk.cellv (by assumption) (by simp), gk.cellv (by assumption) (by simp), gk.cellv (by assumption) (by simp)⟩)
              | (go_split_ands; exact ⟨gn.cellv (by assumption) (by simp [n94]), gn.cellv (by assumption) (by simp [n94]), gn.cellv (by assumption) (by simp [n94]), gn.cellv (by assumption) (by simp [n94])⟩))
            (first
              | (go_at_call 64; refine (turned6 _ _).mono ?_; rintro e' w1 ⟨rfl, rfl⟩)
              | (go_at_call 65; refine (constant_ok _ t hlt).mono ?_; rintro e' wk ⟨rfl, gk⟩)
              | (go_at_call 66; refine (next_ok _ p4 (ringAt b t) (h4.drew.tr gk (by simp)) (ringAt_length b t) t hlt).mono ?_; rintro e' wn ⟨rfl, hn, gn⟩))
          have hG5 := (hG.t0 (Chg.drew [] wr)).t0 gk
          have hG6 := hG5.tn gn m4.out
          have h96 := (h9.drew.tr gk (by simp)).tr gn (by simp [n94])
          have h16 := (h1.drew.tr gk (by simp)).tr gn (by simp [Ne.symm n41])
          have h36 := (h3.drew.tr gk (by simp)).tr gn (by simp [Ne.symm n43])
          clear h9 h4 h1 h3 hG gk gn hG5 c4 c5 c6 c7 e1 e2 e3 a1 a2 a3 a4
          have hnR : Wat wn p4 (ringAt b (t + 1)) := hn
          clear hn
          have c0 : wn.cell? ⟨p9, 0, none⟩ = some (.int .u32 (iw a)) := h96.cell 0 (by simp)
          have c1 : wn.cell? ⟨p9, 1, none⟩ = some (.int .u32 (iw b')) := h96.cell 1 (by simp)
          have c2 : wn.cell? ⟨p9, 2, none⟩ = some (.int .u32 (iw c)) := h96.cell 2 (by simp)
          have b1 := iw_and a b'
          have b2 := iw_or a b'
          have b3 := iw_and c (a ||| b')
          have b4 : bits .or .u32 (iw (a &&& b')) (iw (c &&& (a ||| b'))) = iw ((a &&& b') ^^^ (a &&& c) ^^^ (b' &&& c)) := by rw [iw_or, maj_eq]
          have b5 := iw_addw (turned3 a 2 13 22) ((a &&& b') ^^^ (a &&& c) ^^^ (b' &&& c))
          generalize hQ : turned3 a 2 13 22 + ((a &&& b') ^^^ (a &&& c) ^^^ (b' &&& c)) = Qq at *
          have hQ' : Hid _ := hQ
          clear hQ
          go_wp2_with fail
          go_quiet ((go_at_call 64; exact turned_q _ _ _ _ _ _ (by omega) (by omega) (by omega) (by omega) (by omega) (by omega)))
          have h97 := h96.drewN nq
          have hw7 := Chg.drewN [] wn nq
          have h17 := h16.tr hw7 (by simp)
          have h37 := h36.tr hw7 (by simp)
          have h47 := hnR.tr hw7 (by simp)
          have hG7 := hG6.t0 hw7
          generalize wn.drewN nq = w7 at *
          clear h96 h16 h36 hnR hG6 hw7 b1 b2 b3 b4 b5 c0 c1 c2
          go_wp2_with fail
          refine region_quiet_tail 2 (by kernel_rfl) (by kernel_rfl) ?_
          simp only [List.take_succ_cons, List.take_zero, List.drop_succ_cons, List.drop_zero]
          repeat (quiet_step (fail))
          refine wpQuiet_nil ?_
          intro m
          have a1 := iw_add d P
          have a2 := iw_add P Qq
          have a3 := iw_addw d P
          have a4 := iw_addw P Qq
          go_wp2_with (refine copy_down (by rfl) (.tmp 85) (.tmp 86) 93 71 (by rfl) Try.underlying93 (by kernel_rfl) p9 _ _ (by rfl) (by rfl) a b' c d e f g i (h97.drewN m) ?_; intro w10 h10 g10 s10; replace s10 : Hid _ := s10; have c4 : w10.cell? ⟨p9, 4, none⟩ = some (.int .u32 (iw d)) := h10.cell 4 (by simp); have f4 := h10.frozen 4; have h11 := h10.set 4 (d + P); have c0 : (w10.setCell ⟨p9, 4, none⟩ (.int .u32 (iw (d + P)))).cell? ⟨p9, 0, none⟩ = some (.int .u32 (iw a)) := h11.cell 0 (by simp); have f0 := h11.frozen 0; have h12 := h11.set 0 (P + Qq))
          go_roundw
          case rel =>
            have g11 := (Chg.setCell w10 ⟨p9, 4, none⟩ (.int .u32 (iw (d + P)))).t1 (Chg.setCellS _ ⟨p9, 0, none⟩ (.int .u32 (iw (P + Qq))) (by simp))
            have g12 := (Chg.drewN [p9] w7 m).t1 (g10.t1 g11)
            refine ⟨t + 1, P + Qq, a, b', c, d + P, e, f, g, by omega, by go_num, ?_, h12, h47.tr g12 (by simp [Ne.symm n94]), h17.tr g12 (by simp [Ne.symm n91]), h37.tr g12 (by simp [Ne.symm n93]), hG7.tn g12 m9.out⟩
            show rnd (rounds h b t) (kAt t, wAt b t) = _
            rw [hR.out, ← hnW.out, ← hP'.out, ← hQ'.out]
            rfl
          case measure => simp [intOf]; omega
        · have h64 : t = 64 := by omega
          rw [h64] at hR
          clear h64
          have hs8 : (rounds h b 64).length = 8 := rounds_length h b hh 64
          have hcomp : Hid (comp h b = List.zipWith (· + ·) (rounds h b 64) h) := rfl
          rw [← hR.out] at h9
          clear hR
          generalize rounds h b 64 = s at *
          rw [← addsTo_zero s h hs8] at h9
          go_wp2_with fail
          generalize decide ((t : Int) < 64) = vb2
          obtain ⟨wo, rfl⟩ : ∃ wo : World, wo = wr := ⟨_, rfl⟩
          go_loopw [98] (fun iv wr => ∃ j : Nat, j ≤ 8 ∧ iv = .int .i64 j ∧ Wat wr p9 (addsTo s h j) ∧ Wat wr p1 h ∧ Wat wr p3 (List.replicate 8 0#32) ∧ Chg [] w wr) (fun iv _ => 8 - (intOf iv).toNat)
          case atStart => exact ⟨0, by omega, rfl, h9, h1, h3, hG⟩
          case round =>
            clear h9 h1 h3 hG h4
            obtain ⟨j, hj, rfl, h9, h1, h3, hG⟩ := hrel
            by_cases hlj : j < 8
            · have c9 := h9.cell j (by rw [addsTo_length]; exact hlj)
              rw [addsTo_get s h j hlj] at c9
              have f9 := h9.frozen j
              have c1 := h1.cell j (by omega)
              have h9s := fun m => (h9.drewN m).set j (s.getD j 0#32 + h.getD j 0#32)
              rw [addsTo_set] at h9s
              generalize s.getD j 0#32 = x at *
              generalize h.getD j 0#32 = y at *
              have a1 := iw_addw x y
              have q8 : (j : Int) < 8 := by omega
              go_wp2_with fail
              refine region_quiet_tail 8 (by kernel_rfl) (by kernel_rfl) ?_
              simp only [List.take_succ_cons, List.take_zero, List.drop_succ_cons, List.drop_zero]
              repeat (quiet_step (fail))
              refine wpQuiet_nil ?_
              intro m
              go_wp2_with fail
              go_roundw
              case rel => exact ⟨j + 1, by omega, by go_num, h9s m, (h1.drewN m).tr (Chg.setCell _ ⟨p9, j, none⟩ _) (by simp [Ne.symm n91]), (h3.drewN m).tr (Chg.setCell _ ⟨p9, j, none⟩ _) (by simp [Ne.symm n93]), (hG.t0 (Chg.drewN [] _ m)).tn (Chg.setCell _ ⟨p9, j, none⟩ _) m9.out⟩
              case measure => simp [intOf]; omega
            · have hj8 : j = 8 := by omega
              rw [hj8, addsTo_all s h hs8 hh, ← hcomp.out] at h9
              clear hj8
              have hc8 := comp_length h b hh
              go_wp2_with (first
                | (refine load_words (by rfl) 72 (.tmp 9) (by rfl) p9 8 71 (by rfl) (comp h b) h9 Try.underlying72 (by kernel_rfl) hc8 ?_)
                | (refine store_words (by rfl) 72 (.tmp 4) (.tmp 110) (by rfl) p3 8 (by rfl) (comp h b) (by rfl) _ h3 (by kernel_rfl) hc8 (by rw [List.length_replicate]) ?_; intro w12 h12 g12 s12; replace s12 : Hid _ := s12))
              exact ret_words 4 72 (by rfl) 8 71 Try.underlying72 (by kernel_rfl) rfl p3 (by rfl) _ h12 hc8 ⟨rfl, hG.tn g12 m3.out⟩
end Go.Proofs.Ytgepfmofignmfaa
