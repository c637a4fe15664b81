/-
  The reference's digest of bytes.
-/
import Derived.Test.YtgepfmofignmfaaProg
import Derived.Test.YtgepfmofignmfaaSha9
namespace Go.Proofs.Ytgepfmofignmfaa
set_option linter.unusedSimpArgs false
set_option linter.unusedVariables false
open Go.RowKit

/-- Of 64 bytes the first i are there. -/
def cpTo (M : List UInt8) (i : Nat) : List UInt8 := (List.range 64).map fun j => if j < i then M.getD j 0 else 0
theorem cpTo_length (M : List UInt8) (i : Nat) : (cpTo M i).length = 64 := by simp [cpTo]
theorem cpTo_zero (M : List UInt8) : cpTo M 0 = List.replicate 64 0 := by
  apply List.ext_getElem (by simp [cpTo])
  intro j h1 h2
  simp only [cpTo, List.getElem_map, List.getElem_range, List.getElem_replicate]
  rw [if_neg (by omega)]
theorem cpTo_set (M : List UInt8) (i : Nat) : (cpTo M i).set i (M.getD i 0) = cpTo M (i + 1) := by
  apply List.ext_getElem (by simp [cpTo])
  intro j h1 h2
  simp only [cpTo, List.getElem_set, List.getElem_map, List.getElem_range]
  by_cases hj : i = j
  · subst hj; simp
  · by_cases h3 : j < i
    · simp [hj, h3, Nat.lt_succ_of_lt h3]
    · have : ¬ j < i + 1 := by omega
      simp [hj, h3, this]
theorem cpTo_all (M : List UInt8) (h : 64 ≤ M.length) : cpTo M 64 = M.take 64 := by
  apply List.ext_getElem (by simp [cpTo]; omega)
  intro j h1 h2
  have hj : j < 64 := by simpa [cpTo] using h1
  have hm : j < M.length := by omega
  simp [cpTo, hj, List.getD, hm]

set_option maxRecDepth 100000 in
theorem ref01_sum_ok (w : World) (v : Value) (b : List UInt8) (hs : Sl w v b.length (bcs b)) (hb : b.length ≤ 2147483647) :
    Calls Try.prog 69 #[v] w fun e w' => e = .returned (.agg (bcs (sumB b)).toArray) ∧ Chg [] w w' := by
  have hs0 := hs
  obtain ⟨a, c, rfl, q1, q2, q3, q4, q6, q5⟩ := hs
  unfold maxLen at q2
  clear q3 q4 q6 q5
  have hpl : Hid ((padL b.length).length = 9 + padZ b.length) := padL_length _
  have hpz : Hid (padZ b.length < 64) := padZ_lt _
  go_enter Try.func69, Try.ntmps69
  go_wp2_with (first
    | (refine alloc_bytes (by rfl) 32 (by rfl) 32 (by kernel_rfl) ?_; intro w0 h0 g0 s0; replace s0 : Hid _ := s0)
    | (at_builtin; refine wpList_append_sl _ rfl (.tmp 11) (.tmp 12) 22 5 1 1 rfl el_u8 w0.heap.size _ 0 [] rfl (own_lit w0 #[] 5 0 1 _ (Nat.le_refl _) (Nat.zero_le _) rfl) _ b.length (bcs b) rfl ((hs0.tr0 g0).tr0 (Chg.alloc _ _ _)) (by simp [bcs]) (bcs_one b) (by unfold big; omega) (by simp) ?_; intro v1 w1 o1 g1))
  have g01 : Chg [] w0 w1 := (Chg.alloc [] w0 _).trans (Chg.grown g1) (by simp [Act.eval, Value.ownBlock])
  refine (ref01_pad_ok w1 b.length hb).mono ?_
  rintro e w2 ⟨v2, rfl, o2, g2⟩
  have o1' := own_tr o1 g2 (by simp)
  clear g1
  go_wp2_with (at_builtin; refine wpList_append_sl _ rfl (.tmp 13) (.tmp 16) 22 5 1 1 rfl el_u8 w0.heap.size _ _ _ rfl o1' _ (padL b.length).length (bcs (padL b.length)) rfl (Sl.ofOwns o2) (by simp [bcs]) (bcs_one _) (by have := hpl.out; have := hpz.out; unfold big; omega) (by have := g01.size; have := g2.size; omega) ?_; intro v3 w3 o3 g3)
  have g03 : Chg [] w0 w3 := (g01.t0 g2).trans (Chg.grown g3) (fun x hx => .inr (own_row o1' x (by simpa [Act.eval] using hx)))
  have hS3 := Sl.ofOwns o3
  have hlen : Hid ((b ++ padL b.length).length = b.length + (padL b.length).length) := List.length_append
  have hbig : Hid ((b ++ padL b.length).length ≤ 2147483800) := by unfold Hid; rw [hlen.out, hpl.out]; have := hpz.out; omega
  rw [List.nil_append, ← bcs_append, Nat.zero_add, ← hlen.out] at hS3
  have h03 := g03.heap h0 (by simp)
  have G3 := g0.t0 g03
  have hp2 : Hid (w.heap.size < w3.heap.size) := by unfold Hid; have := g03.size; have := s0.out; omega
  have hsum : Hid (sumB b = dig (blocks first8 (b ++ padL b.length))) := rfl
  generalize b ++ padL b.length = A at *
  clear h0 g0 s0 o1 g01 o2 g2 o1' o3 g3 g03 hs0 hpl hpz
  refine (ref01_first_ok w3).mono ?_
  rintro e w4 ⟨rfl, g4⟩
  have h04 := g4.heap h03 (by simp)
  have hS4 := hS3.tr0 g4
  have G4 := G3.t0 g4
  have hp24 : Hid (w.heap.size < w4.heap.size) := by unfold Hid; have := hp2.out; have := g4.size; omega
  clear h03 hS3 G3 g4 hp2
  obtain ⟨p2, e2⟩ : ∃ p, w.heap.size = p := ⟨_, rfl⟩
  obtain ⟨p4, e4⟩ : ∃ p, w4.heap.size = p := ⟨_, rfl⟩
  have n42 : p4 ≠ p2 := by have := hp24.out; omega
  have m2 : Hid (w.heap.size ≤ p2) := by unfold Hid; omega
  have m4 : Hid (w.heap.size ≤ p4) := by unfold Hid; have := hp24.out; omega
  have hv4 : Hid (vblk v3 ≠ some p4) := hS4.ne (by omega)
  rw [e2] at h04 ⊢
  go_wp2_with (first
    | (refine alloc_words (by rfl) 72 (by rfl) 8 (by kernel_rfl) ?_; rw [e4]; intro w5 h5 g5 s5; replace s5 : Hid _ := s5)
    | (refine store_words (by rfl) 72 (.tmp 4) (.tmp 18) (by rfl) _ 8 (by rfl) first8 (by rfl) _ h5 (by kernel_rfl) (by rfl) (by rw [List.length_replicate]) ?_; intro w6 h6 g6 s6; replace s6 : Hid _ := s6))
  have h06 := (g5.heap h04 (by simp)); replace h06 := g6.heap h06 (by simp [Ne.symm n42])
  have hS6 := (hS4.tr0 g5).tr1 g6 hv4.out
  have G6 := (G4.t0 g5).tn g6 m4.out
  clear h04 hS4 G4 h5 g5 s5 g6 s6 e2 e4 hp24
  have hS60 := hS6
  obtain ⟨a3, c3, rfl, r1, r2, r3, r4, r6, r5⟩ := hS6
  unfold maxLen at r2
  clear r3 r4 r6 r5
  go_loopw [5] (fun iv wr => ∃ (m : Nat) (hc : List W32), iv = .int .i64 m ∧ m ≤ A.length ∧ hc.length = 8 ∧ blocks hc (A.drop m) = blocks first8 A ∧ Wat wr p4 hc ∧ wr.heap[p2]? = some (.cells (bcs (List.replicate 32 0)).toArray 32 (0, 0)) ∧ Sl wr (.slice a3 A.length c3) A.length (bcs A) ∧ Chg [] w wr) (fun iv _ => A.length - (intOf iv).toNat)
  case atStart => exact ⟨0, first8, rfl, by omega, rfl, rfl, h6, h06, hS60, G6⟩
  case round =>
    clear h6 h06 hS60 G6
    obtain ⟨m, hc, rfl, hm, hc8, hbl, hW, h0, hS, hG⟩ := hrel
    have HB : Hid _ := hbl
    clear hbl
    by_cases hlt : m + 64 ≤ A.length
    · have hbo := hbig.out
      have hq : (m : Int) + 64 ≤ (A.length : Int) := by omega
      go_wp2_with (refine alloc_bytes (by rfl) 75 (by rfl) 64 (by kernel_rfl) ?_; intro wb hb0 gb sb; replace sb : Hid _ := sb)
      obtain ⟨p6, e6⟩ : ∃ p, wr.heap.size = p := ⟨_, rfl⟩
      have n64 : p6 ≠ p4 := by have := hW.lt; omega
      have n62 : p6 ≠ p2 := by have := lt_of_heap h0; omega
      have m6 : Hid (w.heap.size ≤ p6) := by unfold Hid; have := hG.size; omega
      have hv6 : Hid (vblk (.slice a3 A.length c3) ≠ some p6) := hS.ne (by omega)
      rw [e6] at hb0 ⊢
      rw [← cpTo_zero (A.drop m)] at hb0
      have hWb := hW.tr gb (by simp)
      have h0b := gb.heap h0 (by simp)
      have hSb := hS.tr0 gb
      have hGb := hG.t0 gb
      clear hW h0 hS hG gb sb e6
      obtain ⟨wo, rfl⟩ : ∃ wo : World, wo = wr := ⟨_, rfl⟩
      go_loopw [7] (fun iv wr => ∃ i : Nat, i ≤ 64 ∧ iv = .int .i64 i ∧ wr.heap[p6]? = some (.cells (bcs (cpTo (A.drop m) i)).toArray 75 (0, 0)) ∧ Wat wr p4 hc ∧ wr.heap[p2]? = some (.cells (bcs (List.replicate 32 0)).toArray 32 (0, 0)) ∧ Sl wr (.slice a3 A.length c3) A.length (bcs A) ∧ Chg [] w wr) (fun iv _ => 64 - (intOf iv).toNat)
      case atStart => exact ⟨0, by omega, rfl, hb0, hWb, h0b, hSb, hGb⟩
      case round =>
        clear hb0 hWb h0b hSb hGb
        obtain ⟨i, hi, rfl, h6, hW, h0, hS, hG⟩ := hrel
        by_cases hit : i < 64
        · have hset := bytes_set h6 i ((A.drop m).getD i 0)
          rw [cpTo_set] at hset
          have c6 := bytes_cell h6 i (by rw [cpTo_length]; exact hit)
          have f6 := frozen_of_row wr p6 i _ _ h6
          have hgd : Hid ((A.drop m).getD i 0 = A.getD (m + i) 0) := by unfold Hid; simp [List.getD, List.getElem?_drop]
          obtain ⟨g, off, c2, e2, _, _, _, hcells⟩ := hS.at (by rw [bcs_length]; omega)
          cases e2
          have cA := hcells (m + i) _ (bcs_get A (m + i) (by omega))
          have hAx : Hid (A[m + i]'(by omega) = A.getD (m + i) 0) := by unfold Hid; simp [List.getD, show m + i < A.length by omega]
          rw [hAx.out] at cA
          rw [hgd.out] at hset
          generalize A.getD (m + i) 0 = x at *
          clear hAx hgd hcells
          have q1' : (m : Int) + (i : Int) < (A.length : Int) := by omega
          have q2' : (i : Int) < 64 := by omega
          go_wp2_with fail
          go_roundw
          case rel =>
            have gs := Chg.setCell wr ⟨p6, i, none⟩ (.int .u8 (x.toNat : Int))
            exact ⟨i + 1, by omega, by go_num, hset, hW.tr gs (by simp [Ne.symm n64]), gs.heap h0 (by simp [Ne.symm n62]), hS.tr1 gs hv6.out, hG.tn gs m6.out⟩
          case measure => simp [intOf]; omega
        · have hi64 : i = 64 := by omega
          rw [hi64, cpTo_all _ (by simp; omega)] at h6
          clear hi64
          have ht64 : ((A.drop m).take 64).length = 64 := by simp; omega
          go_wp2_with (first
            | (refine load_words (by rfl) 72 (.tmp 4) (by rfl) p4 8 71 (by rfl) hc hW Try.underlying72 (by kernel_rfl) hc8 ?_)
            | (refine load_bytes (by rfl) 75 (.tmp 6) (by rfl) p6 64 5 (by rfl) ((A.drop m).take 64) ⟨_, h6⟩ Try.underlying75 (by kernel_rfl) ht64 ?_))
          refine (ref01_compress_ok wr hc hc8 ((A.drop m).take 64) ht64).mono ?_
          rintro e wc ⟨rfl, gc⟩
          have hWc := hW.tr gc (by simp)
          have h0c := gc.heap h0 (by simp)
          have hSc := hS.tr0 gc
          have hGc := hG.t0 gc
          clear hW h0 hS hG h6 gc
          have hC8 := comp_length hc ((A.drop m).take 64) hc8
          have hbl2 : Hid (blocks (comp hc ((A.drop m).take 64)) (A.drop (m + 64)) = blocks first8 A) := by
            unfold Hid
            rw [← HB.out, blocks_long hc (A.drop m) (by simp; omega), List.drop_drop]
          go_wp2_with (refine store_words (by rfl) 72 (.tmp 4) (.tmp 40) (by rfl) p4 8 (by rfl) (comp hc ((A.drop m).take 64)) (by rfl) _ hWc (by kernel_rfl) hC8 hc8 ?_; intro wd hWd gd sd; replace sd : Hid _ := sd)
          go_roundw
          case rel => exact ⟨m + 64, comp hc ((A.drop m).take 64), by go_num, by omega, hC8, hbl2.out, hWd, gd.heap h0c (by simp [Ne.symm n42]), hSc.tr1 gd hv4.out, hGc.tn gd m4.out⟩
          case measure => simp [intOf]; omega
    · have hbo := hbig.out
      have hq : ¬ (m : Int) + 64 ≤ (A.length : Int) := by omega
      have HB2 : Hid (blocks first8 A = hc) := by unfold Hid; rw [← HB.out, blocks_short hc _ (by simp; omega)]
      go_wp2_with (refine alloc_bytes (by rfl) 32 (by rfl) 32 (by kernel_rfl) ?_; intro we he ge se; replace se : Hid _ := se)
      obtain ⟨p5, e5⟩ : ∃ p, wr.heap.size = p := ⟨_, rfl⟩
      have n52 : p5 ≠ p2 := by have := lt_of_heap h0; omega
      have n54 : p5 ≠ p4 := by have := hW.lt; omega
      have m5 : Hid (w.heap.size ≤ p5) := by unfold Hid; have := hG.size; omega
      rw [e5] at he ⊢
      have h0e := ge.heap h0 (by simp)
      have hGe := hG.t0 ge
      have hWe := hW.tr ge (by simp)
      rw [← digTo_zero hc] at he
      clear h0 hG hW hS ge se e5
      obtain ⟨wo, rfl⟩ : ∃ wo : World, wo = wr := ⟨_, rfl⟩
      generalize decide ((m : Int) + 64 ≤ (A.length : Int)) = vb
      go_loopw [9] (fun iv wr => ∃ k : Nat, k ≤ 8 ∧ iv = .int .i64 k ∧ wr.heap[p5]? = some (.cells (bcs (digTo hc (4 * k))).toArray 32 (0, 0)) ∧ Wat wr p4 hc ∧ wr.heap[p2]? = some (.cells (bcs (List.replicate 32 0)).toArray 32 (0, 0)) ∧ Chg [] w wr) (fun iv _ => 8 - (intOf iv).toNat)
      case atStart => exact ⟨0, by omega, rfl, he, hWe, h0e, hGe⟩
      case round =>
        clear he h0e hGe hWe
        obtain ⟨k, hk, rfl, h5, hW, h0, hG⟩ := hrel
        by_cases hlk : k < 8
        · have qk : (k : Int) < 8 := by omega
          go_wp2_with fail
          obtain ⟨wo2, rfl⟩ : ∃ wo2 : World, wo2 = wr := ⟨_, rfl⟩
          generalize decide ((k : Int) < 8) = vb2
          go_loopw [10] (fun iv wr => ∃ i : Nat, i ≤ 4 ∧ iv = .int .i64 i ∧ wr.heap[p5]? = some (.cells (bcs (digTo hc (4 * k + i))).toArray 32 (0, 0)) ∧ Wat wr p4 hc ∧ wr.heap[p2]? = some (.cells (bcs (List.replicate 32 0)).toArray 32 (0, 0)) ∧ Chg [] w wr) (fun iv _ => 4 - (intOf iv).toNat)
          case atStart => exact ⟨0, by omega, rfl, h5, hW, h0, hG⟩
          case round =>
            clear h5 h0 hG hW
            obtain ⟨i, hi, rfl, h5, hW, h0, hG⟩ := hrel
            by_cases hit : i < 4
            · have cw := hW.cell k (by omega)
              have hds := digTo_set hc (4 * k + i)
              rw [show (4 * k + i) / 4 = k by omega, show (4 * k + i) % 4 = i by omega] at hds
              generalize hc.getD k 0#32 = x at cw hds
              have hset := bytes_set h5 (4 * k + i) (wbyte x i)
              rw [hds] at hset
              clear hds
              have c5 := bytes_cell h5 (4 * k + i) (by rw [digTo_length]; omega)
              have f5 := frozen_of_row wr p5 (4 * k + i) _ _ h5
              obtain ⟨j, ej, e1, e1'⟩ : ∃ j : Nat, Hid (j = 4 * k + i) ∧ (4 : Int) * (k : Int) + (i : Int) = (j : Int) ∧ (j : Int) < 32 := ⟨4 * k + i, rfl, by omega, by omega⟩
              rw [← ej.out] at hset c5 f5
              obtain ⟨s8, hs8, e2, e2', e2''⟩ : ∃ s8 : Nat, Hid (s8 = 8 * (3 - i)) ∧ (24 : Int) - (8 : Int) * (i : Int) = (s8 : Int) ∧ s8 < 32 ∧ IntKind.u64.wrap (s8 : Int) = s8 := ⟨8 * (3 - i), rfl, by omega, by omega, IntWalk.u64_in _ (by omega)⟩
              have e4 : iw x / 2 ^ s8 % 256 = ((wbyte x i).toNat : Int) := by
                unfold wbyte iw
                rw [UInt8.toNat_ofNat', hs8.out]
                simp only [Int.natCast_emod, Int.natCast_ediv, Int.natCast_pow]
                rfl
              generalize wbyte x i = y at *
              go_wp2_with fail
              go_roundw
              case rel =>
                have gs := Chg.setCell wr ⟨p5, j, none⟩ (.int .u8 (y.toNat : Int))
                exact ⟨i + 1, by omega, by go_num, by rw [show 4 * k + (i + 1) = j + 1 by have := ej.out; omega]; exact hset, hW.tr gs (by simp [Ne.symm n54]), gs.heap h0 (by simp [Ne.symm n52]), hG.tn gs m5.out⟩
              case measure => simp [intOf]; omega
            · have e44 : Hid (4 * k + i = 4 * (k + 1)) := by unfold Hid; omega
              rw [e44.out] at h5
              go_wp2_with fail
              go_roundw
              case rel => exact ⟨k + 1, by omega, by go_num, h5, hW, h0, hG⟩
              case measure => simp [intOf]; omega
        · have h8 : 4 * k = 32 := by omega
          rw [h8] at h5
          clear h8
          have hr : Hid (sumB b = digTo hc 32) := by unfold Hid; rw [hsum.out, HB2.out]; rfl
          go_wp2_with (first
            | (refine wpList_load_row (by rfl) 32 (.tmp 8) (by rfl) p5 (by rfl) _ _ (0, 0) _ h5 Try.underlying32 rfl (by simp only [List.size_toArray]; rw [bcs_length, digTo_length]; kernel_rfl) ?_)
            | (refine store_bytes (by rfl) 32 (.tmp 2) (.tmp 63) (by rfl) p2 32 _ (by rfl) (digTo hc 32) (by rfl) _ h0 (by kernel_rfl) (digTo_length _ _) (by rw [List.length_replicate]) ?_; intro wz hz gz sz))
          exact ret_bytes 2 32 (by rfl) 32 5 Try.underlying32 (by kernel_rfl) rfl p2 (by rfl) _ _ hz (digTo_length _ _) ⟨by rw [hr.out], hG.tn gz m2.out⟩
end Go.Proofs.Ytgepfmofignmfaa
