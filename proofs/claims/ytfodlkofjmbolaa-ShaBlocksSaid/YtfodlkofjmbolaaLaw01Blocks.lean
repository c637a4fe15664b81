/-
  ShaBlocks: the walk.
-/
import Derived.Test.YtfodlkofjmbolaaLaw01Long
namespace Go.Proofs.Ytfodlkofjmbolaa
open Go.RowKit

/-- 'copy(block[:], rest)': a block of n bytes from a slice of at least as many. -/
theorem copy_block {P : Program} {ops : Array Oper} {rest : List Oper} {o : Oper} {a : Act} {w : World} {Q : Exit → Act → World → Prop} (hg : o.guard = none) (d s : Operand) (t e : TypeId)
    (ho : o.op = .call { callee := .builtin .copy, args := #[d, s], argTypes := #[t, t] }) (hu : P.underlying t = some (.slice e)) (hsz : (P.info? e).map (·.size) = some 1) (p n : Nat) (hd : a.eval d = .slice (some ⟨p, 0, none⟩) n n)
    (ad : Option Addr) (m c : Nat) (hs : a.eval s = .slice ad m c) (L : List UInt8) (hsl : Sl w (.slice ad m c) m (bcs L)) (hm : m = L.length) (hn : n ≤ m) (h0 : 0 < n) (Z : List UInt8) (et : TypeId) (hp : w.heap[p]? = some (.cells (bcs Z).toArray et (0, 0))) (hZ : Z.length = n)
    (h : ∀ w', w'.heap[p]? = some (.cells (bcs (L.take n)).toArray et (0, 0)) → Chg [p] w w' → w'.heap.size = w.heap.size → wpList P ops Q rest (a.put o.dst (goInt n)) w') : wpList P ops Q (o :: rest) a w := by
  subst hm
  obtain ⟨b, off, c', e2, _, _, _, hcell⟩ := hsl.at (by simp [bcs]; omega)
  cases e2
  have hl : (bcs (L.take n)).length = n := by simp [bcs]; omega
  have hgo : ∀ j v, (bcs (L.take n))[j]? = some v → w.cell? ((⟨b, off, none⟩ : Addr).add j) = some v := by
    intro j v hj
    have h2 : bcs (L.take n) = (bcs L).take n := by simp [bcs, List.map_take]
    rw [h2, List.getElem?_take] at hj
    rw [Addr.add_lit]
    split at hj
    · exact hcell j v hj
    · cases hj
  refine wpList_copy_own hg d s t t ho e hu hsz p 0 n n ⟨b, off, none⟩ L.length c hd hs _ et hp (bcs (L.take n)) (by rw [hl]; exact (Nat.min_eq_right hn).symm) hgo (by rw [hl]; simp [bcs, hZ]) (bcs_one _) ?_
  rw [hl]
  refine h _ ?_ ⟨rfl, rfl, rfl, by simp, fun k _ hk => setRow_other w p k _ (fun e => hk (by simp [e]))⟩ (by simp)
  rw [setRow_heap w p _ _ et _ hp]
  congr 2
  simp [bcs, hZ]

theorem blocks_nil (h : List W32) : blocks h [] = h := blocks_short h [] (by decide)

set_option maxHeartbeats 4000000 in
theorem blocks_in (w : World) (v : Value) (b : List UInt8) (hs : Sl w v b.length (bcs b)) (hb : b.length ≤ 1500) :
    Calls Try.prog 6 #[v] w fun e w' => e = .returned (.bool true) ∧ Chg [] w w' := by
  have hs0 := hs
  obtain ⟨a, c, rfl, q1, q2, q3, q4, q6, q5⟩ := hs
  clear q1 q2 q3 q4 q5 q6
  have hpl := padL_length b.length
  have hpz := padZ_lt b.length
  obtain ⟨N, hN⟩ : ∃ N, b.length + (padL b.length).length = N := ⟨_, rfl⟩
  have hmod : N % 64 = 0 := by rw [← hN, hpl]; unfold padZ; omega
  have hNb : N ≤ 1600 := by omega
  have n1 : ((N : Nat) : Int).tmod 64 = 0 := by rw [Int.tmod_eq_emod_of_nonneg (by omega)]; omega
  have n2 : ((N : Nat) : Int) % 64 = 0 := by omega
  have HM := Lib.hid hmod
  have HN := Lib.hid hN
  have HPL := Lib.hid hpl
  have HPZ := Lib.hid hpz
  clear hN hmod hpl hpz
  go_enter Try.func6, Try.ntmps6
  go_wp2_with (first
    | (go_at_call 14; refine (small_ok _).mono ?_; rintro e w1 ⟨rfl, g1⟩)
    | (go_at_call 19; refine (first_ok _).mono ?_; rintro e w2 ⟨rfl, g2⟩)
    | (refine alloc_words (by rfl) 29 (by rfl) 8 (by kernel_rfl) ?_; intro w3 h3 g3 s3; replace s3 := Lib.hid s3)
    | (refine store_words (by rfl) 29 (.tmp 4) (.tmp 14) (by rfl) _ 8 (by rfl) first8 (by rfl) _ h3 (by kernel_rfl) (by rfl) (by rw [List.length_replicate]) ?_; intro w4 h4 g4 s4; replace s4 := Lib.hid s4)
    | (at_builtin; refine wpList_append_sl _ rfl (.tmp 15) (.tmp 16) 22 5 1 1 rfl el_u8 w4.heap.size (.slice (some ⟨w4.heap.size, 0, none⟩) 0 0) 0 [] rfl (own_lit w4 #[] 5 0 1 _ (Nat.le_refl _) (Nat.zero_le _) rfl) _ b.length (bcs b) rfl (hs0.tr0 ((((g1.t0 g2).t0 g3).tn g4 (by have := (g1.t0 g2).size; omega)).t0 (Chg.alloc _ _ _))) (by simp [bcs]) (bcs_one b) (by unfold big; omega) (by simp) ?_; intro v5 w5 o5 hg5; have g5 : Chg [] w4 w5 := (Chg.alloc [] w4 _).trans (Chg.grown hg5) (by simp [Value.ownBlock]); clear hg5; simp only [Nat.zero_add, List.nil_append] at o5)
    | (go_at_call 21; refine (pad_ok _ b.length (by omega)).mono ?_; rintro e w6 ⟨v6, rfl, o6, g6⟩; have S6 := Sl.ofOwns o6)
    | (at_builtin; refine wpList_append_sl _ rfl (.tmp 17) (.tmp 20) 22 5 1 1 rfl el_u8 w4.heap.size v5 b.length (bcs b) rfl (own_tr o5 g6 (by simp)) v6 (padL b.length).length (bcs (padL b.length)) rfl S6 (by simp [bcs]) (bcs_one _) (by have := HN.out; unfold big; omega) (by have := (g5.t0 g6).size; omega) ?_; intro v7 w7 o7 hg7; obtain ⟨a7, c7, rfl⟩ := own_shape o7; rw [HN.out] at o7 ⊢))
  have g47 : Chg [] w4 w7 := (g5.t0 g6).grownOwn hg7 (own_tr o5 g6 (by simp)) (Nat.le_refl _)
  have hW7 := h4.tr g47 (by simp)
  have m2 : w.heap.size ≤ w2.heap.size := (g1.t0 g2).size
  have G7 : Chg [] w w7 := (((g1.t0 g2).t0 g3).tn g4 m2).t0 g47
  have hv7 : ∀ k, vblk (.slice a7 N c7) = some k → w2.heap.size < k := fun k hk => by
    have h1 := own_from o7 k (vblk_own hk)
    have h2 := g4.size
    have h3 := s3.out
    omega
  have hl2 : w2.heap.size < w7.heap.size := by have := g47.size; have := g4.size; have := s3.out; omega
  rw [← bcs_append] at o7
  have hlen : (b ++ padL b.length).length = N := by rw [List.length_append]; exact HN.out
  have S7 := Sl.ofOwns o7
  have hsum := Lib.hid (show sumB b = dig (blocks first8 (b ++ padL b.length)) from rfl)
  have hS0 := hs0.tr0 G7
  have HL := Lib.hid hlen
  have hs0w := hs0
  clear hlen g47 h3 g3 s3 h4 g4 s4 g1 g2 o5 g5 o6 g6 S6 o7 hg7 hs0 n1 n2
  generalize b ++ padL b.length = A at *
  generalize w2.heap.size = p4 at *
  rw [← HL.out] at S7 ⊢
  go_loopw [5] (fun rv wr => ∃ (L : List UInt8) (hc : List W32), hc.length = 8 ∧ Sl wr rv L.length (bcs L) ∧ (∀ k, vblk rv = some k → p4 < k) ∧ L.length ≤ 1600 ∧ Hid (L.length % 64 = 0) ∧ Hid (blocks hc L = blocks first8 A) ∧ Wat wr p4 hc ∧ Chg [] w wr) (fun rv _ => vlen rv)
  case atStart => exact ⟨A, first8, rfl, S7, by rw [HL.out]; exact hv7, by rw [HL.out]; exact hNb, Lib.hid (by rw [HL.out]; exact HM.out), Lib.hid rfl, hW7, G7⟩
  case round =>
    clear S7 hv7 hW7 G7 hS0
    obtain ⟨L, hc, hc8, hS, hv, hL, hmd, HB, hW, hG⟩ := hrel
    have hS0 := hS
    obtain ⟨a', c', rfl, q1, q2', q3, q4, q6, q5⟩ := hS
    unfold maxLen at q2'
    clear q3 q4 q6 q5
    by_cases hlt : 0 < L.length
    · have h64 : 64 ≤ L.length := by have := hmd.out; omega
      have ht64 : (L.take 64).length = 64 := by simp; omega
      have hp4 : p4 < wr.heap.size := hW.lt
      obtain ⟨gg, off, c2, e2, _, _, _, _⟩ := hS0.at (by rw [bcs_length]; omega)
      cases e2
      have hvc : ∀ k, vblk (.slice (some ⟨gg, off, none⟩) L.length c') = some k → k ∉ [p4] := fun k hk hm => by have := hv k hk; simp at hm; omega
      have hC8 := comp_length hc (L.take 64) hc8
      go_wp2_with (first
        | (refine alloc_bytes (by rfl) 30 (by rfl) 64 (by kernel_rfl) ?_; intro we he ge se; have se' := Lib.hid se; clear se)
        | (at_builtin; fail)
        | (refine copy_block rfl (.tmp 29) (.tmp 30) 22 5 rfl Try.underlying22 (by kernel_rfl) wr.heap.size 64 rfl (some ⟨gg, off, none⟩) L.length c' rfl L (hS0.tr0 ge) rfl h64 (by decide) _ _ he (by simp) ?_; intro wf hf gf sf; have sf' := Lib.hid sf; clear sf)
        | (refine load_words rfl 29 (.tmp 4) rfl p4 8 28 rfl hc ((hW.tr ge (by simp)).tr gf (by simp; omega)) Try.underlying29 (by kernel_rfl) hc8 ?_)
        | (refine load_bytes rfl 30 (.tmp 6) rfl wr.heap.size 64 5 rfl (L.take 64) ⟨_, hf⟩ Try.underlying30 (by kernel_rfl) ht64 ?_)
        | (go_at_call 17; refine (compress_ok _ hc hc8 (L.take 64) ht64).mono ?_; rintro e wc ⟨rfl, gc⟩)
        | (refine store_words rfl 29 (.tmp 4) (.tmp 34) rfl p4 8 rfl (comp hc (L.take 64)) rfl _ (((hW.tr ge (by simp)).tr gf (by simp; omega)).tr gc (by simp)) (by kernel_rfl) hC8 hc8 ?_; intro wd hWd gd sd; have sd' := Lib.hid sd; clear sd))
      have gA : Chg [] wr wf := ge.tn gf (Nat.le_refl _)
      have hSd := ((hS0.tr0 gA).tr0 gc).tr gd hvc
      have hbl2 : Hid (blocks (comp hc (L.take 64)) (L.drop 64) = blocks first8 A) := by unfold Hid; rw [← blocks_long hc L (by omega)]; exact HB.out
      have hld : Hid ((L.drop 64).length = L.length - 64) := List.length_drop
      go_roundw
      case rel =>
        refine ⟨L.drop 64, comp hc (L.take 64), hC8, ?_, ?_, by rw [hld.out]; omega, Lib.hid (by rw [hld.out]; have := hmd.out; omega), hbl2, hWd, ((hG.t0 gA).t0 gc).tn gd m2⟩
        · rw [hld.out]
          by_cases hce : c' = 64
          · subst hce
            rw [if_pos rfl]
            have h := hSd.dropE (k := 64) (by omega) rfl 1 (by simp [bcs])
            simpa [bcs, List.map_drop] using h
          · rw [if_neg hce]
            have h := hSd.dropN (k := 64) (by omega) hce 1
            simpa [Addr.add_lit, bcs, List.map_drop] using h
        · intro k hk
          rw [vblk_slice] at hk
          refine hv k (vblk_slice.2 ⟨by omega, ?_⟩)
          have h := hk.2
          split at h <;> simpa using h
      case measure => simp [vlen]; omega
    · have hL0 : L = [] := by have : L.length = 0 := by omega
                              simpa using this
      subst hL0
      have hHC : Hid (blocks first8 A = hc) := Lib.hid (by rw [← HB.out, blocks_nil])
      have L32 := sumB_length b
      have hD : Hid (sumB b = dig hc) := Lib.hid (by rw [hsum.out, hHC.out])
      have LH := Lib.hid L32
      clear L32 hS0 hv HB
      have hp4 : p4 < wr.heap.size := hW.lt
      have kb := fun w hs => sum_ok w (.slice a b.length c) b hs (by omega)
      go_wp2_with (first
        | (go_at_call 15; refine (kb _ (hs0w.tr0 hG)).mono ?_; rintro e wc ⟨rfl, gc⟩)
        | (refine alloc_bytes (by rfl) 25 (by rfl) 32 (by kernel_rfl) ?_; intro wd hd gd sd; have sd' := Lib.hid sd; clear sd)
        | (refine store_bytes (by rfl) 25 (.tmp 7) (.tmp 38) (by rfl) _ 32 _ (by rfl) (sumB b) (by rfl) _ hd (by kernel_rfl) LH.out (by rw [List.length_replicate]) ?_; intro wf hf gf sf; have sf' := Lib.hid sf; clear sf))
      have gB : Chg [] wr wf := (gc.t0 gd).tn gf gc.size
      have hWf := hW.tr gB (by simp)
      have hGf := hG.t0 gB
      have hpd : p4 < wc.heap.size := Nat.lt_of_lt_of_le hp4 gc.size
      rw [hD.out] at hf
      clear hW hG gB gc gd hd gf kb sf' sd' hs0w hp4 hl2
      generalize wc.heap.size = pd at *
      obtain ⟨wo, rfl⟩ : ∃ wo : World, wo = wr := ⟨_, rfl⟩
      go_loopw [8] (fun iv wr => ∃ k : Nat, k ≤ 32 ∧ iv = .int .i64 k ∧ wr.heap[pd]? = some (.cells (bcs (dig hc)).toArray 25 (0, 0)) ∧ Wat wr p4 hc ∧ Chg [] w wr) (fun iv _ => 32 - (intOf iv).toNat)
      case atStart => exact ⟨0, by omega, rfl, hf, hWf, hGf⟩
      case round =>
        clear hf hWf hGf
        obtain ⟨k, hk, rfl, hf, hW, hG⟩ := hrel
        by_cases hlk : k < 32
        · have hc5 := bytes_cell hf k (by rw [show (dig hc).length = 32 from digTo_length _ _]; omega)
          have hw5 := hW.cell (k / 4) (by omega)
          have hdg : (dig hc).getD k 0 = wbyte (hc.getD (k / 4) 0#32) (k % 4) := by
            simp [dig, digTo, List.getD, hlk]
          rw [hdg] at hc5
          generalize hc.getD (k / 4) 0#32 = x at *
          have e4 : ∀ s8, s8 = 8 * (3 - k % 4) → iw x / 2 ^ s8 % 256 = ((wbyte x (k % 4)).toNat : Int) := by
            intro s8 hs8
            unfold wbyte iw
            rw [UInt8.toNat_ofNat', hs8]
            simp only [Int.natCast_emod, Int.natCast_ediv, Int.natCast_pow]
            rfl
          generalize wbyte x (k % 4) = y at *
          obtain ⟨q, hq⟩ : ∃ q, k / 4 = q := ⟨_, rfl⟩
          obtain ⟨i, hi⟩ : ∃ i, k % 4 = i := ⟨_, rfl⟩
          obtain ⟨s8, hs8⟩ : ∃ s8, s8 = 8 * (3 - i) := ⟨_, rfl⟩
          rw [hq] at hw5
          have f1 := e4 s8 (by rw [hs8, hi])
          have f2 : (k : Int).tdiv 4 = (q : Int) := by rw [Int.tdiv_eq_ediv_of_nonneg (by omega)]; omega
          have f3 : (k : Int).tmod 4 = (i : Int) := by rw [Int.tmod_eq_emod_of_nonneg (by omega)]; omega
          have f4 : IntKind.i64.wrap (q : Int) = (q : Int) := IntWalk.i64_in _ ⟨by omega, by omega⟩
          have f5 : IntKind.i64.wrap ((8 : Int) * (i : Int)) = 8 * (i : Int) := IntWalk.i64_in _ ⟨by omega, by omega⟩
          have f6 : IntKind.i64.wrap ((24 : Int) - 8 * (i : Int)) = (s8 : Int) := by rw [IntWalk.i64_in _ ⟨by omega, by omega⟩]; omega
          have f7 : IntKind.u64.wrap (s8 : Int) = (s8 : Int) := IntWalk.u64_in _ ⟨by omega, by omega⟩
          have f13 : IntKind.u8.wrap (iw x / 2 ^ s8) = (y.toNat : Int) := by rw [← f1]; rfl
          have f8 : (0 : Int) ≤ (k : Int) := by omega
          have f9 : (k : Int) < 32 := by omega
          have f10 : (0 : Int) ≤ (q : Int) := by omega
          have f11 : (q : Int) < 8 := by omega
          have f12 : s8 < 32 := by omega
          have h1 := Lib.hid (And.intro hq (And.intro hi hs8))
          clear e4 hdg hq hi hs8
          go_wp2_with fail
          obtain ⟨tW, hW'⟩ := hW
          refine region_quietC (by kernel_rfl) (by kernel_rfl) ?_
          repeat (first
            | (refine quiet_cellC rfl _ _ rfl _ rfl _ _ hc5 Try.underlying5 rfl ?_)
            | (refine quiet_cellC rfl _ _ rfl _ rfl _ _ hw5 Try.underlying28 rfl ?_)
            | quiet_step ((intro hx; first | rfl)))
          refine wpQuiet_nil ?_
          intro w9 g9
          go_wp2
          go_roundw
          case rel => exact ⟨k + 1, by omega, by go_num, g9.heap hf (by simp), ⟨tW, g9.heap hW' (by simp)⟩, hG.t0 g9⟩
          case measure => simp [intOf]; omega
        · go_wp2
          go_ret
          exact ⟨rfl, hG⟩

theorem shaBlocks_run (w : World) (v : Value) (l : List UInt8) (hs : Sl w v l.length (bcs l)) (hb : l.length * 1 ≤ 140737488351232) :
    Calls Try.prog 6 #[v] w fun e w' => e = .returned (.bool true) ∧ Chg [] w w' := by
  by_cases hl : l.length ≤ 1500
  · exact blocks_in w v l hs hl
  · obtain ⟨a, c, rfl, q1, q2, q3, q4, q6, q5⟩ := hs
    clear q1 q2 q3 q4 q5 q6
    have hl' : 1500 < l.length := by omega
    go_enter Try.func6, Try.ntmps6
    go_wp2_with (go_at_call 14; refine (small_ok _).mono ?_; rintro e w1 ⟨rfl, g1⟩)
    go_ret
    exact ⟨rfl, g1⟩
end Go.Proofs.Ytfodlkofjmbolaa
