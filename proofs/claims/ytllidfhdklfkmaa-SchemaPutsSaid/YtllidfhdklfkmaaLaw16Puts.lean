/-
  SchemaPuts: the walk.
-/
import Derived.Test.YtllidfhdklfkmaaLaw16Once
import Derived.Test.YtllidfhdklfkmaaOpenC
namespace Go.Proofs.Ytllidfhdklfkmaa
open Go.RowKit

set_option maxRecDepth 100000 in
set_option maxHeartbeats 8000000 in
theorem schemaPuts_run (w : World) (v0 : Value) (l : List UInt8) (v1 : Value) (L : List Col) (h0 : Sl w v0 l.length (bcs l)) (hb : l.length * 1 ≤ 140737488351232) (h1 : Sl w v1 L.length (L.flatMap colc)) (hL : ∀ c ∈ L, okCol c) (hLb : L.length * 32 ≤ 140737488351232) :
    Calls Try.prog 9 #[v0, v1] w fun e w' => e = .returned (.bool true) ∧ Chg [] w w' := by
  obtain ⟨a0, c0, rfl⟩ := h0.shape
  obtain ⟨a1, c1, rfl⟩ := h1.shape
  have hL' := okCol.wide hL
  have hLm : L.length ≤ maxLen := by unfold maxLen; omega
  go_enter Try.func9, Try.ntmps9
  go_wp2_with fail
  refine (small16_ok w).mono ?_
  rintro e w1 ⟨rfl, g1⟩
  go_wp2_with fail
  refine (few_ok w1 _ L (fun c hc => by have := (hL c hc).1; unfold big; omega) (h1.tr0 g1) hLm).mono ?_
  rintro e w1' ⟨rfl, rfl⟩
  cases hf : fewV L with
  | false =>
    clear hf
    go_wp2
    go_ret
    exact ⟨rfl, g1⟩
  | true =>
    clear hf
    by_cases hl : 300 < l.length
    · go_wp2
      go_ret
      exact ⟨rfl, g1⟩
    go_wp2_with (at_make; refine wpList_make_lc _ rfl _ _ 22 5 1 rfl el_u8 (.int .u8 0) (by kernel_rfl) rfl _ _ l.length (l.length + 40) rfl (by push_cast; rfl) (by omega) (by omega) (by omega) w1.heap.size (Nat.le_refl _) ?_)
    intro w2 o2 g2 hz2
    have s0 := (h0.tr0 g1).tr0 g2
    have hbl : (bcs l).length = l.length := bcs_length l
    go_wp2_with (refine wpList_copy_sl rfl (.tmp 28) (.tmp 29) 22 5 1 rfl el_u8 _ (.slice (some ⟨w1.heap.size, 0, none⟩) l.length (l.length + 40)) _ _ rfl o2 (.slice a0 l.length c0) l.length (bcs l) rfl s0 hbl (Nat.le_refl _) (bcs_one l) ?_)
    intro w3 o3 hg3 hz3
    have g23 : Chg [] w1 w3 := g2.grownOwn hg3 o2 (Nat.le_refl _)
    have g3 := g1.t0 g23
    try rw [List.drop_of_length_le (by simp), List.append_nil] at o3
    clear o2 hg3 s0 hbl g2 hz3 hz2 g23
    go_wp2_with fail
    have sb1 := h1.tr0 g3
    refine (sput_ok w3 _ _ l L hL' (Sl.ofOwns o3) sb1 (by unfold big; omega) hLm).mono ?_
    rintro e w4 ⟨vx, rfl, o4, g4⟩
    have sx := Sl.ofOwns o4
    have ss := (Sl.ofOwns o3).tr0 g4
    have g04 := g3.t0 g4
    have sb := h0.tr0 g04
    replace sb1 := sb1.tr0 g4
    obtain ⟨ax, kx, rfl⟩ := own_shape o4
    have hx500 : (if colsV L = 0 then l ++ putB L else l).length ≤ 9000 := by
      split
      · have := putB_le ‹_›; rw [List.length_append]; omega
      · omega
    have kr : ∀ w, Chg [] w4 w → Calls Try.prog 34 #[.slice a0 l.length c0, .slice a1 L.length c1] w fun e w' => ∃ v, e = .returned v ∧ Chg [] w w' ∧ Sl w' v (if colsV L = 0 then l ++ putB L else l).length (bcs (if colsV L = 0 then l ++ putB L else l)) := fun w g =>
      (rsput_ok w _ _ l L hL' (sb.tr0 g) (sb1.tr0 g) (by unfold big; omega) hLm).mono fun e w' ⟨v, h1, h2, h3⟩ => ⟨v, h1, h3, Sl.ofOwns h2⟩
    generalize (if colsV L = 0 then l ++ putB L else l) = X at *
    clear hL hL' sb1
    go_wp2_with fail
    refine' region_soft 7 [cst _, cst (.string (bstr X)), cst _, cst _, fun v w => Sl w v X.length (bcs X), cst (.string (bstr X)), cst (.bool true)] rfl (by kernel_rfl) (by kernel_rfl) (stays_cons (Stays.cst _) (stays_cons (Stays.cst _) (stays_cons (Stays.cst _) (stays_cons (Stays.cst _) (stays_cons (fun _ _ _ h g => h.tr0 g) (stays_cons (Stays.cst _) (stays_cons (Stays.cst _) stays_nil))))))) _ (fun V => by simp only [putAll, Act.put, List.take_succ_cons, List.take_zero, List.setIfInBounds_toArray, List.set_cons_zero, List.set_cons_succ, Nat.reduceAdd]; exact rfl) ?hs1 ?ht1
    case hs1 =>
      simp only [List.take_succ_cons, List.take_zero, softs]
      refine ⟨?_, ?_, ?_, ?_, ?_, ?_, ?_, trivial⟩
      · intro V w hw hd
        simp [phi, Region.binds, cst] at hd
        try simp only [hd]
        first
          | (refine soft_const rfl ?_; go_simp; done)
          | (refine soft_const rfl ?_; go_simp; exact rfl)
          | (refine soft_str rfl _ _ _ rfl _ rfl _ Try.underlying22 Try.underlying5 Try.underlying9 _ _ ?_ rfl; exact sx.tr0 hw)
          | (refine soft_str rfl _ _ _ rfl _ rfl _ Try.underlying22 Try.underlying5 Try.underlying9 _ _ ?_ rfl; exact hd)
          | (exact soft_skip rfl)
      · intro V w hw hd
        simp [phi, Region.binds, cst] at hd
        try simp only [hd]
        first
          | (refine soft_const rfl ?_; go_simp; done)
          | (refine soft_const rfl ?_; go_simp; exact rfl)
          | (refine soft_str rfl _ _ _ rfl _ rfl _ Try.underlying22 Try.underlying5 Try.underlying9 _ _ ?_ rfl; exact sx.tr0 hw)
          | (refine soft_str rfl _ _ _ rfl _ rfl _ Try.underlying22 Try.underlying5 Try.underlying9 _ _ ?_ rfl; exact hd)
          | (exact soft_skip rfl)
      · intro V w hw hd
        simp [phi, Region.binds, cst] at hd
        try simp only [hd]
        first
          | (refine soft_const rfl ?_; go_simp; done)
          | (refine soft_const rfl ?_; go_simp; exact rfl)
          | (refine soft_str rfl _ _ _ rfl _ rfl _ Try.underlying22 Try.underlying5 Try.underlying9 _ _ ?_ rfl; exact sx.tr0 hw)
          | (refine soft_str rfl _ _ _ rfl _ rfl _ Try.underlying22 Try.underlying5 Try.underlying9 _ _ ?_ rfl; exact hd)
          | (exact soft_skip rfl)
      · intro V w hw hd
        simp [phi, Region.binds, cst] at hd
        try simp only [hd]
        first
          | (refine soft_const rfl ?_; go_simp; done)
          | (refine soft_const rfl ?_; go_simp; exact rfl)
          | (refine soft_str rfl _ _ _ rfl _ rfl _ Try.underlying22 Try.underlying5 Try.underlying9 _ _ ?_ rfl; exact sx.tr0 hw)
          | (refine soft_str rfl _ _ _ rfl _ rfl _ Try.underlying22 Try.underlying5 Try.underlying9 _ _ ?_ rfl; exact hd)
          | (exact soft_skip rfl)
      · intro V w hw hd
        simp [phi, Region.binds, cst] at hd
        try simp only [hd]
        refine soft_call rfl _ _ (by go_simp; try exact ⟨rfl, rfl⟩) (kr w hw)
      · intro V w hw hd
        simp [phi, Region.binds, cst] at hd
        try simp only [hd]
        first
          | (refine soft_const rfl ?_; go_simp; done)
          | (refine soft_const rfl ?_; go_simp; exact rfl)
          | (refine soft_str rfl _ _ _ rfl _ rfl _ Try.underlying22 Try.underlying5 Try.underlying9 _ _ ?_ rfl; exact sx.tr0 hw)
          | (refine soft_str rfl _ _ _ rfl _ rfl _ Try.underlying22 Try.underlying5 Try.underlying9 _ _ ?_ rfl; exact hd)
          | (exact soft_skip rfl)
      · intro V w hw hd
        simp [phi, Region.binds, cst] at hd
        try simp only [hd]
        first
          | (refine soft_const rfl ?_; go_simp; done)
          | (refine soft_const rfl ?_; go_simp; exact rfl)
          | (refine soft_str rfl _ _ _ rfl _ rfl _ Try.underlying22 Try.underlying5 Try.underlying9 _ _ ?_ rfl; exact sx.tr0 hw)
          | (refine soft_str rfl _ _ _ rfl _ rfl _ Try.underlying22 Try.underlying5 Try.underlying9 _ _ ?_ rfl; exact hd)
          | (exact soft_skip rfl)
    intro V w5 g5 hk
    have h6 := hk 6 (by decide)
    simp [phi, cst] at h6
    simp only [h6, List.drop_succ_cons, List.drop_zero]
    generalize V 0 = q0
    generalize V 1 = q1
    generalize V 2 = q2
    generalize V 3 = q3
    generalize V 4 = q4
    generalize V 5 = q5
    clear hk h6 V kr sx
    have ox := own_tr o4 g5 (by simp)
    have g05 := g04.t0 g5
    have ss5 := ss.tr0 g5
    have hxlt : ∀ k, (Value.slice ax X.length kx).ownBlock = some k → w3.heap.size ≤ k ∧ k < w4.heap.size := fun k hk => ⟨own_from o4 k hk, (o4.lt k hk).2⟩
    have HX2 : Hid (∀ k, (Value.slice ax X.length kx).ownBlock = some k → w3.heap.size ≤ k ∧ k < w4.heap.size) := hxlt
    have hz3 : w1.heap.size < w3.heap.size := by have := o3.lt w1.heap.size rfl; omega
    have hzz : w.heap.size ≤ w3.heap.size := g3.size
    clear hxlt o4 ss g04 g4 g5 sb o3 g3
    go_wp2_with fail
    go_loopw [10] (fun iv wr => ∃ (k : Nat) (xs : List Value), k ≤ X.length ∧ iv = .int .i64 k ∧ wr.ownsRow w3.heap.size 5 1 (.slice ax X.length kx) X.length xs ∧ Chg (Value.slice ax X.length kx).ownBlock.toList w5 wr) (fun iv _ => X.length - (intOf iv).toNat)
    case atStart => exact ⟨0, _, Nat.zero_le _, rfl, ox, Chg.refl _ _⟩
    case round =>
      obtain ⟨k, xs, hk, rfl, hown, hch⟩ := hrel
      clear ox
      by_cases hlt : k < X.length
      · obtain ⟨hxl, hno⟩ := id hown
        rcases hno with ⟨_, h0⟩ | ⟨g, cap, cur, e, hbg, hg, hnc, hcm, hcs, htk⟩
        · omega
        · cases e
          have hst := hown.stored k (.int .u8 7)
          have hcell := hown.cellAt k (by omega)
          have hfr := hown.frozenAt k
          have hx : xs[k]? = some xs[k] := List.getElem?_eq_getElem (by omega)
          rw [hx] at hcell
          clear hown hx htk hcs hcm hnc
          go_wp2
          go_roundw
          case rel => exact ⟨k + 1, _, by omega, by go_num, hst.1, hch.t1 (Chg.grown hst.2)⟩
          case measure => simp [intOf]; omega
      · have hS : ∀ k ∈ (Value.slice ax X.length kx).ownBlock.toList, w3.heap.size ≤ k ∧ k < w4.heap.size := fun k hk => HX2.out k (by simpa using hk)
        have gr : Chg [] w wr := g05.trans hch (fun k hk => .inr (by have := hS k hk; omega))
        have ssr := ss5.tr hch (fun k hk hm => by
          obtain ⟨_, e⟩ := vblk_slice.1 hk
          have := hS k hm
          simp at e
          omega)
        have sp0 := run_str (P := Try.prog) (dst := 9) Try.underlying22 Try.underlying5 Try.underlying9 ssr rfl
        have b0 := run_str (P := Try.prog) (dst := 9) Try.underlying22 Try.underlying5 Try.underlying9 (h0.tr0 gr) rfl
        clear hown hch hS HX2 ss5 ssr g05
        go_wp2
        go_ret
        exact ⟨rfl, gr⟩
end Go.Proofs.Ytllidfhdklfkmaa
