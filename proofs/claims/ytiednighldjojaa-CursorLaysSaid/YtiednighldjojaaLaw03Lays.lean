/-
  CursorLays: what is laid is what the document lays.
-/
import Derived.Test.YtiednighldjojaaRef03
import Derived.Test.YtiednighldjojaaOpen
import Derived.Deep.DeepCutAuto
namespace Go.Proofs.Ytiednighldjojaa
open Go.RowKit

set_option maxRecDepth 100000 in
set_option maxHeartbeats 40000000 in
theorem lays_walk (w : World) (v0 : Value) (l : List UInt8) (N M : Nat) (hN : N < 2 ^ 32) (hM : M < 2 ^ 64) (h0 : Sl w v0 l.length (bcs l)) :
    Calls Try.prog 4 #[v0, .int .u32 N, .int .u64 M] w fun e w' => e = .returned (.bool true) ∧ Chg [] w w' := by
  obtain ⟨a0, c0, rfl⟩ := h0.shape
  go_enter Try.func4, Try.ntmps4
  go_wp2_with fail
  refine (small_ok w).mono ?_
  rintro e w1 ⟨rfl, g1⟩
  by_cases hl : 500 < l.length
  · go_wp2
    go_ret
    exact ⟨rfl, g1⟩
  go_wp2_with (at_make; refine wpList_make_lc _ rfl _ _ 22 5 1 rfl el_u8 (.int .u8 0) (by kernel_rfl) rfl _ _ l.length (l.length + 20) rfl (by push_cast; rfl) (by omega) (by omega) (by omega) w1.heap.size (Nat.le_refl _) ?_)
  intro w2 o2 g2 hz2
  have s0 := (h0.tr0 g1).tr0 g2
  have hbl : (bcs l).length = l.length := bcs_length l
  go_wp2_with (refine wpList_copy_sl rfl (.tmp 24) (.tmp 25) 22 5 1 rfl el_u8 _ (.slice (some ⟨w1.heap.size, 0, none⟩) l.length (l.length + 20)) _ _ rfl o2 (.slice a0 l.length c0) l.length (bcs l) rfl s0 hbl (Nat.le_refl _) (bcs_one l) ?_)
  intro w3 o3 hg3 hz3
  have g23 : Chg [] w1 w3 := g2.grownOwn hg3 o2 (Nat.le_refl _)
  have g3 := g1.t0 g23
  clear o2 hg3 s0 hbl g2 hz3 hz2
  go_wp2_with fail
  refine (putU32_ok w3 _ l N (Sl.ofOwns o3) (by unfold big; omega)).mono ?_
  rintro e w4 ⟨vx, rfl, o4, g4⟩
  go_wp2_with fail
  refine (putU64_ok w4 _ l M ((Sl.ofOwns o3).tr0 g4) (by unfold big; omega)).mono ?_
  rintro e w5 ⟨vy, rfl, o5, g5⟩
  have sx := (Sl.ofOwns o4).tr0 g5
  have sy := Sl.ofOwns o5
  have ss := ((Sl.ofOwns o3).tr0 g4).tr0 g5
  have ox := own_tr o4 g5 (by simp)
  have g05 := (g3.t0 g4).t0 g5
  obtain ⟨ax, kx, rfl⟩ := own_shape o4
  go_wp2_with fail
  have HX : Hid (∀ w', Chg [] w5 w' → (convert 22 9 (.slice ax (l.length + 4) kx)).run Try.prog w' = .ok (.string (bstr (l ++ lowb N 4))) w') := fun w' g => run_str Try.underlying22 Try.underlying5 Try.underlying9 (sx.tr0 g) (by simp [lowb_length])
  have HY : Hid (∀ w', Chg [] w5 w' → (convert 22 9 vy).run Try.prog w' = .ok (.string (bstr (l ++ lowb M 8))) w') := fun w' g => run_str Try.underlying22 Try.underlying5 Try.underlying9 (sy.tr0 g) (by simp [lowb_length])
  have HB : Hid (∀ w', Chg [] w5 w' → Sl w' (.slice a0 l.length c0) l.length (bcs l)) := fun w' g => h0.tr0 (g05.t0 g)
  have x0 := HX.out w5.drew (Chg.drew [] _)
  have y0 := HY.out w5.drew (Chg.drew [] _)
  have hb : l.length + 8 ≤ big := by unfold big; omega
  have hwN : IntKind.u64.wrap (N : Int) = N := wraps_u64 _ (by omega) (by omega)
  have hxlt := o4.lt
  have hyge := own_from o5
  clear sx o4 o5
  go_cut [11] (fun s wx => s = .bool true ∧ Chg [] w5 wx)
  case first =>
   go_region_with (first
    | (go_at_call 25; (with_reducible refine (low4_ok w5.drew _ l N (by omega) (HB.out _ (Chg.drew [] _)) hb).mono ?_); rintro e w6 ⟨v6, rfl, o6, g6⟩; have g6' := (Chg.drew [] w5).t0 g6; have z6 := run_str (dst := 9) Try.underlying22 Try.underlying5 Try.underlying9 (Sl.ofOwns o6) (by simp [lowb_length]); have x6 := HX.out w6 g6'; have y6 := HY.out w6 g6')
    | (go_at_call 25; (with_reducible refine (low8_ok w6 _ l M hM (HB.out _ g6') hb).mono ?_); rintro e w7 ⟨v7, rfl, o7, g7⟩; have g7' := g6'.t0 g7; have z7 := run_str (dst := 9) Try.underlying22 Try.underlying5 Try.underlying9 (Sl.ofOwns o7) (by simp [lowb_length]); have x7 := HX.out w7 g7'; have y7 := HY.out w7 g7'))
   all_goals (go_wp2_with fail; go_meet; exact ⟨rfl, g7'⟩)
  case rest =>
    obtain ⟨rfl, g5c⟩ := hcut
    go_wp2_with fail
    have oxc := own_tr ox g5c (by simp)
    have gwc := g05.t0 g5c
    have HX2 : Hid (∀ k, (Value.slice ax (l.length + 4) kx).ownBlock = some k → w3.heap.size ≤ k ∧ k < w4.heap.size) := hxlt
    have HY2 : Hid (∀ k, vy.ownBlock = some k → w4.heap.size ≤ k) := hyge
    have syc := sy.tr0 g5c
    have ssc := ss.tr0 g5c
    have hbc := HB.out wc g5c
    have hz3 : w1.heap.size < w3.heap.size := by have := o3.lt w1.heap.size rfl; omega
    have hzz : w.heap.size ≤ w3.heap.size := g3.size
    clear hxlt hyge x0 y0 ox sy ss HX HY HB o3
    go_loopw [12] (fun iv wr => ∃ (k : Nat) (xs : List Value), k ≤ l.length + 4 ∧ iv = .int .i64 k ∧ wr.ownsRow w3.heap.size 5 1 (.slice ax (l.length + 4) kx) (l.length + 4) xs ∧ Chg (Value.slice ax (l.length + 4) kx).ownBlock.toList wc wr) (fun iv _ => l.length + 4 - (intOf iv).toNat)
    case atStart => exact ⟨0, _, Nat.zero_le _, rfl, oxc, Chg.refl _ _⟩
    case round =>
      obtain ⟨k, xs, hk, rfl, hown, hch⟩ := hrel
      clear oxc
      by_cases hlt : k < l.length + 4
      · obtain ⟨hxl, hno⟩ := id hown
        rcases hno with ⟨_, h0⟩ | ⟨g, cap, cur, e, hbg, hg, hnc, hcm, hcs, htk⟩
        · omega
        · cases e
          have hst := hown.stored k (.int .u8 7)
          have hcell := hown.cellAt k (by omega)
          have hfr := hown.frozenAt k
          have hx : xs[k]? = some xs[k] := List.getElem?_eq_getElem (by omega)
          rw [hx] at hcell
          clear hown hx htk hcs hcm hnc
          go_wp2
          go_roundw
          case rel => exact ⟨k + 1, _, by omega, by go_num, hst.1, hch.t1 (Chg.grown hst.2)⟩
          case measure => simp [intOf]; omega
      · have hS : ∀ k ∈ (Value.slice ax (l.length + 4) kx).ownBlock.toList, w3.heap.size ≤ k ∧ k < w4.heap.size := fun k hk => HX2.out k (by simpa using hk)
        have gr : Chg [] w wr := gwc.trans hch (fun k hk => .inr (by have := hS k hk; omega))
        have syr := syc.tr hch (fun k hk hm => by have := HY2.out k (vblk_own hk); have := hS k hm; omega)
        have ssr := ssc.tr hch (fun k hk hm => by
          obtain ⟨_, e⟩ := vblk_slice.1 hk
          have := hS k hm
          simp at e
          omega)
        have HY : Hid (∀ w', Chg [] wr w' → (convert 22 9 vy).run Try.prog w' = .ok (.string (bstr (l ++ lowb M 8))) w') := fun w' g => run_str Try.underlying22 Try.underlying5 Try.underlying9 (syr.tr0 g) (by simp [lowb_length])
        have HB : Hid (∀ w', Chg [] wr w' → Sl w' (.slice a0 l.length c0) l.length (bcs l)) := fun w' g => h0.tr0 (gr.t0 g)
        have y0 := HY.out (wr.drew) (Chg.drew [] _)
        have sp0 := run_str (P := Try.prog) (dst := 9) Try.underlying22 Try.underlying5 Try.underlying9 (ssr.tr0 (Chg.drew [] _)) rfl
        have b0 := run_str (P := Try.prog) (dst := 9) Try.underlying22 Try.underlying5 Try.underlying9 (HB.out wr.drew (Chg.drew [] _)) rfl
        clear hown hch syr ssr syc ssc hbc hS HX2 HY2
        go_wp2_with fail
        go_region_with (
          (go_at_call 25; (with_reducible refine (low8_ok _ _ l M hM (HB.out _ (Chg.drew [] _)) hb).mono ?_); rintro e w6 ⟨v6, rfl, o6, g6⟩; have g6' := (Chg.drew [] wr).t0 g6; have z6 := run_str (P := Try.prog) (dst := 9) Try.underlying22 Try.underlying5 Try.underlying9 (Sl.ofOwns o6) (by simp [lowb_length]); have y6 := HY.out w6 g6'))
        all_goals
          go_wp2
          go_ret
          exact ⟨rfl, gr.t0 g6'⟩

theorem cursorLays_run (w : World) (v0 : Value) (l : List UInt8) (a b : Int) (h0 : Sl w v0 l.length (bcs l)) (_ : l.length * 1 ≤ 140737488351232) (ha : (Lit.int .u32 a).wf = true) (hb : (Lit.int .u64 b).wf = true) :
    Calls Try.prog 4 #[v0, .int .u32 a, .int .u64 b] w fun e w' => e = .returned (.bool true) ∧ Chg [] w w' := by
  obtain ⟨N, rfl, hN⟩ := u32_wf ha
  obtain ⟨M, rfl, hM⟩ := u64_wf hb
  exact lays_walk w v0 l N M hN hM h0

end Go.Proofs.Ytiednighldjojaa
