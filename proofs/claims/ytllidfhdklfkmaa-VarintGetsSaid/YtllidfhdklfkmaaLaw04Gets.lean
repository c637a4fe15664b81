/-
  VarintGets: the walk.
-/
import Derived.Test.YtllidfhdklfkmaaLaw04Small
import Derived.Test.YtllidfhdklfkmaaOpen
import Derived.RegionCalls
import Derived.Deep.RegionWith
namespace Go.Proofs.Ytllidfhdklfkmaa
open Go.RowKit

theorem RCur.drewN {B : Nat} {w : World} {q : Nat} {s : CS} (h : RCur B w q s) (n : Nat) : RCur B (w.drewN n) q s := h.tr (Chg.drewN [] w n) (by simp) (by simp)
theorem Cur.trR {B : Nat} {w w' : World} {p q : Nat} {s s' : CS} (h : Cur w p s) (hc : Chg [q] w w') (hq : RCur B w q s') : Cur w' p s := by
  obtain ⟨v, hh, _⟩ := hq
  obtain ⟨u, hu, _⟩ := id h
  refine h.tr1 hc ?_ hh (by decide)
  rintro rfl
  rw [hh] at hu
  simp at hu
/-- The end of a round: both cursors say the same of themselves. -/
theorem reads_tail {B : Nat} {w : World} {q : Nat} {s : CS} (h : RCur B w q s) : ∃ a c, w.cell? ⟨q, 0, none⟩ = some (.slice a s.l.length c) ∧ w.cell? ⟨q, 1, none⟩ = some (.bool s.bad) := by
  obtain ⟨v, hh, hs, _⟩ := h
  obtain ⟨c0, c1, _, _⟩ := cells2 hh
  obtain ⟨a, c, rfl⟩ := hs.shape
  exact ⟨a, c, c0, c1⟩

set_option maxRecDepth 100000 in
set_option maxHeartbeats 8000000 in
theorem gets_walk (w : World) (v0 v1 : Value) (l : List UInt8) (L : List Int) (hb : l.length ≤ 140737488351232) (hL : ∀ c ∈ L, -9223372036854775808 ≤ c ∧ c ≤ 9223372036854775807) (h0 : Sl w v0 l.length (bcs l)) (h1 : Sl w v1 L.length (ics .i64 L)) :
    Calls Try.prog 7 #[v0, v1] w fun e w' => e = .returned (.bool true) ∧ Chg [] w w' := by
  obtain ⟨a0, c0, rfl⟩ := h0.shape
  obtain ⟨a1, c1, rfl⟩ := h1.shape
  have p5 := h1.cellsOf
  go_enter Try.func7, Try.ntmps7
  go_wp2_with fail
  refine (small04_ok w).mono ?_
  rintro e w1 ⟨rfl, g1⟩
  go_wp2_with fail
  refine (over_ok w1 _ l (h0.tr0 g1) (by unfold big; omega)).mono ?_
  rintro e w3 ⟨p, rfl, hp, c3, g3⟩
  have g13 := g1.t0 g3
  have hp' : w.heap.size ≤ p := Nat.le_trans g1.size hp
  clear g3 g1
  by_cases hl : 500 < l.length
  · go_wp2
    go_ret
    exact ⟨rfl, g13⟩
  by_cases hm : 60 < L.length
  · go_wp2
    go_ret
    exact ⟨rfl, g13⟩
  go_wp2_with fail
  have hal : Chg [] w3 (w3.alloc (.cells #[.slice a0 l.length c0, .bool false] 40)) := Chg.alloc [] w3 _
  have hd : RCur w.heap.size (w3.alloc (.cells #[.slice a0 l.length c0, .bool false] 40)) w3.heap.size ⟨l, false⟩ :=
    ⟨_, heap_alloc_new w3 _, (h0.tr0 g13).tr0 hal, fun k hk => h0.lt k hk, g13.size, (show l.length ≤ big by unfold big; omega), fun h => (by cases h)⟩
  have hpq : p < w3.heap.size := c3.lt
  have hq' : w.heap.size ≤ w3.heap.size := g13.size
  have g14 := g13.t0 hal
  have c4 := c3.tr0 hal
  clear hal g13 c3 h0
  generalize w3.alloc (.cells #[.slice a0 l.length c0, .bool false] 40) = w4 at *
  generalize w3.heap.size = q at *
  clear hp
  go_loopw [8] (fun iv wr => ∃ (k : Nat) (s : CS), k ≤ L.length ∧ iv = .int .i64 k ∧ Cur wr p s ∧ RCur w.heap.size wr q s ∧ Chg [] w wr) (fun iv _ => L.length - (intOf iv).toNat)
  case atStart => exact ⟨0, _, Nat.zero_le _, rfl, c4, hd, g14⟩
  case round =>
    clear c4 hd g14
    obtain ⟨k, s, hk, rfl, hc, hd, hch⟩ := hrel
    by_cases hlt : k < L.length
    · obtain ⟨y, rfl, hcell⟩ := p5 k _ (ics_get .i64 L k hlt)
      obtain ⟨_, e, hcell2⟩ := (h1.tr0 hch).cellsOf k _ (ics_get .i64 L k hlt)
      cases e
      have hbw := World.block_lt_of_cell? _ _ hcell
      have hr := hL _ (List.getElem_mem hlt)
      obtain ⟨hr0, hr1⟩ := hr
      clear hcell
      generalize L[k] = x at *
      by_cases hx : x.tmod 2 = 0
      · go_wp2_with fail
        refine (vget_ok _ p s hc).mono ?_
        rintro e w7 ⟨rfl, c7, g7⟩
        have d7 := hd.tr g7 (by simp; omega) (by simpa using hp')
        go_wp2_with fail
        refine (rget_ok _ _ q s d7).mono ?_
        rintro e w8 ⟨rfl, d8, g8⟩
        have c8 := c7.trR g8 d7
        have g08 := (hch.tn g7 hp').tn g8 hq'
        clear hc hd hch c7 g7 d7 g8 hcell2
        generalize s.vget = R at *
        obtain ⟨n, sX⟩ := R
        dsimp only at *
        obtain ⟨aD, cD, k0, k1⟩ := reads_tail d8
        go_wp2_with fail
        go_quiet ((first | (go_at_call 29; exact Calls.quiet_of_same (left_q _ _ _ (c8.drewN _))) | (go_at_call 30; exact Calls.quiet_of_same (bad_q _ _ _ (c8.drewN _)))))
        go_wp2
        go_roundw
        case rel => exact ⟨k + 1, _, by omega, by go_num, c8.drewN _, d8.drewN _, g08.t0 (Chg.drewN [] _ _)⟩
        case measure => simp [intOf]; omega
      · have hx' : (x.tmod 2 == 0) = false := by simpa using hx
        clear hx
        have hc' := hc.drew
        have hd' := hd.tr (Chg.drew [] wr) (by simp) (by simp)
        have hcell3 : wr.drew.cell? (y.add k) = some (.int .i64 x) := hcell2
        have hyp : (y.add k).block ≠ p := by omega
        have hyq : (y.add k).block ≠ q := by omega
        go_wp2_with fail
        go_region_with (first
          | (go_at_call 27; refine (vlen_ok _ p s x hr0 hr1 hc').mono ?_; rintro e w7 ⟨rfl, c7, g7⟩; have d7 := hd'.tr g7 (by simp; omega) (by simpa using hp'); have hcell7 := g7.cellv hcell3 (by simpa using hyp))
          | (go_at_call 28; refine (rlen_ok _ _ q s x hr0 hr1 d7).mono ?_; rintro e w8 ⟨rfl, d8, g8⟩; have c8 := c7.trR g8 d7; have g08 := ((hch.t0 (Chg.drew [] wr)).tn g7 hp').tn g8 hq'; have hcell8 := g8.cellv hcell7 (by simpa using hyq)))
        all_goals
          clear hc hd hch hc' hd' c7 g7 d7 g8
          generalize s.vlen x = R at *
          obtain ⟨n, sX⟩ := R
          dsimp only at *
          obtain ⟨aD, cD, k0, k1⟩ := reads_tail d8
          go_wp2_with fail
          go_quiet ((first | (go_at_call 29; exact Calls.quiet_of_same (left_q _ _ _ (c8.drewN _))) | (go_at_call 30; exact Calls.quiet_of_same (bad_q _ _ _ (c8.drewN _)))))
          go_wp2
          go_roundw
          case rel => exact ⟨k + 1, _, by omega, by go_num, c8.drewN _, d8.drewN _, g08.t0 (Chg.drewN [] _ _)⟩
          case measure => simp [intOf]; omega
    · go_wp2
      go_ret
      exact ⟨rfl, hch⟩

theorem varintGets_run (W : World) (v0 : Value) (l : List UInt8) (v1 : Value) (L : List Int) (h0 : Sl W v0 l.length (bcs l)) (hb : l.length * 1 ≤ 140737488351232) (h1 : Sl W v1 L.length (ics .i64 L)) (hL : ∀ c ∈ L, -9223372036854775808 ≤ c ∧ c ≤ 9223372036854775807) (_ : L.length * 8 ≤ 140737488351232) :
    Calls Try.prog 7 #[v0, v1] W fun e w' => e = .returned (.bool true) ∧ Chg [] W w' := gets_walk W v0 v1 l L (by omega) hL h0 h1
end Go.Proofs.Ytllidfhdklfkmaa
