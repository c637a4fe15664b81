/-
  CursorReads: what is read, call by call, is what the document's own cursor reads.
-/
import Derived.Test.YtiednighldjojaaRef03
import Derived.Test.YtiednighldjojaaOpen
import Derived.Test.YtiednighldjojaaLaw03Bad
namespace Go.Proofs.Ytiednighldjojaa
open Go.RowKit

theorem RCur.drewN {B : Nat} {w : World} {q : Nat} {s : CS} (h : RCur B w q s) (n : Nat) : RCur B (w.drewN n) q s := h.tr (Chg.drewN [] w n) (by simp) (by simp)

theorem Cur.trR {B : Nat} {w w' : World} {p q : Nat} {s s' : CS} (h : Cur w p s) (hc : Chg [q] w w') (hq : RCur B w q s') : Cur w' p s := by
  obtain ⟨v, hh, _⟩ := hq
  obtain ⟨u, hu, _⟩ := id h
  refine h.tr1 hc ?_ hh (by decide)
  rintro rfl
  rw [hh] at hu
  simp at hu

/-- The end of a round: both cursors say the same of themselves. -/
theorem reads_tail {B : Nat} {w : World} {q : Nat} {s : CS} (h : RCur B w q s) : ∃ a c, w.cell? ⟨q, 0, none⟩ = some (.slice a s.l.length c) ∧ w.cell? ⟨q, 1, none⟩ = some (.bool s.bad) := by
  obtain ⟨v, hh, hs, _⟩ := h
  obtain ⟨c0, c1, _, _⟩ := cells2 hh
  obtain ⟨a, c, rfl⟩ := hs.shape
  exact ⟨a, c, c0, c1⟩

set_option maxRecDepth 100000 in
set_option maxHeartbeats 4000000 in
theorem reads_walk (w : World) (v0 v1 : Value) (l : List UInt8) (L : List (Int × Int)) (hb : l.length ≤ 140737488351232) (hL : ∀ c ∈ L, -9223372036854775808 ≤ c.1 ∧ c.1 ≤ 9223372036854775807) (h0 : Sl w v0 l.length (bcs l)) (h1 : Sl w v1 L.length (L.flatMap ccs)) :
    Calls Try.prog 3 #[v0, v1] w fun e w' => e = .returned (.bool true) ∧ Chg [] w w' := by
  obtain ⟨a0, c0, rfl⟩ := h0.shape
  obtain ⟨a1, c1, rfl⟩ := h1.shape
  go_enter Try.func3, Try.ntmps3
  go_wp2_with fail
  refine (small_ok w).mono ?_
  rintro e w1 ⟨rfl, g1⟩
  go_wp2_with (at_builtin; refine wpList_append_sl _ rfl (.tmp 16) (.tmp 17) 22 5 1 1 rfl el_u8 w1.heap.size _ 0 [] rfl (own_lit w1 #[] 5 0 1 _ (Nat.le_refl _) (Nat.zero_le _) rfl) _ l.length (bcs l) rfl ((h0.tr0 g1).tr0 (Chg.alloc _ _ _)) (by simp [bcs]) (bcs_one l) (by unfold big; omega) (by simp) ?_)
  intro vi w2 o2 hg2
  have c12 : Chg [] w1 w2 := (Chg.alloc [] w1 _).trans (Chg.grown hg2) (by simp [Value.ownBlock])
  have g2 : Chg [] w w2 := g1.t0 c12
  clear hg2
  go_wp2_with fail
  refine (over_full w2 _ l (Sl.ofOwns o2) (by unfold big; omega)).mono ?_
  rintro e w3 ⟨p, rfl, hp, c3, g3, hk3⟩
  have g13 := g2.t0 g3
  have hp' : w.heap.size ≤ p := Nat.le_trans g2.size hp
  obtain ⟨ai, ki, rfl⟩ := own_shape o2
  have oi := own_lower (own_tr o2 g3 (by simp)) g1.size
  have hib : ∀ k, (Value.slice ai l.length ki).ownBlock = some k → w.heap.size ≤ k ∧ k < w2.heap.size := fun k hk => ⟨Nat.le_trans g1.size (own_from o2 k hk), (o2.lt k hk).2⟩
  clear g2 o2 g3 c12
  by_cases hl : 500 < l.length
  · go_wp2
    go_ret
    exact ⟨rfl, g13⟩
  by_cases hm : 60 < L.length
  · go_wp2
    go_ret
    exact ⟨rfl, g13⟩
  go_wp2_with fail
  -- the document's own cursor
  have hal : Chg [] w3 (w3.alloc (.cells #[.slice a0 l.length c0, .bool false] 29)) := Chg.alloc [] w3 _
  have hd : RCur w.heap.size (w3.alloc (.cells #[.slice a0 l.length c0, .bool false] 29)) w3.heap.size ⟨l, false⟩ :=
    ⟨_, heap_alloc_new w3 _, (h0.tr0 g13).tr0 hal, fun k hk => h0.lt k hk, g13.size, (show l.length ≤ big by unfold big; omega), fun h => (by cases h)⟩
  have hpq : p < w3.heap.size := c3.lt
  have oi' := own_tr oi hal (by simp)
  have g14 := g13.t0 hal
  have c4 := c3.tr0 hal
  have hk4 := hk3.tr hal (by simp)
  clear hk3 hal g13 oi c3
  generalize w3.alloc (.cells #[.slice a0 l.length c0, .bool false] 29) = w4 at *
  have hg2 : ∀ k, (Value.slice ai l.length ki).ownBlock = some k → k < w3.heap.size := fun k hk => Nat.lt_of_lt_of_le (hib k hk).2 (Nat.le_of_lt (Nat.lt_of_le_of_lt hp hpq))
  generalize w3.heap.size = q at *
  have HB : Hid (∀ k, (Value.slice ai l.length ki).ownBlock = some k → w.heap.size ≤ k ∧ k < w2.heap.size) := hib
  have HK : Hid (Left w4 p (fun k => w2.heap.size ≤ k)) := hk4
  have HQ : Hid (∀ k, (Value.slice ai l.length ki).ownBlock = some k → k < q) := hg2
  clear hib hk4 hg2
  go_loopw [9] (fun iv wr => ∃ (k : Nat) (xs : List Value), k ≤ l.length ∧ iv = .int .i64 k ∧ wr.ownsRow w.heap.size 5 1 (.slice ai l.length ki) l.length xs ∧ Chg (Value.slice ai l.length ki).ownBlock.toList w4 wr) (fun iv _ => l.length - (intOf iv).toNat)
  case atStart => exact ⟨0, _, Nat.zero_le _, rfl, oi', Chg.refl _ _⟩
  case round =>
    obtain ⟨k, xs, hk, rfl, hown, hch⟩ := hrel
    clear oi'
    by_cases hlt : k < l.length
    · obtain ⟨hxl, hno⟩ := id hown
      rcases hno with ⟨_, h0⟩ | ⟨g, cap, cur, e, hbg, hg, hnc, hcm, hcs, htk⟩
      · omega
      · cases e
        have hst := hown.stored k (.int .u8 7)
        have hcell := hown.cellAt k (by omega)
        have hfr := hown.frozenAt k
        have hx : xs[k]? = some xs[k] := List.getElem?_eq_getElem (by omega)
        rw [hx] at hcell
        clear hown hx htk hcs hcm hnc
        go_wp2
        go_roundw
        case rel => exact ⟨k + 1, _, by omega, by go_num, hst.1, hch.t1 (Chg.grown hst.2)⟩
        case measure => simp [intOf]; omega
    · have hcur : Cur wr p ⟨l, false⟩ := c4.trL HK.out hch (fun hm => by have := (HB.out p (by simpa using hm)).2; omega) (fun k hk => Nat.not_le.2 (HB.out k (by simpa using hk)).2)
      have hrc : RCur w.heap.size wr q ⟨l, false⟩ := hd.tr hch (fun hm => Nat.lt_irrefl _ (HQ.out q (by simpa using hm))) (fun k hk => (HB.out k (by simpa using hk)).1)
      have hgr : Chg [] w wr := g14.trans hch (fun k hk => .inr (HB.out k (by simpa using hk)).1)
      clear hown hch hd g14 c4
      go_wp2_with fail
      go_loopw [10] (fun iv wr => ∃ (k : Nat) (s : CS), k ≤ L.length ∧ iv = .int .i64 k ∧ Cur wr p s ∧ RCur w.heap.size wr q s ∧ Chg [] w wr) (fun iv _ => L.length - (intOf iv).toNat)
      case atStart => exact ⟨0, _, Nat.zero_le _, rfl, hcur, hrc, hgr⟩
      case round =>
        clear hcur hrc hgr
        rename_i wq
        obtain ⟨k, s, hk, rfl, hc, hd, hch⟩ := hrel
        by_cases hlt : k < L.length
        · obtain ⟨b, off, c, e, hbl, hc1, hc2⟩ := calls_cells (h1.tr0 hch) k hlt
          cases e
          have hbw : b < w.heap.size := by obtain ⟨b', off', c', e', hb', _⟩ := calls_cells h1 k hlt; cases e'; exact hb'
          have hr := hL _ (List.getElem_mem hlt)
          have hn1 : s.num 1 < 256 := CS.num_lt s 1
          have hn4 : s.num 4 < 4294967296 := CS.num_lt s 4
          have hn8 : s.num 8 < 18446744073709551616 := CS.num_lt s 8
          have hq' : w.heap.size ≤ q := by omega
          generalize L[k].1 = x at *
          generalize L[k].2 = y at *
          by_cases hx3 : x.tmod 6 = 3
          · go_wp2_with fail
            refine (take_full _ p s y hc).mono ?_
            rintro e w7 ⟨v7, rfl, o7, c7, g7, k7⟩
            have d7 := hd.tr g7 (by simp; omega) (by simpa using hp')
            obtain ⟨ax, kx, rfl⟩ := own_shape o7
            have hc27 := g7.cellv hc2 (by simp; omega)
            go_wp2_with fail
            refine (rtake_ok _ _ q s y d7).mono ?_
            rintro e w8 ⟨v8, rfl, o8, d8, g8⟩
            have g08 := (hch.tn g7 hp').tn g8 hq'
            have hst1 := run_str (dst := 9) Try.underlying22 Try.underlying5 Try.underlying9 ((Sl.ofOwns o7).tr1 g8 (own_ne o7 hd.lt)) rfl
            have hst2 := run_str (dst := 9) Try.underlying22 Try.underlying5 Try.underlying9 (Sl.ofOwns o8) rfl
            go_wp2_with fail
            have ox := own_tr o7 g8 (by have := hd.lt; simpa using this)
            have c8 := c7.trR g8 d7
            have k8 := k7.tr g8 (by simp; omega)
            have hpw := hc.lt
            have hsl := hc.len
            have hqw := hd.lt
            clear hst1 hst2 o8 o7 c7 d7 g8 g7 k7 hc27 hd hc
            obtain ⟨wo, rfl⟩ : ∃ wo : World, wo = wr := ⟨_, rfl⟩
            go_loopw [14] (fun iv wx => ∃ (j : Nat) (xs : List Value), j ≤ (s.took y).length ∧ iv = .int .i64 j ∧ wx.ownsRow wo.heap.size 5 1 (.slice ax (s.took y).length kx) (s.took y).length xs ∧ Chg (Value.slice ax (s.took y).length kx).ownBlock.toList w8 wx) (fun iv _ => (s.took y).length - (intOf iv).toNat)
            case atStart => exact ⟨0, _, Nat.zero_le _, rfl, ox, Chg.refl _ _⟩
            case round =>
              obtain ⟨j, xs, hj, rfl, hown, hchx⟩ := hrel
              clear ox
              have hlen : (s.took y).length ≤ 140737488355328 := by
                have hh : (s.took y).length ≤ s.l.length := by unfold CS.took; split <;> simp; omega
                unfold big at hsl
                omega
              by_cases hjt : j < (s.took y).length
              · obtain ⟨hxl, hno⟩ := id hown
                rcases hno with ⟨_, h0⟩ | ⟨g, cap, cur, e, hbg, hg, hnc, hcm, hcs, htk⟩
                · omega
                · cases e
                  have hst := hown.stored j (.int .u8 9)
                  have hcell := hown.cellAt j (by omega)
                  have hfr := hown.frozenAt j
                  have hx : xs[j]? = some xs[j] := List.getElem?_eq_getElem (by omega)
                  rw [hx] at hcell
                  clear hown hx htk hcs hcm hnc
                  go_wp2
                  go_roundw
                  case rel => exact ⟨j + 1, _, by omega, by go_num, hst.1, hchx.t1 (Chg.grown hst.2)⟩
                  case measure => simp [intOf]; omega
              · have hfr := own_from hown
                have hfr' : ∀ k ∈ (Value.slice ax (s.took y).length kx).ownBlock.toList, wo.heap.size ≤ k := fun k hk => hfr k (by simpa using hk)
                have cX := c8.trL k8 hchx (fun hm => by have := hfr' p hm; omega) (fun k hk => Nat.not_lt.2 (hfr' k hk))
                have dX := d8.tr hchx (fun hm => by have := hfr' q hm; omega) (fun k hk => by have := hfr' k hk; have := hch.size; omega)
                have gX := g08.trans hchx (fun k hk => .inr (by have := hfr' k hk; have := hch.size; omega))
                clear hown hchx c8 k8 d8 hfr hfr' g08
                obtain ⟨aD, cD, k0, k1⟩ := reads_tail dX
                go_wp2_with fail
                go_quiet ((first | (go_at_call 19; exact Calls.quiet_of_same (left_q _ _ _ (cX.drewN _))) | (go_at_call 20; exact Calls.quiet_of_same (bad_q _ _ _ (cX.drewN _))) | (go_at_call 21; exact Calls.quiet_of_same (end_q _ _ _ (cX.drewN _))) | (go_at_call 22; exact Calls.quiet_of_same (rend_q _ _ _ _ (dX.drewN _)))))
                go_wp2
                go_roundw
                case rel => exact ⟨k + 1, _, by omega, by go_num, cX.drewN _, dX.drewN _, gX.t0 (Chg.drewN [] _ _)⟩
                case measure => simp [intOf]; omega
          have hx3' : (x.tmod 6 == 3) = false := by simpa using hx3
          clear hx3
          go_wp2_with (first
            | (go_at_call 11; refine (byte_ok _ p s hc).mono ?_; rintro e w7 ⟨rfl, c7, g7⟩; have d7 := hd.tr g7 (by simp; omega) (by simpa using hp'))
            | (go_at_call 13; refine (u32_ok _ p s hc).mono ?_; rintro e w7 ⟨rfl, c7, g7⟩; have d7 := hd.tr g7 (by simp; omega) (by simpa using hp'))
            | (go_at_call 14; refine (u64_ok _ p s hc).mono ?_; rintro e w7 ⟨rfl, c7, g7⟩; have d7 := hd.tr g7 (by simp; omega) (by simpa using hp'))
            | (go_at_call 17; refine (fail_ok _ p s hc).mono ?_; rintro e w7 ⟨rfl, c7, g7⟩; have d7 := hd.tr g7 (by simp; omega) (by simpa using hp'))
            | (go_at_call 12; (with_reducible refine (rnum1_ok _ _ q s d7).mono ?_); rintro e w8 ⟨rfl, d8, g8⟩; have c8 := c7.trR g8 d7; have g08 := (hch.tn g7 hp').tn g8 hq')
            | (go_at_call 12; (with_reducible refine (rnum4_ok _ _ q s d7).mono ?_); rintro e w8 ⟨rfl, d8, g8⟩; have c8 := c7.trR g8 d7; have g08 := (hch.tn g7 hp').tn g8 hq')
            | (go_at_call 12; (with_reducible refine (rnum8_ok _ _ q s d7).mono ?_); rintro e w8 ⟨rfl, d8, g8⟩; have c8 := c7.trR g8 d7; have g08 := (hch.tn g7 hp').tn g8 hq')
            | (go_at_call 18; refine (rfail_ok _ _ q s d7).mono ?_; rintro e w8 ⟨rfl, d8, g8⟩; have c8 := c7.trR g8 d7; have g08 := (hch.tn g7 hp').tn g8 hq'))
          all_goals
              (first | have hX := And.intro c8 (And.intro d8 g08) | have hX := And.intro hc (And.intro hd hch))
              obtain ⟨cX, dX, gX⟩ := hX
              obtain ⟨aD, cD, k0, k1⟩ := reads_tail dX
              go_quiet ((first | (go_at_call 19; exact Calls.quiet_of_same (left_q _ _ _ (cX.drewN _))) | (go_at_call 20; exact Calls.quiet_of_same (bad_q _ _ _ (cX.drewN _))) | (go_at_call 21; exact Calls.quiet_of_same (end_q _ _ _ (cX.drewN _))) | (go_at_call 22; exact Calls.quiet_of_same (rend_q _ _ _ _ (dX.drewN _)))))
              go_wp2
              go_roundw
              case rel => exact ⟨k + 1, _, by omega, by go_num, cX.drewN _, dX.drewN _, gX.t0 (Chg.drewN [] _ _)⟩
              case measure => simp [intOf]; omega
        · go_wp2
          go_ret
          exact ⟨rfl, hch⟩

theorem cursorReads_run (w : World) (v0 : Value) (l : List UInt8) (v1 : Value) (L : List (Int × Int)) (h0 : Sl w v0 l.length (bcs l)) (hb : l.length * 1 ≤ 140737488351232) (h1 : Sl w v1 L.length (L.flatMap ccs)) (hL : ∀ c ∈ L, -9223372036854775808 ≤ c.1 ∧ c.1 ≤ 9223372036854775807 ∧ -9223372036854775808 ≤ c.2 ∧ c.2 ≤ 9223372036854775807) (_ : L.length * 16 ≤ 140737488351232) :
    Calls Try.prog 3 #[v0, v1] w fun e w' => e = .returned (.bool true) ∧ Chg [] w w' :=
  reads_walk w v0 v1 l L (by omega) (fun c hc => ⟨(hL c hc).1, (hL c hc).2.1⟩) h0 h1

end Go.Proofs.Ytiednighldjojaa
