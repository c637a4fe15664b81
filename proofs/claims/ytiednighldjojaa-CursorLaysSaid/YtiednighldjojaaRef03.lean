/-
  The contracts of the document's own cursor (package hypostyleref03).
-/
import Derived.Test.YtiednighldjojaaCursor
namespace Go.Proofs.Ytiednighldjojaa
open Go.RowKit

/-- The document's cursor at block q holds s; its bytes lie below block B. -/
def RCur (B : Nat) (w : World) (q : Nat) (s : CS) : Prop :=
  ∃ v, w.heap[q]? = some (.cells #[v, .bool s.bad] 29 (0, 0)) ∧ Sl w v s.l.length (bcs s.l) ∧ (∀ k, vblk v = some k → k < B) ∧ B ≤ q ∧ s.l.length ≤ big ∧ (s.bad = true → s.l = [])
theorem RCur.lt {B : Nat} {w : World} {q : Nat} {s : CS} (h : RCur B w q s) : q < w.heap.size := by
  obtain ⟨v, h, _⟩ := h; exact lt_of_heap h
theorem RCur.tr {B : Nat} {w w' : World} {q : Nat} {s : CS} {S : List Nat} (h : RCur B w q s) (hc : Chg S w w') (hq : q ∉ S) (hS : ∀ k ∈ S, B ≤ k) : RCur B w' q s := by
  obtain ⟨v, h1, h2, h3, h4⟩ := h
  exact ⟨v, hc.heap h1 hq, h2.tr hc (fun k hk hm => by have := h3 k hk; have := hS k hm; omega), h3, h4⟩

theorem rfail_ok (B : Nat) (w : World) (p : Nat) (s : CS) (hc : RCur B w p s) :
    Calls Try.prog 18 #[.pointer (some ⟨p, 0, none⟩)] w fun e w' => e = .returned (.tuple #[]) ∧ RCur B w' p CS.fail ∧ Chg [p] w w' := by
  obtain ⟨v, hh, hs, hv, hB, hl, hb⟩ := hc
  obtain ⟨c0, c1, f0, f1⟩ := cells2 hh
  clear hs hv hb hl
  go_enter Try.func18, Try.ntmps18
  go_wp2
  go_end0
  refine ⟨rfl, ⟨.slice none 0 0, ?_, Sl.nil _, by simp [vblk], hB, by simp [CS.fail, big], fun _ => rfl⟩, (Chg.setCellS w ⟨p, 0, none⟩ _ (by simp)).trans (Chg.setCell _ ⟨p, 1, none⟩ _) (by simp)⟩
  rw [heap_setCell_same _ p 1 _ _ _ (heap_setCell_same _ p 0 _ _ _ hh)]
  rfl

theorem rend_ok (B : Nat) (w : World) (p : Nat) (s : CS) (hc : RCur B w p s) :
    Calls Try.prog 22 #[.pointer (some ⟨p, 0, none⟩)] w fun e w' => e = .returned (.bool s.done) ∧ w = w' := by
  obtain ⟨v, hh, hs, hv, hB, hl, hb⟩ := hc
  obtain ⟨c0, c1, f0, f1⟩ := cells2 hh
  obtain ⟨a, c, rfl, _⟩ := hs
  clear hv hb hl hh
  obtain ⟨l, bad⟩ := s
  dsimp only at *
  cases bad
  · cases l with
    | nil =>
      go_enter Try.func22, Try.ntmps22
      go_wp2
      go_ret
      exact ⟨rfl, rfl⟩
    | cons x l =>
      go_enter Try.func22, Try.ntmps22
      go_wp2
      go_ret
      exact ⟨rfl, rfl⟩
  · go_enter Try.func22, Try.ntmps22
    go_wp2
    go_ret
    exact ⟨rfl, rfl⟩

theorem rend_q (B : Nat) (w : World) (p : Nat) (s : CS) (hc : RCur B w p s) :
    Calls Try.prog 22 #[.pointer (some ⟨p, 0, none⟩)] w fun e w' => e = .returned (.bool s.done) ∧ w' = w := (rend_ok B w p s hc).mono fun _ _ ⟨h1, h2⟩ => ⟨h1, h2.symm⟩

theorem rtake_end {B : Nat} {w w1 : World} {p n : Nat} {vl v' X : Value} {l l' : List UInt8} {k : Nat} (hh : w.heap[p]? = some (.cells #[vl, .bool false] 29 (0, 0))) (hg : Chg [] w w1)
    (hown : w1.ownsRow w.heap.size 5 1 v' (l.take k).length (bcs (l.take k))) (hn : n = (l.take k).length)
    (hX : Sl w X l'.length (bcs l')) (hb : ∀ k, vblk X = some k → k < B) (hB : B ≤ p) (hl : l'.length ≤ big) :
    ∃ u, Ending.returned v' = .returned u ∧ (w1.setCell ⟨p, 0, none⟩ X).ownsRow w.heap.size 5 1 u n (bcs (l.take k)) ∧ RCur B (w1.setCell ⟨p, 0, none⟩ X) p ⟨l', false⟩ ∧ Chg [p] w (w1.setCell ⟨p, 0, none⟩ X) := by
  have hp : p < w.heap.size := lt_of_heap hh
  have hh1 := hg.heap hh (by simp)
  have c1 := Chg.setCell w1 ⟨p, 0, none⟩ X
  subst hn
  refine ⟨v', rfl, own_tr hown c1 (by simpa using hp), ⟨X, ?_, (hX.tr0 hg).tr c1 (fun k hk hm => ?_), hb, hB, hl, fun h => (by cases h)⟩, hg.of0.trans c1 (by simp)⟩
  · rw [heap_setCell_same _ p 0 _ _ _ hh1]; rfl
  · obtain rfl : k = p := by simpa using hm
    have := hb k hk; omega

theorem rtake_ok (B : Nat) (w : World) (p : Nat) (s : CS) (n : Int) (hc : RCur B w p s) :
    Calls Try.prog 16 #[.pointer (some ⟨p, 0, none⟩), .int .i64 n] w fun e w' =>
      ∃ v', e = .returned v' ∧ w'.ownsRow w.heap.size 5 1 v' (s.took n).length (bcs (s.took n)) ∧ RCur B w' p (s.then n) ∧ Chg [p] w w' := by
  have hc0 := hc
  obtain ⟨v, hh, hs, hv, hB, hl, hb⟩ := hc
  obtain ⟨c0, c1, f0, f1⟩ := cells2 hh
  have hs0 := hs
  obtain ⟨a, c, rfl, q1, q2, q3, q4, q6, q5⟩ := hs
  by_cases ho : s.off n
  · rw [CS.took_off ho, CS.then_off ho]
    unfold CS.off at ho
    clear hb hv hs0 q3 q4 q5 q6 hh
    go_enter Try.func16, Try.ntmps16
    go_wp2_with fail
    all_goals first
      | (go_at_call 18; refine (rfail_ok B w p s hc0).mono ?_; rintro e w1 ⟨rfl, hc1, hg1⟩; go_wp2; go_ret; exact ⟨_, rfl, World.ownsRow_nil _ _ _ _, hc1, hg1⟩)
      | (exfalso; rcases ho with h | h | h <;> simp_all <;> omega)
  · rw [CS.took_on ho, CS.then_on ho]
    unfold CS.off at ho
    simp only [not_or, Bool.not_eq_true] at ho
    obtain ⟨o1, o2, o3⟩ := ho
    obtain ⟨k, rfl⟩ : ∃ k : Nat, n = k := ⟨n.toNat, by omega⟩
    obtain ⟨l, bad⟩ := s
    dsimp only at *
    subst o1
    have hk : k ≤ l.length := by omega
    have hsk : Sl w (.slice a k c) k (bcs (l.take k)) := by
      have h := hs0.take hk k
      simpa [bcs, List.map_take] using h
    have hlk : (l.take k).length = k := by simp; omega
    have HK : Hid ((l.take k).length = k) := hlk
    have hlen : (l.drop k).length = l.length - k := by simp
    have HL : Hid ((l.drop k).length = l.length - k) := hlen
    unfold maxLen at q2
    unfold big at hl
    clear q3 q4 q5 q6 o2 o3 hlen hlk
    simp only [Int.toNat_natCast]
    have hcell0 : (w.alloc (.cells #[] 5)).cell? ⟨p, 0, none⟩ = w.cell? ⟨p, 0, none⟩ := World.cell?_alloc_lt w _ _ (lt_of_heap hh)
    go_enter Try.func16, Try.ntmps16
    go_wp2_with (at_builtin; refine wpList_append_sl _ rfl (.tmp 25) (.tmp 31) 22 5 1 1 rfl el_u8 w.heap.size _ 0 [] rfl (own_lit w #[] 5 0 1 _ (Nat.le_refl _) (Nat.zero_le _) rfl) _ k (bcs (l.take k)) rfl (hsk.tr0 (Chg.alloc _ _ _)) (by simp [bcs]; omega) (bcs_one _) (by unfold big; omega) (by simp) ?_)
    intro v' w1 hown hg'
    have hg : Chg [] w w1 := (Chg.alloc [] w _).trans (Chg.grown hg') (by simp [Value.ownBlock])
    have hown1 : w1.ownsRow w.heap.size 5 1 v' (l.take k).length (bcs (l.take k)) := by
      rw [HK.out]; simpa using hown
    clear hg' hown hcell0
    have hh1 := hg.heap hh (by simp)
    obtain ⟨c0', c1', f0', f1'⟩ := cells2 hh1
    go_wp2
    · go_ret
      exact rtake_end hh hg hown1 (by simp; omega) (by have h := hs0.dropE hk ‹_› 1 (by simp [bcs]); rw [HL.out]; simpa [bcs, List.map_drop] using h) (by intro j hj; simp [vblk] at hj) hB (by rw [HL.out]; unfold big; omega)
    · go_ret
      exact rtake_end hh hg hown1 (by simp; omega) (by have h := hs0.dropN hk ‹_› 1; rw [HL.out]; simpa [bcs, List.map_drop] using h) (by intro j hj; exact hv j (vblk_drop (Nat.sub_le _ _) hj)) hB (by rw [HL.out]; unfold big; omega)

theorem lenum_drop (l : List UInt8) (j : Nat) (h : j < l.length) : lenum (l.drop j) = l[j].toNat + 256 * lenum (l.drop (j + 1)) := by
  rw [List.drop_eq_getElem_cons h, lenum]

theorem rnum_ok (B : Nat) (w : World) (p : Nat) (s : CS) (n : Nat) (hn : n ≤ 8) (hc : RCur B w p s) :
    Calls Try.prog 12 #[.pointer (some ⟨p, 0, none⟩), .int .i64 n] w fun e w' => e = .returned (.int .u64 (s.num n : Nat)) ∧ RCur B w' p (s.then n) ∧ Chg [p] w w' := by
  go_enter Try.func12, Try.ntmps12
  go_wp2_with fail
  refine (rtake_ok B w p s n hc).mono ?_
  rintro e w1 ⟨v', rfl, hown, hc1, hg⟩
  have hlen : (s.took n).length ≤ n := s.took_length n
  have hs1 := Sl.ofOwns hown
  obtain ⟨a, c, rfl, q1, q2, q3, q4, q6, q5⟩ := hs1
  clear q1 q2 q3 q4 q6
  go_wp2
  go_loop [6, 7] (fun t i => ∃ j : Nat, j ≤ (s.took n).length ∧ i = .int .i64 ((j : Int) - 1) ∧ t = .int .u64 (lenum ((s.took n).drop j) : Nat)) (fun _ i => (intOf i + 1).toNat)
  case atStart => exact ⟨(s.took n).length, Nat.le_refl _, rfl, by simp [lenum]⟩
  case round =>
    obtain ⟨j, hj, rfl, rfl⟩ := hrel
    cases j with
    | zero =>
      go_wp2
      go_ret
      exact ⟨rfl, hc1, hg⟩
    | succ k =>
      have hlt : k < (s.took n).length := by omega
      obtain ⟨x, rfl, hcell⟩ := q5 k _ (bcs_get _ k hlt)
      have hd := lenum_drop _ k hlt
      have hb1 := lenum_lt ((s.took n).drop k)
      rw [List.length_drop] at hb1
      have hb2 := pow256_le (show (s.took n).length - k ≤ 8 by omega)
      have hb3 : lenum ((s.took n).drop (k + 1)) * 256 + (s.took n)[k].toNat < 18446744073709551616 := by omega
      have HD : Hid (lenum ((s.took n).drop k) = (s.took n)[k].toNat + 256 * lenum ((s.took n).drop (k + 1))) := hd
      clear hown hc1 hg hd hb1 hb2
      have e1 : ((k + 1 : Nat) : Int) - 1 = (k : Int) := by omega
      rw [e1]
      clear e1
      go_wp2
      go_round
      case rel =>
        refine ⟨k, by omega, rfl, ?_⟩
        rw [HD.out]
        exact congrArg _ (by omega)
      case measure => simp [intOf]

theorem rnum1_ok (B : Nat) (w : World) (p : Nat) (s : CS) (hc : RCur B w p s) :
    Calls Try.prog 12 #[.pointer (some ⟨p, 0, none⟩), .int .i64 1] w fun e w' => e = .returned (.int .u64 (s.num 1 : Nat)) ∧ RCur B w' p (s.then 1) ∧ Chg [p] w w' := rnum_ok B w p s 1 (by decide) hc
theorem rnum4_ok (B : Nat) (w : World) (p : Nat) (s : CS) (hc : RCur B w p s) :
    Calls Try.prog 12 #[.pointer (some ⟨p, 0, none⟩), .int .i64 4] w fun e w' => e = .returned (.int .u64 (s.num 4 : Nat)) ∧ RCur B w' p (s.then 4) ∧ Chg [p] w w' := rnum_ok B w p s 4 (by decide) hc
theorem rnum8_ok (B : Nat) (w : World) (p : Nat) (s : CS) (hc : RCur B w p s) :
    Calls Try.prog 12 #[.pointer (some ⟨p, 0, none⟩), .int .i64 8] w fun e w' => e = .returned (.int .u64 (s.num 8 : Nat)) ∧ RCur B w' p (s.then 8) ∧ Chg [p] w w' := rnum_ok B w p s 8 (by decide) hc

theorem low_tdiv (N j : Nat) (hN : N < 2 ^ 64) : IntKind.u64.wrap (((N : Int) / 256 ^ j).tdiv 256) = (N : Int) / 256 ^ j / 256 := by
  have e : (N : Int) / 256 ^ j = ((N / 256 ^ j : Nat) : Int) := by rw [Int.natCast_ediv, Int.natCast_pow]; rfl
  have h := Nat.div_le_self N (256 ^ j)
  rw [e]
  generalize N / 256 ^ j = M at h
  exact IntWalk.u64_quo _ _ (by omega)

theorem low_ok (w : World) (v : Value) (l : List UInt8) (N k : Nat) (hN : N < 2 ^ 64) (hk : k ≤ 8) (hs : Sl w v l.length (bcs l)) (hb : l.length + 8 ≤ big) :
    Calls Try.prog 25 #[v, .int .u64 N, .int .i64 k] w fun e w' =>
      ∃ v', e = .returned v' ∧ w'.ownsRow w.heap.size 5 1 v' (l.length + k) (bcs (l ++ lowb N k)) ∧ Chg [] w w' := by
  have hbig : l.length ≤ 140737488355320 := by unfold big at hb; omega
  go_enter Try.func25, Try.ntmps25
  go_wp2_with (at_builtin; refine wpList_append_sl _ rfl (.tmp 9) (.tmp 10) 22 5 1 1 rfl el_u8 w.heap.size _ 0 [] rfl (own_lit w #[] 5 0 1 _ (Nat.le_refl _) (Nat.zero_le _) rfl) _ l.length (bcs l) rfl (hs.tr0 (Chg.alloc _ _ _)) (by simp [bcs]) (bcs_one l) (by unfold big; omega) (by simp) ?_)
  intro v2 w2 hown2 hg2
  have hc2 : Chg [] w w2 := (Chg.alloc [] w _).trans (Chg.grown hg2) (by simp [Value.ownBlock])
  clear hg2 hs
  go_wp2_with fail
  go_loopw [1, 7, 8] (fun nv out iv wr => ∃ j : Nat, j ≤ k ∧ iv = .int .i64 j ∧ nv = .int .u64 (N / 256 ^ j : Nat) ∧ wr.ownsRow w.heap.size 5 1 out (l.length + j) (bcs (l ++ lowb N j)) ∧ Chg [] w wr) (fun _ _ iv _ => k - (intOf iv).toNat)
  case atStart => exact ⟨0, Nat.zero_le _, rfl, by simp, by simpa [lowb_zero] using hown2, hc2⟩
  case round =>
    obtain ⟨j, hj, rfl, rfl, hown, hc⟩ := hrel
    clear hown2 hc2
    by_cases hlt : j < k
    · go_wp2_with (at_builtin; refine wpList_append_sl _ rfl (.tmp 17) (.tmp 20) 22 5 1 1 rfl el_u8 w.heap.size _ _ _ rfl (hown.alloc _) _ 1 (bcs [UInt8.ofNat (N / 256 ^ j)]) rfl (Sl.lit _ _ _ 1 (by decide)) (by simp [bcs]) (bcs_one _) (by unfold big; omega) (by have := hc.size; simp; omega) ?_)
      intro v' w' hown' hg'
      have hc' : Chg [] w w' := (hc.t0 (Chg.alloc [] wr _)).grownOwn hg' (hown.alloc _) (Nat.le_refl _)
      have hown2 : w'.ownsRow w.heap.size 5 1 v' (l.length + (j + 1)) (bcs (l ++ lowb N (j + 1))) := by
        rw [lowb_snoc, ← List.append_assoc, bcs_append (l ++ lowb N j)]; exact hown'
      have hNj : N / 256 ^ j ≤ N := Nat.div_le_self _ _
      clear hown' hg' hc hown
      go_wp2
      go_roundw
      case rel => exact ⟨j + 1, by omega, by go_num, by rw [low_cast]; exact congrArg _ (low_tdiv N j hN), hown2, hc'⟩
      case measure => simp [intOf]; omega
    · go_wp2
      go_ret
      obtain rfl : j = k := by omega
      exact ⟨_, rfl, hown, hc⟩

theorem low4_ok (w : World) (v : Value) (l : List UInt8) (N : Nat) (hN : N < 2 ^ 64) (hs : Sl w v l.length (bcs l)) (hb : l.length + 8 ≤ big) :
    Calls Try.prog 25 #[v, .int .u64 N, .int .i64 4] w fun e w' =>
      ∃ v', e = .returned v' ∧ w'.ownsRow w.heap.size 5 1 v' (l.length + 4) (bcs (l ++ lowb N 4)) ∧ Chg [] w w' := low_ok w v l N 4 hN (by decide) hs hb
theorem low8_ok (w : World) (v : Value) (l : List UInt8) (N : Nat) (hN : N < 2 ^ 64) (hs : Sl w v l.length (bcs l)) (hb : l.length + 8 ≤ big) :
    Calls Try.prog 25 #[v, .int .u64 N, .int .i64 8] w fun e w' =>
      ∃ v', e = .returned v' ∧ w'.ownsRow w.heap.size 5 1 v' (l.length + 8) (bcs (l ++ lowb N 8)) ∧ Chg [] w w' := low_ok w v l N 8 hN (by decide) hs hb

theorem small_ok (w : World) : Calls Try.prog 9 #[] w fun e w' => e = .returned (.bool true) ∧ Chg [] w w' := by
  go_enter Try.func9, Try.ntmps9
  go_wp2_with fail
  refine (putU32_ok w _ [] 258 (Sl.nil w) (by decide)).mono ?_
  rintro e w1 ⟨v1, rfl, o1, g1⟩
  go_wp2_with fail
  refine (putU64_ok w1 _ [2, 1, 0, 0] 7 (Sl.ofOwns o1) (by decide)).mono ?_
  rintro e w2 ⟨v2, rfl, o2, g2⟩
  have s2 : Sl w2 v2 12 (bcs [2, 1, 0, 0, 7, 0, 0, 0, 0, 0, 0, 0]) := Sl.ofOwns o2
  go_wp2_with fail
  refine (over_ok w2 _ [2, 1, 0, 0, 7, 0, 0, 0, 0, 0, 0, 0] s2 (by decide)).mono ?_
  rintro e w3 ⟨p, rfl, hp, c3, g3⟩
  go_wp2_with fail
  refine (over_ok _ _ [5] (Sl.lit w3 _ _ 1 (by decide)) (by decide)).mono ?_
  rintro e w4 ⟨q, rfl, hq, c4, g4⟩
  have g4' : Chg [] w3 w4 := (Chg.alloc [] w3 _).t0 g4
  have c3' := c3.tr0 g4'
  have hpq : p < q := by have := c3.lt; simp at hq; omega
  clear g4
  go_wp2_with fail
  refine (u32_ok _ _ _ c3').mono ?_
  rintro e w5 ⟨he, c5, g5⟩
  obtain rfl : e = .returned (.int .u32 258) := he
  replace c5 : Cur w5 p ⟨[7, 0, 0, 0, 0, 0, 0, 0], false⟩ := c5
  have c5' := c4.trC g5 (by omega) c3'
  go_wp2_with fail
  refine (u64_ok _ _ _ c5).mono ?_
  rintro e w6 ⟨he, c6, g6⟩
  obtain rfl : e = .returned (.int .u64 7) := he
  replace c6 : Cur w6 p ⟨[], false⟩ := c6
  have c6' := c5'.trC g6 (by omega) c5
  go_wp2_with fail
  refine (byte_ok _ _ _ c6').mono ?_
  rintro e w7 ⟨he, c7, g7⟩
  obtain rfl : e = .returned (.int .u8 5) := he
  replace c7 : Cur w7 q ⟨[], false⟩ := c7
  have c7' := c6.trC g7 (by omega) c6'
  go_wp2_with fail
  refine (end_ok _ _ _ c7).mono ?_
  rintro e w7' ⟨he, rfl⟩
  obtain rfl : e = .returned (.bool true) := he
  go_wp2_with fail
  refine (take_ok _ _ _ 1 c7).mono ?_
  rintro e w8 ⟨v8, rfl, o8, c8, g8⟩
  replace c8 : Cur w8 q ⟨[], true⟩ := c8
  replace o8 : w8.ownsRow w7.heap.size 5 1 v8 0 [] := o8
  obtain ⟨a8, k8, rfl⟩ := own_shape o8
  have c8' := c7'.trC g8 (by omega) c7
  have gAll : Chg [] w2 w8 := ((((g3.t0 g4').tn g5 hp).tn g6 hp).tn g7 (by omega)).tn g8 (by omega)
  have hstr := run_str (dst := 9) Try.underlying22 Try.underlying5 Try.underlying9 (s2.tr0 gAll) rfl
  clear s2 o8 g8 g7 g6 g5 g4' g3 c7' c7 c6' c6 c5' c5 c3 c3' c4 o1 o2
  go_wp2_with fail
  refine (end_ok _ _ _ c8').mono ?_
  rintro e w7' ⟨he, rfl⟩
  obtain rfl : e = .returned (.bool true) := he
  go_wp2_with fail
  refine (bad_ok _ _ _ c8).mono ?_
  rintro e w7' ⟨he, rfl⟩
  obtain rfl : e = .returned (.bool true) := he
  go_wp2_with fail
  refine (end_ok _ _ _ c8).mono ?_
  rintro e w7' ⟨he, rfl⟩
  obtain rfl : e = .returned (.bool false) := he
  go_wp2_with fail
  refine (left_ok _ _ _ c8).mono ?_
  rintro e w7' ⟨he, rfl⟩
  obtain rfl : e = .returned (.int .i64 0) := he
  go_wp2
  go_ret
  exact ⟨rfl, (g1.t0 g2).t0 gAll⟩

end Go.Proofs.Ytiednighldjojaa
