/-
  The contract of the document's Decode (hypostyleref13).
-/
import Derived.Test.YtdclbhmmpdngpaaDoorFrontDec
import Derived.Test.YtdclbhmmpdngpaaDoorFrontREnc
namespace Go.Proofs.YtdclbhmmpdngpaaDoor
set_option linter.unusedSimpArgs false
set_option linter.unusedVariables false
open Go.RowKit

theorem RCur.len {B : Nat} {w : World} {q : Nat} {s : CS} (h : RCur B w q s) : s.l.length ≤ big := by
  obtain ⟨v, _, _, _, _, h, _⟩ := h; exact h
theorem RCur.isb {B : Nat} {w : World} {q : Nat} {s : CS} (h : RCur B w q s) : w.cell? ⟨q, 1, none⟩ = some (.bool s.bad) := by
  obtain ⟨v, h, _⟩ := h
  exact (cells2 h).2.1

set_option maxHeartbeats 16000000 in
set_option maxRecDepth 100000 in
theorem rfdecode_ok (w : World) (v : Value) (b : List UInt8) (n : Int) (hs : Sl w v b.length (bcs b)) (hb : b.length ≤ big) (hn : -9223372036854775808 ≤ n ∧ n ≤ 9223372036854775807) :
    Calls Tryd.prog 15 #[v, .int .i64 n] w fun e w' => ∃ v', e = .returned (.tuple #[v', .bool (decOut b n).2]) ∧ w'.ownsRow w.heap.size 9 1 v' (decOut b n).1.length (tcs (decOut b n).1) ∧ Chg [] w w' := by
  obtain ⟨R, hR⟩ : ∃ R, R = decOut b n := ⟨_, rfl⟩
  rw [← hR]
  unfold decOut decodeT at hR
  obtain ⟨D, hD⟩ : ∃ D, D = decT n.toNat ⟨b, false⟩ [] 0 := ⟨_, rfl⟩
  rw [← hD] at hR
  replace hR := Lib.hid hR
  have hlt := hs.lt
  obtain ⟨a0, c0, rfl⟩ := hs.shape
  go_enter Tryd.func15, Tryd.ntmps15
  by_cases h0 : n < 0
  · have hR2 := hR.out
    rw [if_pos (.inl h0)] at hR2
    subst hR2
    go_wp2
    go_ret2
    exact ⟨_, rfl, World.ownsRow_nil _ _ _ _, Chg.refl _ _⟩
  by_cases h6 : 65536 < n
  · have hR2 := hR.out
    rw [if_pos (.inr h6)] at hR2
    subst hR2
    go_wp2
    go_ret2
    exact ⟨_, rfl, World.ownsRow_nil _ _ _ _, Chg.refl _ _⟩
  have hR2 := hR.out
  rw [if_neg (by omega)] at hR2
  replace hR2 := Lib.hid hR2
  clear hR
  obtain ⟨N, rfl⟩ : ∃ N : Nat, n = (N : Int) := ⟨n.toNat, by omega⟩
  rw [Int.toNat_natCast] at hD
  have hDA : DecAt D N ⟨b, false⟩ [] 0 [] := by rw [hD]; exact DecAt.start N _
  replace hDA := Lib.hid hDA
  have hDe := Lib.hid hD
  clear hD
  have hN : N ≤ 65536 := by omega
  clear h0 h6 hn
  go_wp2_with fail
  have c2 : RCur w.heap.size (w.alloc (.cells #[.slice a0 b.length c0, .bool false] 55)) w.heap.size ⟨b, false⟩ :=
    ⟨_, heap_alloc_new w _, hs.tr0 (Chg.alloc _ _ _), hlt, Nat.le_refl _, hb, fun h => by cases h⟩
  have g2 := Chg.alloc [] w (.cells #[.slice a0 b.length c0, .bool false] 55)
  have hb2 : w.heap.size < (w.alloc (.cells #[.slice a0 b.length c0, .bool false] 55)).heap.size := by simp
  obtain ⟨q, hq⟩ : ∃ q, q = w.heap.size := ⟨_, rfl⟩
  generalize w.alloc (.cells #[.slice a0 b.length c0, .bool false] 55) = w2 at *
  simp only [← hq] at c2 hb2 hlt ⊢
  have hqe : w.heap.size ≤ q := by omega
  replace hq := Lib.hid hq
  obtain ⟨b0, hb0⟩ : ∃ b0, b0 = w2.heap.size := ⟨_, rfl⟩
  have hq0 : q < b0 := by omega
  have hw0 : w.heap.size ≤ b0 := by omega
  have hb2' : b0 ≤ w2.heap.size := by omega
  clear hb0 hlt
  go_loopw [7, 8, 9, 10] (fun ov av lv iv wr => ∃ (k : Nat) (was : List UInt8) (al : Nat) (s : CS) (L : List (List UInt8)), k ≤ N ∧ iv = .int .i64 k ∧ av = .string (bstr was) ∧ lv = .int .i64 al ∧ wr.ownsRow b0 9 1 ov k (tcs L) ∧ L.length = k ∧ RCur q wr q s ∧ b0 ≤ wr.heap.size ∧ Chg [] w wr ∧
    DecAt D (N - k) s was al L ∧ was.length ≤ 16777216 ∧ al ≤ 16777216) (fun _ _ _ iv _ => N - (intOf iv).toNat)
  case atStart => exact ⟨0, [], 0, _, [], Nat.zero_le _, rfl, rfl, rfl, World.ownsRow_nil _ _ _ _, rfl, c2, hb2', g2, hDA.out, by simp, by omega⟩
  case round =>
    clear c2 g2 hDA hb2 hb2'
    obtain ⟨k, was, al, s, L, hk, rfl, rfl, rfl, hown, hLk, c1, hbw, hch, hDA, hwl, hal⟩ := hrel
    replace hLk := Lib.hid hLk
    replace hDA := Lib.hid hDA
    by_cases hlt : k < N
    · have hki : (k : Int) < N := by omega
      have hle1 := CS.vlen_leF s was.length
      obtain ⟨T, hT⟩ : ∃ T, T = textT s was := ⟨_, rfl⟩
      have hTe := Lib.hid hT
      unfold textT at hT
      have kV := rlen_ok q wr q s was.length (by omega) (by omega) c1
      obtain ⟨K, hK⟩ : ∃ K, K = (s.vlen was.length).1 := ⟨_, rfl⟩
      obtain ⟨s1, hs1⟩ : ∃ s1, s1 = (s.vlen was.length).2 := ⟨_, rfl⟩
      simp only [← hK, ← hs1] at hT kV hle1
      clear hK hs1
      have kM := fun (w' : World) (h : RCur q w' q s1) => rlen_ok q w' q s1 65536 (by omega) (by omega) h
      have hle2 := CS.vlen_leF s1 65536
      obtain ⟨M, hM⟩ : ∃ M, M = (s1.vlen 65536).1 := ⟨_, rfl⟩
      obtain ⟨s2, hs2⟩ : ∃ s2, s2 = (s1.vlen 65536).2 := ⟨_, rfl⟩
      simp only [← hM, ← hs2] at hT kM
      replace hle2 : M ≤ 65536 := by rw [hM]; exact hle2
      clear hM hs2
      have kT := fun (w' : World) (h : RCur q w' q s2) => rtake_ok q w' q s2 M h
      have hle3 := CS.took_length s2 M
      obtain ⟨rest, hrest⟩ : ∃ r, r = s2.took M := ⟨_, rfl⟩
      obtain ⟨s3, hs3⟩ : ∃ s3, s3 = s2.then M := ⟨_, rfl⟩
      simp only [← hrest, ← hs3] at hT kT hle3
      clear hrest hs3
      have hTl : (was.take K ++ rest).length = K + rest.length := by rw [List.length_append, List.length_take]; omega
      obtain ⟨t, ht⟩ : ∃ t, t = was.take K ++ rest := ⟨_, rfl⟩
      have hT1 : T.1 = t := by rw [hT, ht]
      have hT2 : T.2 = s3 := by rw [hT]
      rw [← ht] at hTl
      have hbs := bstr_take was K
      have hba : bstr (was.take K) ++ bstr rest = bstr t := by rw [bstr_append, ht]
      replace hT1 := Lib.hid hT1
      replace hT2 := Lib.hid hT2
      replace ht := Lib.hid ht
      clear hT
      have hKi : (K : Int) ≤ was.length := by omega
      go_wp2_with fail
      refine kV.mono ?_
      rintro e w3 ⟨rfl, c3, g3⟩
      go_wp2_with fail
      refine (kM w3 c3).mono ?_
      rintro e w4 ⟨rfl, c4, g4⟩
      have g14 := g3.t1 g4
      clear c3 g3 g4 kV kM
      go_wp2_with fail
      refine' region_softW (fun m => match m with | 0 => [q] | _ => []) (fun m wx => RCur q wx q (if m = 0 then s2 else s3) ∧ Chg [q] w4 wx) 8 [cst (.string (bstr was)), cst _, cst (.string (bstr (was.take K))), cst _, cst _, fun v w' => w'.ownsRow w4.heap.size 5 1 v rest.length (bcs rest), cst (.string (bstr rest)), cst (.string (bstr t))] [false, false, false, false, false, true, false, false] [99, 99, 99, 99, 99, 99, 99, 99] rfl rfl rfl (by kernel_rfl) (by kernel_rfl) (by kernel_rfl) (by kernel_rfl) (by intro j wx wy ⟨h1, h2⟩ g; exact ⟨h1.tr g (by simp) (by simp), h2.t0 g⟩) (⟨c4, Chg.refl _ _⟩) ⟨staysW_cst _ _, ⟨staysW_cst _ _, ⟨staysW_cst _ _, ⟨staysW_cst _ _, ⟨staysW_cst _ _, ⟨⟨fun _ _ _ h g => own_tr h g (by simp), fun m hm v w w' h g => by match m, hm, g with | m + 1, _, g => exact own_tr h g (by simp)⟩, ⟨staysW_cst _ _, ⟨staysW_cst _ _, trivial⟩⟩⟩⟩⟩⟩⟩⟩ _ (fun V => by simp only [putAll, Act.put, List.take_succ_cons, List.take_zero, List.setIfInBounds_toArray, List.set_cons_zero, List.set_cons_succ, Nat.reduceAdd]; exact rfl) ?hs1 ?ht1
      case hs1 =>
        simp only [List.take_succ_cons, List.take_zero, softsW]
        refine ⟨?_, ?_, ?_, ?_, ?_, ?_, ?_, ?_, trivial⟩
        · intro V wx hi hd
          simp [phi, Region.binds, cst] at hd
          try simp only [hd]
          first
            | (refine soft_const rfl ?_; go_simp; done)
            | (refine soft_const rfl ?_; go_simp; exact rfl)
            | (refine soft_const rfl ?_; go_simp; rw [hbs]; done)
            | (exact soft_skip rfl)
        · intro V wx hi hd
          simp [phi, Region.binds, cst] at hd
          try simp only [hd]
          first
            | (refine soft_const rfl ?_; go_simp; done)
            | (refine soft_const rfl ?_; go_simp; exact rfl)
            | (refine soft_const rfl ?_; go_simp; rw [hbs]; done)
            | (exact soft_skip rfl)
        · intro V wx hi hd
          simp [phi, Region.binds, cst] at hd
          try simp only [hd]
          first
            | (refine soft_const rfl ?_; go_simp; done)
            | (refine soft_const rfl ?_; go_simp; exact rfl)
            | (refine soft_const rfl ?_; go_simp; rw [hbs]; done)
            | (exact soft_skip rfl)
        · intro V wx hi hd
          simp [phi, Region.binds, cst] at hd
          try simp only [hd]
          first
            | (refine soft_const rfl ?_; go_simp; done)
            | (refine soft_const rfl ?_; go_simp; exact rfl)
            | (refine soft_const rfl ?_; go_simp; rw [hbs]; done)
            | (exact soft_skip rfl)
        · intro V wx hi hd
          simp [phi, Region.binds, cst] at hd
          try simp only [hd]
          first
            | (refine soft_const rfl ?_; go_simp; done)
            | (refine soft_const rfl ?_; go_simp; exact rfl)
            | (refine soft_const rfl ?_; go_simp; rw [hbs]; done)
            | (exact soft_skip rfl)
        · intro V wx hi hd
          simp [phi, Region.binds, cst] at hd
          try simp only [hd]
          refine wstep_call rfl _ _ (by go_simp; try exact ⟨rfl, rfl⟩) ((kT wx hi.1).mono ?_)
          rintro e w' ⟨v', he, ho, c, g⟩
          exact ⟨v', he, g, ⟨c, hi.2.t1 g⟩, own_lower ho hi.2.size⟩
        · intro V wx hi hd
          simp [phi, Region.binds, cst] at hd
          try simp only [hd]
          refine soft_str rfl _ _ _ rfl _ rfl _ Tryd.underlying25 Tryd.underlying5 Tryd.underlying9 _ _ (Sl.ofOwns hd) rfl
        · intro V wx hi hd
          simp [phi, Region.binds, cst] at hd
          try simp only [hd]
          refine soft_const rfl ?_
          go_simp
          omega
      intro V w5 hi hk5
      obtain ⟨c5, g5⟩ : RCur q w5 q s3 ∧ _ := hi
      have h7 := hk5 7 (by decide)
      simp [phi, cst] at h7
      simp only [h7, List.drop_succ_cons, List.drop_zero]
      clear hk5 h7 kT c4
      generalize V 0 = z0
      generalize V 1 = z1
      generalize V 2 = z2
      generalize V 3 = z3
      generalize V 4 = z4
      generalize V 5 = z5
      generalize V 6 = z6
      clear V hbs hba
      have g15 := g14.t1 g5
      clear g14 g5
      have o5 := own_tr hown g15 (by simp; omega)
      have h5 : Chg [] w w5 := hch.tn g15 (by omega)
      have hb5 : b0 ≤ w5.heap.size := Nat.le_trans hbw g15.size
      have hib := c5.isb
      clear hown hch hbw c1 g15
      by_cases hbad : s3.bad = true ∨ 16777216 < al + t.length
      · have hDn : D = none := DecAt.bad (m := N - k - 1) (by have := hDA.out; rwa [show N - k - 1 + 1 = N - k by omega]) (by rw [← hTe.out, hT1.out, hT2.out]; exact hbad)
        have hR := hR2.out
        rw [hDn] at hR
        dsimp only at hR
        subst hR
        cases hb3 : s3.bad
        · have hbi : (16777216 : Int) < (al : Int) + (t.length : Int) := by
            rcases hbad with h | h
            · rw [hb3] at h; cases h
            · omega
          rw [hb3] at hib
          clear hbad
          go_wp2
          go_ret2
          exact ⟨_, rfl, World.ownsRow_nil _ _ _ _, h5⟩
        · rw [hb3] at hib
          clear hbad
          go_wp2
          go_ret2
          exact ⟨_, rfl, World.ownsRow_nil _ _ _ _, h5⟩
      · have hDA2 := DecAt.next (m := N - k - 1) (by have := hDA.out; rwa [show N - k - 1 + 1 = N - k by omega]) (by rw [← hTe.out, hT1.out, hT2.out]; exact hbad)
        rw [← hTe.out, hT1.out, hT2.out] at hDA2
        have hb3 : s3.bad = false := by
          simp only [not_or] at hbad
          simpa using hbad.1
        have hbi : ¬ (16777216 : Int) < (al : Int) + (t.length : Int) := by simp only [not_or] at hbad; omega
        have hbn : al + t.length ≤ 16777216 := by simp only [not_or] at hbad; omega
        have hcs : ((al + t.length : Nat) : Int) = (al : Int) + (t.length : Int) := by omega
        rw [hb3] at hib
        replace hcs := Lib.hid hcs
        replace hDA2 := Lib.hid hDA2
        clear hbad hTe hT1 hT2 ht hDA
        go_wp2_with (at_builtin; refine wpList_append_sl _ rfl (.tmp 56) (.tmp 58) 22 9 1 16 rfl el_text b0 _ _ _ rfl (own_tr o5 (Chg.alloc [] w5 _) (by simp)) _ 1 (tcs [t]) rfl (Sl.lit _ _ _ 1 (by decide)) (by simp [tcs]) (tcs_one _) (by unfold big; omega) (by have := (Chg.alloc [] w5 (.cells #[.string (bstr t)] 9)).size; omega) ?_)
        intro v6 w6 o6 hg6
        have gA := Chg.alloc [] w5 (.cells #[.string (bstr t)] 9)
        have oA := own_tr o5 gA (by simp)
        have gB := Chg.grown hg6
        have hob : ∀ j ∈ (_ : Value).ownBlock.toList, b0 ≤ j := fun j hj => own_row oA j hj
        have c6 : RCur q w6 q s3 := (c5.tr gA (by simp) (by simp)).tr gB (fun hm => by have := hob _ hm; omega) (fun j hj => by have := hob j hj; omega)
        have h6 : Chg [] w w6 := (h5.t0 gA).grownOwn hg6 oA hw0
        have hb6 : b0 ≤ w6.heap.size := Nat.le_trans (Nat.le_trans hb5 gA.size) gB.size
        rw [← tcs_append] at o6
        clear o5 c5 h5 hb5 gA oA gB hob hg6 hib
        go_wp2
        go_roundw
        case rel =>
          refine ⟨k + 1, t, al + t.length, s3, L ++ [t], by omega, by go_num, rfl, congrArg (Value.int .i64) (by omega), o6, by rw [List.length_append, hLk.out]; rfl, c6, hb6, h6, ?_, ?_, hbn⟩
          · have := hDA2.out
            rwa [show N - k - 1 = N - (k + 1) by omega] at this
          · omega
        case measure => simp [intOf]; omega
    · obtain rfl : k = N := by omega
      have h2 := hDA.out
      rw [Nat.sub_self] at h2
      have hDs := h2.done
      have hfw : sumT L ≤ 16777216 := by
        have := decT_fewer (x := (L, s)) (by rw [← hDs]; exact hDe.out.symm) (by omega)
        simpa using this
      have hLe : ∀ x ∈ L, x.length ≤ big := fun x hx => by
        have := le_sumT hx
        unfold big; omega
      have hR := hR2.out
      rw [hDs] at hR
      dsimp only at hR
      have hLk2 := hLk.out
      obtain ⟨ao, co, rfl⟩ := own_shape hown
      have sL : Sl wr (.slice ao k co) L.length (tcs L) := by rw [hLk2]; exact Sl.ofOwns hown
      have kE := rfencode_ok wr _ L sL (by rw [hLk2]; unfold big; omega) hLe
      clear hLe h2 hDs sL hLk2
      replace hR := Lib.hid hR
      replace kE := Lib.hid kE
      go_wp2_with fail
      refine kE.out.mono ?_
      rintro e w5 ⟨v5, rfl, o5, g5⟩
      have hch5 := hch.t0 g5
      have hown5 := own_tr hown g5 (by simp)
      have c5 := c1.tr g5 (by simp) (by simp)
      have q2 := run_str (P := Tryd.prog) Tryd.underlying25 Tryd.underlying5 Tryd.underlying9 (hs.tr0 hch5) rfl
      replace q2 := Lib.hid q2
      clear kE
      go_wp2_with fail
      refine (rend_ok q w5 q s c5).mono ?_
      rintro e w6 ⟨rfl, rfl⟩
      replace q2 := q2.out
      cases hdn : s.done
      · have hR3 := hR.out
        rw [if_neg (by rw [hdn]; simp)] at hR3
        dsimp only at hR3
        subst hR3
        clear hR o5 q2
        go_wp2
        go_ret2
        exact ⟨_, rfl, World.ownsRow_nil _ _ _ _, hch5⟩
      cases hf : fewT L
      · have hR3 := hR.out
        rw [if_neg (by rw [hf]; simp)] at hR3
        dsimp only at hR3
        subst hR3
        clear hR o5 q2
        go_wp2
        go_ret2
        exact ⟨_, rfl, World.ownsRow_nil _ _ _ _, hch5⟩
      · rw [hf, if_pos rfl] at o5
        have q1 := run_str (P := Tryd.prog) Tryd.underlying25 Tryd.underlying5 Tryd.underlying9 (Sl.ofOwns o5) rfl
        obtain ⟨a5, c5, rfl⟩ := own_shape o5
        have hR3 := hR.out
        by_cases he : encT [] L = b
        · rw [if_pos ⟨hdn, hf, he⟩] at hR3
          dsimp only at hR3
          subst hR3
          have q3 : (convert 25 9 (.slice a5 (encT [] L).length c5)).run Tryd.prog w5 = .ok (.string (bstr b)) w5 := by rw [q1, he]
          generalize (encT [] L).length = nE at *
          clear hR o5 he q1
          go_wp2
          go_ret2
          refine ⟨_, rfl, ?_, hch5⟩
          dsimp only
          rw [hLk.out]
          exact own_lower hown5 hw0
        · rw [if_neg (fun h => he h.2.2)] at hR3
          dsimp only at hR3
          subst hR3
          have hne : (encT [] L == b) = false := by simpa using he
          generalize encT [] L = E at *
          clear hR o5 he
          go_wp2
          go_ret2
          exact ⟨_, rfl, World.ownsRow_nil _ _ _ _, hch5⟩
end Go.Proofs.YtdclbhmmpdngpaaDoor
