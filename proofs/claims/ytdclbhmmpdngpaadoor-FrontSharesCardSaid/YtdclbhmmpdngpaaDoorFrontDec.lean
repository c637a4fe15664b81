/-
  The contract of front.Decode.
-/
import Derived.Test.YtdclbhmmpdngpaaDoorReader
import Derived.Test.YtdclbhmmpdngpaaDoorFrontEnc
namespace Go.Proofs.YtdclbhmmpdngpaaDoor
set_option linter.unusedSimpArgs false
set_option linter.unusedVariables false
open Go.RowKit

/-- What a call hands back of texts: nothing, or these. -/
def decOut (b : List UInt8) (n : Int) : List (List UInt8) × Bool := match decodeT b n with
  | none => ([], false)
  | some l => (l, true)
theorem decT_fewer {n : Nat} {s : CS} {was : List UInt8} {all : Nat} {x : List (List UInt8) × CS} (h : decT n s was all = some x) (ha : all ≤ 16777216) : all + sumT x.1 ≤ 16777216 := by
  induction n generalizing s was all x with
  | zero => simp only [decT, Option.some.injEq] at h; subst h; simpa [sumT] using ha
  | succ n ih =>
    simp only [decT] at h
    split at h
    · cases h
    · rename_i hn
      cases hd : decT n (textT s was).2 (textT s was).1 (all + (textT s was).1.length) with
      | none => rw [hd] at h; cases h
      | some y =>
        rw [hd] at h
        simp only [Option.map_some, Option.some.injEq] at h
        subst h
        have := ih hd (by omega)
        rw [sumT_cons]
        omega
theorem le_sumT {l : List (List UInt8)} {x : List UInt8} (h : x ∈ l) : x.length ≤ sumT l := by
  induction l with
  | nil => cases h
  | cons a l ih =>
    rw [sumT_cons]
    rcases List.mem_cons.1 h with rfl | h
    · omega
    · have := ih h; omega
/-- How far reading has come: what is left to read, from here on, with what has been read ahead of it. -/
def DecAt (D : Option (List (List UInt8) × CS)) (m : Nat) (s : CS) (was : List UInt8) (all : Nat) (L : List (List UInt8)) : Prop :=
  D = (decT m s was all).map fun x => (L ++ x.1, x.2)
theorem DecAt.start (n : Nat) (s : CS) : DecAt (decT n s [] 0) n s [] 0 [] := by
  unfold DecAt
  cases decT n s [] 0 with
  | none => rfl
  | some x => simp
theorem DecAt.bad {D : Option (List (List UInt8) × CS)} {m : Nat} {s : CS} {was : List UInt8} {all : Nat} {L : List (List UInt8)} (h : DecAt D (m + 1) s was all L) (hb : (textT s was).2.bad = true ∨ 16777216 < all + (textT s was).1.length) : D = none := by
  unfold DecAt at h
  rw [h, decT, if_pos hb]; rfl
theorem DecAt.next {D : Option (List (List UInt8) × CS)} {m : Nat} {s : CS} {was : List UInt8} {all : Nat} {L : List (List UInt8)} (h : DecAt D (m + 1) s was all L) (hb : ¬ ((textT s was).2.bad = true ∨ 16777216 < all + (textT s was).1.length)) :
    DecAt D m (textT s was).2 (textT s was).1 (all + (textT s was).1.length) (L ++ [(textT s was).1]) := by
  unfold DecAt at h ⊢
  rw [h, decT, if_neg hb]
  cases decT m (textT s was).2 (textT s was).1 (all + (textT s was).1.length) with
  | none => rfl
  | some x => simp
theorem DecAt.done {D : Option (List (List UInt8) × CS)} {s : CS} {was : List UInt8} {all : Nat} {L : List (List UInt8)} (h : DecAt D 0 s was all L) : D = some (L, s) := by
  unfold DecAt at h
  rw [h]; simp [decT]

set_option maxHeartbeats 16000000 in
set_option maxRecDepth 100000 in
theorem fdecode_ok (w : World) (v : Value) (b : List UInt8) (n : Int) (hs : Sl w v b.length (bcs b)) (hb : b.length ≤ big) (hn : -9223372036854775808 ≤ n ∧ n ≤ 9223372036854775807) :
    Calls Tryd.prog 14 #[v, .int .i64 n] w fun e w' => ∃ v', e = .returned (.tuple #[v', .bool (decOut b n).2]) ∧ w'.ownsRow w.heap.size 9 1 v' (decOut b n).1.length (tcs (decOut b n).1) ∧ Chg [] w w' := by
  obtain ⟨R, hR⟩ : ∃ R, R = decOut b n := ⟨_, rfl⟩
  rw [← hR]
  unfold decOut decodeT at hR
  obtain ⟨D, hD⟩ : ∃ D, D = decT n.toNat ⟨b, false⟩ [] 0 := ⟨_, rfl⟩
  rw [← hD] at hR
  replace hR := Lib.hid hR
  have hov := over_ok w v b hs hb
  obtain ⟨a0, c0, rfl⟩ := hs.shape
  go_enter Tryd.func14, Tryd.ntmps14
  by_cases h0 : n < 0
  · have hR2 := hR.out
    rw [if_pos (.inl h0)] at hR2
    subst hR2
    go_wp2
    go_ret2
    exact ⟨_, rfl, World.ownsRow_nil _ _ _ _, Chg.refl _ _⟩
  by_cases h6 : 65536 < n
  · have hR2 := hR.out
    rw [if_pos (.inr h6)] at hR2
    subst hR2
    go_wp2
    go_ret2
    exact ⟨_, rfl, World.ownsRow_nil _ _ _ _, Chg.refl _ _⟩
  have hR2 := hR.out
  rw [if_neg (by omega)] at hR2
  replace hR2 := Lib.hid hR2
  clear hR
  obtain ⟨N, rfl⟩ : ∃ N : Nat, n = (N : Int) := ⟨n.toNat, by omega⟩
  rw [Int.toNat_natCast] at hD
  have hDA : DecAt D N ⟨b, false⟩ [] 0 [] := by rw [hD]; exact DecAt.start N _
  replace hDA := Lib.hid hDA
  have hDe := Lib.hid hD
  clear hD
  have hN : N ≤ 65536 := by omega
  clear h0 h6 hn
  go_wp2_with fail
  refine hov.mono ?_
  rintro e w1 ⟨p, rfl, hp, c1, g1⟩
  go_wp2_with fail
  have r1 : Rdr (w1.alloc (.cells #[.pointer (some ⟨p, 0, none⟩), .string { data := #[] }, .int .i64 0] 51)) w1.heap.size p [] 0 := heap_alloc_new w1 _
  have gA := Chg.alloc [] w1 (.cells #[.pointer (some ⟨p, 0, none⟩), .string { data := #[] }, .int .i64 0] 51)
  have c2 := c1.tr0 gA
  have g2 := g1.t0 gA
  have hq : w.heap.size ≤ w1.heap.size := g1.size
  clear gA c1
  generalize w1.alloc (.cells #[.pointer (some ⟨p, 0, none⟩), .string { data := #[] }, .int .i64 0] 51) = w2 at *
  generalize w1.heap.size = q at *
  clear g1
  have hqp := c2.ne_rdr r1
  obtain ⟨b0, hb0⟩ : ∃ b0, b0 = w2.heap.size := ⟨_, rfl⟩
  have hq0 : q < b0 := by rw [hb0]; exact r1.lt
  have hp0 : p < b0 := by rw [hb0]; exact c2.lt
  have hw0 : w.heap.size ≤ b0 := by omega
  have hb2 : b0 ≤ w2.heap.size := by omega
  clear hb0
  go_loopw [8, 9] (fun ov iv wr => ∃ (k : Nat) (was : List UInt8) (all : Int) (s : CS) (L : List (List UInt8)), k ≤ N ∧ iv = .int .i64 k ∧ wr.ownsRow b0 9 1 ov k (tcs L) ∧ L.length = k ∧ Rdr wr q p was all ∧ Cur wr p s ∧ b0 ≤ wr.heap.size ∧ Chg [] w wr ∧
    ((s.bad = true ∧ D = none) ∨ (s.bad = false ∧ ∃ al : Nat, all = al ∧ DecAt D (N - k) s was al L ∧ was.length ≤ 16777216 ∧ al ≤ 16777216))) (fun _ iv _ => N - (intOf iv).toNat)
  case atStart => exact ⟨0, [], 0, _, [], Nat.zero_le _, rfl, World.ownsRow_nil _ _ _ _, rfl, r1, c2, hb2, g2, .inr ⟨rfl, 0, rfl, hDA.out, by simp, by omega⟩⟩
  case round =>
    clear r1 c2 g2 hDA hb2
    obtain ⟨k, was, all, s, L, hk, rfl, hown, hLk, r1, c1, hbw, hch, hst⟩ := hrel
    obtain ⟨x0, x1, x2, f0, f1, f2⟩ := cellsR r1
    replace hLk := Lib.hid hLk
    replace hst := Lib.hid hst
    by_cases hlt : k < N
    · have hki : (k : Int) < N := by omega
      go_wp2_with fail
      refine (bad_ok wr p s c1).mono ?_
      rintro e w3 ⟨rfl, rfl⟩
      cases hbd : s.bad
      · obtain ⟨al, rfl, hDA, hwl, hal⟩ : ∃ al : Nat, all = al ∧ DecAt D (N - k) s was al L ∧ was.length ≤ 16777216 ∧ al ≤ 16777216 := by
          rcases hst.out with ⟨h, _⟩ | ⟨_, h⟩
          · rw [hbd] at h; cases h
          · exact h
        have kT := text_ok wr q p s was al r1 c1 (by omega) (by omega)
        replace hDA := Lib.hid hDA
        clear hst
        go_wp2_with fail
        refine kT.mono ?_
        rintro e w4 ⟨t', s', all', rfl, r4, c4, g4, hcase⟩
        have o4 := own_tr hown g4 (by simp; omega)
        have hb4 : b0 ≤ w4.heap.size := Nat.le_trans hbw g4.size
        have h4 : Chg [] w w4 := hch.trans g4 (by intro x hx; simp at hx; rcases hx with rfl | rfl <;> right <;> omega)
        replace hcase := Lib.hid hcase
        clear hown r1 c1 hch x0 x1 x2 f0 f1 f2 kT g4
        go_wp2_with (at_builtin; refine wpList_append_sl _ rfl (.tmp 37) (.tmp 40) 22 9 1 16 rfl el_text b0 _ _ _ rfl (own_tr o4 (Chg.alloc [] w4 _) (by simp)) _ 1 (tcs [t']) rfl (Sl.lit _ _ _ 1 (by decide)) (by simp [tcs]) (tcs_one _) (by unfold big; omega) (by have := (Chg.alloc [] w4 (.cells #[.string (bstr t')] 9)).size; omega) ?_)
        intro v5 w5 o5 hg5
        have g5 : Chg v5.ownBlock.toList w5 w5 := Chg.refl _ _
        clear g5
        have gA := Chg.alloc [] w4 (.cells #[.string (bstr t')] 9)
        have oA := own_tr o4 gA (by simp)
        have gB := Chg.grown hg5
        have hob : ∀ j ∈ (_ : Value).ownBlock.toList, b0 ≤ j := fun j hj => own_row oA j hj
        have r5 : Rdr w5 q p t' all' := gB.heap (r4.tr0 gA) (fun hm => by have := hob _ hm; omega)
        have c5 := (c4.tr0 gA).grownRow hg5 oA (by decide) hp0
        have h5 : Chg [] w w5 := (h4.t0 gA).grownOwn hg5 oA hw0
        have hb5 : b0 ≤ w5.heap.size := Nat.le_trans (Nat.le_trans hb4 gA.size) gB.size
        rw [← tcs_append] at o5
        clear o4 r4 c4 h4 hb4 gA oA gB hob hg5
        go_wp2
        go_roundw
        case rel =>
          refine ⟨k + 1, t', all', s', L ++ [t'], by omega, by go_num, o5, by rw [List.length_append, hLk.out]; rfl, r5, c5, hb5, h5, ?_⟩
          rcases hcase.out with ⟨hb', rfl, rfl⟩ | ⟨hb', rfl, rfl, rfl⟩
          · exact .inl ⟨rfl, DecAt.bad (m := N - k - 1) (by have := hDA.out; rwa [show N - k - 1 + 1 = N - k by omega]) hb'⟩
          · refine .inr ⟨?_, _, rfl, ?_, ?_, ?_⟩
            · simp only [not_or] at hb'; simpa using hb'.1
            · exact DecAt.next (by have := hDA.out; rwa [show N - (k + 1) + 1 = N - k by omega]) hb'
            · omega
            · omega
        case measure => simp [intOf]; omega
      · have hDn : D = none := by
          rcases hst.out with ⟨_, h⟩ | ⟨h, _⟩
          · exact h
          · rw [hbd] at h; cases h
        have hR := hR2.out
        rw [hDn] at hR
        dsimp only at hR
        subst hR
        have hdn : s.done = false := by unfold CS.done; rw [hbd]; rfl
        go_wp2_with fail
        refine (end_ok wr p s c1).mono ?_
        rintro e w4 ⟨rfl, rfl⟩
        go_wp2
        go_ret2
        exact ⟨_, rfl, World.ownsRow_nil _ _ _ _, hch⟩
    · obtain rfl : k = N := by omega
      cases hdn : s.done
      · have hR := hR2.out
        have hR3 : R = ([], false) := by
          rcases hst.out with ⟨_, h⟩ | ⟨h1, al, _, h2, _⟩
          · rw [h] at hR; exact hR
          · rw [Nat.sub_self] at h2
            rw [h2.done] at hR
            dsimp only at hR
            rw [if_neg (by rw [hdn]; simp)] at hR
            exact hR
        subst hR3
        go_wp2_with fail
        refine (end_ok wr p s c1).mono ?_
        rintro e w4 ⟨rfl, rfl⟩
        go_wp2
        go_ret2
        exact ⟨_, rfl, World.ownsRow_nil _ _ _ _, hch⟩
      · obtain ⟨al, h2⟩ : ∃ al : Nat, DecAt D 0 s was al L ∧ D ≠ none := by
          rcases hst.out with ⟨h1, _⟩ | ⟨_, al, _, h2, _⟩
          · unfold CS.done at hdn; rw [h1] at hdn; simp at hdn
          · rw [Nat.sub_self] at h2
            exact ⟨al, h2, by rw [h2.done]; simp⟩
        have hDs := h2.1.done
        have hfw : sumT L ≤ 16777216 := by
          have := decT_fewer (x := (L, s)) (by rw [← hDs]; exact hDe.out.symm) (by omega)
          simpa using this
        have hLe : ∀ x ∈ L, x.length ≤ big := fun x hx => by
          have := le_sumT hx
          unfold big; omega
        have hR := hR2.out
        rw [hDs] at hR
        dsimp only at hR
        have hLk2 := hLk.out
        obtain ⟨ao, co, rfl⟩ := own_shape hown
        have sL : Sl wr (.slice ao k co) L.length (tcs L) := by rw [hLk2]; exact Sl.ofOwns hown
        have kE := fencode_ok wr _ L sL (by rw [hLk2]; unfold big; omega) hLe
        clear hLe h2 hDs hst
        rw [hLk2] at sL
        replace hR := Lib.hid hR
        replace kE := Lib.hid kE
        clear hLk2
        go_wp2_with fail
        refine (end_ok wr p s c1).mono ?_
        rintro e w4 ⟨rfl, rfl⟩
        go_wp2_with fail
        refine kE.out.mono ?_
        rintro e w5 ⟨v5, rfl, o5, g5⟩
        have hch5 := hch.t0 g5
        have hown5 := own_tr hown g5 (by simp)
        cases hf : fewT L
        · have hR3 := hR.out
          rw [if_neg (by rw [hf]; simp)] at hR3
          dsimp only at hR3
          subst hR3
          rw [hf] at o5
          clear kE hR o5
          go_wp2
          go_ret2
          exact ⟨_, rfl, World.ownsRow_nil _ _ _ _, hch5⟩
        · rw [hf, if_pos rfl] at o5
          have q1 := run_str (P := Tryd.prog) Tryd.underlying25 Tryd.underlying5 Tryd.underlying9 (Sl.ofOwns o5) rfl
          have q2 := run_str (P := Tryd.prog) Tryd.underlying25 Tryd.underlying5 Tryd.underlying9 (hs.tr0 hch5) rfl
          obtain ⟨a5, c5, rfl⟩ := own_shape o5
          have hR3 := hR.out
          by_cases he : encT [] L = b
          · rw [if_pos ⟨hdn, hf, he⟩] at hR3
            dsimp only at hR3
            subst hR3
            have q3 : (convert 25 9 (.slice a5 (encT [] L).length c5)).run Tryd.prog w5 = .ok (.string (bstr b)) w5 := by rw [q1, he]
            generalize (encT [] L).length = nE at *
            clear kE hR o5 he q1
            go_wp2
            go_ret2
            refine ⟨_, rfl, ?_, hch5⟩
            dsimp only
            rw [hLk.out]
            exact own_lower hown5 hw0
          · rw [if_neg (fun h => he h.2.2)] at hR3
            dsimp only at hR3
            subst hR3
            have hne : (encT [] L == b) = false := by simpa using he
            generalize encT [] L = E at *
            clear kE hR o5 he

            go_wp2
            go_ret2
            exact ⟨_, rfl, World.ownsRow_nil _ _ _ _, hch5⟩
end Go.Proofs.YtdclbhmmpdngpaaDoor
