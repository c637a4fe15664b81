/-
  The contract of the document's Encode (hypostyleref13).
-/
import Derived.Test.YtdclbhmmpdngpaaDoorFrontEnc
import Derived.Test.YtdclbhmmpdngpaaDoorRowsB
namespace Go.Proofs.YtdclbhmmpdngpaaDoor
set_option linter.unusedSimpArgs false
set_option linter.unusedVariables false
open Go.RowKit

set_option maxHeartbeats 8000000 in
set_option maxRecDepth 100000 in
theorem rfencode_ok (w : World) (v : Value) (l : List (List UInt8)) (hs : Sl w v l.length (tcs l)) (hl : l.length * 16 ≤ big) (hb : ∀ s ∈ l, s.length ≤ big) :
    Calls Tryd.prog 11 #[v] w fun e w' => ∃ v', e = .returned (.tuple #[v', .bool (fewT l)]) ∧ w'.ownsRow w.heap.size 5 1 v' (if fewT l = true then encT [] l else []).length (bcs (if fewT l = true then encT [] l else [])) ∧ Chg [] w w' := by
  obtain ⟨R, hR⟩ : ∃ R, R = (if fewT l = true then encT [] l else []) := ⟨_, rfl⟩
  rw [← hR]
  obtain ⟨F, hF⟩ : ∃ F, F = fewT l := ⟨_, rfl⟩
  rw [← hF] at hR ⊢
  replace hR := Lib.hid hR
  replace hF := Lib.hid hF
  replace hb := Lib.hid hb
  unfold big at hl
  have hno : ∀ b, F = b → b = false → R = [] := fun b h1 h2 => by rw [hR.out, h1, h2]; simp
  replace hno := Lib.hid hno
  obtain ⟨a0, c0, rfl⟩ := hs.shape
  go_enter Tryd.func11, Tryd.ntmps11
  by_cases h6 : 65536 < l.length
  · have h6i : (65536 : Int) < l.length := by omega
    have hF2 : F = false := by rw [hF.out]; exact decide_eq_false fun h => by have := h.1; omega
    have hR2 := hno.out _ rfl hF2
    subst hF2 hR2
    go_wp2
    go_ret2
    exact ⟨_, rfl, World.ownsRow_nil _ _ _ _, Chg.refl _ _⟩
  have h6i : (l.length : Int) ≤ 65536 := by omega
  go_wp2_with fail
  go_loopw [4, 5] (fun av iv wr => ∃ k : Nat, k ≤ l.length ∧ iv = .int .i64 k ∧ av = .int .i64 (sumT (l.take k) : Nat) ∧ (∀ s ∈ l.take k, s.length ≤ 65536) ∧ sumT (l.take k) ≤ 16777216 ∧ Chg [] w wr) (fun _ iv _ => l.length - (intOf iv).toNat)
  case atStart => exact ⟨0, Nat.zero_le _, rfl, by simp [sumT], by simp, by simp [sumT], Chg.refl _ _⟩
  case round =>
    obtain ⟨k, hk, rfl, rfl, hsm, hsum, hch⟩ := hrel
    replace hsm := Lib.hid hsm
    by_cases hlt : k < l.length
    · have hki : (k : Int) < l.length := by omega
      obtain ⟨b, off, c, e, hbl, x1⟩ := text_cells (hs.tr0 hch) k hlt
      cases e
      have htk : l.take (k + 1) = l.take k ++ [l[k]] := List.take_succ_eq_append_getElem hlt
      have hle := sumT_take l (k + 1)
      have hmem := List.getElem_mem hlt
      have hxb : l[k].length ≤ 140737488355328 := hb.out _ hmem
      replace htk := Lib.hid htk
      generalize hS : sumT (l.take k) = S at *
      have hS1 : sumT (l.take (k + 1)) = S + l[k].length := by rw [htk.out, sumT_snoc, hS]
      rw [hS1] at hle
      replace hS1 := Lib.hid hS1
      replace hS := Lib.hid hS
      have hwS : wrap64 ((S : Int) + (l[k].length : Nat)) = ((S + l[k].length : Nat) : Int) := by unfold wrap64; omega
      have hcast : ((S + l[k].length : Nat) : Int) = (S : Int) + l[k].length := by omega
      by_cases hbad : 65536 < l[k].length ∨ 16777216 < S + l[k].length
      · have hF2 : F = false := by
          rw [hF.out]
          refine decide_eq_false fun h => ?_
          rcases hbad with hbad | hbad
          · have := h.2.1 _ hmem; omega
          · have := h.2.2; omega
        have hR2 := hno.out _ rfl hF2
        subst hF2 hR2
        replace hmem := Lib.hid hmem
        generalize l[k] = x at *
        by_cases hx : 65536 < x.length
        · have hxi : (65536 : Int) < x.length := by omega
          go_wp2
          go_ret2
          exact ⟨_, rfl, World.ownsRow_nil _ _ _ _, hch⟩
        · have hxi : ¬ (65536 : Int) < x.length := by omega
          have hyi : (16777216 : Int) < (S : Int) + x.length := by omega
          go_wp2
          go_ret2
          exact ⟨_, rfl, World.ownsRow_nil _ _ _ _, hch⟩
      · have hxi : ¬ (65536 : Int) < l[k].length := by omega
        have hyi : ¬ (16777216 : Int) < (S : Int) + l[k].length := by omega
        replace hmem := Lib.hid hmem
        generalize l[k] = x at *
        go_wp2_with fail
        go_roundw
        case rel => exact ⟨k + 1, by omega, by go_num, by rw [hS1.out, Int.natCast_add], by rw [htk.out]; intro s hs; rcases List.mem_append.1 hs with h | h; exact hsm.out s h; rw [List.mem_singleton.1 h]; omega, by rw [hS1.out]; omega, hch⟩
        case measure => simp [intOf]; omega
    · obtain rfl : k = l.length := by omega
      have hsm := hsm.out
      rw [List.take_length] at hsm hsum ⊢
      have hF2 : F = true := by rw [hF.out]; exact decide_eq_true ⟨by omega, hsm, hsum⟩
      have hR2 : R = encT [] l := by rw [hR.out, if_pos hF2]
      subst hF2
      clear hR hF hno hb
      replace hR2 := Lib.hid hR2
      have f2 := Lib.hid hsm
      clear hsm
      obtain ⟨w1, hw1⟩ : ∃ w1 : World, w1 = wr := ⟨_, rfl⟩
      rw [← hw1]
      rw [← hw1] at hch
      clear hw1
      go_wp2_with fail
      have hbw : w.heap.size ≤ w1.heap.size := hch.size
      go_loopw [6, 7, 8] (fun bv av iv wr => ∃ k : Nat, k ≤ l.length ∧ iv = .int .i64 k ∧ av = .string (bstr (lastT [] (l.take k))) ∧ wr.ownsRow w.heap.size 5 1 bv (encT [] (l.take k)).length (bcs (encT [] (l.take k))) ∧ Chg [] w wr) (fun _ _ iv _ => l.length - (intOf iv).toNat)
      case atStart => exact ⟨0, Nat.zero_le _, rfl, rfl, World.ownsRow_nil _ _ _ _, hch⟩
      case round =>
        clear hch
        obtain ⟨k, hk, rfl, rfl, hown, hch⟩ := hrel
        by_cases hlt : k < l.length
        · have hki : (k : Int) < l.length := by omega
          obtain ⟨b, off, c, e, hbl, x1w⟩ := text_cells hs k hlt
          cases e
          have htk : l.take (k + 1) = l.take k ++ [l[k]] := List.take_succ_eq_append_getElem hlt
          have hx := f2.out _ (List.getElem_mem hlt)
          have htake := encT_length (l.take k) [] fun s hs => f2.out s (List.mem_of_mem_take hs)
          have hsum2 := sumT_take l k
          have hlk : (l.take k).length ≤ 65536 := by rw [List.length_take]; omega
          have hlast : (lastT [] (l.take k)).length ≤ 65536 := by
            unfold lastT
            rw [List.getLastD_eq_getLast?]
            cases hg : (l.take k).getLast? with
            | none => simp
            | some z => exact f2.out z (List.mem_of_mem_take (List.mem_of_getLast? hg))
          have hE : encT [] (l.take (k + 1)) = encT [] (l.take k) ++ (vput (shareV (lastT [] (l.take k)) l[k]) ++ (vput (l[k].length - shareV (lastT [] (l.take k)) l[k]) ++ l[k].drop (shareV (lastT [] (l.take k)) l[k]))) := by
            rw [htk, encT_snoc]; simp [encT]
          have hL : lastT [] (l.take (k + 1)) = l[k] := by rw [htk, lastT_snoc]
          replace hE := Lib.hid hE
          replace hL := Lib.hid hL
          have kS := fun w => rshared_ok w (lastT [] (l.take k)) l[k] (by unfold big; omega) (by unfold big; omega)
          have hle := shareV_le (lastT [] (l.take k)) l[k]
          have hacc : (encT [] (l.take k)).length ≤ 20000000 := by omega
          clear htake hsum2 hlk htk
          generalize hS : shareV (lastT [] (l.take k)) l[k] = S at *
          clear hS
          generalize lastT [] (l.take k) = was at *
          generalize encT [] (l.take k) = acc at *
          generalize l[k] = x at *
          have x1 := hch.cellv x1w (by simp)
          go_wp2_with fail
          refine (kS wr).mono ?_
          rintro e w3 ⟨rfl, g3⟩
          replace hch := hch.t0 g3
          replace hown := own_tr hown g3 (by simp)
          clear g3 kS x1
          have x1 := hch.cellv x1w (by simp)
          have hwS : IntKind.u64.wrap (S : Int) = (S : Int) := by rw [IntKind.wrap_u64]; omega
          obtain ⟨Dn, hDn⟩ : ∃ Dn, Dn = x.length - S := ⟨_, rfl⟩
          rw [← hDn] at hE
          have hDi : (x.length : Int) - (S : Int) = (Dn : Int) := by omega
          have hwD2 : IntKind.u64.wrap (Dn : Int) = (Dn : Int) := by rw [IntKind.wrap_u64]; omega
          have hD64 : Dn < 2 ^ 64 := by omega
          replace hDn := Lib.hid hDn
          have a1 : (vput S).length ≤ 10 := vsize_ten (by omega)
          have a2 : (vput Dn).length ≤ 10 := vsize_ten hD64
          have hb3 : w.heap.size ≤ w3.heap.size := hch.size
          go_wp2_with fail
          refine (rput_ok w3 _ acc S (by omega) (Sl.ofOwns hown) (by unfold big; omega)).mono ?_
          rintro e w4 ⟨v4, rfl, o4, g4⟩
          replace hch := hch.t0 g4
          replace o4 := own_lower o4 hb3
          unfold vsize at o4
          generalize vput S = V1 at *
          rw [← List.length_append] at o4
          clear hown g4 x1
          have x1 := hch.cellv x1w (by simp)
          have hb4 : w.heap.size ≤ w4.heap.size := hch.size
          obtain ⟨acc2, hac2⟩ : ∃ acc2, acc2 = acc ++ V1 := ⟨_, rfl⟩
          rw [← hac2] at o4
          have hl2 : acc2.length ≤ 20000010 := by rw [hac2, List.length_append]; omega
          replace hac2 := Lib.hid hac2
          go_wp2_with fail
          refine (rput_ok w4 _ acc2 Dn hD64 (Sl.ofOwns o4) (by unfold big; omega)).mono ?_
          rintro e w5 ⟨v5, rfl, o5, g5⟩
          replace hch := hch.t0 g5
          replace o5 := own_lower o5 hb4
          unfold vsize at o5
          generalize vput Dn = V2 at *
          rw [← List.length_append] at o5
          clear o4 g5 x1
          have x1 := hch.cellv x1w (by simp)
          have hb5 : w.heap.size ≤ w5.heap.size := hch.size
          obtain ⟨acc3, hac3⟩ : ∃ acc3, acc3 = acc2 ++ V2 := ⟨_, rfl⟩
          rw [← hac3] at o5
          have hl3 : acc3.length ≤ 20000020 := by rw [hac3, List.length_append]; omega
          replace hac3 := Lib.hid hac3
          have hdl : (x.drop S).length ≤ 65536 := by rw [List.length_drop]; omega
          have hdr := bstr_drop x S
          go_wp2_with (at_builtin; go_must (refine wpList_app_str rfl (.tmp 62) (.tmp 68) 25 9 5 rfl Tryd.underlying25 Tryd.underlying9 (by kernel_rfl) w.heap.size _ acc3.length acc3 rfl o5 (x.drop S) rfl (by unfold big; omega) hb5 ?_))
          intro v6 w6 o6 g6
          have hch6 := hch.grownOwn g6 o5 (Nat.le_refl _)
          have hfin : acc3 ++ x.drop S = encT [] (l.take (k + 1)) := by rw [hE.out, hac3.out, hac2.out]; simp
          replace o6 : w6.ownsRow w.heap.size 5 1 v6 (encT [] (l.take (k + 1))).length (bcs (encT [] (l.take (k + 1)))) := by
            rw [← hfin, List.length_append, List.length_drop]; exact o6
          clear hfin hE hdl x1 hdr o5 g6 hch hl3 hl2
          have x1 := hch6.cellv x1w (by simp)
          go_wp2
          go_roundw
          case rel => exact ⟨k + 1, by omega, by go_num, by rw [hL.out], o6, hch6⟩
          case measure => simp [intOf]; omega
        · obtain rfl : k = l.length := by omega
          rw [List.take_length] at hown
          have hR := hR2.out
          subst hR
          go_wp2
          go_ret2
          exact ⟨_, rfl, hown, hch⟩
end Go.Proofs.YtdclbhmmpdngpaaDoor
