/-
  The contract of front.Encode.
-/
import Derived.Test.YtdclbhmmpdngpaaDoorTexts
import Derived.Test.YtdclbhmmpdngpaaDoorBuf
namespace Go.Proofs.YtdclbhmmpdngpaaDoor
set_option linter.unusedSimpArgs false
set_option linter.unusedVariables false
open Go.RowKit

theorem bstr_drop (l : List UInt8) (k : Nat) : (bstr l).extract k l.length = bstr (l.drop k) := by
  unfold bstr
  apply ByteArray.ext
  simp [ByteArray.data_extract, List.take_of_length_le]

set_option maxHeartbeats 8000000 in
set_option maxRecDepth 100000 in
theorem fencode_ok (w : World) (v : Value) (l : List (List UInt8)) (hs : Sl w v l.length (tcs l)) (hl : l.length * 16 ≤ big) (hb : ∀ s ∈ l, s.length ≤ big) :
    Calls Tryd.prog 10 #[v] w fun e w' => ∃ v', e = .returned (.tuple #[v', .bool (fewT l)]) ∧ w'.ownsRow w.heap.size 5 1 v' (if fewT l = true then encT [] l else []).length (bcs (if fewT l = true then encT [] l else [])) ∧ Chg [] w w' := by
  have kF := fun w' (g : Chg [] w w') => fewt_ok w' v l (hs.tr0 g) hl hb
  obtain ⟨R, hR⟩ : ∃ R, R = (if fewT l = true then encT [] l else []) := ⟨_, rfl⟩
  rw [← hR]
  obtain ⟨F, hF⟩ : ∃ F, F = fewT l := ⟨_, rfl⟩
  rw [← hF] at hR ⊢
  simp only [← hF] at kF
  replace hR := Lib.hid hR
  replace hF := Lib.hid hF
  clear hb
  unfold big at hl
  obtain ⟨a0, c0, rfl⟩ := hs.shape
  go_enter Tryd.func10, Tryd.ntmps10
  go_wp2_with fail
  refine (kF w (Chg.refl _ _)).mono ?_
  rintro e w1 ⟨rfl, g1⟩
  clear kF
  cases F
  · have hR := hR.out
    rw [if_neg (by simp)] at hR
    subst hR
    go_wp2
    go_ret2
    exact ⟨_, rfl, World.ownsRow_nil _ _ _ _, g1⟩
  · have hR2 := hR.out
    rw [if_pos rfl] at hR2
    replace hR2 := Lib.hid hR2
    clear hR
    have hf := hF.out.symm
    unfold fewT at hf
    simp only [decide_eq_true_eq] at hf
    obtain ⟨f1, f2, f3⟩ := hf
    replace f2 := Lib.hid f2
    clear hF
    go_wp2_with fail
    have bf := BufAt.fresh w1
    have g2 := g1.t0 (Chg.alloc [] w1 (.cells #[.slice none 0 0, .int .i64 0, .int .i8 0] 38))
    have hbw : w.heap.size ≤ w1.heap.size := g1.size
    have hbf := bf.lt
    generalize w1.alloc (.cells #[.slice none 0 0, .int .i64 0, .int .i8 0] 38) = w2 at *
    obtain ⟨B, hB⟩ : ∃ B, B = w1.heap.size := ⟨_, rfl⟩
    simp only [← hB] at bf hbw hbf ⊢
    replace hB := Lib.hid hB
    go_loopw [5, 14] (fun av iv wr => ∃ k : Nat, k ≤ l.length ∧ iv = .int .i64 k ∧ av = .string (bstr (lastT [] (l.take k))) ∧ BufAt wr B B (encT [] (l.take k)) ∧ B < wr.heap.size ∧ Chg [] w wr) (fun _ iv _ => l.length - (intOf iv).toNat)
    case atStart => exact ⟨0, Nat.zero_le _, rfl, rfl, bf, hbf, g2⟩
    case round =>
      clear bf hbf g2
      obtain ⟨k, hk, rfl, rfl, bf, hbf, hch⟩ := hrel
      by_cases hlt : k < l.length
      · have hki : (k : Int) < l.length := by omega
        obtain ⟨b, off, c, e, hbl, x1⟩ := text_cells (hs.tr0 hch) k hlt
        cases e
        have htk : l.take (k + 1) = l.take k ++ [l[k]] := List.take_succ_eq_append_getElem hlt
        have hx := f2.out _ (List.getElem_mem hlt)
        have htake := encT_length (l.take k) [] fun s hs => f2.out s (List.mem_of_mem_take hs)
        have hsum := sumT_take l k
        have hlk : (l.take k).length ≤ 65536 := by rw [List.length_take]; omega
        have hlast : (lastT [] (l.take k)).length ≤ 65536 := by
          unfold lastT
          rw [List.getLastD_eq_getLast?]
          cases hg : (l.take k).getLast? with
          | none => simp
          | some z => exact f2.out z (List.mem_of_mem_take (List.mem_of_getLast? hg))
        have hE : encT [] (l.take (k + 1)) = encT [] (l.take k) ++ (vput (shareV (lastT [] (l.take k)) l[k]) ++ (vput (l[k].length - shareV (lastT [] (l.take k)) l[k]) ++ l[k].drop (shareV (lastT [] (l.take k)) l[k]))) := by
          rw [htk, encT_snoc]; simp [encT]
        have hL : lastT [] (l.take (k + 1)) = l[k] := by rw [htk, lastT_snoc]
        replace hE := Lib.hid hE
        replace hL := Lib.hid hL
        have kS := fun w => shared_ok w (lastT [] (l.take k)) l[k] (by unfold big; omega) (by unfold big; omega)
        have hle := shareV_le (lastT [] (l.take k)) l[k]
        have hacc : (encT [] (l.take k)).length ≤ 20000000 := by omega
        clear htake hsum hlk htk
        generalize hS : shareV (lastT [] (l.take k)) l[k] = S at *
        clear hS
        generalize lastT [] (l.take k) = was at *
        generalize encT [] (l.take k) = acc at *
        generalize l[k] = x at *
        go_wp2_with fail
        refine (kS wr).mono ?_
        rintro e w3 ⟨rfl, g3⟩
        replace bf := bf.tr0 g3
        replace hch := hch.t0 g3
        have hbf3 : B < w3.heap.size := Nat.lt_of_lt_of_le hbf g3.size
        clear g3 kS x1
        have hwS : IntKind.u64.wrap (S : Int) = (S : Int) := by rw [IntKind.wrap_u64]; omega
        obtain ⟨Dn, hDn⟩ : ∃ Dn, Dn = x.length - S := ⟨_, rfl⟩
        rw [← hDn] at hE
        have hDi : (x.length : Int) - (S : Int) = (Dn : Int) := by omega
        have hwD2 : IntKind.u64.wrap (Dn : Int) = (Dn : Int) := by rw [IntKind.wrap_u64]; omega
        have hD64 : Dn < 2 ^ 64 := by omega
        replace hDn := Lib.hid hDn
        have a1 : (vput S).length ≤ 10 := vsize_ten (by omega)
        have a2 : (vput Dn).length ≤ 10 := vsize_ten hD64
        have p1 : 0 < (vput S).length := vsize_pos S
        have p2 : 0 < (vput Dn).length := vsize_pos _
        go_wp2_with fail
        refine (vput_ok w3 _ [] S (by omega) (Sl.nil _) (by unfold big; simp)).mono ?_
        rintro e w4 ⟨v4, rfl, o4, g4⟩
        replace bf := bf.tr0 g4
        replace hch := hch.t0 g4
        simp only [List.length_nil, Nat.zero_add, List.nil_append, vsize] at o4
        generalize vput S = V1 at *
        go_wp2_with fail
        refine (bufWrite_ok w4 B B acc V1 v4 w3.heap.size bf (by have := g4.size; omega) o4 hbf3 p1 (by unfold big; omega)).mono ?_
        rintro e w5 ⟨rfl, bf5, g5⟩
        replace hch := hch.belowTr (g5.mono hbw)
        have hbf5 : B < w5.heap.size := by have := g4.size; have := g5.size; omega
        clear bf g5 o4 g4 hbf3
        go_wp2_with fail
        refine (vput_ok w5 _ [] Dn hD64 (Sl.nil _) (by unfold big; simp)).mono ?_
        rintro e w6 ⟨v6, rfl, o6, g6⟩
        replace bf5 := bf5.tr0 g6
        replace hch := hch.t0 g6
        simp only [List.length_nil, Nat.zero_add, List.nil_append, vsize] at o6
        generalize vput Dn = V2 at *
        go_wp2_with fail
        refine (bufWrite_ok w6 B B _ V2 v6 w5.heap.size bf5 (by have := g6.size; omega) o6 hbf5 p2 (by unfold big; simp; omega)).mono ?_
        rintro e w7 ⟨rfl, bf7, g7⟩
        replace hch := hch.belowTr (g7.mono hbw)
        have hbf7 : B < w7.heap.size := by have := g6.size; have := g7.size; omega
        clear bf5 g7 o6 g6 hbf5
        go_wp2_with fail
        rw [bstr_drop]
        have hdl : (x.drop S).length ≤ 65536 := by rw [List.length_drop]; omega
        refine (bufString_ok w7 B B _ (x.drop S) bf7 (by omega) (by simp only [List.length_append]; unfold big; omega)).mono ?_
        rintro e w8 ⟨rfl, bf8, g8⟩
        replace hch := hch.belowTr (g8.mono hbw)
        have hbf8 : B < w8.heap.size := by have := g8.size; omega
        have hfin : acc ++ V1 ++ V2 ++ x.drop S = encT [] (l.take (k + 1)) := by rw [hE.out]; simp
        rw [hfin] at bf8
        clear hfin hE hdl
        replace hL := hL
        go_wp2
        go_roundw
        case rel => exact ⟨k + 1, by omega, by go_num, by rw [hL.out], bf8, hbf8, hch⟩
        case measure => simp [intOf]; omega
      · obtain rfl : k = l.length := by omega
        rw [List.take_length] at bf
        go_wp2_with fail
        refine (bufBytes_ok wr B B _ bf).mono ?_
        rintro e w3 ⟨v', rfl, hown, g3⟩
        have hR := hR2.out
        subst hR
        go_wp2
        go_ret2
        exact ⟨_, rfl, own_lower hown hbw, hch.t0 g3⟩
end Go.Proofs.YtdclbhmmpdngpaaDoor
