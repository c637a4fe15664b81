/-
  The contracts of the document's own lengths and frames (hypostyleref02.long, .Frame), and of .Same.
-/
import Derived.Test.YtgepfmofignmfaaTag
import Derived.Test.YtgepfmofignmfaaSoftW
namespace Go.Proofs.Ytgepfmofignmfaa
set_option linter.unusedSimpArgs false
set_option linter.unusedVariables false
open Go.RowKit

theorem tdiv256 (N j : Nat) : ((N : Int) / 256 ^ j).tdiv 256 = ((N / 256 ^ (j + 1) : Nat) : Int) := by
  rw [low_cast, Int.tdiv_eq_ediv_of_nonneg]
  exact Int.ediv_nonneg (by omega) (by exact Int.pow_nonneg (by decide))

set_option maxHeartbeats 4000000 in
set_option maxRecDepth 100000 in
theorem long_ok (w : World) (N : Nat) (hN : N ≤ maxLen) :
    Calls Try.prog 68 #[.int .i64 N] w fun e w' => ∃ v', e = .returned v' ∧ w'.ownsRow w.heap.size 5 1 v' 8 (bcs (lowb N 8)) ∧ Chg [] w w' := by
  unfold maxLen at hN
  go_enter Try.func68, Try.ntmps68
  go_wp2_with fail
  go_loopw [0, 3, 4] (fun nv out iv wr => ∃ j : Nat, j ≤ 8 ∧ iv = .int .i64 j ∧ nv = .int .i64 (N / 256 ^ j : Nat) ∧ wr.ownsRow w.heap.size 5 1 out j (bcs (lowb N j)) ∧ Chg [] w wr) (fun _ _ iv _ => 8 - (intOf iv).toNat)
  case atStart => exact ⟨0, by omega, rfl, by simp, World.ownsRow_nil _ _ _ _, Chg.refl _ _⟩
  case round =>
    obtain ⟨j, hj, rfl, rfl, ho, hc⟩ := hrel
    by_cases hj8 : j < 8
    · have hle : N / 256 ^ j ≤ N := Nat.div_le_self _ _
      have hle2 : N / 256 ^ (j + 1) ≤ N := Nat.div_le_self _ _
      have htd := tdiv256 N j
      have hw : Value.int .i64 (wrap64 ((N : Int) / 256 ^ (j + 1))) = .int .i64 ((N / 256 ^ (j + 1) : Nat) : Int) := by
        have e : ((N / 256 ^ (j + 1) : Nat) : Int) = (N : Int) / 256 ^ (j + 1) := by push_cast; rfl
        rw [← e]
        have hle3 : N / 256 ^ (j + 1) ≤ 9223372036854775807 := by omega
        generalize N / 256 ^ (j + 1) = M at hle3 ⊢
        congr 1
        unfold wrap64
        omega
      replace hw := Lib.hid hw
      go_wp2_with (at_builtin; go_must (refine wpList_append_sl _ rfl (.tmp 9) (.tmp 12) 22 5 1 1 rfl el_b w.heap.size _ _ _ rfl (ho.alloc _) _ 1 (bcs [UInt8.ofNat (N / 256 ^ j)]) rfl (Sl.byte1 _ _ _ _ (byte_val _).symm) (by simp [bcs]) (bcs_one _) (by unfold big; omega) (by have := hc.size; simp; omega) ?_))
      intro v' w' o' g'
      have hc' : Chg [] w w' := (hc.t0 (Chg.alloc [] _ _)).grownOwn g' (ho.alloc _) (Nat.le_refl _)
      rw [← bcs_append, ← lowb_snoc] at o'
      clear ho g' hc
      go_wp2
      go_roundw
      case rel => exact ⟨j + 1, by omega, by go_num, hw.out, o', hc'⟩
      case measure => simp [intOf]; omega
    · obtain rfl : j = 8 := by omega
      go_wp2
      go_ret
      exact ⟨_, rfl, ho, hc⟩

set_option maxHeartbeats 4000000 in
set_option maxRecDepth 100000 in
theorem rframe_ok (w : World) (s : Bytes) (v : Value) (D : RowsB) (hD : SlB w v D) (hsl : s.length ≤ maxLen) (hdl : D.length ≤ maxLen) (hb : sumL (D.map (·.2)) ≤ 2147480000) :
    Calls Try.prog 60 #[.string (bstr s), v] w fun e w' => ∃ v', e = .returned (.tuple #[v', .bool (frameOk s (D.map (·.2)))]) ∧
      w'.ownsRow w.heap.size 5 1 v' (frameV s (D.map (·.2))).length (bcs (frameV s (D.map (·.2)))) ∧ Chg [] w w' := by
  obtain ⟨a0, c0, rfl⟩ := hD.1.shape
  unfold maxLen at hsl hdl
  cases hf : frameOk s (D.map (·.2))
  · have hno : w.ownsRow w.heap.size 5 1 (.slice none 0 0) (frameV s (D.map (·.2))).length (bcs (frameV s (D.map (·.2)))) := by
      simp only [frameV, hf, Bool.false_eq_true, if_false]
      exact World.ownsRow_nil _ _ _ _
    have hst : s.length < 1 ∨ (0 < s.length ∧ 255 < s.length) ∨ (0 < s.length ∧ s.length ≤ 255 ∧ 255 < D.length) := by
      simp [frameOk] at hf
      cases s with
      | nil => left; decide
      | cons x s =>
        right
        by_cases h : 255 < (x :: s).length
        · exact .inl ⟨by simp, h⟩
        · exact .inr ⟨by simp, by omega, hf (by simp) (by omega)⟩
    clear hf
    go_enter Try.func60, Try.ntmps60
    rcases hst with h1 | ⟨h1, h2⟩ | ⟨h1, h2, h3⟩
    all_goals
      go_wp2
      go_ret2
      exact ⟨_, rfl, hno, Chg.refl _ _⟩
  · simp only [frameOk, List.length_map, Bool.and_eq_true, decide_eq_true_eq] at hf
    obtain ⟨⟨h1, h2⟩, h3⟩ := hf
    have hV : frameV s (D.map (·.2)) = frameB s (D.map (·.2)) := by
      unfold frameV; rw [if_pos]; simp [frameOk, h1, h2, h3]
    rw [hV]
    clear hV
    obtain ⟨H, hH⟩ : ∃ H, H = UInt8.ofNat s.length :: s ++ [UInt8.ofNat D.length] := ⟨_, rfl⟩
    have hHl : H.length = 2 + s.length := by rw [hH]; simp; omega
    have hfr : frameB s (D.map (·.2)) = H ++ (D.map (·.2)).flatMap partB := by rw [hH]; simp [frameB]
    rw [hfr]
    clear hfr
    replace hH := Lib.hid hH
    have hflat : ∀ k, (((D.map (·.2)).take k).flatMap partB).length ≤ ((D.map (·.2)).flatMap partB).length := fun k => by
      conv => rhs; rw [← List.take_append_drop k (D.map (·.2)), List.flatMap_append, List.length_append]
      omega
    have hfl := flatB_len (D.map (·.2))
    rw [List.length_map] at hfl
    go_enter Try.func60, Try.ntmps60
    go_wp2_with (at_builtin; go_must (refine wpList_app_str rfl (.tmp 25) (.tmp 26) 22 9 5 rfl Try.underlying22 Try.underlying9 (by kernel_rfl) w.heap.size _ 1 [UInt8.ofNat s.length] rfl (own_byte w _ _ _ _ (Nat.le_refl _) (byte_le h2)) s rfl (by unfold big; omega) (by simp) ?_))
    intro v1 w1 o1 g1
    have c1 : Chg [] w w1 := (Chg.alloc [] w _).grownOwn g1 (own_byte w _ _ _ _ (Nat.le_refl _) (byte_le h2)) (Nat.le_refl _)
    clear g1
    go_wp2_with (at_builtin; go_must (refine wpList_append_sl _ rfl (.tmp 28) (.tmp 32) 22 5 1 1 rfl el_b w.heap.size _ _ _ rfl (o1.alloc _) _ 1 (bcs [UInt8.ofNat D.length]) rfl (Sl.byte1 _ _ _ _ (byte_le h3)) (by simp [bcs]) (bcs_one _) (by unfold big; omega) (by have := c1.size; simp; omega) ?_))
    intro v2 w2 o2 g2
    have c2 : Chg [] w w2 := (c1.t0 (Chg.alloc [] w1 _)).grownOwn g2 (o1.alloc _) (Nat.le_refl _)
    rw [← bcs_append] at o2
    rw [← hH.out] at o2
    clear hH o1 g2 c1
    have o3 : w2.ownsRow w.heap.size 5 1 v2 (H ++ ((D.map (·.2)).take 0).flatMap partB).length (bcs (H ++ ((D.map (·.2)).take 0).flatMap partB)) := by
      rw [List.take_zero, List.flatMap_nil, List.append_nil, hHl, show 2 + s.length = 1 + s.length + 1 by omega]; exact o2
    clear o2
    replace hflat := Lib.hid hflat
    replace hfl := Lib.hid hfl
    replace hHl := Lib.hid hHl
    go_wp2_with fail
    go_loopw [6, 7] (fun out iv wr => ∃ k : Nat, k ≤ D.length ∧ iv = .int .i64 k ∧ wr.ownsRow w.heap.size 5 1 out (H ++ ((D.map (·.2)).take k).flatMap partB).length (bcs (H ++ ((D.map (·.2)).take k).flatMap partB)) ∧ Chg [] w wr) (fun _ iv _ => D.length - (intOf iv).toNat)
    case atStart => exact ⟨0, Nat.zero_le _, rfl, o3, c2⟩
    case round =>
      clear o3 c2
      obtain ⟨k, hk, rfl, ho, hc⟩ := hrel
      by_cases hlt : k < D.length
      · obtain ⟨b, off, c, e, hbl, x1, sx⟩ := (hD.tr0 hc).cell k hlt
        cases e
        have hkd : (k : Int) < D.length := by omega
        have hk0 : (0 : Int) ≤ k := by omega
        have hnx : H ++ ((D.map (·.2)).take (k + 1)).flatMap partB = (H ++ ((D.map (·.2)).take k).flatMap partB) ++ lowb D[k].2.length 8 ++ D[k].2 := by
          rw [flatB_take _ k (by simpa using hlt)]
          simp [partB]
        have hbd : (H ++ ((D.map (·.2)).take (k + 1)).flatMap partB).length ≤ 2147483647 := by
          have := hflat.out (k + 1); have := hfl.out; have := hHl.out
          rw [List.length_append]; omega
        have sw := hD.2 _ (List.getElem_mem hlt)
        obtain ⟨ax, cx, ex⟩ := sx.shape
        rw [ex] at x1 sw
        clear sx
        generalize D[k].2 = p at *
        generalize H ++ ((D.map (·.2)).take k).flatMap partB = X at *
        have hbd2 : X.length + 8 + p.length ≤ 2147483647 := by
          rw [hnx] at hbd; simp only [List.length_append, lowb_length] at hbd; exact hbd
        replace hnx := Lib.hid hnx
        clear hbd
        go_wp2_with fail
        refine (long_ok wr p.length (by unfold maxLen; omega)).mono ?_
        rintro e w3 ⟨v3, rfl, o3, g3⟩
        have s3 := Sl.ofOwns o3
        rw [show 8 = (lowb p.length 8).length from (lowb_length _ _).symm] at s3
        have ho3 := own_tr ho g3 (by simp)
        have hc3 := hc.t0 g3
        clear ho hc
        go_wp2_with (at_builtin; go_must (refine wpList_append_sl _ rfl (.tmp 40) (.tmp 46) 22 5 1 1 rfl el_b w.heap.size _ _ _ rfl ho3 _ _ (bcs (lowb p.length 8)) rfl s3 (by simp [bcs]) (bcs_one _) (by rw [lowb_length]; unfold big; omega) hc3.size ?_))
        intro v4 w4 o4 g4
        have hc4 : Chg [] w w4 := hc3.grownOwn g4 ho3 (Nat.le_refl _)
        rw [← bcs_append, lowb_length] at o4
        clear ho3 hc3 g4 o3 s3 g3
        obtain ⟨b, off, c, e, hbl, x1, sx⟩ := (hD.tr0 hc4).cell k hlt
        cases e
        rw [ex] at x1
        clear sx
        go_wp2_with (at_builtin; go_must (refine wpList_append_sl _ rfl (.tmp 48) (.tmp 52) 22 5 1 1 rfl el_b w.heap.size _ _ _ rfl o4 _ p.length (bcs p) rfl (sw.tr0 hc4) (by simp [bcs]) (bcs_one _) (by unfold big; omega) hc4.size ?_))
        intro v5 w5 o5 g5
        have hc5 : Chg [] w w5 := hc4.grownOwn g5 o4 (Nat.le_refl _)
        rw [← bcs_append] at o5
        clear o4 g5 hc4
        go_wp2
        go_roundw
        case rel => exact ⟨k + 1, by omega, by go_num, by rw [hnx.out]; simpa [lowb_length, Nat.add_assoc] using o5, hc5⟩
        case measure => simp [intOf]; omega
      · obtain rfl : k = D.length := by omega
        rw [List.take_of_length_le (by simp)] at ho
        go_wp2
        go_ret2
        exact ⟨_, rfl, ho, hc⟩

/-- What .Same tells of two rows of rows of bytes. -/
def sameB (a b : List Bytes) : Bool := decide (a = b)
set_option maxHeartbeats 4000000 in
set_option maxRecDepth 100000 in
theorem rsameB_ok (w : World) (v1 v2 : Value) (D E : RowsB) (h1 : SlB w v1 D) (h2 : SlB w v2 E) (hb : D.length ≤ maxLen) :
    Calls Try.prog 21 #[v1, v2] w fun e w' => e = .returned (.bool (sameB (D.map (·.2)) (E.map (·.2)))) ∧ Chg [] w w' := by
  obtain ⟨a1, c1, rfl⟩ := h1.1.shape
  obtain ⟨a2, c2, rfl⟩ := h2.1.shape
  have hE := h2.1.le
  unfold maxLen at hb hE
  obtain ⟨B, hB⟩ : ∃ B, B = sameB (D.map (·.2)) (E.map (·.2)) := ⟨_, rfl⟩
  rw [← hB]
  replace hB := Lib.hid hB
  go_enter Try.func21, Try.ntmps21
  by_cases hl : D.length = E.length
  · rw [← hl]
    replace hl := Lib.hid hl
    go_wp2_with fail
    go_loopw [5] (fun iv wr => ∃ k : Nat, k ≤ D.length ∧ iv = .int .i64 k ∧ (D.take k).map (·.2) = (E.take k).map (·.2) ∧ Chg [] w wr) (fun iv _ => D.length - (intOf iv).toNat)
    case atStart => exact ⟨0, Nat.zero_le _, rfl, by simp, Chg.refl _ _⟩
    case round =>
      obtain ⟨k, hk, rfl, hq, hc⟩ := hrel
      by_cases hlt : k < D.length
      · have hlt2 : k < E.length := by have := hl.out; omega
        obtain ⟨b, off, c, e, hbl, x1, s1⟩ := (h1.tr0 hc).cell k hlt
        cases e
        obtain ⟨b', off', c', e, hbl', x2, s2⟩ := (h2.tr0 hc).cell k hlt2
        cases e
        have hkd : (k : Int) < D.length := by omega
        have hk0 : (0 : Int) ≤ k := by omega
        have hn1 : (D.take (k + 1)).map (·.2) = (D.take k).map (·.2) ++ [D[k].2] := by rw [List.take_succ_eq_append_getElem hlt, List.map_append]; rfl
        have hn2 : (E.take (k + 1)).map (·.2) = (E.take k).map (·.2) ++ [E[k].2] := by rw [List.take_succ_eq_append_getElem hlt2, List.map_append]; rfl
        have hD1 : D[k].2 ≠ E[k].2 → sameB (D.map (·.2)) (E.map (·.2)) = false := fun hne => by
          unfold sameB
          refine decide_eq_false fun e => hne ?_
          have := congrArg (fun l : List Bytes => l[k]?) e
          simpa [hlt, hlt2] using this
        obtain ⟨ax, cx, ex⟩ := s1.shape
        obtain ⟨ay, cy, ey⟩ := s2.shape
        rw [ex] at x1 s1
        rw [ey] at x2 s2
        generalize D[k].2 = p at *
        generalize E[k].2 = q at *
        replace hn1 := Lib.hid hn1
        replace hn2 := Lib.hid hn2
        replace hq := Lib.hid hq
        go_wp2_with fail
        refine region_quietC (by kernel_rfl) (by kernel_rfl) ?_
        repeat (first
          | (refine quiet_cellC rfl _ _ rfl _ rfl _ _ x1 Try.underlying22 rfl ?_)
          | (refine quiet_cellC rfl _ _ rfl _ rfl _ _ x2 Try.underlying22 rfl ?_)
          | (refine quiet_strC rfl _ _ _ rfl _ rfl _ Try.underlying22 Try.underlying5 Try.underlying9 _ _ s1 rfl ?_)
          | (refine quiet_strC rfl _ _ _ rfl _ rfl _ Try.underlying22 Try.underlying5 Try.underlying9 _ _ s2 rfl ?_)
          | quiet_step ((intro hx; first | rfl)))
        refine wpQuiet_nil ?_
        intro w' g
        by_cases hpq : p = q
        · subst hpq
          simp only [beq_self_eq_true, Bool.not_true]
          go_wp2
          go_roundw
          case rel => exact ⟨k + 1, by omega, by go_num, by rw [hn1.out, hn2.out, hq.out], hc.t0 g⟩
          case measure => simp [intOf]; omega
        · have hF := hD1 hpq
          have hpq' : (p == q) = false := by simpa using hpq
          simp only [hpq', Bool.not_false]
          go_wp2
          go_ret
          exact ⟨by rw [hB.out, hF]; rfl, hc.t0 g⟩
      · obtain rfl : k = D.length := by omega
        have hT : sameB (D.map (·.2)) (E.map (·.2)) = true := by
          rw [List.take_of_length_le (by omega), List.take_of_length_le (by have := hl.out; omega)] at hq
          exact decide_eq_true hq
        clear hq
        go_wp2
        go_ret
        exact ⟨by rw [hB.out, hT]; rfl, hc⟩
  · have hF : sameB (D.map (·.2)) (E.map (·.2)) = false := by
      unfold sameB
      exact decide_eq_false fun e => hl (by simpa using congrArg List.length e)
    have hl' : ¬ (D.length : Int) = E.length := by omega
    have hl3 : ((D.length : Int) != E.length) = true := by simpa using hl'
    go_wp2
    go_ret
    exact ⟨by rw [hB.out, hF]; rfl, Chg.refl _ _⟩
end Go.Proofs.Ytgepfmofignmfaa
