/-
  The contracts of tag.Frame and of the document's own frame (hypostyleref02).
-/
import Derived.Test.YtgepfmofignmfaaRowsB
import Derived.Test.YtgepfmofignmfaaTagPure
import Derived.Test.YtgepfmofignmfaaBytes
import Derived.Lib.Hide
namespace Go.Proofs.Ytgepfmofignmfaa
set_option linter.unusedSimpArgs false
set_option linter.unusedVariables false
open Go.RowKit

theorem shr_byte (n k : Nat) : ((UInt8.ofNat (n / 256 ^ k)).toNat : Int) = (n : Int) / 2 ^ (8 * k) % 256 := by
  rw [byte_val, pow256]
  push_cast
  rfl

set_option maxHeartbeats 4000000 in
set_option maxRecDepth 100000 in
theorem frame_ok (w : World) (s : Bytes) (v : Value) (D : RowsB) (hD : SlB w v D) (hsl : s.length ≤ maxLen) (hdl : D.length ≤ maxLen) (hb : sumL (D.map (·.2)) ≤ 2147480000) :
    Calls Try.prog 58 #[.string (bstr s), v] w fun e w' => ∃ v', e = .returned (.tuple #[v', .bool (frameOk s (D.map (·.2)))]) ∧
      w'.ownsRow w.heap.size 5 1 v' (frameV s (D.map (·.2))).length (bcs (frameV s (D.map (·.2)))) ∧ Chg [] w w' := by
  obtain ⟨a0, c0, rfl⟩ := hD.1.shape
  unfold maxLen at hsl hdl
  cases hf : frameOk s (D.map (·.2))
  · have hno : w.ownsRow w.heap.size 5 1 (.slice none 0 0) (frameV s (D.map (·.2))).length (bcs (frameV s (D.map (·.2)))) := by
      simp only [frameV, hf, Bool.false_eq_true, if_false]
      exact World.ownsRow_nil _ _ _ _
    have hst : s.isEmpty = true ∨ (s.isEmpty = false ∧ 255 < s.length) ∨ (s.isEmpty = false ∧ s.length ≤ 255 ∧ 255 < D.length) := by
      simp [frameOk] at hf
      cases s with
      | nil => left; rfl
      | cons x s =>
        right
        by_cases h : 255 < (x :: s).length
        · exact .inl ⟨rfl, h⟩
        · exact .inr ⟨rfl, by omega, hf (by simp) (by omega)⟩
    clear hf
    go_enter Try.func58, Try.ntmps58
    rcases hst with h1 | ⟨h1, h2⟩ | ⟨h1, h2, h3⟩
    all_goals
      go_wp2
      go_ret2
      exact ⟨_, rfl, hno, Chg.refl _ _⟩
  · simp only [frameOk, List.length_map, Bool.and_eq_true, decide_eq_true_eq] at hf
    obtain ⟨⟨h1, h2⟩, h3⟩ := hf
    have e1 : s.isEmpty = false := by
      cases s with
      | nil => simp at h1
      | cons => rfl
    have hV : frameV s (D.map (·.2)) = frameB s (D.map (·.2)) := by
      unfold frameV; rw [if_pos]; simp [frameOk, h1, h2, h3]
    rw [hV]
    clear hV
    obtain ⟨H, hH⟩ : ∃ H, H = UInt8.ofNat s.length :: s ++ [UInt8.ofNat D.length] := ⟨_, rfl⟩
    have hHl : H.length = 2 + s.length := by rw [hH]; simp; omega
    have hfr : frameB s (D.map (·.2)) = H ++ (D.map (·.2)).flatMap partB := by rw [hH]; simp [frameB]
    rw [hfr]
    clear hfr
    replace hH := Lib.hid hH
    have hflat : ∀ k, (((D.map (·.2)).take k).flatMap partB).length ≤ ((D.map (·.2)).flatMap partB).length := fun k => by
      conv => rhs; rw [← List.take_append_drop k (D.map (·.2)), List.flatMap_append, List.length_append]
      omega
    have hfl := flatB_len (D.map (·.2))
    rw [List.length_map] at hfl
    go_enter Try.func58, Try.ntmps58
    go_wp2_with (at_builtin; go_must (refine wpList_app_str rfl (.tmp 25) (.tmp 26) 22 9 5 rfl Try.underlying22 Try.underlying9 (by kernel_rfl) w.heap.size _ 1 [UInt8.ofNat s.length] rfl (own_byte w _ _ _ _ (Nat.le_refl _) (byte_le h2)) s rfl (by unfold big; omega) (by simp) ?_))
    intro v1 w1 o1 g1
    have c1 : Chg [] w w1 := (Chg.alloc [] w _).grownOwn g1 (own_byte w _ _ _ _ (Nat.le_refl _) (byte_le h2)) (Nat.le_refl _)
    clear g1
    go_wp2_with (at_builtin; go_must (refine wpList_append_sl _ rfl (.tmp 28) (.tmp 32) 22 5 1 1 rfl el_b w.heap.size _ _ _ rfl (o1.alloc _) _ 1 (bcs [UInt8.ofNat D.length]) rfl (Sl.byte1 _ _ _ _ (byte_le h3)) (by simp [bcs]) (bcs_one _) (by unfold big; omega) (by have := c1.size; simp; omega) ?_))
    intro v2 w2 o2 g2
    have c2 : Chg [] w w2 := (c1.t0 (Chg.alloc [] w1 _)).grownOwn g2 (o1.alloc _) (Nat.le_refl _)
    rw [← bcs_append] at o2
    rw [← hH.out] at o2
    clear hH o1 g2 c1
    have o3 : w2.ownsRow w.heap.size 5 1 v2 (H ++ ((D.map (·.2)).take 0).flatMap partB).length (bcs (H ++ ((D.map (·.2)).take 0).flatMap partB)) := by
      rw [List.take_zero, List.flatMap_nil, List.append_nil, hHl, show 2 + s.length = 1 + s.length + 1 by omega]; exact o2
    clear o2
    replace hflat := Lib.hid hflat
    replace hfl := Lib.hid hfl
    replace hHl := Lib.hid hHl
    go_wp2_with fail
    go_loopw [6, 36] (fun out iv wr => ∃ k : Nat, k ≤ D.length ∧ iv = .int .i64 k ∧ wr.ownsRow w.heap.size 5 1 out (H ++ ((D.map (·.2)).take k).flatMap partB).length (bcs (H ++ ((D.map (·.2)).take k).flatMap partB)) ∧ Chg [] w wr) (fun _ iv _ => D.length - (intOf iv).toNat)
    case atStart => exact ⟨0, Nat.zero_le _, rfl, o3, c2⟩
    case round =>
      clear o3 c2
      obtain ⟨k, hk, rfl, ho, hc⟩ := hrel
      by_cases hlt : k < D.length
      · obtain ⟨b, off, c, e, hbl, x1, sx⟩ := (hD.tr0 hc).cell k hlt
        cases e
        have hkd : (k : Int) < D.length := by omega
        have hnx : H ++ ((D.map (·.2)).take (k + 1)).flatMap partB = (H ++ ((D.map (·.2)).take k).flatMap partB) ++ lowb D[k].2.length 8 ++ D[k].2 := by
          rw [flatB_take _ k (by simpa using hlt)]
          simp [partB]
        have hbd : (H ++ ((D.map (·.2)).take (k + 1)).flatMap partB).length ≤ 2147483647 := by
          have := hflat.out (k + 1); have := hfl.out; have := hHl.out
          rw [List.length_append]; omega
        have sw := hD.2 _ (List.getElem_mem hlt)
        obtain ⟨ax, cx, ex⟩ := sx.shape
        rw [ex] at x1 sw
        clear sx
        generalize D[k].2 = p at *
        generalize H ++ ((D.map (·.2)).take k).flatMap partB = X at *
        have hbd2 : X.length + 8 + p.length ≤ 2147483647 := by
          rw [hnx] at hbd; simp only [List.length_append, lowb_length] at hbd; exact hbd
        replace hnx := Lib.hid hnx
        clear hbd
        go_wp2_with fail
        go_loopw [6, 40] (fun out iv wq => ∃ j : Nat, j ≤ 8 ∧ iv = .int .i64 j ∧ wq.ownsRow w.heap.size 5 1 out (X.length + j) (bcs (X ++ lowb p.length j)) ∧ Chg [] w wq) (fun _ iv _ => 8 - (intOf iv).toNat)
        case atStart => exact ⟨0, by omega, rfl, by simpa [lowb_zero] using ho, hc⟩
        case round =>
          clear ho hc
          obtain ⟨j, hj, rfl, ho, hc⟩ := hrel
          by_cases hj8 : j < 8
          · go_wp2_with (at_builtin; go_must (refine wpList_append_sl _ rfl (.tmp 43) (.tmp 50) 22 5 1 1 rfl el_b w.heap.size _ _ _ rfl (ho.alloc _) _ 1 (bcs [UInt8.ofNat (p.length / 256 ^ j)]) rfl (Sl.byte1 _ _ _ _ (shr_byte _ _).symm) (by simp [bcs]) (bcs_one _) (by unfold big; omega) (by have := hc.size; simp; omega) ?_))
            intro v' w' o' g'
            have hc' : Chg [] w w' := (hc.t0 (Chg.alloc [] _ _)).grownOwn g' (ho.alloc _) (Nat.le_refl _)
            rw [← bcs_append, List.append_assoc, ← lowb_snoc] at o'
            clear ho g' hc
            go_wp2
            go_roundw
            case rel => exact ⟨j + 1, by omega, by go_num, o', hc'⟩
            case measure => simp [intOf]; omega
          · obtain rfl : j = 8 := by omega
            go_wp2_with (at_builtin; go_must (refine wpList_append_sl _ rfl (.tmp 53) (.tmp 54) 22 5 1 1 rfl el_b w.heap.size _ _ _ rfl ho _ p.length (bcs p) rfl (sw.tr0 hc) (by simp [bcs]) (bcs_one _) (by unfold big; omega) hc.size ?_))
            intro v' w' o' g'
            have hc' : Chg [] w w' := hc.grownOwn g' ho (Nat.le_refl _)
            rw [← bcs_append] at o'
            clear ho g' hc
            go_wp2
            go_roundw
            case rel => exact ⟨k + 1, by omega, by go_num, by rw [hnx.out]; simpa [lowb_length, Nat.add_assoc] using o', hc'⟩
            case measure => simp [intOf]; omega
      · obtain rfl : k = D.length := by omega
        rw [List.take_of_length_le (by simp)] at ho
        go_wp2
        go_ret2
        exact ⟨_, rfl, ho, hc⟩
end Go.Proofs.Ytgepfmofignmfaa
