/-
  The contracts of tag.cut and tag.part.
-/
import Derived.Test.YtgepfmofignmfaaTagR
namespace Go.Proofs.Ytgepfmofignmfaa
set_option linter.unusedSimpArgs false
set_option linter.unusedVariables false
open Go.RowKit

theorem Sl.takeB {w : World} {a : Option Addr} {c k : Nat} {l : Bytes} (h : Sl w (.slice a l.length c) l.length (bcs l)) (hk : k ≤ l.length) : Sl w (.slice a k c) (l.take k).length (bcs (l.take k)) := by
  have h := h.take hk k
  rw [List.length_take, Nat.min_eq_left hk]
  simpa [bcs, List.map_take] using h
theorem Sl.dropB {w : World} {a : Option Addr} {c k : Nat} {l : Bytes} (h : Sl w (.slice a l.length c) l.length (bcs l)) (hk : k ≤ l.length) (hc : ¬ c = k) : Sl w (.slice (a.map fun x => x.add k) (l.length - k) (c - k)) (l.drop k).length (bcs (l.drop k)) := by
  have h := h.dropN hk hc 1
  rw [List.length_drop]
  simpa [bcs, List.map_drop] using h
theorem Sl.dropBE {w : World} {a : Option Addr} {c k : Nat} {l : Bytes} (h : Sl w (.slice a l.length c) l.length (bcs l)) (hk : k ≤ l.length) (hc : c = k) : Sl w (.slice a (l.length - k) 0) (l.drop k).length (bcs (l.drop k)) := by
  have h := h.dropE hk hc 1 (by simp [bcs])
  rw [List.length_drop]
  simpa [bcs, List.map_drop] using h
/-- A slice that lies where another one does, or nowhere. -/
def Within (v' v : Value) : Prop := ∀ k, vblk v' = some k → vblk v = some k
theorem Within.nil (v : Value) : Within (.slice none 0 0) v := fun k h => by simp [vblk] at h
/-- Two worlds that came of one: what is old is the same in both. -/
theorem Chg.side {w a b : World} (h : Chg [] w a) (k : Chg [] w b) (hs : a.heap.size ≤ b.heap.size) : Chg (List.range' w.heap.size (a.heap.size - w.heap.size)) a b :=
  ⟨k.os.trans h.os.symm, k.tape.trans h.tape.symm, k.output.trans h.output.symm, hs, fun i _ hn => by
    have hi : i < w.heap.size := by
      refine Decidable.byContradiction fun h' => hn ?_
      simp only [List.mem_range'_1]
      omega
    rw [k.block i hi (by simp), h.block i hi (by simp)]⟩
def Old (w : World) (v : Value) : Prop := ∀ k, vblk v = some k → k < w.heap.size
theorem Sl.side {w a b : World} {v : Value} {n : Nat} {cs : List Value} (h : Sl a v n cs) (g : Chg [] w a) (k : Chg [] w b) (hs : a.heap.size ≤ b.heap.size) (hv : Old w v) : Sl b v n cs :=
  h.tr (g.side k hs) fun i hi hm => by
    have := hv i hi
    simp only [List.mem_range'_1] at hm
    omega
theorem Within.old {w : World} {u v : Value} (h : Within u v) (hv : Old w v) : Old w u := fun k hk => hv k (h k hk)
theorem Within.trans {u v w : Value} (h : Within u v) (k : Within v w) : Within u w := fun i hi => k i (h i hi)

set_option maxHeartbeats 4000000 in
set_option maxRecDepth 100000 in
theorem cut_ok (w : World) (v : Value) (l : Bytes) (n : Nat) (hs : Sl w v l.length (bcs l)) (hn : n < 2 ^ 64) :
    Calls Try.prog 56 #[v, .int .u64 n] w fun e w' => ∃ v1 v2, e = .returned (.tuple #[v1, v2, .bool (cutV l n).2.2]) ∧ Sl w' v1 (cutV l n).1.length (bcs (cutV l n).1) ∧ Sl w' v2 (cutV l n).2.1.length (bcs (cutV l n).2.1) ∧ Within v1 v ∧ Within v2 v ∧ Chg [] w w' := by
  have hlm := hs.le
  obtain ⟨a, c, rfl⟩ := hs.shape
  have hcap : l.length ≤ c ∧ c ≤ maxLen := by obtain ⟨_, _, e, h1, h2, _⟩ := hs; cases e; exact ⟨h1, h2⟩
  obtain ⟨hc1, hc2⟩ := hcap
  unfold maxLen at hlm hc2
  by_cases hle : n ≤ l.length
  · have s1 := hs.takeB hle
    have e : cutV l n = (l.take n, l.drop n, true) := if_pos hle
    rw [e]
    have hni : ((n : Nat) : Int) ≤ l.length := by omega
    dsimp only
    generalize hl1 : (l.take n).length = n1 at *
    generalize hl2 : (l.drop n).length = n2 at *
    go_enter Try.func56, Try.ntmps56
    go_wp2_with fail
    go_quiet (fail)
    go_wp2
    · go_ret3
      have hcn : c = n := ‹c = n›
      have s2 := hs.dropBE hle hcn
      rw [hl2] at s2
      subst hcn
      exact ⟨_, _, rfl, s1.tr0 (Chg.drewN [] _ _), s2.tr0 (Chg.drewN [] _ _), fun k hk => vblk_take _ hk, fun k hk => by simp [vblk] at hk, Chg.drewN [] _ _⟩
    · go_ret3
      have s2 := hs.dropB hle ‹¬ c = n›
      rw [hl2] at s2
      exact ⟨_, _, rfl, s1.tr0 (Chg.drewN [] _ _), s2.tr0 (Chg.drewN [] _ _), fun k hk => vblk_take _ hk, fun k hk => vblk_drop (Nat.sub_le _ _) hk, Chg.drewN [] _ _⟩
  · have e : cutV l n = ([], [], false) := if_neg hle
    rw [e]
    have hni : ¬ ((n : Nat) : Int) ≤ l.length := by omega
    go_enter Try.func56, Try.ntmps56
    go_wp2
    go_ret3
    exact ⟨_, _, rfl, Sl.nil _, Sl.nil _, Within.nil _, Within.nil _, Chg.refl _ _⟩

set_option maxHeartbeats 4000000 in
set_option maxRecDepth 100000 in
theorem part_ok (w : World) (v : Value) (l : Bytes) (hs : Sl w v l.length (bcs l)) :
    Calls Try.prog 57 #[v] w fun e w' => ∃ v1 v2, e = .returned (.tuple #[v1, v2, .bool (partV l).2.2]) ∧ Sl w' v1 (partV l).1.length (bcs (partV l).1) ∧ Sl w' v2 (partV l).2.1.length (bcs (partV l).2.1) ∧ Within v1 v ∧ Within v2 v ∧ Chg [] w w' := by
  obtain ⟨R, hR⟩ : ∃ R, R = partV l := ⟨_, rfl⟩
  rw [← hR]
  unfold partV at hR
  replace hR := Lib.hid hR
  go_enter Try.func57, Try.ntmps57
  go_wp2_with fail
  refine (cut_ok w v l 8 hs (by decide)).mono ?_
  by_cases h8 : 8 ≤ l.length
  · have hc : cutV l 8 = (l.take 8, l.drop 8, true) := if_pos h8
    have hR1 := hR.out
    rw [if_pos h8] at hR1
    rw [hc]
    dsimp only
    rintro e w1 ⟨v1, v2, rfl, s1, s2, i1, i2, g1⟩
    replace hR1 := Lib.hid hR1
    have hl8 : (l.take 8).length = 8 := by simp; omega
    have hlt8 := lenum_lt (l.take 8)
    rw [hl8] at hlt8
    generalize l.take 8 = T at *
    generalize l.drop 8 = U at *
    clear hR hc hs h8
    obtain ⟨at1, ct1, rfl⟩ := s1.shape
    have s1' := s1
    rw [hl8] at s1' ⊢
    rw [← hl8] at s1'
    go_wp2_with fail
    go_loop [7, 20] (fun nv iv => ∃ k : Nat, k ≤ 8 ∧ iv = .int .i64 k ∧ nv = .int .u64 (lenum (T.take k))) (fun _ iv => 8 - (intOf iv).toNat)
    case atStart => exact ⟨0, by omega, rfl, by simp [lenum]⟩
    case round =>
      obtain ⟨k, hk, rfl, rfl⟩ := hrel
      by_cases hlt : k < 8
      · obtain ⟨b, off, c, e, hbl, x1⟩ := byte_cell s1' k (by omega)
        cases e
        have hst := step_u64 (lenum (T.take k)) T[k].toNat k (T[k].toNat_lt) hlt (by have := lenum_lt (T.take k); rw [List.length_take, Nat.min_eq_left (by omega)] at this; exact this)
        have hnx := lenum_take T k (by omega)
        go_wp2
        go_round
        case rel => exact ⟨k + 1, by omega, by go_num, by rw [hnx]; push_cast; rfl⟩
        case measure => simp [intOf]; omega
      · obtain rfl : k = 8 := by omega
        rw [List.take_of_length_le (by omega)]
        go_wp2_with fail
        refine (cut_ok w1 v2 U (lenum T) s2 (by simpa using hlt8)).mono ?_
        rw [← hR1.out]
        rintro e w2 ⟨u1, u2, rfl, t1, t2, j1, j2, g2⟩
        go_wp2
        go_ret3
        exact ⟨_, _, rfl, t1, t2, j1.trans i2, j2.trans i2, g1.t0 g2⟩
  · have hc : cutV l 8 = ([], [], false) := if_neg h8
    have hR1 := hR.out
    rw [if_neg h8] at hR1
    rw [hc]
    dsimp only
    rintro e w1 ⟨v1, v2, rfl, s1, s2, i1, i2, g1⟩
    subst hR1
    go_wp2
    go_ret3
    exact ⟨_, _, rfl, Sl.nil _, Sl.nil _, Within.nil _, Within.nil _, g1⟩
end Go.Proofs.Ytgepfmofignmfaa
