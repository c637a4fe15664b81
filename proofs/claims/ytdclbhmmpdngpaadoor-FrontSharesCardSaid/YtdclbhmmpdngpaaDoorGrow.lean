/-
  The contract of slices.Grow at []byte, on a row of the call's own.
-/
import Derived.Test.YtdclbhmmpdngpaaDoorCursor
import Derived.Lib.AppendZerosOnto
import Derived.Lib.Walk
import Derived.Lib.SliceRun
namespace Go.Proofs.YtdclbhmmpdngpaaDoor
set_option linter.unusedSimpArgs false
set_option linter.unusedVariables false
open Go.RowKit Go.Lib

set_option maxHeartbeats 2000000 in
theorem grow_room (w : World) (base : Option Addr) (l c n : Nat) (hlc : l ≤ c) (hc63 : c ≤ 9223372036854775807) (hn63 : n ≤ 9223372036854775807) (hroom : l + n ≤ c) :
    Calls Tryd.prog 32 #[.slice base l c, .int .i64 n] w fun e w' => e = .returned (.slice base l c) ∧ w' = w := by
  have h1 : ¬ ((n : Int) < 0) := by omega
  have h2 : wrap64 ((c : Int) - (l : Int)) = (c : Int) - (l : Int) := by unfold wrap64; omega
  have h3 : wrap64 ((n : Int) - ((c : Int) - (l : Int))) = (n : Int) - ((c : Int) - (l : Int)) := by unfold wrap64; omega
  have h4 : ¬ ((n : Int) - ((c : Int) - (l : Int)) > 0) := by omega
  go_enter Tryd.func32, Tryd.ntmps32
  go_wp2
  go_ret
  exact ⟨rfl, rfl⟩

set_option maxHeartbeats 4000000 in
theorem grow_grow (w : World) (base : Option Addr) (l c n : Nat) (cs : List Value) (hlc : l ≤ c) (hroom : c < l + n) (hbig : l + n ≤ 140737488355328)
    (hcl : cs.length = c) (hnil : base = none → c = 0) (hcs : ∀ a, base = some a → ∀ j v, cs[j]? = some v → w.cell? (a.add j) = some v) :
    Calls Tryd.prog 32 #[.slice base l c, .int .i64 n] w fun e w' =>
      e = .returned (.slice (some ⟨w.heap.size, 0, none⟩) l (grownCap w (l + n) c 5)) ∧
      w' = w.drew.alloc (.cells (cs.toArray ++ Builtin.zeroCells #[.int .u8 0] (l + n - c) ++ Builtin.zeroCells #[.int .u8 0] (grownCap w (l + n) c 5 - (l + n))) 5) := by
  obtain ⟨i0, hi0, hz0, hs0, hb0⟩ := info_parts (P := Tryd.prog) (e := 5) (z := .int .u8 0) (size := 1) (bytes := 1) (by kernel_rfl)
  have h1 : ¬ ((n : Int) < 0) := by omega
  have h2 : wrap64 ((c : Int) - (l : Int)) = (c : Int) - (l : Int) := by unfold wrap64; omega
  have h3 : wrap64 ((n : Int) - ((c : Int) - (l : Int))) = (n : Int) - ((c : Int) - (l : Int)) := by unfold wrap64; omega
  have h4 : (n : Int) - ((c : Int) - (l : Int)) > 0 := by omega
  have hck : c + (l + n - c) = l + n := by omega
  have hold : (Builtin.firstCells i0.size c (.slice base c c)).run Tryd.prog w.drew = .ok cs.toArray w.drew := by
    rw [hs0]
    cases base with
    | none =>
      have h0 := hnil rfl
      subst h0
      have hc0 : cs = [] := List.length_eq_zero_iff.1 hcl
      rw [hc0]
      exact run_firstCells_none w.drew 1 0 0 0
    | some a => exact run_firstCells_some w.drew 1 c a c c cs (by omega) (fun j v hj => hcs a rfl j v hj)
  have hrz : ∀ ty, (Builtin.append_ #[25, 3] ty #[.slice base c c, .int .i64 ((n : Int) - ((c : Int) - (l : Int)))]).run Tryd.prog w =
      .ok (.slice (some ⟨w.heap.size, 0, none⟩) (l + n) (grownCap w (l + n) c 5)) (w.drew.alloc (.cells (cs.toArray ++ Builtin.zeroCells #[.int .u8 0] (l + n - c) ++ Builtin.zeroCells #[.int .u8 0] (grownCap w (l + n) c 5 - (l + n))) 5)) := fun ty => by
    have h := Lib.run_append_grow_zeros (P := Tryd.prog) w 25 3 ty 5 i0 (.int .u8 0) .i64 .i64 Tryd.underlying25 Tryd.underlying3 hi0 hz0 base c c cs hold (l + n - c) (by omega) (by omega) (by omega) (by omega)
      (by rw [hb0]; omega)
      (by rw [hck]; exact growslice_fits hroom (by rw [hb0]; omega))
    rw [hck] at h
    rw [show (n : Int) - ((c : Int) - (l : Int)) = ((l + n - c : Nat) : Int) by omega]
    exact h
  have hGn : l + n ≤ grownCap w (l + n) c 5 := grownCap_ge w _ _ _
  obtain ⟨G, hG⟩ : ∃ G, G = grownCap w (l + n) c 5 := ⟨_, rfl⟩
  rw [← hG] at hrz hGn ⊢
  have hG63 : G ≤ 9223372036854775807 := by
    have := grownCap_le_maxLen w (l + n) c 5 (by unfold maxLen; omega)
    rw [← hG] at this
    unfold maxLen at this
    omega
  clear hold hck hG hcs hcl hi0 hz0 hs0 hb0
  go_enter Tryd.func32, Tryd.ntmps32
  cases base with
  | none =>
    have h0 := hnil rfl
    subst h0
    obtain rfl : l = 0 := by omega
    go_wp2_with (at_builtin; refine Lib.wpList_append_run _ rfl _ _ _ _ rfl _ _ rfl rfl _ _ (hrz _) ?_)
    all_goals (go_ret; exact ⟨rfl, rfl⟩)
  | some a =>
    obtain ⟨ab, ao, asp⟩ := a
    go_wp2_with (at_builtin; refine Lib.wpList_append_run _ rfl _ _ _ _ rfl _ _ rfl rfl _ _ (hrz _) ?_)
    all_goals (go_ret; exact ⟨rfl, rfl⟩)

/-- On a row of the call's own: a row of its own, of the same bytes. -/
theorem grow_own (w : World) (b0 : Nat) (v : Value) (l : List UInt8) (n : Nat) (hown : w.ownsRow b0 5 1 v l.length (bcs l)) (hb : b0 ≤ w.heap.size) (hl : l.length + n ≤ big) (hn : n ≤ 100) :
    Calls Tryd.prog 32 #[v, .int .i64 n] w fun e w' => ∃ v', e = .returned v' ∧ w'.ownsRow b0 5 1 v' l.length (bcs l) ∧ Chg [] w w' := by
  obtain ⟨h1, ⟨rfl, hnil⟩ | ⟨g, cap, cur, rfl, hbg, hg, hnc, hcm, hcs, htk⟩⟩ := id hown
  · have hl0 : l = [] := by simpa [bcs] using hnil
    subst hl0
    by_cases h0 : n = 0
    · subst h0
      refine (grow_room w none 0 0 0 (Nat.le_refl _) (by decide) (by decide) (Nat.le_refl _)).mono ?_
      rintro e w' ⟨rfl, rfl⟩
      exact ⟨_, rfl, World.ownsRow_nil _ _ _ _, Chg.refl _ _⟩
    · refine (grow_grow w none 0 0 n [] (Nat.le_refl _) (by omega) (by unfold big at hl; simpa using hl) rfl (fun _ => rfl) (fun a h => by cases h)).mono ?_
      rintro e w' ⟨rfl, rfl⟩
      exact ⟨_, rfl, ⟨rfl, .inr ⟨_, _, _, rfl, hb, heap_alloc_new _ _, Nat.zero_le _, grownCap_le_maxLen w _ _ _ (by unfold maxLen; omega), by
        have := grownCap_ge w n 0 5
        simp [Builtin.zeroCells]; omega, by simp [bcs]⟩⟩, (Chg.drew [] w).t0 (Chg.alloc [] _ _)⟩
  · have hsz : cur.size = cap := by simpa using hcs
    unfold maxLen at hcm
    by_cases hr : l.length + n ≤ cap
    · refine (grow_room w _ l.length cap n hnc (by omega) (by omega) hr).mono ?_
      rintro e w' ⟨rfl, rfl⟩
      exact ⟨_, rfl, hown, Chg.refl _ _⟩
    · refine (grow_grow w (some ⟨g, 0, none⟩) l.length cap n cur.toList hnc (by omega) hl (by simpa using hsz) (fun h => by cases h) (fun a ha j u hj => by
        cases ha
        rw [Addr.add_lit, Nat.zero_add, cell_of_row _ _ _ _ _ _ hg]
        simpa using hj)).mono ?_
      rintro e w' ⟨rfl, rfl⟩
      refine ⟨_, rfl, ⟨h1, .inr ⟨_, _, _, rfl, hb, heap_alloc_new _ _, ?_, grownCap_le_maxLen w _ _ _ (by unfold maxLen; unfold big at hl; omega), ?_, ?_⟩⟩, (Chg.drew [] w).t0 (Chg.alloc [] _ _)⟩
      · have := grownCap_ge w (l.length + n) cap 5; omega
      · have := grownCap_ge w (l.length + n) cap 5
        simp [Builtin.zeroCells, hsz]; omega
      · rw [← htk]
        simp only [Array.toList_append, List.append_assoc]
        rw [List.take_append_of_le_length (by simp [hsz]; omega)]
end Go.Proofs.YtdclbhmmpdngpaaDoor
