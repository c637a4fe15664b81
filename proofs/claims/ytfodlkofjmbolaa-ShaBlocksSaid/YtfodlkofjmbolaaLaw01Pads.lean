/-
  ShaPads: the walk.
-/
import Derived.Test.YtfodlkofjmbolaaSha12
import Derived.Test.YtfodlkofjmbolaaSoft
namespace Go.Proofs.Ytfodlkofjmbolaa
open Go.RowKit

/-- A block whose first j bytes are 7, seen as a slice. -/
theorem Sl.ofBlock {w : World} {g n : Nat} {cs : List Value} {e : TypeId} {fr : Nat × Nat} (c : Nat) (h : w.heap[g]? = some (.cells cs.toArray e fr)) (hn : n ≤ c) (hc : c ≤ maxLen) (h0 : c = 0 → cs = []) : Sl w (.slice (some ⟨g, 0, none⟩) n c) n cs :=
  ⟨_, _, rfl, hn, hc, fun h => (by cases h), fun x hx _ => (by cases hx; exact lt_of_heap h), h0, fun j u hj => ⟨_, rfl, by rw [Addr.add_lit, Nat.zero_add, cell_of_row _ _ _ _ _ _ h]; simpa using hj⟩⟩

set_option maxHeartbeats 1000000 in
theorem pads_in (w : World) (n : Nat) (hn : n ≤ 2147483647) :
    Calls Try.prog 5 #[.int .i64 (n : Int)] w fun e w' => e = .returned (.bool true) ∧ Chg [] w w' := by
  go_enter Try.func5, Try.ntmps5
  go_wp2_with fail
  refine (small_ok _).mono ?_
  rintro e w1 ⟨rfl, g1⟩
  go_wp2_with fail
  refine (pad_ok w1 n hn).mono ?_
  rintro e w2 ⟨v2, rfl, o2, g2⟩
  have s2 := Sl.ofOwns o2
  go_wp2_with fail
  refine' region_soft 6 [cst _, cst (.string (bstr (padL n))), cst _, fun v w => Sl w v (padL n).length (bcs (padL n)), cst (.string (bstr (padL n))), cst (.bool true)] rfl (by kernel_rfl) (by kernel_rfl) (stays_cons (Stays.cst _) (stays_cons (Stays.cst _) (stays_cons (Stays.cst _) (stays_cons (fun _ _ _ h g => h.tr0 g) (stays_cons (Stays.cst _) (stays_cons (Stays.cst _) stays_nil)))))) _ (fun V => by simp only [putAll, Act.put, List.take_succ_cons, List.take_zero, List.setIfInBounds_toArray, List.set_cons_zero, List.set_cons_succ, Nat.reduceAdd]; exact rfl) ?hs1 ?ht1
  case hs1 =>
    simp only [List.take_succ_cons, List.take_zero, softs]
    refine ⟨?_, ?_, ?_, ?_, ?_, ?_, trivial⟩
    · intro V w hw hd
      simp [phi, Region.binds, cst] at hd
      try simp only [hd]
      first
        | (refine soft_const rfl ?_; go_simp; done)
        | (refine soft_const rfl ?_; go_simp; exact rfl)
        | (refine soft_str rfl _ _ _ rfl _ rfl _ Try.underlying22 Try.underlying5 Try.underlying9 _ _ ?_ rfl; exact s2.tr0 hw)
        | (refine soft_str rfl _ _ _ rfl _ rfl _ Try.underlying22 Try.underlying5 Try.underlying9 _ _ ?_ rfl; exact hd)
        | (exact soft_skip rfl)
    · intro V w hw hd
      simp [phi, Region.binds, cst] at hd
      try simp only [hd]
      first
        | (refine soft_const rfl ?_; go_simp; done)
        | (refine soft_const rfl ?_; go_simp; exact rfl)
        | (refine soft_str rfl _ _ _ rfl _ rfl _ Try.underlying22 Try.underlying5 Try.underlying9 _ _ ?_ rfl; exact s2.tr0 hw)
        | (refine soft_str rfl _ _ _ rfl _ rfl _ Try.underlying22 Try.underlying5 Try.underlying9 _ _ ?_ rfl; exact hd)
        | (exact soft_skip rfl)
    · intro V w hw hd
      simp [phi, Region.binds, cst] at hd
      try simp only [hd]
      first
        | (refine soft_const rfl ?_; go_simp; done)
        | (refine soft_const rfl ?_; go_simp; exact rfl)
        | (refine soft_str rfl _ _ _ rfl _ rfl _ Try.underlying22 Try.underlying5 Try.underlying9 _ _ ?_ rfl; exact s2.tr0 hw)
        | (refine soft_str rfl _ _ _ rfl _ rfl _ Try.underlying22 Try.underlying5 Try.underlying9 _ _ ?_ rfl; exact hd)
        | (exact soft_skip rfl)
    · intro V w hw hd
      simp [phi, Region.binds, cst] at hd
      try simp only [hd]
      refine soft_call rfl _ _ (by go_simp; try exact ⟨rfl, rfl⟩) ((ref01_pad_ok w n hn).mono fun e w' ⟨v, h1, h2, h3⟩ => ⟨v, h1, h3, Sl.ofOwns h2⟩)
    · intro V w hw hd
      simp [phi, Region.binds, cst] at hd
      try simp only [hd]
      first
        | (refine soft_const rfl ?_; go_simp; done)
        | (refine soft_const rfl ?_; go_simp; exact rfl)
        | (refine soft_str rfl _ _ _ rfl _ rfl _ Try.underlying22 Try.underlying5 Try.underlying9 _ _ ?_ rfl; exact s2.tr0 hw)
        | (refine soft_str rfl _ _ _ rfl _ rfl _ Try.underlying22 Try.underlying5 Try.underlying9 _ _ ?_ rfl; exact hd)
        | (exact soft_skip rfl)
    · intro V w hw hd
      simp [phi, Region.binds, cst] at hd
      try simp only [hd]
      first
        | (refine soft_const rfl ?_; go_simp; done)
        | (refine soft_const rfl ?_; go_simp; exact rfl)
        | (refine soft_str rfl _ _ _ rfl _ rfl _ Try.underlying22 Try.underlying5 Try.underlying9 _ _ ?_ rfl; exact s2.tr0 hw)
        | (refine soft_str rfl _ _ _ rfl _ rfl _ Try.underlying22 Try.underlying5 Try.underlying9 _ _ ?_ rfl; exact hd)
        | (exact soft_skip rfl)
  intro V w3 g3 hk
  have h5 := hk 5 (by decide)
  simp [phi, cst] at h5
  simp only [h5, List.drop_succ_cons, List.drop_zero]
  generalize V 0 = v30
  generalize V 1 = v31
  generalize V 2 = v32
  generalize V 3 = v33
  generalize V 4 = v34
  clear hk h5 V
  have hlen := padL_length n
  have hz := padZ_lt n
  have o3 := own_tr o2 g3 (by simp)
  have G3 : Chg [] w w3 := (g1.t0 g2).t0 g3
  have hm9 : 9 ≤ (padL n).length := by omega
  have hm72 : (padL n).length ≤ 72 := by omega
  have hm64 : (n + (padL n).length) % 64 = 0 := by rw [hlen]; unfold padZ; omega
  obtain ⟨ho1, ⟨h, h'⟩ | ⟨g, cap, cur, h, hb, hg, hnc, hcm, hcs, htk⟩⟩ := o3
  · rw [h'] at ho1; simp at ho1; omega
  · subst h
    have hcs' : cur.size = cap := by simpa using hcs
    have hgw : w.heap.size ≤ g := by have := g1.size; omega
    have kp1 := fun w => pad_ok w n hn
    have kp2 := fun w => ref01_pad_ok w n hn
    generalize padL n = PL at *
    obtain ⟨m, hm⟩ : ∃ m, PL.length = m := ⟨_, rfl⟩
    have HM := Lib.hid hm
    rw [hm] at hm9 hm72 hm64 hnc ⊢
    clear hm ho1 htk hcs hlen hz o2 s2 g1 g2 g3
    go_wp2
    go_loopw [6] (fun i wr => ∃ (j : Nat) (cur : Array Value), j ≤ m ∧ i = .int .i64 j ∧ Chg [] w wr ∧ wr.heap[g]? = some (.cells cur 5 (0, 0)) ∧ cur.size = cap) (fun i _ => m - (intOf i).toNat)
    case atStart => exact ⟨0, cur, Nat.zero_le _, rfl, G3, hg, hcs'⟩
    case round =>
      clear hg hcs' G3
      obtain ⟨j, cur, hj, rfl, G, hg, hsz⟩ := hrel
      by_cases hlt : j < m
      · have hc0 : wr.cell? ⟨g, j, none⟩ = some (cur[j]'(by omega)) := by rw [cell_of_row _ _ _ _ _ _ hg]; simp
        have hf0 : wr.frozen? ⟨g, j, none⟩ = false := frozen_of_row wr g j _ _ hg
        have hS := heap_setCell_same wr g j _ _ (.int .u8 7) hg
        have hC := Chg.setCell wr ⟨g, j, none⟩ (.int .u8 7)
        clear hg
        go_wp2
        go_roundw
        case rel => exact ⟨j + 1, _, by omega, by go_num, G.tn hC hgw, hS, by simpa using hsz⟩
        case measure => simp [intOf]; omega
      · obtain rfl : j = m := by omega
        go_wp2
        have e1 : IntKind.i64.wrap ((n : Int) + (j : Int)) = (n : Int) + (j : Int) := IntWalk.i64_in _ ⟨by omega, by omega⟩
        have e2 : ((n : Int) + (j : Int)).tmod 64 = 0 := by rw [Int.tmod_eq_emod_of_nonneg (by omega)]; omega
        have e3 : ((n : Int) + (j : Int)) % 64 = 0 := by omega
        have e4 : decide ((2147483647 : Int) < (n : Int)) = false := decide_eq_false (by omega)
        have e5 : decide ((9 : Int) ≤ (j : Int)) = true := decide_eq_true (by omega)
        have e6 : decide ((j : Int) ≤ 72) = true := decide_eq_true (by omega)
        have e7 : decide ((n : Int) < 0) = false := decide_eq_false (by omega)
        have e8 : decide (9 ≤ j) = true := decide_eq_true (by omega)
        have e9 : decide (j ≤ 72) = true := decide_eq_true (by omega)
        have e10 : decide (2147483647 < n) = false := decide_eq_false (by omega)
        refine' region_soft 39 [cst _, cst _, cst _, cst _, cst _, cst _, fun v w => Sl w v PL.length (bcs PL), cst (.string (bstr PL)), cst _, fun v w => Sl w v PL.length (bcs PL), cst (.string (bstr PL)), cst _, cst _, cst _, cst _, cst (.bool false), cst (.bool false), cst _, cst (.bool false), cst (.bool false), cst (.bool false), cst _, cst _, cst _, cst _, cst _, cst (.bool true), cst (.bool true), cst _, cst _, cst (.bool true), cst (.bool true), cst _, cst _, cst _, cst (.bool true), cst (.bool true), cst (.bool true), cst (.bool true)] rfl (by kernel_rfl) (by kernel_rfl) (stays_cons (Stays.cst _) (stays_cons (Stays.cst _) (stays_cons (Stays.cst _) (stays_cons (Stays.cst _) (stays_cons (Stays.cst _) (stays_cons (Stays.cst _) (stays_cons (fun _ _ _ h g => h.tr0 g) (stays_cons (Stays.cst _) (stays_cons (Stays.cst _) (stays_cons (fun _ _ _ h g => h.tr0 g) (stays_cons (Stays.cst _) (stays_cons (Stays.cst _) (stays_cons (Stays.cst _) (stays_cons (Stays.cst _) (stays_cons (Stays.cst _) (stays_cons (Stays.cst _) (stays_cons (Stays.cst _) (stays_cons (Stays.cst _) (stays_cons (Stays.cst _) (stays_cons (Stays.cst _) (stays_cons (Stays.cst _) (stays_cons (Stays.cst _) (stays_cons (Stays.cst _) (stays_cons (Stays.cst _) (stays_cons (Stays.cst _) (stays_cons (Stays.cst _) (stays_cons (Stays.cst _) (stays_cons (Stays.cst _) (stays_cons (Stays.cst _) (stays_cons (Stays.cst _) (stays_cons (Stays.cst _) (stays_cons (Stays.cst _) (stays_cons (Stays.cst _) (stays_cons (Stays.cst _) (stays_cons (Stays.cst _) (stays_cons (Stays.cst _) (stays_cons (Stays.cst _) (stays_cons (Stays.cst _) (stays_cons (Stays.cst _) stays_nil))))))))))))))))))))))))))))))))))))))) _ (fun V => by simp only [putAll, Act.put, List.take_succ_cons, List.take_zero, List.setIfInBounds_toArray, List.set_cons_zero, List.set_cons_succ, Nat.reduceAdd]; exact rfl) ?hs2 ?ht2
        case hs2 =>
          simp only [List.take_succ_cons, List.take_zero, softs]
          refine ⟨?_, ?_, ?_, ?_, ?_, ?_, ?_, ?_, ?_, ?_, ?_, ?_, ?_, ?_, ?_, ?_, ?_, ?_, ?_, ?_, ?_, ?_, ?_, ?_, ?_, ?_, ?_, ?_, ?_, ?_, ?_, ?_, ?_, ?_, ?_, ?_, ?_, ?_, ?_, trivial⟩
          · intro V w hw hd
            simp [phi, Region.binds, cst] at hd
            try simp only [hd]
            first
              | (refine soft_const rfl ?_; go_simp; done)
              | (refine soft_const rfl ?_; go_simp; exact rfl)
              | (refine soft_str rfl _ _ _ rfl _ rfl _ Try.underlying22 Try.underlying5 Try.underlying9 _ _ ?_ rfl; exact hd.1)
              | (refine soft_str rfl _ _ _ rfl _ rfl _ Try.underlying22 Try.underlying5 Try.underlying9 _ _ ?_ rfl; exact hd)
              | (exact soft_skip rfl)
          · intro V w hw hd
            simp [phi, Region.binds, cst] at hd
            try simp only [hd]
            first
              | (refine soft_const rfl ?_; go_simp; done)
              | (refine soft_const rfl ?_; go_simp; exact rfl)
              | (refine soft_str rfl _ _ _ rfl _ rfl _ Try.underlying22 Try.underlying5 Try.underlying9 _ _ ?_ rfl; exact hd.1)
              | (refine soft_str rfl _ _ _ rfl _ rfl _ Try.underlying22 Try.underlying5 Try.underlying9 _ _ ?_ rfl; exact hd)
              | (exact soft_skip rfl)
          · intro V w hw hd
            simp [phi, Region.binds, cst] at hd
            try simp only [hd]
            first
              | (refine soft_const rfl ?_; go_simp; done)
              | (refine soft_const rfl ?_; go_simp; exact rfl)
              | (refine soft_str rfl _ _ _ rfl _ rfl _ Try.underlying22 Try.underlying5 Try.underlying9 _ _ ?_ rfl; exact hd.1)
              | (refine soft_str rfl _ _ _ rfl _ rfl _ Try.underlying22 Try.underlying5 Try.underlying9 _ _ ?_ rfl; exact hd)
              | (exact soft_skip rfl)
          · intro V w hw hd
            simp [phi, Region.binds, cst] at hd
            try simp only [hd]
            first
              | (refine soft_const rfl ?_; go_simp; done)
              | (refine soft_const rfl ?_; go_simp; exact rfl)
              | (refine soft_str rfl _ _ _ rfl _ rfl _ Try.underlying22 Try.underlying5 Try.underlying9 _ _ ?_ rfl; exact hd.1)
              | (refine soft_str rfl _ _ _ rfl _ rfl _ Try.underlying22 Try.underlying5 Try.underlying9 _ _ ?_ rfl; exact hd)
              | (exact soft_skip rfl)
          · intro V w hw hd
            simp [phi, Region.binds, cst] at hd
            try simp only [hd]
            first
              | (refine soft_const rfl ?_; go_simp; done)
              | (refine soft_const rfl ?_; go_simp; exact rfl)
              | (refine soft_str rfl _ _ _ rfl _ rfl _ Try.underlying22 Try.underlying5 Try.underlying9 _ _ ?_ rfl; exact hd.1)
              | (refine soft_str rfl _ _ _ rfl _ rfl _ Try.underlying22 Try.underlying5 Try.underlying9 _ _ ?_ rfl; exact hd)
              | (exact soft_skip rfl)
          · intro V w hw hd
            simp [phi, Region.binds, cst] at hd
            try simp only [hd]
            first
              | (refine soft_const rfl ?_; go_simp; done)
              | (refine soft_const rfl ?_; go_simp; exact rfl)
              | (refine soft_str rfl _ _ _ rfl _ rfl _ Try.underlying22 Try.underlying5 Try.underlying9 _ _ ?_ rfl; exact hd.1)
              | (refine soft_str rfl _ _ _ rfl _ rfl _ Try.underlying22 Try.underlying5 Try.underlying9 _ _ ?_ rfl; exact hd)
              | (exact soft_skip rfl)
          · intro V w hw hd
            simp [phi, Region.binds, cst] at hd
            try simp only [hd]
            refine soft_call rfl _ _ (by go_simp; try exact ⟨rfl, rfl⟩) ((kp1 w).mono fun e w' ⟨v, h1, h2, h3⟩ => ⟨v, h1, h3, Sl.ofOwns h2⟩)
          · intro V w hw hd
            simp [phi, Region.binds, cst] at hd
            try simp only [hd]
            first
              | (refine soft_const rfl ?_; go_simp; done)
              | (refine soft_const rfl ?_; go_simp; exact rfl)
              | (refine soft_str rfl _ _ _ rfl _ rfl _ Try.underlying22 Try.underlying5 Try.underlying9 _ _ ?_ rfl; exact hd.1)
              | (refine soft_str rfl _ _ _ rfl _ rfl _ Try.underlying22 Try.underlying5 Try.underlying9 _ _ ?_ rfl; exact hd)
              | (exact soft_skip rfl)
          · intro V w hw hd
            simp [phi, Region.binds, cst] at hd
            try simp only [hd]
            first
              | (refine soft_const rfl ?_; go_simp; done)
              | (refine soft_const rfl ?_; go_simp; exact rfl)
              | (refine soft_str rfl _ _ _ rfl _ rfl _ Try.underlying22 Try.underlying5 Try.underlying9 _ _ ?_ rfl; exact hd.1)
              | (refine soft_str rfl _ _ _ rfl _ rfl _ Try.underlying22 Try.underlying5 Try.underlying9 _ _ ?_ rfl; exact hd)
              | (exact soft_skip rfl)
          · intro V w hw hd
            simp [phi, Region.binds, cst] at hd
            try simp only [hd]
            refine soft_call rfl _ _ (by go_simp; try exact ⟨rfl, rfl⟩) ((kp2 w).mono fun e w' ⟨v, h1, h2, h3⟩ => ⟨v, h1, h3, Sl.ofOwns h2⟩)
          · intro V w hw hd
            simp [phi, Region.binds, cst] at hd
            try simp only [hd]
            first
              | (refine soft_const rfl ?_; go_simp; done)
              | (refine soft_const rfl ?_; go_simp; exact rfl)
              | (refine soft_str rfl _ _ _ rfl _ rfl _ Try.underlying22 Try.underlying5 Try.underlying9 _ _ ?_ rfl; exact hd.1)
              | (refine soft_str rfl _ _ _ rfl _ rfl _ Try.underlying22 Try.underlying5 Try.underlying9 _ _ ?_ rfl; exact hd)
              | (exact soft_skip rfl)
          · intro V w hw hd
            simp [phi, Region.binds, cst] at hd
            try simp only [hd]
            first
              | (refine soft_const rfl ?_; go_simp; done)
              | (refine soft_const rfl ?_; go_simp; exact rfl)
              | (refine soft_str rfl _ _ _ rfl _ rfl _ Try.underlying22 Try.underlying5 Try.underlying9 _ _ ?_ rfl; exact hd.1)
              | (refine soft_str rfl _ _ _ rfl _ rfl _ Try.underlying22 Try.underlying5 Try.underlying9 _ _ ?_ rfl; exact hd)
              | (exact soft_skip rfl)
          · intro V w hw hd
            simp [phi, Region.binds, cst] at hd
            try simp only [hd]
            first
              | (refine soft_const rfl ?_; go_simp; done)
              | (refine soft_const rfl ?_; go_simp; exact rfl)
              | (refine soft_str rfl _ _ _ rfl _ rfl _ Try.underlying22 Try.underlying5 Try.underlying9 _ _ ?_ rfl; exact hd.1)
              | (refine soft_str rfl _ _ _ rfl _ rfl _ Try.underlying22 Try.underlying5 Try.underlying9 _ _ ?_ rfl; exact hd)
              | (exact soft_skip rfl)
          · intro V w hw hd
            simp [phi, Region.binds, cst] at hd
            try simp only [hd]
            first
              | (refine soft_const rfl ?_; go_simp; done)
              | (refine soft_const rfl ?_; go_simp; exact rfl)
              | (refine soft_str rfl _ _ _ rfl _ rfl _ Try.underlying22 Try.underlying5 Try.underlying9 _ _ ?_ rfl; exact hd.1)
              | (refine soft_str rfl _ _ _ rfl _ rfl _ Try.underlying22 Try.underlying5 Try.underlying9 _ _ ?_ rfl; exact hd)
              | (exact soft_skip rfl)
          · intro V w hw hd
            simp [phi, Region.binds, cst] at hd
            try simp only [hd]
            first
              | (refine soft_const rfl ?_; go_simp; done)
              | (refine soft_const rfl ?_; go_simp; exact rfl)
              | (refine soft_str rfl _ _ _ rfl _ rfl _ Try.underlying22 Try.underlying5 Try.underlying9 _ _ ?_ rfl; exact hd.1)
              | (refine soft_str rfl _ _ _ rfl _ rfl _ Try.underlying22 Try.underlying5 Try.underlying9 _ _ ?_ rfl; exact hd)
              | (exact soft_skip rfl)
          · intro V w hw hd
            simp [phi, Region.binds, cst] at hd
            try simp only [hd]
            first
              | (refine soft_const rfl ?_; go_simp; done)
              | (refine soft_const rfl ?_; go_simp; exact rfl)
              | (refine soft_str rfl _ _ _ rfl _ rfl _ Try.underlying22 Try.underlying5 Try.underlying9 _ _ ?_ rfl; exact hd.1)
              | (refine soft_str rfl _ _ _ rfl _ rfl _ Try.underlying22 Try.underlying5 Try.underlying9 _ _ ?_ rfl; exact hd)
              | (exact soft_skip rfl)
          · intro V w hw hd
            simp [phi, Region.binds, cst] at hd
            try simp only [hd]
            first
              | (refine soft_const rfl ?_; go_simp; done)
              | (refine soft_const rfl ?_; go_simp; exact rfl)
              | (refine soft_str rfl _ _ _ rfl _ rfl _ Try.underlying22 Try.underlying5 Try.underlying9 _ _ ?_ rfl; exact hd.1)
              | (refine soft_str rfl _ _ _ rfl _ rfl _ Try.underlying22 Try.underlying5 Try.underlying9 _ _ ?_ rfl; exact hd)
              | (exact soft_skip rfl)
          · intro V w hw hd
            simp [phi, Region.binds, cst] at hd
            try simp only [hd]
            first
              | (refine soft_const rfl ?_; go_simp; done)
              | (refine soft_const rfl ?_; go_simp; exact rfl)
              | (refine soft_str rfl _ _ _ rfl _ rfl _ Try.underlying22 Try.underlying5 Try.underlying9 _ _ ?_ rfl; exact hd.1)
              | (refine soft_str rfl _ _ _ rfl _ rfl _ Try.underlying22 Try.underlying5 Try.underlying9 _ _ ?_ rfl; exact hd)
              | (exact soft_skip rfl)
          · intro V w hw hd
            simp [phi, Region.binds, cst] at hd
            try simp only [hd]
            first
              | (refine soft_const rfl ?_; go_simp; done)
              | (refine soft_const rfl ?_; go_simp; exact rfl)
              | (refine soft_str rfl _ _ _ rfl _ rfl _ Try.underlying22 Try.underlying5 Try.underlying9 _ _ ?_ rfl; exact hd.1)
              | (refine soft_str rfl _ _ _ rfl _ rfl _ Try.underlying22 Try.underlying5 Try.underlying9 _ _ ?_ rfl; exact hd)
              | (exact soft_skip rfl)
          · intro V w hw hd
            simp [phi, Region.binds, cst] at hd
            try simp only [hd]
            first
              | (refine soft_const rfl ?_; go_simp; done)
              | (refine soft_const rfl ?_; go_simp; exact rfl)
              | (refine soft_str rfl _ _ _ rfl _ rfl _ Try.underlying22 Try.underlying5 Try.underlying9 _ _ ?_ rfl; exact hd.1)
              | (refine soft_str rfl _ _ _ rfl _ rfl _ Try.underlying22 Try.underlying5 Try.underlying9 _ _ ?_ rfl; exact hd)
              | (exact soft_skip rfl)
          · intro V w hw hd
            simp [phi, Region.binds, cst] at hd
            try simp only [hd]
            first
              | (refine soft_const rfl ?_; go_simp; done)
              | (refine soft_const rfl ?_; go_simp; exact rfl)
              | (refine soft_str rfl _ _ _ rfl _ rfl _ Try.underlying22 Try.underlying5 Try.underlying9 _ _ ?_ rfl; exact hd.1)
              | (refine soft_str rfl _ _ _ rfl _ rfl _ Try.underlying22 Try.underlying5 Try.underlying9 _ _ ?_ rfl; exact hd)
              | (exact soft_skip rfl)
          · intro V w hw hd
            simp [phi, Region.binds, cst] at hd
            try simp only [hd]
            first
              | (refine soft_const rfl ?_; go_simp; done)
              | (refine soft_const rfl ?_; go_simp; exact rfl)
              | (refine soft_str rfl _ _ _ rfl _ rfl _ Try.underlying22 Try.underlying5 Try.underlying9 _ _ ?_ rfl; exact hd.1)
              | (refine soft_str rfl _ _ _ rfl _ rfl _ Try.underlying22 Try.underlying5 Try.underlying9 _ _ ?_ rfl; exact hd)
              | (exact soft_skip rfl)
          · intro V w hw hd
            simp [phi, Region.binds, cst] at hd
            try simp only [hd]
            first
              | (refine soft_const rfl ?_; go_simp; done)
              | (refine soft_const rfl ?_; go_simp; exact rfl)
              | (refine soft_str rfl _ _ _ rfl _ rfl _ Try.underlying22 Try.underlying5 Try.underlying9 _ _ ?_ rfl; exact hd.1)
              | (refine soft_str rfl _ _ _ rfl _ rfl _ Try.underlying22 Try.underlying5 Try.underlying9 _ _ ?_ rfl; exact hd)
              | (exact soft_skip rfl)
          · intro V w hw hd
            simp [phi, Region.binds, cst] at hd
            try simp only [hd]
            first
              | (refine soft_const rfl ?_; go_simp; done)
              | (refine soft_const rfl ?_; go_simp; exact rfl)
              | (refine soft_str rfl _ _ _ rfl _ rfl _ Try.underlying22 Try.underlying5 Try.underlying9 _ _ ?_ rfl; exact hd.1)
              | (refine soft_str rfl _ _ _ rfl _ rfl _ Try.underlying22 Try.underlying5 Try.underlying9 _ _ ?_ rfl; exact hd)
              | (exact soft_skip rfl)
          · intro V w hw hd
            simp [phi, Region.binds, cst] at hd
            try simp only [hd]
            first
              | (refine soft_const rfl ?_; go_simp; done)
              | (refine soft_const rfl ?_; go_simp; exact rfl)
              | (refine soft_str rfl _ _ _ rfl _ rfl _ Try.underlying22 Try.underlying5 Try.underlying9 _ _ ?_ rfl; exact hd.1)
              | (refine soft_str rfl _ _ _ rfl _ rfl _ Try.underlying22 Try.underlying5 Try.underlying9 _ _ ?_ rfl; exact hd)
              | (exact soft_skip rfl)
          · intro V w hw hd
            simp [phi, Region.binds, cst] at hd
            try simp only [hd]
            first
              | (refine soft_const rfl ?_; go_simp; done)
              | (refine soft_const rfl ?_; go_simp; exact rfl)
              | (refine soft_str rfl _ _ _ rfl _ rfl _ Try.underlying22 Try.underlying5 Try.underlying9 _ _ ?_ rfl; exact hd.1)
              | (refine soft_str rfl _ _ _ rfl _ rfl _ Try.underlying22 Try.underlying5 Try.underlying9 _ _ ?_ rfl; exact hd)
              | (exact soft_skip rfl)
          · intro V w hw hd
            simp [phi, Region.binds, cst] at hd
            try simp only [hd]
            first
              | (refine soft_const rfl ?_; go_simp; done)
              | (refine soft_const rfl ?_; go_simp; exact rfl)
              | (refine soft_str rfl _ _ _ rfl _ rfl _ Try.underlying22 Try.underlying5 Try.underlying9 _ _ ?_ rfl; exact hd.1)
              | (refine soft_str rfl _ _ _ rfl _ rfl _ Try.underlying22 Try.underlying5 Try.underlying9 _ _ ?_ rfl; exact hd)
              | (exact soft_skip rfl)
          · intro V w hw hd
            simp [phi, Region.binds, cst] at hd
            try simp only [hd]
            first
              | (refine soft_const rfl ?_; go_simp; done)
              | (refine soft_const rfl ?_; go_simp; exact rfl)
              | (refine soft_str rfl _ _ _ rfl _ rfl _ Try.underlying22 Try.underlying5 Try.underlying9 _ _ ?_ rfl; exact hd.1)
              | (refine soft_str rfl _ _ _ rfl _ rfl _ Try.underlying22 Try.underlying5 Try.underlying9 _ _ ?_ rfl; exact hd)
              | (exact soft_skip rfl)
          · intro V w hw hd
            simp [phi, Region.binds, cst] at hd
            try simp only [hd]
            first
              | (refine soft_const rfl ?_; go_simp; done)
              | (refine soft_const rfl ?_; go_simp; exact rfl)
              | (refine soft_str rfl _ _ _ rfl _ rfl _ Try.underlying22 Try.underlying5 Try.underlying9 _ _ ?_ rfl; exact hd.1)
              | (refine soft_str rfl _ _ _ rfl _ rfl _ Try.underlying22 Try.underlying5 Try.underlying9 _ _ ?_ rfl; exact hd)
              | (exact soft_skip rfl)
          · intro V w hw hd
            simp [phi, Region.binds, cst] at hd
            try simp only [hd]
            first
              | (refine soft_const rfl ?_; go_simp; done)
              | (refine soft_const rfl ?_; go_simp; exact rfl)
              | (refine soft_str rfl _ _ _ rfl _ rfl _ Try.underlying22 Try.underlying5 Try.underlying9 _ _ ?_ rfl; exact hd.1)
              | (refine soft_str rfl _ _ _ rfl _ rfl _ Try.underlying22 Try.underlying5 Try.underlying9 _ _ ?_ rfl; exact hd)
              | (exact soft_skip rfl)
          · intro V w hw hd
            simp [phi, Region.binds, cst] at hd
            try simp only [hd]
            first
              | (refine soft_const rfl ?_; go_simp; done)
              | (refine soft_const rfl ?_; go_simp; exact rfl)
              | (refine soft_str rfl _ _ _ rfl _ rfl _ Try.underlying22 Try.underlying5 Try.underlying9 _ _ ?_ rfl; exact hd.1)
              | (refine soft_str rfl _ _ _ rfl _ rfl _ Try.underlying22 Try.underlying5 Try.underlying9 _ _ ?_ rfl; exact hd)
              | (exact soft_skip rfl)
          · intro V w hw hd
            simp [phi, Region.binds, cst] at hd
            try simp only [hd]
            first
              | (refine soft_const rfl ?_; go_simp; done)
              | (refine soft_const rfl ?_; go_simp; exact rfl)
              | (refine soft_str rfl _ _ _ rfl _ rfl _ Try.underlying22 Try.underlying5 Try.underlying9 _ _ ?_ rfl; exact hd.1)
              | (refine soft_str rfl _ _ _ rfl _ rfl _ Try.underlying22 Try.underlying5 Try.underlying9 _ _ ?_ rfl; exact hd)
              | (exact soft_skip rfl)
          · intro V w hw hd
            simp [phi, Region.binds, cst] at hd
            try simp only [hd]
            first
              | (refine soft_const rfl ?_; go_simp; done)
              | (refine soft_const rfl ?_; go_simp; exact rfl)
              | (refine soft_str rfl _ _ _ rfl _ rfl _ Try.underlying22 Try.underlying5 Try.underlying9 _ _ ?_ rfl; exact hd.1)
              | (refine soft_str rfl _ _ _ rfl _ rfl _ Try.underlying22 Try.underlying5 Try.underlying9 _ _ ?_ rfl; exact hd)
              | (exact soft_skip rfl)
          · intro V w hw hd
            simp [phi, Region.binds, cst] at hd
            try simp only [hd]
            first
              | (refine soft_const rfl ?_; go_simp; done)
              | (refine soft_const rfl ?_; go_simp; exact rfl)
              | (refine soft_str rfl _ _ _ rfl _ rfl _ Try.underlying22 Try.underlying5 Try.underlying9 _ _ ?_ rfl; exact hd.1)
              | (refine soft_str rfl _ _ _ rfl _ rfl _ Try.underlying22 Try.underlying5 Try.underlying9 _ _ ?_ rfl; exact hd)
              | (exact soft_skip rfl)
          · intro V w hw hd
            simp [phi, Region.binds, cst] at hd
            try simp only [hd]
            first
              | (refine soft_const rfl ?_; go_simp; done)
              | (refine soft_const rfl ?_; go_simp; exact rfl)
              | (refine soft_str rfl _ _ _ rfl _ rfl _ Try.underlying22 Try.underlying5 Try.underlying9 _ _ ?_ rfl; exact hd.1)
              | (refine soft_str rfl _ _ _ rfl _ rfl _ Try.underlying22 Try.underlying5 Try.underlying9 _ _ ?_ rfl; exact hd)
              | (exact soft_skip rfl)
          · intro V w hw hd
            simp [phi, Region.binds, cst] at hd
            try simp only [hd]
            first
              | (refine soft_const rfl ?_; go_simp; done)
              | (refine soft_const rfl ?_; go_simp; exact rfl)
              | (refine soft_str rfl _ _ _ rfl _ rfl _ Try.underlying22 Try.underlying5 Try.underlying9 _ _ ?_ rfl; exact hd.1)
              | (refine soft_str rfl _ _ _ rfl _ rfl _ Try.underlying22 Try.underlying5 Try.underlying9 _ _ ?_ rfl; exact hd)
              | (exact soft_skip rfl)
          · intro V w hw hd
            simp [phi, Region.binds, cst] at hd
            try simp only [hd]
            first
              | (refine soft_const rfl ?_; go_simp; done)
              | (refine soft_const rfl ?_; go_simp; exact rfl)
              | (refine soft_str rfl _ _ _ rfl _ rfl _ Try.underlying22 Try.underlying5 Try.underlying9 _ _ ?_ rfl; exact hd.1)
              | (refine soft_str rfl _ _ _ rfl _ rfl _ Try.underlying22 Try.underlying5 Try.underlying9 _ _ ?_ rfl; exact hd)
              | (exact soft_skip rfl)
          · intro V w hw hd
            simp [phi, Region.binds, cst] at hd
            try simp only [hd]
            first
              | (refine soft_const rfl ?_; go_simp; done)
              | (refine soft_const rfl ?_; go_simp; exact rfl)
              | (refine soft_str rfl _ _ _ rfl _ rfl _ Try.underlying22 Try.underlying5 Try.underlying9 _ _ ?_ rfl; exact hd.1)
              | (refine soft_str rfl _ _ _ rfl _ rfl _ Try.underlying22 Try.underlying5 Try.underlying9 _ _ ?_ rfl; exact hd)
              | (exact soft_skip rfl)
          · intro V w hw hd
            simp [phi, Region.binds, cst] at hd
            try simp only [hd]
            first
              | (refine soft_const rfl ?_; go_simp; done)
              | (refine soft_const rfl ?_; go_simp; exact rfl)
              | (refine soft_str rfl _ _ _ rfl _ rfl _ Try.underlying22 Try.underlying5 Try.underlying9 _ _ ?_ rfl; exact hd.1)
              | (refine soft_str rfl _ _ _ rfl _ rfl _ Try.underlying22 Try.underlying5 Try.underlying9 _ _ ?_ rfl; exact hd)
              | (exact soft_skip rfl)
        intro V w5 g5 hk
        have h38 := hk 38 (by decide)
        simp [phi, cst] at h38
        simp only [h38, List.drop_succ_cons, List.drop_zero]
        clear hk
        go_wp2
        go_ret
        exact ⟨rfl, G.t0 g5⟩

set_option maxHeartbeats 2000000 in
theorem pads_out (w : World) (n : Int) (h : n < 0 ∨ 2147483647 < n) :
    Calls Try.prog 5 #[.int .i64 n] w fun e w' => e = .returned (.bool true) ∧ Chg [] w w' := by
  have kp1 : ∀ w, Calls Try.prog 21 #[.int .i64 n] w fun e w' => e = .returned (.slice none 0 0) ∧ Chg [] w w' := fun w => (pad_none w n h).mono fun e w' ⟨h1, h2⟩ => ⟨h1, h2 ▸ Chg.refl [] w⟩
  have kp2 : ∀ w, Calls Try.prog 22 #[.int .i64 n] w fun e w' => e = .returned (.slice none 0 0) ∧ Chg [] w w' := fun w => (ref01_pad_none w n h).mono fun e w' ⟨h1, h2⟩ => ⟨h1, h2 ▸ Chg.refl [] w⟩
  rcases h with h | h
  · have e1 : decide (n < 0) = true := decide_eq_true h
    go_enter Try.func5, Try.ntmps5
    go_wp2_with (first
      | (go_at_call 14; refine (small_ok _).mono ?_; rintro e w1 ⟨rfl, g1⟩)
      | (go_at_call 21; refine (kp1 _).mono ?_; rintro e w2 ⟨rfl, g2⟩))
    refine' region_soft 6 [cst _, cst (.string (bstr [])), cst _, cst (.slice none 0 0), cst (.string (bstr [])), cst (.bool true)] rfl (by kernel_rfl) (by kernel_rfl) (stays_cons (Stays.cst _) (stays_cons (Stays.cst _) (stays_cons (Stays.cst _) (stays_cons (Stays.cst _) (stays_cons (Stays.cst _) (stays_cons (Stays.cst _) stays_nil)))))) _ (fun V => by simp only [putAll, Act.put, List.take_succ_cons, List.take_zero, List.setIfInBounds_toArray, List.set_cons_zero, List.set_cons_succ, Nat.reduceAdd]; exact rfl) ?hs3 ?ht3
    case hs3 =>
      simp only [List.take_succ_cons, List.take_zero, softs]
      refine ⟨?_, ?_, ?_, ?_, ?_, ?_, trivial⟩
      · intro V w hw hd
        simp [phi, Region.binds, cst] at hd
        try simp only [hd]
        first
          | (refine soft_const rfl ?_; go_simp; done)
          | (refine soft_const rfl ?_; go_simp; exact rfl)
          | (refine soft_str rfl _ _ _ rfl _ rfl _ Try.underlying22 Try.underlying5 Try.underlying9 _ _ ?_ rfl; exact Sl.nil w)
          | (exact soft_skip rfl)
      · intro V w hw hd
        simp [phi, Region.binds, cst] at hd
        try simp only [hd]
        first
          | (refine soft_const rfl ?_; go_simp; done)
          | (refine soft_const rfl ?_; go_simp; exact rfl)
          | (refine soft_str rfl _ _ _ rfl _ rfl _ Try.underlying22 Try.underlying5 Try.underlying9 _ _ ?_ rfl; exact Sl.nil w)
          | (exact soft_skip rfl)
      · intro V w hw hd
        simp [phi, Region.binds, cst] at hd
        try simp only [hd]
        first
          | (refine soft_const rfl ?_; go_simp; done)
          | (refine soft_const rfl ?_; go_simp; exact rfl)
          | (refine soft_str rfl _ _ _ rfl _ rfl _ Try.underlying22 Try.underlying5 Try.underlying9 _ _ ?_ rfl; exact Sl.nil w)
          | (exact soft_skip rfl)
      · intro V w hw hd
        simp [phi, Region.binds, cst] at hd
        try simp only [hd]
        refine soft_callC rfl _ _ (by go_simp; try exact ⟨rfl, rfl⟩) (kp2 w)
      · intro V w hw hd
        simp [phi, Region.binds, cst] at hd
        try simp only [hd]
        first
          | (refine soft_const rfl ?_; go_simp; done)
          | (refine soft_const rfl ?_; go_simp; exact rfl)
          | (refine soft_str rfl _ _ _ rfl _ rfl _ Try.underlying22 Try.underlying5 Try.underlying9 _ _ ?_ rfl; exact Sl.nil w)
          | (exact soft_skip rfl)
      · intro V w hw hd
        simp [phi, Region.binds, cst] at hd
        try simp only [hd]
        first
          | (refine soft_const rfl ?_; go_simp; done)
          | (refine soft_const rfl ?_; go_simp; exact rfl)
          | (refine soft_str rfl _ _ _ rfl _ rfl _ Try.underlying22 Try.underlying5 Try.underlying9 _ _ ?_ rfl; exact Sl.nil w)
          | (exact soft_skip rfl)
    intro V w3 g3 hk
    have h5 := hk 5 (by decide)
    simp [phi, cst] at h5
    simp only [h5, List.drop_succ_cons, List.drop_zero]
    clear hk
    go_wp2
    refine wp_loop_rounds 1 ?_
    rw [rounds_succ]
    go_wp2
    refine' region_soft 39 [cst _, cst _, cst _, cst _, cst _, cst _, cst (.slice none 0 0), cst (.string (bstr [])), cst _, cst (.slice none 0 0), cst (.string (bstr [])), cst (.bool true), cst (.bool true), cst (.bool true), cst _, cst (.bool true), cst (.bool true), cst undef, cst undef, cst (.bool true), cst (.bool true), cst undef, cst undef, cst undef, cst undef, cst undef, cst undef, cst undef, cst undef, cst undef, cst undef, cst undef, cst undef, cst undef, cst undef, cst undef, cst undef, cst (.bool true), cst (.bool true)] rfl (by kernel_rfl) (by kernel_rfl) (stays_cons (Stays.cst _) (stays_cons (Stays.cst _) (stays_cons (Stays.cst _) (stays_cons (Stays.cst _) (stays_cons (Stays.cst _) (stays_cons (Stays.cst _) (stays_cons (Stays.cst _) (stays_cons (Stays.cst _) (stays_cons (Stays.cst _) (stays_cons (Stays.cst _) (stays_cons (Stays.cst _) (stays_cons (Stays.cst _) (stays_cons (Stays.cst _) (stays_cons (Stays.cst _) (stays_cons (Stays.cst _) (stays_cons (Stays.cst _) (stays_cons (Stays.cst _) (stays_cons (Stays.cst _) (stays_cons (Stays.cst _) (stays_cons (Stays.cst _) (stays_cons (Stays.cst _) (stays_cons (Stays.cst _) (stays_cons (Stays.cst _) (stays_cons (Stays.cst _) (stays_cons (Stays.cst _) (stays_cons (Stays.cst _) (stays_cons (Stays.cst _) (stays_cons (Stays.cst _) (stays_cons (Stays.cst _) (stays_cons (Stays.cst _) (stays_cons (Stays.cst _) (stays_cons (Stays.cst _) (stays_cons (Stays.cst _) (stays_cons (Stays.cst _) (stays_cons (Stays.cst _) (stays_cons (Stays.cst _) (stays_cons (Stays.cst _) (stays_cons (Stays.cst _) (stays_cons (Stays.cst _) stays_nil))))))))))))))))))))))))))))))))))))))) _ (fun V => by simp only [putAll, Act.put, List.take_succ_cons, List.take_zero, List.setIfInBounds_toArray, List.set_cons_zero, List.set_cons_succ, Nat.reduceAdd]; exact rfl) ?hs4 ?ht4
    case hs4 =>
      simp only [List.take_succ_cons, List.take_zero, softs]
      refine ⟨?_, ?_, ?_, ?_, ?_, ?_, ?_, ?_, ?_, ?_, ?_, ?_, ?_, ?_, ?_, ?_, ?_, ?_, ?_, ?_, ?_, ?_, ?_, ?_, ?_, ?_, ?_, ?_, ?_, ?_, ?_, ?_, ?_, ?_, ?_, ?_, ?_, ?_, ?_, trivial⟩
      · intro V w hw hd
        simp [phi, Region.binds, cst] at hd
        try simp only [hd]
        first
          | (refine soft_const rfl ?_; go_simp; done)
          | (refine soft_const rfl ?_; go_simp; exact rfl)
          | (refine soft_str rfl _ _ _ rfl _ rfl _ Try.underlying22 Try.underlying5 Try.underlying9 _ _ ?_ rfl; exact Sl.nil w)
          | (exact soft_skip rfl)
      · intro V w hw hd
        simp [phi, Region.binds, cst] at hd
        try simp only [hd]
        first
          | (refine soft_const rfl ?_; go_simp; done)
          | (refine soft_const rfl ?_; go_simp; exact rfl)
          | (refine soft_str rfl _ _ _ rfl _ rfl _ Try.underlying22 Try.underlying5 Try.underlying9 _ _ ?_ rfl; exact Sl.nil w)
          | (exact soft_skip rfl)
      · intro V w hw hd
        simp [phi, Region.binds, cst] at hd
        try simp only [hd]
        first
          | (refine soft_const rfl ?_; go_simp; done)
          | (refine soft_const rfl ?_; go_simp; exact rfl)
          | (refine soft_str rfl _ _ _ rfl _ rfl _ Try.underlying22 Try.underlying5 Try.underlying9 _ _ ?_ rfl; exact Sl.nil w)
          | (exact soft_skip rfl)
      · intro V w hw hd
        simp [phi, Region.binds, cst] at hd
        try simp only [hd]
        first
          | (refine soft_const rfl ?_; go_simp; done)
          | (refine soft_const rfl ?_; go_simp; exact rfl)
          | (refine soft_str rfl _ _ _ rfl _ rfl _ Try.underlying22 Try.underlying5 Try.underlying9 _ _ ?_ rfl; exact Sl.nil w)
          | (exact soft_skip rfl)
      · intro V w hw hd
        simp [phi, Region.binds, cst] at hd
        try simp only [hd]
        first
          | (refine soft_const rfl ?_; go_simp; done)
          | (refine soft_const rfl ?_; go_simp; exact rfl)
          | (refine soft_str rfl _ _ _ rfl _ rfl _ Try.underlying22 Try.underlying5 Try.underlying9 _ _ ?_ rfl; exact Sl.nil w)
          | (exact soft_skip rfl)
      · intro V w hw hd
        simp [phi, Region.binds, cst] at hd
        try simp only [hd]
        first
          | (refine soft_const rfl ?_; go_simp; done)
          | (refine soft_const rfl ?_; go_simp; exact rfl)
          | (refine soft_str rfl _ _ _ rfl _ rfl _ Try.underlying22 Try.underlying5 Try.underlying9 _ _ ?_ rfl; exact Sl.nil w)
          | (exact soft_skip rfl)
      · intro V w hw hd
        simp [phi, Region.binds, cst] at hd
        try simp only [hd]
        refine soft_callC rfl _ _ (by go_simp; try exact ⟨rfl, rfl⟩) (kp1 w)
      · intro V w hw hd
        simp [phi, Region.binds, cst] at hd
        try simp only [hd]
        first
          | (refine soft_const rfl ?_; go_simp; done)
          | (refine soft_const rfl ?_; go_simp; exact rfl)
          | (refine soft_str rfl _ _ _ rfl _ rfl _ Try.underlying22 Try.underlying5 Try.underlying9 _ _ ?_ rfl; exact Sl.nil w)
          | (exact soft_skip rfl)
      · intro V w hw hd
        simp [phi, Region.binds, cst] at hd
        try simp only [hd]
        first
          | (refine soft_const rfl ?_; go_simp; done)
          | (refine soft_const rfl ?_; go_simp; exact rfl)
          | (refine soft_str rfl _ _ _ rfl _ rfl _ Try.underlying22 Try.underlying5 Try.underlying9 _ _ ?_ rfl; exact Sl.nil w)
          | (exact soft_skip rfl)
      · intro V w hw hd
        simp [phi, Region.binds, cst] at hd
        try simp only [hd]
        refine soft_callC rfl _ _ (by go_simp; try exact ⟨rfl, rfl⟩) (kp2 w)
      · intro V w hw hd
        simp [phi, Region.binds, cst] at hd
        try simp only [hd]
        first
          | (refine soft_const rfl ?_; go_simp; done)
          | (refine soft_const rfl ?_; go_simp; exact rfl)
          | (refine soft_str rfl _ _ _ rfl _ rfl _ Try.underlying22 Try.underlying5 Try.underlying9 _ _ ?_ rfl; exact Sl.nil w)
          | (exact soft_skip rfl)
      · intro V w hw hd
        simp [phi, Region.binds, cst] at hd
        try simp only [hd]
        first
          | (refine soft_const rfl ?_; go_simp; done)
          | (refine soft_const rfl ?_; go_simp; exact rfl)
          | (refine soft_str rfl _ _ _ rfl _ rfl _ Try.underlying22 Try.underlying5 Try.underlying9 _ _ ?_ rfl; exact Sl.nil w)
          | (exact soft_skip rfl)
      · intro V w hw hd
        simp [phi, Region.binds, cst] at hd
        try simp only [hd]
        first
          | (refine soft_const rfl ?_; go_simp; done)
          | (refine soft_const rfl ?_; go_simp; exact rfl)
          | (refine soft_str rfl _ _ _ rfl _ rfl _ Try.underlying22 Try.underlying5 Try.underlying9 _ _ ?_ rfl; exact Sl.nil w)
          | (exact soft_skip rfl)
      · intro V w hw hd
        simp [phi, Region.binds, cst] at hd
        try simp only [hd]
        first
          | (refine soft_const rfl ?_; go_simp; done)
          | (refine soft_const rfl ?_; go_simp; exact rfl)
          | (refine soft_str rfl _ _ _ rfl _ rfl _ Try.underlying22 Try.underlying5 Try.underlying9 _ _ ?_ rfl; exact Sl.nil w)
          | (exact soft_skip rfl)
      · intro V w hw hd
        simp [phi, Region.binds, cst] at hd
        try simp only [hd]
        first
          | (refine soft_const rfl ?_; go_simp; done)
          | (refine soft_const rfl ?_; go_simp; exact rfl)
          | (refine soft_str rfl _ _ _ rfl _ rfl _ Try.underlying22 Try.underlying5 Try.underlying9 _ _ ?_ rfl; exact Sl.nil w)
          | (exact soft_skip rfl)
      · intro V w hw hd
        simp [phi, Region.binds, cst] at hd
        try simp only [hd]
        first
          | (refine soft_const rfl ?_; go_simp; done)
          | (refine soft_const rfl ?_; go_simp; exact rfl)
          | (refine soft_str rfl _ _ _ rfl _ rfl _ Try.underlying22 Try.underlying5 Try.underlying9 _ _ ?_ rfl; exact Sl.nil w)
          | (exact soft_skip rfl)
      · intro V w hw hd
        simp [phi, Region.binds, cst] at hd
        try simp only [hd]
        first
          | (refine soft_const rfl ?_; go_simp; done)
          | (refine soft_const rfl ?_; go_simp; exact rfl)
          | (refine soft_str rfl _ _ _ rfl _ rfl _ Try.underlying22 Try.underlying5 Try.underlying9 _ _ ?_ rfl; exact Sl.nil w)
          | (exact soft_skip rfl)
      · intro V w hw hd
        simp [phi, Region.binds, cst] at hd
        try simp only [hd]
        first
          | (refine soft_const rfl ?_; go_simp; done)
          | (refine soft_const rfl ?_; go_simp; exact rfl)
          | (refine soft_str rfl _ _ _ rfl _ rfl _ Try.underlying22 Try.underlying5 Try.underlying9 _ _ ?_ rfl; exact Sl.nil w)
          | (exact soft_skip rfl)
      · intro V w hw hd
        simp [phi, Region.binds, cst] at hd
        try simp only [hd]
        first
          | (refine soft_const rfl ?_; go_simp; done)
          | (refine soft_const rfl ?_; go_simp; exact rfl)
          | (refine soft_str rfl _ _ _ rfl _ rfl _ Try.underlying22 Try.underlying5 Try.underlying9 _ _ ?_ rfl; exact Sl.nil w)
          | (exact soft_skip rfl)
      · intro V w hw hd
        simp [phi, Region.binds, cst] at hd
        try simp only [hd]
        first
          | (refine soft_const rfl ?_; go_simp; done)
          | (refine soft_const rfl ?_; go_simp; exact rfl)
          | (refine soft_str rfl _ _ _ rfl _ rfl _ Try.underlying22 Try.underlying5 Try.underlying9 _ _ ?_ rfl; exact Sl.nil w)
          | (exact soft_skip rfl)
      · intro V w hw hd
        simp [phi, Region.binds, cst] at hd
        try simp only [hd]
        first
          | (refine soft_const rfl ?_; go_simp; done)
          | (refine soft_const rfl ?_; go_simp; exact rfl)
          | (refine soft_str rfl _ _ _ rfl _ rfl _ Try.underlying22 Try.underlying5 Try.underlying9 _ _ ?_ rfl; exact Sl.nil w)
          | (exact soft_skip rfl)
      · intro V w hw hd
        simp [phi, Region.binds, cst] at hd
        try simp only [hd]
        first
          | (refine soft_const rfl ?_; go_simp; done)
          | (refine soft_const rfl ?_; go_simp; exact rfl)
          | (refine soft_str rfl _ _ _ rfl _ rfl _ Try.underlying22 Try.underlying5 Try.underlying9 _ _ ?_ rfl; exact Sl.nil w)
          | (exact soft_skip rfl)
      · intro V w hw hd
        simp [phi, Region.binds, cst] at hd
        try simp only [hd]
        first
          | (refine soft_const rfl ?_; go_simp; done)
          | (refine soft_const rfl ?_; go_simp; exact rfl)
          | (refine soft_str rfl _ _ _ rfl _ rfl _ Try.underlying22 Try.underlying5 Try.underlying9 _ _ ?_ rfl; exact Sl.nil w)
          | (exact soft_skip rfl)
      · intro V w hw hd
        simp [phi, Region.binds, cst] at hd
        try simp only [hd]
        first
          | (refine soft_const rfl ?_; go_simp; done)
          | (refine soft_const rfl ?_; go_simp; exact rfl)
          | (refine soft_str rfl _ _ _ rfl _ rfl _ Try.underlying22 Try.underlying5 Try.underlying9 _ _ ?_ rfl; exact Sl.nil w)
          | (exact soft_skip rfl)
      · intro V w hw hd
        simp [phi, Region.binds, cst] at hd
        try simp only [hd]
        first
          | (refine soft_const rfl ?_; go_simp; done)
          | (refine soft_const rfl ?_; go_simp; exact rfl)
          | (refine soft_str rfl _ _ _ rfl _ rfl _ Try.underlying22 Try.underlying5 Try.underlying9 _ _ ?_ rfl; exact Sl.nil w)
          | (exact soft_skip rfl)
      · intro V w hw hd
        simp [phi, Region.binds, cst] at hd
        try simp only [hd]
        first
          | (refine soft_const rfl ?_; go_simp; done)
          | (refine soft_const rfl ?_; go_simp; exact rfl)
          | (refine soft_str rfl _ _ _ rfl _ rfl _ Try.underlying22 Try.underlying5 Try.underlying9 _ _ ?_ rfl; exact Sl.nil w)
          | (exact soft_skip rfl)
      · intro V w hw hd
        simp [phi, Region.binds, cst] at hd
        try simp only [hd]
        first
          | (refine soft_const rfl ?_; go_simp; done)
          | (refine soft_const rfl ?_; go_simp; exact rfl)
          | (refine soft_str rfl _ _ _ rfl _ rfl _ Try.underlying22 Try.underlying5 Try.underlying9 _ _ ?_ rfl; exact Sl.nil w)
          | (exact soft_skip rfl)
      · intro V w hw hd
        simp [phi, Region.binds, cst] at hd
        try simp only [hd]
        first
          | (refine soft_const rfl ?_; go_simp; done)
          | (refine soft_const rfl ?_; go_simp; exact rfl)
          | (refine soft_str rfl _ _ _ rfl _ rfl _ Try.underlying22 Try.underlying5 Try.underlying9 _ _ ?_ rfl; exact Sl.nil w)
          | (exact soft_skip rfl)
      · intro V w hw hd
        simp [phi, Region.binds, cst] at hd
        try simp only [hd]
        first
          | (refine soft_const rfl ?_; go_simp; done)
          | (refine soft_const rfl ?_; go_simp; exact rfl)
          | (refine soft_str rfl _ _ _ rfl _ rfl _ Try.underlying22 Try.underlying5 Try.underlying9 _ _ ?_ rfl; exact Sl.nil w)
          | (exact soft_skip rfl)
      · intro V w hw hd
        simp [phi, Region.binds, cst] at hd
        try simp only [hd]
        first
          | (refine soft_const rfl ?_; go_simp; done)
          | (refine soft_const rfl ?_; go_simp; exact rfl)
          | (refine soft_str rfl _ _ _ rfl _ rfl _ Try.underlying22 Try.underlying5 Try.underlying9 _ _ ?_ rfl; exact Sl.nil w)
          | (exact soft_skip rfl)
      · intro V w hw hd
        simp [phi, Region.binds, cst] at hd
        try simp only [hd]
        first
          | (refine soft_const rfl ?_; go_simp; done)
          | (refine soft_const rfl ?_; go_simp; exact rfl)
          | (refine soft_str rfl _ _ _ rfl _ rfl _ Try.underlying22 Try.underlying5 Try.underlying9 _ _ ?_ rfl; exact Sl.nil w)
          | (exact soft_skip rfl)
      · intro V w hw hd
        simp [phi, Region.binds, cst] at hd
        try simp only [hd]
        first
          | (refine soft_const rfl ?_; go_simp; done)
          | (refine soft_const rfl ?_; go_simp; exact rfl)
          | (refine soft_str rfl _ _ _ rfl _ rfl _ Try.underlying22 Try.underlying5 Try.underlying9 _ _ ?_ rfl; exact Sl.nil w)
          | (exact soft_skip rfl)
      · intro V w hw hd
        simp [phi, Region.binds, cst] at hd
        try simp only [hd]
        first
          | (refine soft_const rfl ?_; go_simp; done)
          | (refine soft_const rfl ?_; go_simp; exact rfl)
          | (refine soft_str rfl _ _ _ rfl _ rfl _ Try.underlying22 Try.underlying5 Try.underlying9 _ _ ?_ rfl; exact Sl.nil w)
          | (exact soft_skip rfl)
      · intro V w hw hd
        simp [phi, Region.binds, cst] at hd
        try simp only [hd]
        first
          | (refine soft_const rfl ?_; go_simp; done)
          | (refine soft_const rfl ?_; go_simp; exact rfl)
          | (refine soft_str rfl _ _ _ rfl _ rfl _ Try.underlying22 Try.underlying5 Try.underlying9 _ _ ?_ rfl; exact Sl.nil w)
          | (exact soft_skip rfl)
      · intro V w hw hd
        simp [phi, Region.binds, cst] at hd
        try simp only [hd]
        first
          | (refine soft_const rfl ?_; go_simp; done)
          | (refine soft_const rfl ?_; go_simp; exact rfl)
          | (refine soft_str rfl _ _ _ rfl _ rfl _ Try.underlying22 Try.underlying5 Try.underlying9 _ _ ?_ rfl; exact Sl.nil w)
          | (exact soft_skip rfl)
      · intro V w hw hd
        simp [phi, Region.binds, cst] at hd
        try simp only [hd]
        first
          | (refine soft_const rfl ?_; go_simp; done)
          | (refine soft_const rfl ?_; go_simp; exact rfl)
          | (refine soft_str rfl _ _ _ rfl _ rfl _ Try.underlying22 Try.underlying5 Try.underlying9 _ _ ?_ rfl; exact Sl.nil w)
          | (exact soft_skip rfl)
      · intro V w hw hd
        simp [phi, Region.binds, cst] at hd
        try simp only [hd]
        first
          | (refine soft_const rfl ?_; go_simp; done)
          | (refine soft_const rfl ?_; go_simp; exact rfl)
          | (refine soft_str rfl _ _ _ rfl _ rfl _ Try.underlying22 Try.underlying5 Try.underlying9 _ _ ?_ rfl; exact Sl.nil w)
          | (exact soft_skip rfl)
      · intro V w hw hd
        simp [phi, Region.binds, cst] at hd
        try simp only [hd]
        first
          | (refine soft_const rfl ?_; go_simp; done)
          | (refine soft_const rfl ?_; go_simp; exact rfl)
          | (refine soft_str rfl _ _ _ rfl _ rfl _ Try.underlying22 Try.underlying5 Try.underlying9 _ _ ?_ rfl; exact Sl.nil w)
          | (exact soft_skip rfl)
      · intro V w hw hd
        simp [phi, Region.binds, cst] at hd
        try simp only [hd]
        first
          | (refine soft_const rfl ?_; go_simp; done)
          | (refine soft_const rfl ?_; go_simp; exact rfl)
          | (refine soft_str rfl _ _ _ rfl _ rfl _ Try.underlying22 Try.underlying5 Try.underlying9 _ _ ?_ rfl; exact Sl.nil w)
          | (exact soft_skip rfl)
    intro V w5 g5 hk
    have h38 := hk 38 (by decide)
    simp [phi, cst] at h38
    simp only [h38, List.drop_succ_cons, List.drop_zero]
    clear hk
    go_wp2
    go_ret
    exact ⟨rfl, ((g1.t0 g2).t0 g3).t0 g5⟩
  · have e1 : decide (n < 0) = false := decide_eq_false (by omega)
    have e2 : decide (2147483647 < n) = true := decide_eq_true h
    go_enter Try.func5, Try.ntmps5
    go_wp2_with (first
      | (go_at_call 14; refine (small_ok _).mono ?_; rintro e w1 ⟨rfl, g1⟩)
      | (go_at_call 21; refine (kp1 _).mono ?_; rintro e w2 ⟨rfl, g2⟩))
    refine' region_soft 6 [cst _, cst (.string (bstr [])), cst _, cst (.slice none 0 0), cst (.string (bstr [])), cst (.bool true)] rfl (by kernel_rfl) (by kernel_rfl) (stays_cons (Stays.cst _) (stays_cons (Stays.cst _) (stays_cons (Stays.cst _) (stays_cons (Stays.cst _) (stays_cons (Stays.cst _) (stays_cons (Stays.cst _) stays_nil)))))) _ (fun V => by simp only [putAll, Act.put, List.take_succ_cons, List.take_zero, List.setIfInBounds_toArray, List.set_cons_zero, List.set_cons_succ, Nat.reduceAdd]; exact rfl) ?hs5 ?ht5
    case hs5 =>
      simp only [List.take_succ_cons, List.take_zero, softs]
      refine ⟨?_, ?_, ?_, ?_, ?_, ?_, trivial⟩
      · intro V w hw hd
        simp [phi, Region.binds, cst] at hd
        try simp only [hd]
        first
          | (refine soft_const rfl ?_; go_simp; done)
          | (refine soft_const rfl ?_; go_simp; exact rfl)
          | (refine soft_str rfl _ _ _ rfl _ rfl _ Try.underlying22 Try.underlying5 Try.underlying9 _ _ ?_ rfl; exact Sl.nil w)
          | (exact soft_skip rfl)
      · intro V w hw hd
        simp [phi, Region.binds, cst] at hd
        try simp only [hd]
        first
          | (refine soft_const rfl ?_; go_simp; done)
          | (refine soft_const rfl ?_; go_simp; exact rfl)
          | (refine soft_str rfl _ _ _ rfl _ rfl _ Try.underlying22 Try.underlying5 Try.underlying9 _ _ ?_ rfl; exact Sl.nil w)
          | (exact soft_skip rfl)
      · intro V w hw hd
        simp [phi, Region.binds, cst] at hd
        try simp only [hd]
        first
          | (refine soft_const rfl ?_; go_simp; done)
          | (refine soft_const rfl ?_; go_simp; exact rfl)
          | (refine soft_str rfl _ _ _ rfl _ rfl _ Try.underlying22 Try.underlying5 Try.underlying9 _ _ ?_ rfl; exact Sl.nil w)
          | (exact soft_skip rfl)
      · intro V w hw hd
        simp [phi, Region.binds, cst] at hd
        try simp only [hd]
        refine soft_callC rfl _ _ (by go_simp; try exact ⟨rfl, rfl⟩) (kp2 w)
      · intro V w hw hd
        simp [phi, Region.binds, cst] at hd
        try simp only [hd]
        first
          | (refine soft_const rfl ?_; go_simp; done)
          | (refine soft_const rfl ?_; go_simp; exact rfl)
          | (refine soft_str rfl _ _ _ rfl _ rfl _ Try.underlying22 Try.underlying5 Try.underlying9 _ _ ?_ rfl; exact Sl.nil w)
          | (exact soft_skip rfl)
      · intro V w hw hd
        simp [phi, Region.binds, cst] at hd
        try simp only [hd]
        first
          | (refine soft_const rfl ?_; go_simp; done)
          | (refine soft_const rfl ?_; go_simp; exact rfl)
          | (refine soft_str rfl _ _ _ rfl _ rfl _ Try.underlying22 Try.underlying5 Try.underlying9 _ _ ?_ rfl; exact Sl.nil w)
          | (exact soft_skip rfl)
    intro V w3 g3 hk
    have h5 := hk 5 (by decide)
    simp [phi, cst] at h5
    simp only [h5, List.drop_succ_cons, List.drop_zero]
    clear hk
    go_wp2
    refine wp_loop_rounds 1 ?_
    rw [rounds_succ]
    go_wp2
    refine' region_soft 39 [cst _, cst _, cst _, cst _, cst _, cst _, cst (.slice none 0 0), cst (.string (bstr [])), cst _, cst (.slice none 0 0), cst (.string (bstr [])), cst (.bool true), cst (.bool true), cst (.bool true), cst _, cst (.bool false), cst (.bool false), cst _, cst (.bool true), cst (.bool true), cst (.bool true), cst undef, cst undef, cst undef, cst undef, cst undef, cst undef, cst undef, cst undef, cst undef, cst undef, cst undef, cst undef, cst undef, cst undef, cst undef, cst undef, cst (.bool true), cst (.bool true)] rfl (by kernel_rfl) (by kernel_rfl) (stays_cons (Stays.cst _) (stays_cons (Stays.cst _) (stays_cons (Stays.cst _) (stays_cons (Stays.cst _) (stays_cons (Stays.cst _) (stays_cons (Stays.cst _) (stays_cons (Stays.cst _) (stays_cons (Stays.cst _) (stays_cons (Stays.cst _) (stays_cons (Stays.cst _) (stays_cons (Stays.cst _) (stays_cons (Stays.cst _) (stays_cons (Stays.cst _) (stays_cons (Stays.cst _) (stays_cons (Stays.cst _) (stays_cons (Stays.cst _) (stays_cons (Stays.cst _) (stays_cons (Stays.cst _) (stays_cons (Stays.cst _) (stays_cons (Stays.cst _) (stays_cons (Stays.cst _) (stays_cons (Stays.cst _) (stays_cons (Stays.cst _) (stays_cons (Stays.cst _) (stays_cons (Stays.cst _) (stays_cons (Stays.cst _) (stays_cons (Stays.cst _) (stays_cons (Stays.cst _) (stays_cons (Stays.cst _) (stays_cons (Stays.cst _) (stays_cons (Stays.cst _) (stays_cons (Stays.cst _) (stays_cons (Stays.cst _) (stays_cons (Stays.cst _) (stays_cons (Stays.cst _) (stays_cons (Stays.cst _) (stays_cons (Stays.cst _) (stays_cons (Stays.cst _) (stays_cons (Stays.cst _) stays_nil))))))))))))))))))))))))))))))))))))))) _ (fun V => by simp only [putAll, Act.put, List.take_succ_cons, List.take_zero, List.setIfInBounds_toArray, List.set_cons_zero, List.set_cons_succ, Nat.reduceAdd]; exact rfl) ?hs6 ?ht6
    case hs6 =>
      simp only [List.take_succ_cons, List.take_zero, softs]
      refine ⟨?_, ?_, ?_, ?_, ?_, ?_, ?_, ?_, ?_, ?_, ?_, ?_, ?_, ?_, ?_, ?_, ?_, ?_, ?_, ?_, ?_, ?_, ?_, ?_, ?_, ?_, ?_, ?_, ?_, ?_, ?_, ?_, ?_, ?_, ?_, ?_, ?_, ?_, ?_, trivial⟩
      · intro V w hw hd
        simp [phi, Region.binds, cst] at hd
        try simp only [hd]
        first
          | (refine soft_const rfl ?_; go_simp; done)
          | (refine soft_const rfl ?_; go_simp; exact rfl)
          | (refine soft_str rfl _ _ _ rfl _ rfl _ Try.underlying22 Try.underlying5 Try.underlying9 _ _ ?_ rfl; exact Sl.nil w)
          | (exact soft_skip rfl)
      · intro V w hw hd
        simp [phi, Region.binds, cst] at hd
        try simp only [hd]
        first
          | (refine soft_const rfl ?_; go_simp; done)
          | (refine soft_const rfl ?_; go_simp; exact rfl)
          | (refine soft_str rfl _ _ _ rfl _ rfl _ Try.underlying22 Try.underlying5 Try.underlying9 _ _ ?_ rfl; exact Sl.nil w)
          | (exact soft_skip rfl)
      · intro V w hw hd
        simp [phi, Region.binds, cst] at hd
        try simp only [hd]
        first
          | (refine soft_const rfl ?_; go_simp; done)
          | (refine soft_const rfl ?_; go_simp; exact rfl)
          | (refine soft_str rfl _ _ _ rfl _ rfl _ Try.underlying22 Try.underlying5 Try.underlying9 _ _ ?_ rfl; exact Sl.nil w)
          | (exact soft_skip rfl)
      · intro V w hw hd
        simp [phi, Region.binds, cst] at hd
        try simp only [hd]
        first
          | (refine soft_const rfl ?_; go_simp; done)
          | (refine soft_const rfl ?_; go_simp; exact rfl)
          | (refine soft_str rfl _ _ _ rfl _ rfl _ Try.underlying22 Try.underlying5 Try.underlying9 _ _ ?_ rfl; exact Sl.nil w)
          | (exact soft_skip rfl)
      · intro V w hw hd
        simp [phi, Region.binds, cst] at hd
        try simp only [hd]
        first
          | (refine soft_const rfl ?_; go_simp; done)
          | (refine soft_const rfl ?_; go_simp; exact rfl)
          | (refine soft_str rfl _ _ _ rfl _ rfl _ Try.underlying22 Try.underlying5 Try.underlying9 _ _ ?_ rfl; exact Sl.nil w)
          | (exact soft_skip rfl)
      · intro V w hw hd
        simp [phi, Region.binds, cst] at hd
        try simp only [hd]
        first
          | (refine soft_const rfl ?_; go_simp; done)
          | (refine soft_const rfl ?_; go_simp; exact rfl)
          | (refine soft_str rfl _ _ _ rfl _ rfl _ Try.underlying22 Try.underlying5 Try.underlying9 _ _ ?_ rfl; exact Sl.nil w)
          | (exact soft_skip rfl)
      · intro V w hw hd
        simp [phi, Region.binds, cst] at hd
        try simp only [hd]
        refine soft_callC rfl _ _ (by go_simp; try exact ⟨rfl, rfl⟩) (kp1 w)
      · intro V w hw hd
        simp [phi, Region.binds, cst] at hd
        try simp only [hd]
        first
          | (refine soft_const rfl ?_; go_simp; done)
          | (refine soft_const rfl ?_; go_simp; exact rfl)
          | (refine soft_str rfl _ _ _ rfl _ rfl _ Try.underlying22 Try.underlying5 Try.underlying9 _ _ ?_ rfl; exact Sl.nil w)
          | (exact soft_skip rfl)
      · intro V w hw hd
        simp [phi, Region.binds, cst] at hd
        try simp only [hd]
        first
          | (refine soft_const rfl ?_; go_simp; done)
          | (refine soft_const rfl ?_; go_simp; exact rfl)
          | (refine soft_str rfl _ _ _ rfl _ rfl _ Try.underlying22 Try.underlying5 Try.underlying9 _ _ ?_ rfl; exact Sl.nil w)
          | (exact soft_skip rfl)
      · intro V w hw hd
        simp [phi, Region.binds, cst] at hd
        try simp only [hd]
        refine soft_callC rfl _ _ (by go_simp; try exact ⟨rfl, rfl⟩) (kp2 w)
      · intro V w hw hd
        simp [phi, Region.binds, cst] at hd
        try simp only [hd]
        first
          | (refine soft_const rfl ?_; go_simp; done)
          | (refine soft_const rfl ?_; go_simp; exact rfl)
          | (refine soft_str rfl _ _ _ rfl _ rfl _ Try.underlying22 Try.underlying5 Try.underlying9 _ _ ?_ rfl; exact Sl.nil w)
          | (exact soft_skip rfl)
      · intro V w hw hd
        simp [phi, Region.binds, cst] at hd
        try simp only [hd]
        first
          | (refine soft_const rfl ?_; go_simp; done)
          | (refine soft_const rfl ?_; go_simp; exact rfl)
          | (refine soft_str rfl _ _ _ rfl _ rfl _ Try.underlying22 Try.underlying5 Try.underlying9 _ _ ?_ rfl; exact Sl.nil w)
          | (exact soft_skip rfl)
      · intro V w hw hd
        simp [phi, Region.binds, cst] at hd
        try simp only [hd]
        first
          | (refine soft_const rfl ?_; go_simp; done)
          | (refine soft_const rfl ?_; go_simp; exact rfl)
          | (refine soft_str rfl _ _ _ rfl _ rfl _ Try.underlying22 Try.underlying5 Try.underlying9 _ _ ?_ rfl; exact Sl.nil w)
          | (exact soft_skip rfl)
      · intro V w hw hd
        simp [phi, Region.binds, cst] at hd
        try simp only [hd]
        first
          | (refine soft_const rfl ?_; go_simp; done)
          | (refine soft_const rfl ?_; go_simp; exact rfl)
          | (refine soft_str rfl _ _ _ rfl _ rfl _ Try.underlying22 Try.underlying5 Try.underlying9 _ _ ?_ rfl; exact Sl.nil w)
          | (exact soft_skip rfl)
      · intro V w hw hd
        simp [phi, Region.binds, cst] at hd
        try simp only [hd]
        first
          | (refine soft_const rfl ?_; go_simp; done)
          | (refine soft_const rfl ?_; go_simp; exact rfl)
          | (refine soft_str rfl _ _ _ rfl _ rfl _ Try.underlying22 Try.underlying5 Try.underlying9 _ _ ?_ rfl; exact Sl.nil w)
          | (exact soft_skip rfl)
      · intro V w hw hd
        simp [phi, Region.binds, cst] at hd
        try simp only [hd]
        first
          | (refine soft_const rfl ?_; go_simp; done)
          | (refine soft_const rfl ?_; go_simp; exact rfl)
          | (refine soft_str rfl _ _ _ rfl _ rfl _ Try.underlying22 Try.underlying5 Try.underlying9 _ _ ?_ rfl; exact Sl.nil w)
          | (exact soft_skip rfl)
      · intro V w hw hd
        simp [phi, Region.binds, cst] at hd
        try simp only [hd]
        first
          | (refine soft_const rfl ?_; go_simp; done)
          | (refine soft_const rfl ?_; go_simp; exact rfl)
          | (refine soft_str rfl _ _ _ rfl _ rfl _ Try.underlying22 Try.underlying5 Try.underlying9 _ _ ?_ rfl; exact Sl.nil w)
          | (exact soft_skip rfl)
      · intro V w hw hd
        simp [phi, Region.binds, cst] at hd
        try simp only [hd]
        first
          | (refine soft_const rfl ?_; go_simp; done)
          | (refine soft_const rfl ?_; go_simp; exact rfl)
          | (refine soft_str rfl _ _ _ rfl _ rfl _ Try.underlying22 Try.underlying5 Try.underlying9 _ _ ?_ rfl; exact Sl.nil w)
          | (exact soft_skip rfl)
      · intro V w hw hd
        simp [phi, Region.binds, cst] at hd
        try simp only [hd]
        first
          | (refine soft_const rfl ?_; go_simp; done)
          | (refine soft_const rfl ?_; go_simp; exact rfl)
          | (refine soft_str rfl _ _ _ rfl _ rfl _ Try.underlying22 Try.underlying5 Try.underlying9 _ _ ?_ rfl; exact Sl.nil w)
          | (exact soft_skip rfl)
      · intro V w hw hd
        simp [phi, Region.binds, cst] at hd
        try simp only [hd]
        first
          | (refine soft_const rfl ?_; go_simp; done)
          | (refine soft_const rfl ?_; go_simp; exact rfl)
          | (refine soft_str rfl _ _ _ rfl _ rfl _ Try.underlying22 Try.underlying5 Try.underlying9 _ _ ?_ rfl; exact Sl.nil w)
          | (exact soft_skip rfl)
      · intro V w hw hd
        simp [phi, Region.binds, cst] at hd
        try simp only [hd]
        first
          | (refine soft_const rfl ?_; go_simp; done)
          | (refine soft_const rfl ?_; go_simp; exact rfl)
          | (refine soft_str rfl _ _ _ rfl _ rfl _ Try.underlying22 Try.underlying5 Try.underlying9 _ _ ?_ rfl; exact Sl.nil w)
          | (exact soft_skip rfl)
      · intro V w hw hd
        simp [phi, Region.binds, cst] at hd
        try simp only [hd]
        first
          | (refine soft_const rfl ?_; go_simp; done)
          | (refine soft_const rfl ?_; go_simp; exact rfl)
          | (refine soft_str rfl _ _ _ rfl _ rfl _ Try.underlying22 Try.underlying5 Try.underlying9 _ _ ?_ rfl; exact Sl.nil w)
          | (exact soft_skip rfl)
      · intro V w hw hd
        simp [phi, Region.binds, cst] at hd
        try simp only [hd]
        first
          | (refine soft_const rfl ?_; go_simp; done)
          | (refine soft_const rfl ?_; go_simp; exact rfl)
          | (refine soft_str rfl _ _ _ rfl _ rfl _ Try.underlying22 Try.underlying5 Try.underlying9 _ _ ?_ rfl; exact Sl.nil w)
          | (exact soft_skip rfl)
      · intro V w hw hd
        simp [phi, Region.binds, cst] at hd
        try simp only [hd]
        first
          | (refine soft_const rfl ?_; go_simp; done)
          | (refine soft_const rfl ?_; go_simp; exact rfl)
          | (refine soft_str rfl _ _ _ rfl _ rfl _ Try.underlying22 Try.underlying5 Try.underlying9 _ _ ?_ rfl; exact Sl.nil w)
          | (exact soft_skip rfl)
      · intro V w hw hd
        simp [phi, Region.binds, cst] at hd
        try simp only [hd]
        first
          | (refine soft_const rfl ?_; go_simp; done)
          | (refine soft_const rfl ?_; go_simp; exact rfl)
          | (refine soft_str rfl _ _ _ rfl _ rfl _ Try.underlying22 Try.underlying5 Try.underlying9 _ _ ?_ rfl; exact Sl.nil w)
          | (exact soft_skip rfl)
      · intro V w hw hd
        simp [phi, Region.binds, cst] at hd
        try simp only [hd]
        first
          | (refine soft_const rfl ?_; go_simp; done)
          | (refine soft_const rfl ?_; go_simp; exact rfl)
          | (refine soft_str rfl _ _ _ rfl _ rfl _ Try.underlying22 Try.underlying5 Try.underlying9 _ _ ?_ rfl; exact Sl.nil w)
          | (exact soft_skip rfl)
      · intro V w hw hd
        simp [phi, Region.binds, cst] at hd
        try simp only [hd]
        first
          | (refine soft_const rfl ?_; go_simp; done)
          | (refine soft_const rfl ?_; go_simp; exact rfl)
          | (refine soft_str rfl _ _ _ rfl _ rfl _ Try.underlying22 Try.underlying5 Try.underlying9 _ _ ?_ rfl; exact Sl.nil w)
          | (exact soft_skip rfl)
      · intro V w hw hd
        simp [phi, Region.binds, cst] at hd
        try simp only [hd]
        first
          | (refine soft_const rfl ?_; go_simp; done)
          | (refine soft_const rfl ?_; go_simp; exact rfl)
          | (refine soft_str rfl _ _ _ rfl _ rfl _ Try.underlying22 Try.underlying5 Try.underlying9 _ _ ?_ rfl; exact Sl.nil w)
          | (exact soft_skip rfl)
      · intro V w hw hd
        simp [phi, Region.binds, cst] at hd
        try simp only [hd]
        first
          | (refine soft_const rfl ?_; go_simp; done)
          | (refine soft_const rfl ?_; go_simp; exact rfl)
          | (refine soft_str rfl _ _ _ rfl _ rfl _ Try.underlying22 Try.underlying5 Try.underlying9 _ _ ?_ rfl; exact Sl.nil w)
          | (exact soft_skip rfl)
      · intro V w hw hd
        simp [phi, Region.binds, cst] at hd
        try simp only [hd]
        first
          | (refine soft_const rfl ?_; go_simp; done)
          | (refine soft_const rfl ?_; go_simp; exact rfl)
          | (refine soft_str rfl _ _ _ rfl _ rfl _ Try.underlying22 Try.underlying5 Try.underlying9 _ _ ?_ rfl; exact Sl.nil w)
          | (exact soft_skip rfl)
      · intro V w hw hd
        simp [phi, Region.binds, cst] at hd
        try simp only [hd]
        first
          | (refine soft_const rfl ?_; go_simp; done)
          | (refine soft_const rfl ?_; go_simp; exact rfl)
          | (refine soft_str rfl _ _ _ rfl _ rfl _ Try.underlying22 Try.underlying5 Try.underlying9 _ _ ?_ rfl; exact Sl.nil w)
          | (exact soft_skip rfl)
      · intro V w hw hd
        simp [phi, Region.binds, cst] at hd
        try simp only [hd]
        first
          | (refine soft_const rfl ?_; go_simp; done)
          | (refine soft_const rfl ?_; go_simp; exact rfl)
          | (refine soft_str rfl _ _ _ rfl _ rfl _ Try.underlying22 Try.underlying5 Try.underlying9 _ _ ?_ rfl; exact Sl.nil w)
          | (exact soft_skip rfl)
      · intro V w hw hd
        simp [phi, Region.binds, cst] at hd
        try simp only [hd]
        first
          | (refine soft_const rfl ?_; go_simp; done)
          | (refine soft_const rfl ?_; go_simp; exact rfl)
          | (refine soft_str rfl _ _ _ rfl _ rfl _ Try.underlying22 Try.underlying5 Try.underlying9 _ _ ?_ rfl; exact Sl.nil w)
          | (exact soft_skip rfl)
      · intro V w hw hd
        simp [phi, Region.binds, cst] at hd
        try simp only [hd]
        first
          | (refine soft_const rfl ?_; go_simp; done)
          | (refine soft_const rfl ?_; go_simp; exact rfl)
          | (refine soft_str rfl _ _ _ rfl _ rfl _ Try.underlying22 Try.underlying5 Try.underlying9 _ _ ?_ rfl; exact Sl.nil w)
          | (exact soft_skip rfl)
      · intro V w hw hd
        simp [phi, Region.binds, cst] at hd
        try simp only [hd]
        first
          | (refine soft_const rfl ?_; go_simp; done)
          | (refine soft_const rfl ?_; go_simp; exact rfl)
          | (refine soft_str rfl _ _ _ rfl _ rfl _ Try.underlying22 Try.underlying5 Try.underlying9 _ _ ?_ rfl; exact Sl.nil w)
          | (exact soft_skip rfl)
      · intro V w hw hd
        simp [phi, Region.binds, cst] at hd
        try simp only [hd]
        first
          | (refine soft_const rfl ?_; go_simp; done)
          | (refine soft_const rfl ?_; go_simp; exact rfl)
          | (refine soft_str rfl _ _ _ rfl _ rfl _ Try.underlying22 Try.underlying5 Try.underlying9 _ _ ?_ rfl; exact Sl.nil w)
          | (exact soft_skip rfl)
      · intro V w hw hd
        simp [phi, Region.binds, cst] at hd
        try simp only [hd]
        first
          | (refine soft_const rfl ?_; go_simp; done)
          | (refine soft_const rfl ?_; go_simp; exact rfl)
          | (refine soft_str rfl _ _ _ rfl _ rfl _ Try.underlying22 Try.underlying5 Try.underlying9 _ _ ?_ rfl; exact Sl.nil w)
          | (exact soft_skip rfl)
      · intro V w hw hd
        simp [phi, Region.binds, cst] at hd
        try simp only [hd]
        first
          | (refine soft_const rfl ?_; go_simp; done)
          | (refine soft_const rfl ?_; go_simp; exact rfl)
          | (refine soft_str rfl _ _ _ rfl _ rfl _ Try.underlying22 Try.underlying5 Try.underlying9 _ _ ?_ rfl; exact Sl.nil w)
          | (exact soft_skip rfl)
      · intro V w hw hd
        simp [phi, Region.binds, cst] at hd
        try simp only [hd]
        first
          | (refine soft_const rfl ?_; go_simp; done)
          | (refine soft_const rfl ?_; go_simp; exact rfl)
          | (refine soft_str rfl _ _ _ rfl _ rfl _ Try.underlying22 Try.underlying5 Try.underlying9 _ _ ?_ rfl; exact Sl.nil w)
          | (exact soft_skip rfl)
    intro V w5 g5 hk
    have h38 := hk 38 (by decide)
    simp [phi, cst] at h38
    simp only [h38, List.drop_succ_cons, List.drop_zero]
    clear hk
    go_wp2
    go_ret
    exact ⟨rfl, ((g1.t0 g2).t0 g3).t0 g5⟩

theorem shaPads_run (w : World) (n : Int) (_ : (Lit.int .i64 n).wf = true) :
    Calls Try.prog 5 #[.int .i64 n] w fun e w' => e = .returned (.bool true) ∧ Chg [] w w' := by
  by_cases h : n < 0 ∨ 2147483647 < n
  · exact pads_out w n h
  · obtain ⟨k, rfl⟩ : ∃ k : Nat, n = k := ⟨n.toNat, by omega⟩
    exact pads_in w k (by omega)
end Go.Proofs.Ytfodlkofjmbolaa
