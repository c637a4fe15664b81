/-
  QueryBack, QueryApart: the walks.
-/
import Derived.Test.YtfnfcioofkeanaaLaw24A
import Derived.Test.YtfnfcioofkeanaaSkip
namespace Go.Proofs.Ytfnfcioofkeanaa
open Go.RowKit

set_option maxRecDepth 100000 in
set_option maxHeartbeats 8000000 in
theorem queryApart_run (w : World) (x y : Value × Qu) (hx : okQ w x) (hy : okQ w y) :
    Calls Try.prog 7 #[.agg #[x.1, .int .i64 x.2.lo, .int .i64 x.2.hi], .agg #[y.1, .int .i64 y.2.lo, .int .i64 y.2.hi]] w fun e w' => e = .returned (.bool true) ∧ Chg [] w w' := by
  obtain ⟨v, p⟩ := x
  obtain ⟨u, q⟩ := y
  obtain ⟨hs, _, hb, _, _⟩ := hx
  obtain ⟨hs2, _, hb2, _, _⟩ := hy
  dsimp only at *
  obtain ⟨a0, c0, rfl⟩ := hs.shape
  obtain ⟨a1, c1, rfl⟩ := hs2.shape
  have hbm : p.cols.length ≤ maxLen := by unfold maxLen; omega
  have hbm2 : q.cols.length ≤ maxLen := by unfold maxLen; omega
  go_enter Try.func7, Try.ntmps7
  go_wp2_with fail
  have bq := heap_alloc_new w (.cells #[.slice a0 p.cols.length c0, .int .i64 p.lo, .int .i64 p.hi] 24)
  have gq := Chg.alloc [] w (.cells #[.slice a0 p.cols.length c0, .int .i64 p.lo, .int .i64 p.hi] 24)
  have bf := heap_alloc_new (w.alloc (.cells #[.slice a0 p.cols.length c0, .int .i64 p.lo, .int .i64 p.hi] 24)) (.cells #[.slice a1 q.cols.length c1, .int .i64 q.lo, .int .i64 q.hi] 24)
  have gf := Chg.alloc [] (w.alloc (.cells #[.slice a0 p.cols.length c0, .int .i64 p.lo, .int .i64 p.hi] 24)) (.cells #[.slice a1 q.cols.length c1, .int .i64 q.lo, .int .i64 q.hi] 24)
  rw [World.size_alloc1] at bf
  replace bq := gf.heap bq (by simp)
  have g0 := gq.t0 gf
  clear gq gf
  generalize (w.alloc (.cells #[.slice a0 p.cols.length c0, .int .i64 p.lo, .int .i64 p.hi] 24)).alloc (.cells #[.slice a1 q.cols.length c1, .int .i64 q.lo, .int .i64 q.hi] 24) = w0 at *
  generalize w.heap.size + 1 = fb at *
  refine (small24_ok w0).mono ?_
  rintro e w1 ⟨rfl, g1⟩
  replace bq := g1.heap bq (by simp)
  replace bf := g1.heap bf (by simp)
  replace g0 := g0.t0 g1
  replace hs := hs.tr0 g0
  replace hs2 := hs2.tr0 g0
  clear g1
  obtain ⟨q0, q1, q2, _, _, _⟩ := cells3' bq
  obtain ⟨f0, f1, f2, _, _, _⟩ := cells3' bf
  by_cases hl : 100 < p.cols.length
  · go_wp2
    go_ret
    exact ⟨rfl, g0⟩
  by_cases hl2 : 100 < q.cols.length
  · go_wp2
    go_ret
    exact ⟨rfl, g0⟩
  go_wp2_with fail
  refine (enc_ok w1 _ p hs hbm).mono ?_
  rintro e w2 ⟨va, rfl, o2, g2⟩
  replace bq := g2.heap bq (by simp)
  replace bf := g2.heap bf (by simp)
  replace g0 := g0.t0 g2
  replace hs := hs.tr0 g2
  replace hs2 := hs2.tr0 g2
  have sa := Sl.ofOwns o2
  clear g2 o2 q0 q1 q2 f0 f1 f2
  obtain ⟨q0, q1, q2, _, _, _⟩ := cells3' bf
  go_wp2_with fail
  refine (enc_ok w2 _ q hs2 hbm2).mono ?_
  rintro e w3 ⟨vb, rfl, o3, g3⟩
  replace bq := g3.heap bq (by simp)
  replace bf := g3.heap bf (by simp)
  replace g0 := g0.t0 g3
  replace hs := hs.tr0 g3
  replace hs2 := hs2.tr0 g3
  replace sa := sa.tr0 g3
  have sb := Sl.ofOwns o3
  clear g3 o3 q0 q1 q2
  have rq := ra_block bq
  have rf := ra_block bf
  have kS : ∀ w', Chg [] w3 w' → Calls Try.prog 21 #[.agg #[.slice a0 p.cols.length c0, .int .i64 p.lo, .int .i64 p.hi], .agg #[.slice a1 q.cols.length c1, .int .i64 q.lo, .int .i64 q.hi]] w' fun e w'' => e = .returned (.bool (decide (p = q))) ∧ Chg [] w' w'' := fun w' g => rsame_ok w' (.slice a0 p.cols.length c0) (.slice a1 q.cols.length c1) p q (hs.tr0 g) (hs2.tr0 g) hbm
  have hkey : mayQ p = true → mayQ q = true → decide (bstr (encR p) = bstr (encR q)) = decide (p = q) := by
    intro h1 h2
    rw [decide_eq_decide, bstr_inj]
    unfold encR
    rw [if_pos h1, if_pos h2]
    exact enc_inj h1 h2
  generalize decide (p = q) = D at *
  generalize encR p = RP at *
  generalize encR q = RQ at *
  clear bq bf
  cases h1 : mayQ p with
  | false =>
    clear hkey h1
    generalize mayQ q = MQ at *
    go_wp2_with fail
    refine' region_soft 20 [cst (.bool true), cst (.bool true), cst (.bool false), cst (.bool true), cst (.bool true), cst undef, cst undef, cst (.bool true), cst (.bool true), cst undef, cst undef, cst undef, cst undef, cst undef, cst undef, cst undef, cst undef, cst undef, cst (.bool true), cst (.bool true)] rfl (by kernel_rfl) (by kernel_rfl) (stays_cons (Stays.cst _) (stays_cons (Stays.cst _) (stays_cons (Stays.cst _) (stays_cons (Stays.cst _) (stays_cons (Stays.cst _) (stays_cons (Stays.cst _) (stays_cons (Stays.cst _) (stays_cons (Stays.cst _) (stays_cons (Stays.cst _) (stays_cons (Stays.cst _) (stays_cons (Stays.cst _) (stays_cons (Stays.cst _) (stays_cons (Stays.cst _) (stays_cons (Stays.cst _) (stays_cons (Stays.cst _) (stays_cons (Stays.cst _) (stays_cons (Stays.cst _) (stays_cons (Stays.cst _) (stays_cons (Stays.cst _) (stays_cons (Stays.cst _) stays_nil)))))))))))))))))))) _ (fun V => by simp only [putAll, Act.put, List.take_succ_cons, List.take_zero, List.setIfInBounds_toArray, List.set_cons_zero, List.set_cons_succ, Nat.reduceAdd]; exact rfl) ?hs1 ?ht1
    case hs1 =>
      simp only [List.take_succ_cons, List.take_zero, softs]
      refine ⟨?_, ?_, ?_, ?_, ?_, ?_, ?_, ?_, ?_, ?_, ?_, ?_, ?_, ?_, ?_, ?_, ?_, ?_, ?_, ?_, trivial⟩
      · intro V w hw hd
        simp [phi, Region.binds, cst] at hd
        try simp only [hd]
        first
          | (refine soft_const rfl ?_; go_simp; done)
          | (refine soft_const rfl ?_; go_simp; exact rfl)
          | (exact soft_load rfl hw _ _ rfl _ _ rfl _ _ rq Try.underlying24 rfl (by kernel_rfl))
          | (exact soft_load rfl hw _ _ rfl _ _ rfl _ _ rf Try.underlying24 rfl (by kernel_rfl))
          | (refine soft_str rfl _ _ _ rfl _ rfl _ Try.underlying30 Try.underlying5 Try.underlying9 _ _ ?_ rfl; exact sa.tr0 hw)
          | (refine soft_str rfl _ _ _ rfl _ rfl _ Try.underlying30 Try.underlying5 Try.underlying9 _ _ ?_ rfl; exact sb.tr0 hw)
          | (exact soft_skip rfl)
      · intro V w hw hd
        simp [phi, Region.binds, cst] at hd
        try simp only [hd]
        first
          | (refine soft_const rfl ?_; go_simp; done)
          | (refine soft_const rfl ?_; go_simp; exact rfl)
          | (exact soft_load rfl hw _ _ rfl _ _ rfl _ _ rq Try.underlying24 rfl (by kernel_rfl))
          | (exact soft_load rfl hw _ _ rfl _ _ rfl _ _ rf Try.underlying24 rfl (by kernel_rfl))
          | (refine soft_str rfl _ _ _ rfl _ rfl _ Try.underlying30 Try.underlying5 Try.underlying9 _ _ ?_ rfl; exact sa.tr0 hw)
          | (refine soft_str rfl _ _ _ rfl _ rfl _ Try.underlying30 Try.underlying5 Try.underlying9 _ _ ?_ rfl; exact sb.tr0 hw)
          | (exact soft_skip rfl)
      · intro V w hw hd
        simp [phi, Region.binds, cst] at hd
        try simp only [hd]
        first
          | (refine soft_const rfl ?_; go_simp; done)
          | (refine soft_const rfl ?_; go_simp; exact rfl)
          | (exact soft_load rfl hw _ _ rfl _ _ rfl _ _ rq Try.underlying24 rfl (by kernel_rfl))
          | (exact soft_load rfl hw _ _ rfl _ _ rfl _ _ rf Try.underlying24 rfl (by kernel_rfl))
          | (refine soft_str rfl _ _ _ rfl _ rfl _ Try.underlying30 Try.underlying5 Try.underlying9 _ _ ?_ rfl; exact sa.tr0 hw)
          | (refine soft_str rfl _ _ _ rfl _ rfl _ Try.underlying30 Try.underlying5 Try.underlying9 _ _ ?_ rfl; exact sb.tr0 hw)
          | (exact soft_skip rfl)
      · intro V w hw hd
        simp [phi, Region.binds, cst] at hd
        try simp only [hd]
        first
          | (refine soft_const rfl ?_; go_simp; done)
          | (refine soft_const rfl ?_; go_simp; exact rfl)
          | (exact soft_load rfl hw _ _ rfl _ _ rfl _ _ rq Try.underlying24 rfl (by kernel_rfl))
          | (exact soft_load rfl hw _ _ rfl _ _ rfl _ _ rf Try.underlying24 rfl (by kernel_rfl))
          | (refine soft_str rfl _ _ _ rfl _ rfl _ Try.underlying30 Try.underlying5 Try.underlying9 _ _ ?_ rfl; exact sa.tr0 hw)
          | (refine soft_str rfl _ _ _ rfl _ rfl _ Try.underlying30 Try.underlying5 Try.underlying9 _ _ ?_ rfl; exact sb.tr0 hw)
          | (exact soft_skip rfl)
      · intro V w hw hd
        simp [phi, Region.binds, cst] at hd
        try simp only [hd]
        first
          | (refine soft_const rfl ?_; go_simp; done)
          | (refine soft_const rfl ?_; go_simp; exact rfl)
          | (exact soft_load rfl hw _ _ rfl _ _ rfl _ _ rq Try.underlying24 rfl (by kernel_rfl))
          | (exact soft_load rfl hw _ _ rfl _ _ rfl _ _ rf Try.underlying24 rfl (by kernel_rfl))
          | (refine soft_str rfl _ _ _ rfl _ rfl _ Try.underlying30 Try.underlying5 Try.underlying9 _ _ ?_ rfl; exact sa.tr0 hw)
          | (refine soft_str rfl _ _ _ rfl _ rfl _ Try.underlying30 Try.underlying5 Try.underlying9 _ _ ?_ rfl; exact sb.tr0 hw)
          | (exact soft_skip rfl)
      · intro V w hw hd
        simp [phi, Region.binds, cst] at hd
        try simp only [hd]
        first
          | (refine soft_const rfl ?_; go_simp; done)
          | (refine soft_const rfl ?_; go_simp; exact rfl)
          | (exact soft_load rfl hw _ _ rfl _ _ rfl _ _ rq Try.underlying24 rfl (by kernel_rfl))
          | (exact soft_load rfl hw _ _ rfl _ _ rfl _ _ rf Try.underlying24 rfl (by kernel_rfl))
          | (refine soft_str rfl _ _ _ rfl _ rfl _ Try.underlying30 Try.underlying5 Try.underlying9 _ _ ?_ rfl; exact sa.tr0 hw)
          | (refine soft_str rfl _ _ _ rfl _ rfl _ Try.underlying30 Try.underlying5 Try.underlying9 _ _ ?_ rfl; exact sb.tr0 hw)
          | (exact soft_skip rfl)
      · intro V w hw hd
        simp [phi, Region.binds, cst] at hd
        try simp only [hd]
        first
          | (refine soft_const rfl ?_; go_simp; done)
          | (refine soft_const rfl ?_; go_simp; exact rfl)
          | (exact soft_load rfl hw _ _ rfl _ _ rfl _ _ rq Try.underlying24 rfl (by kernel_rfl))
          | (exact soft_load rfl hw _ _ rfl _ _ rfl _ _ rf Try.underlying24 rfl (by kernel_rfl))
          | (refine soft_str rfl _ _ _ rfl _ rfl _ Try.underlying30 Try.underlying5 Try.underlying9 _ _ ?_ rfl; exact sa.tr0 hw)
          | (refine soft_str rfl _ _ _ rfl _ rfl _ Try.underlying30 Try.underlying5 Try.underlying9 _ _ ?_ rfl; exact sb.tr0 hw)
          | (exact soft_skip rfl)
      · intro V w hw hd
        simp [phi, Region.binds, cst] at hd
        try simp only [hd]
        first
          | (refine soft_const rfl ?_; go_simp; done)
          | (refine soft_const rfl ?_; go_simp; exact rfl)
          | (exact soft_load rfl hw _ _ rfl _ _ rfl _ _ rq Try.underlying24 rfl (by kernel_rfl))
          | (exact soft_load rfl hw _ _ rfl _ _ rfl _ _ rf Try.underlying24 rfl (by kernel_rfl))
          | (refine soft_str rfl _ _ _ rfl _ rfl _ Try.underlying30 Try.underlying5 Try.underlying9 _ _ ?_ rfl; exact sa.tr0 hw)
          | (refine soft_str rfl _ _ _ rfl _ rfl _ Try.underlying30 Try.underlying5 Try.underlying9 _ _ ?_ rfl; exact sb.tr0 hw)
          | (exact soft_skip rfl)
      · intro V w hw hd
        simp [phi, Region.binds, cst] at hd
        try simp only [hd]
        first
          | (refine soft_const rfl ?_; go_simp; done)
          | (refine soft_const rfl ?_; go_simp; exact rfl)
          | (exact soft_load rfl hw _ _ rfl _ _ rfl _ _ rq Try.underlying24 rfl (by kernel_rfl))
          | (exact soft_load rfl hw _ _ rfl _ _ rfl _ _ rf Try.underlying24 rfl (by kernel_rfl))
          | (refine soft_str rfl _ _ _ rfl _ rfl _ Try.underlying30 Try.underlying5 Try.underlying9 _ _ ?_ rfl; exact sa.tr0 hw)
          | (refine soft_str rfl _ _ _ rfl _ rfl _ Try.underlying30 Try.underlying5 Try.underlying9 _ _ ?_ rfl; exact sb.tr0 hw)
          | (exact soft_skip rfl)
      · intro V w hw hd
        simp [phi, Region.binds, cst] at hd
        try simp only [hd]
        first
          | (refine soft_const rfl ?_; go_simp; done)
          | (refine soft_const rfl ?_; go_simp; exact rfl)
          | (exact soft_load rfl hw _ _ rfl _ _ rfl _ _ rq Try.underlying24 rfl (by kernel_rfl))
          | (exact soft_load rfl hw _ _ rfl _ _ rfl _ _ rf Try.underlying24 rfl (by kernel_rfl))
          | (refine soft_str rfl _ _ _ rfl _ rfl _ Try.underlying30 Try.underlying5 Try.underlying9 _ _ ?_ rfl; exact sa.tr0 hw)
          | (refine soft_str rfl _ _ _ rfl _ rfl _ Try.underlying30 Try.underlying5 Try.underlying9 _ _ ?_ rfl; exact sb.tr0 hw)
          | (exact soft_skip rfl)
      · intro V w hw hd
        simp [phi, Region.binds, cst] at hd
        try simp only [hd]
        first
          | (refine soft_const rfl ?_; go_simp; done)
          | (refine soft_const rfl ?_; go_simp; exact rfl)
          | (exact soft_load rfl hw _ _ rfl _ _ rfl _ _ rq Try.underlying24 rfl (by kernel_rfl))
          | (exact soft_load rfl hw _ _ rfl _ _ rfl _ _ rf Try.underlying24 rfl (by kernel_rfl))
          | (refine soft_str rfl _ _ _ rfl _ rfl _ Try.underlying30 Try.underlying5 Try.underlying9 _ _ ?_ rfl; exact sa.tr0 hw)
          | (refine soft_str rfl _ _ _ rfl _ rfl _ Try.underlying30 Try.underlying5 Try.underlying9 _ _ ?_ rfl; exact sb.tr0 hw)
          | (exact soft_skip rfl)
      · intro V w hw hd
        simp [phi, Region.binds, cst] at hd
        try simp only [hd]
        first
          | (refine soft_const rfl ?_; go_simp; done)
          | (refine soft_const rfl ?_; go_simp; exact rfl)
          | (exact soft_load rfl hw _ _ rfl _ _ rfl _ _ rq Try.underlying24 rfl (by kernel_rfl))
          | (exact soft_load rfl hw _ _ rfl _ _ rfl _ _ rf Try.underlying24 rfl (by kernel_rfl))
          | (refine soft_str rfl _ _ _ rfl _ rfl _ Try.underlying30 Try.underlying5 Try.underlying9 _ _ ?_ rfl; exact sa.tr0 hw)
          | (refine soft_str rfl _ _ _ rfl _ rfl _ Try.underlying30 Try.underlying5 Try.underlying9 _ _ ?_ rfl; exact sb.tr0 hw)
          | (exact soft_skip rfl)
      · intro V w hw hd
        simp [phi, Region.binds, cst] at hd
        try simp only [hd]
        first
          | (refine soft_const rfl ?_; go_simp; done)
          | (refine soft_const rfl ?_; go_simp; exact rfl)
          | (exact soft_load rfl hw _ _ rfl _ _ rfl _ _ rq Try.underlying24 rfl (by kernel_rfl))
          | (exact soft_load rfl hw _ _ rfl _ _ rfl _ _ rf Try.underlying24 rfl (by kernel_rfl))
          | (refine soft_str rfl _ _ _ rfl _ rfl _ Try.underlying30 Try.underlying5 Try.underlying9 _ _ ?_ rfl; exact sa.tr0 hw)
          | (refine soft_str rfl _ _ _ rfl _ rfl _ Try.underlying30 Try.underlying5 Try.underlying9 _ _ ?_ rfl; exact sb.tr0 hw)
          | (exact soft_skip rfl)
      · intro V w hw hd
        simp [phi, Region.binds, cst] at hd
        try simp only [hd]
        first
          | (refine soft_const rfl ?_; go_simp; done)
          | (refine soft_const rfl ?_; go_simp; exact rfl)
          | (exact soft_load rfl hw _ _ rfl _ _ rfl _ _ rq Try.underlying24 rfl (by kernel_rfl))
          | (exact soft_load rfl hw _ _ rfl _ _ rfl _ _ rf Try.underlying24 rfl (by kernel_rfl))
          | (refine soft_str rfl _ _ _ rfl _ rfl _ Try.underlying30 Try.underlying5 Try.underlying9 _ _ ?_ rfl; exact sa.tr0 hw)
          | (refine soft_str rfl _ _ _ rfl _ rfl _ Try.underlying30 Try.underlying5 Try.underlying9 _ _ ?_ rfl; exact sb.tr0 hw)
          | (exact soft_skip rfl)
      · intro V w hw hd
        simp [phi, Region.binds, cst] at hd
        try simp only [hd]
        first
          | (refine soft_const rfl ?_; go_simp; done)
          | (refine soft_const rfl ?_; go_simp; exact rfl)
          | (exact soft_load rfl hw _ _ rfl _ _ rfl _ _ rq Try.underlying24 rfl (by kernel_rfl))
          | (exact soft_load rfl hw _ _ rfl _ _ rfl _ _ rf Try.underlying24 rfl (by kernel_rfl))
          | (refine soft_str rfl _ _ _ rfl _ rfl _ Try.underlying30 Try.underlying5 Try.underlying9 _ _ ?_ rfl; exact sa.tr0 hw)
          | (refine soft_str rfl _ _ _ rfl _ rfl _ Try.underlying30 Try.underlying5 Try.underlying9 _ _ ?_ rfl; exact sb.tr0 hw)
          | (exact soft_skip rfl)
      · intro V w hw hd
        simp [phi, Region.binds, cst] at hd
        try simp only [hd]
        first
          | (refine soft_const rfl ?_; go_simp; done)
          | (refine soft_const rfl ?_; go_simp; exact rfl)
          | (exact soft_load rfl hw _ _ rfl _ _ rfl _ _ rq Try.underlying24 rfl (by kernel_rfl))
          | (exact soft_load rfl hw _ _ rfl _ _ rfl _ _ rf Try.underlying24 rfl (by kernel_rfl))
          | (refine soft_str rfl _ _ _ rfl _ rfl _ Try.underlying30 Try.underlying5 Try.underlying9 _ _ ?_ rfl; exact sa.tr0 hw)
          | (refine soft_str rfl _ _ _ rfl _ rfl _ Try.underlying30 Try.underlying5 Try.underlying9 _ _ ?_ rfl; exact sb.tr0 hw)
          | (exact soft_skip rfl)
      · intro V w hw hd
        simp [phi, Region.binds, cst] at hd
        try simp only [hd]
        first
          | (refine soft_const rfl ?_; go_simp; done)
          | (refine soft_const rfl ?_; go_simp; exact rfl)
          | (exact soft_load rfl hw _ _ rfl _ _ rfl _ _ rq Try.underlying24 rfl (by kernel_rfl))
          | (exact soft_load rfl hw _ _ rfl _ _ rfl _ _ rf Try.underlying24 rfl (by kernel_rfl))
          | (refine soft_str rfl _ _ _ rfl _ rfl _ Try.underlying30 Try.underlying5 Try.underlying9 _ _ ?_ rfl; exact sa.tr0 hw)
          | (refine soft_str rfl _ _ _ rfl _ rfl _ Try.underlying30 Try.underlying5 Try.underlying9 _ _ ?_ rfl; exact sb.tr0 hw)
          | (exact soft_skip rfl)
      · intro V w hw hd
        simp [phi, Region.binds, cst] at hd
        try simp only [hd]
        first
          | (refine soft_const rfl ?_; go_simp; done)
          | (refine soft_const rfl ?_; go_simp; exact rfl)
          | (exact soft_load rfl hw _ _ rfl _ _ rfl _ _ rq Try.underlying24 rfl (by kernel_rfl))
          | (exact soft_load rfl hw _ _ rfl _ _ rfl _ _ rf Try.underlying24 rfl (by kernel_rfl))
          | (refine soft_str rfl _ _ _ rfl _ rfl _ Try.underlying30 Try.underlying5 Try.underlying9 _ _ ?_ rfl; exact sa.tr0 hw)
          | (refine soft_str rfl _ _ _ rfl _ rfl _ Try.underlying30 Try.underlying5 Try.underlying9 _ _ ?_ rfl; exact sb.tr0 hw)
          | (exact soft_skip rfl)
      · intro V w hw hd
        simp [phi, Region.binds, cst] at hd
        try simp only [hd]
        first
          | (refine soft_const rfl ?_; go_simp; done)
          | (refine soft_const rfl ?_; go_simp; exact rfl)
          | (exact soft_load rfl hw _ _ rfl _ _ rfl _ _ rq Try.underlying24 rfl (by kernel_rfl))
          | (exact soft_load rfl hw _ _ rfl _ _ rfl _ _ rf Try.underlying24 rfl (by kernel_rfl))
          | (refine soft_str rfl _ _ _ rfl _ rfl _ Try.underlying30 Try.underlying5 Try.underlying9 _ _ ?_ rfl; exact sa.tr0 hw)
          | (refine soft_str rfl _ _ _ rfl _ rfl _ Try.underlying30 Try.underlying5 Try.underlying9 _ _ ?_ rfl; exact sb.tr0 hw)
          | (exact soft_skip rfl)
      · intro V w hw hd
        simp [phi, Region.binds, cst] at hd
        try simp only [hd]
        first
          | (refine soft_const rfl ?_; go_simp; done)
          | (refine soft_const rfl ?_; go_simp; exact rfl)
          | (exact soft_load rfl hw _ _ rfl _ _ rfl _ _ rq Try.underlying24 rfl (by kernel_rfl))
          | (exact soft_load rfl hw _ _ rfl _ _ rfl _ _ rf Try.underlying24 rfl (by kernel_rfl))
          | (refine soft_str rfl _ _ _ rfl _ rfl _ Try.underlying30 Try.underlying5 Try.underlying9 _ _ ?_ rfl; exact sa.tr0 hw)
          | (refine soft_str rfl _ _ _ rfl _ rfl _ Try.underlying30 Try.underlying5 Try.underlying9 _ _ ?_ rfl; exact sb.tr0 hw)
          | (exact soft_skip rfl)
    intro V w4 g4 hk
    have h19 := hk 19 (by decide)
    simp [phi, cst] at h19
    simp only [h19, List.drop_succ_cons, List.drop_zero]
    clear hk
    go_wp2
    go_ret
    exact ⟨rfl, g0.t0 g4⟩
  | true =>
    cases h2 : mayQ q with
    | false =>
      clear hkey h1 h2
      go_wp2_with fail
      refine' region_soft 20 [cst (.bool true), cst (.bool true), cst (.bool true), cst (.bool false), cst (.bool false), cst (.bool false), cst (.bool true), cst (.bool true), cst (.bool true), cst undef, cst undef, cst undef, cst undef, cst undef, cst undef, cst undef, cst undef, cst undef, cst (.bool true), cst (.bool true)] rfl (by kernel_rfl) (by kernel_rfl) (stays_cons (Stays.cst _) (stays_cons (Stays.cst _) (stays_cons (Stays.cst _) (stays_cons (Stays.cst _) (stays_cons (Stays.cst _) (stays_cons (Stays.cst _) (stays_cons (Stays.cst _) (stays_cons (Stays.cst _) (stays_cons (Stays.cst _) (stays_cons (Stays.cst _) (stays_cons (Stays.cst _) (stays_cons (Stays.cst _) (stays_cons (Stays.cst _) (stays_cons (Stays.cst _) (stays_cons (Stays.cst _) (stays_cons (Stays.cst _) (stays_cons (Stays.cst _) (stays_cons (Stays.cst _) (stays_cons (Stays.cst _) (stays_cons (Stays.cst _) stays_nil)))))))))))))))))))) _ (fun V => by simp only [putAll, Act.put, List.take_succ_cons, List.take_zero, List.setIfInBounds_toArray, List.set_cons_zero, List.set_cons_succ, Nat.reduceAdd]; exact rfl) ?hs2 ?ht2
      case hs2 =>
        simp only [List.take_succ_cons, List.take_zero, softs]
        refine ⟨?_, ?_, ?_, ?_, ?_, ?_, ?_, ?_, ?_, ?_, ?_, ?_, ?_, ?_, ?_, ?_, ?_, ?_, ?_, ?_, trivial⟩
        · intro V w hw hd
          simp [phi, Region.binds, cst] at hd
          try simp only [hd]
          first
            | (refine soft_const rfl ?_; go_simp; done)
            | (refine soft_const rfl ?_; go_simp; exact rfl)
            | (exact soft_load rfl hw _ _ rfl _ _ rfl _ _ rq Try.underlying24 rfl (by kernel_rfl))
            | (exact soft_load rfl hw _ _ rfl _ _ rfl _ _ rf Try.underlying24 rfl (by kernel_rfl))
            | (refine soft_str rfl _ _ _ rfl _ rfl _ Try.underlying30 Try.underlying5 Try.underlying9 _ _ ?_ rfl; exact sa.tr0 hw)
            | (refine soft_str rfl _ _ _ rfl _ rfl _ Try.underlying30 Try.underlying5 Try.underlying9 _ _ ?_ rfl; exact sb.tr0 hw)
            | (exact soft_skip rfl)
        · intro V w hw hd
          simp [phi, Region.binds, cst] at hd
          try simp only [hd]
          first
            | (refine soft_const rfl ?_; go_simp; done)
            | (refine soft_const rfl ?_; go_simp; exact rfl)
            | (exact soft_load rfl hw _ _ rfl _ _ rfl _ _ rq Try.underlying24 rfl (by kernel_rfl))
            | (exact soft_load rfl hw _ _ rfl _ _ rfl _ _ rf Try.underlying24 rfl (by kernel_rfl))
            | (refine soft_str rfl _ _ _ rfl _ rfl _ Try.underlying30 Try.underlying5 Try.underlying9 _ _ ?_ rfl; exact sa.tr0 hw)
            | (refine soft_str rfl _ _ _ rfl _ rfl _ Try.underlying30 Try.underlying5 Try.underlying9 _ _ ?_ rfl; exact sb.tr0 hw)
            | (exact soft_skip rfl)
        · intro V w hw hd
          simp [phi, Region.binds, cst] at hd
          try simp only [hd]
          first
            | (refine soft_const rfl ?_; go_simp; done)
            | (refine soft_const rfl ?_; go_simp; exact rfl)
            | (exact soft_load rfl hw _ _ rfl _ _ rfl _ _ rq Try.underlying24 rfl (by kernel_rfl))
            | (exact soft_load rfl hw _ _ rfl _ _ rfl _ _ rf Try.underlying24 rfl (by kernel_rfl))
            | (refine soft_str rfl _ _ _ rfl _ rfl _ Try.underlying30 Try.underlying5 Try.underlying9 _ _ ?_ rfl; exact sa.tr0 hw)
            | (refine soft_str rfl _ _ _ rfl _ rfl _ Try.underlying30 Try.underlying5 Try.underlying9 _ _ ?_ rfl; exact sb.tr0 hw)
            | (exact soft_skip rfl)
        · intro V w hw hd
          simp [phi, Region.binds, cst] at hd
          try simp only [hd]
          first
            | (refine soft_const rfl ?_; go_simp; done)
            | (refine soft_const rfl ?_; go_simp; exact rfl)
            | (exact soft_load rfl hw _ _ rfl _ _ rfl _ _ rq Try.underlying24 rfl (by kernel_rfl))
            | (exact soft_load rfl hw _ _ rfl _ _ rfl _ _ rf Try.underlying24 rfl (by kernel_rfl))
            | (refine soft_str rfl _ _ _ rfl _ rfl _ Try.underlying30 Try.underlying5 Try.underlying9 _ _ ?_ rfl; exact sa.tr0 hw)
            | (refine soft_str rfl _ _ _ rfl _ rfl _ Try.underlying30 Try.underlying5 Try.underlying9 _ _ ?_ rfl; exact sb.tr0 hw)
            | (exact soft_skip rfl)
        · intro V w hw hd
          simp [phi, Region.binds, cst] at hd
          try simp only [hd]
          first
            | (refine soft_const rfl ?_; go_simp; done)
            | (refine soft_const rfl ?_; go_simp; exact rfl)
            | (exact soft_load rfl hw _ _ rfl _ _ rfl _ _ rq Try.underlying24 rfl (by kernel_rfl))
            | (exact soft_load rfl hw _ _ rfl _ _ rfl _ _ rf Try.underlying24 rfl (by kernel_rfl))
            | (refine soft_str rfl _ _ _ rfl _ rfl _ Try.underlying30 Try.underlying5 Try.underlying9 _ _ ?_ rfl; exact sa.tr0 hw)
            | (refine soft_str rfl _ _ _ rfl _ rfl _ Try.underlying30 Try.underlying5 Try.underlying9 _ _ ?_ rfl; exact sb.tr0 hw)
            | (exact soft_skip rfl)
        · intro V w hw hd
          simp [phi, Region.binds, cst] at hd
          try simp only [hd]
          first
            | (refine soft_const rfl ?_; go_simp; done)
            | (refine soft_const rfl ?_; go_simp; exact rfl)
            | (exact soft_load rfl hw _ _ rfl _ _ rfl _ _ rq Try.underlying24 rfl (by kernel_rfl))
            | (exact soft_load rfl hw _ _ rfl _ _ rfl _ _ rf Try.underlying24 rfl (by kernel_rfl))
            | (refine soft_str rfl _ _ _ rfl _ rfl _ Try.underlying30 Try.underlying5 Try.underlying9 _ _ ?_ rfl; exact sa.tr0 hw)
            | (refine soft_str rfl _ _ _ rfl _ rfl _ Try.underlying30 Try.underlying5 Try.underlying9 _ _ ?_ rfl; exact sb.tr0 hw)
            | (exact soft_skip rfl)
        · intro V w hw hd
          simp [phi, Region.binds, cst] at hd
          try simp only [hd]
          first
            | (refine soft_const rfl ?_; go_simp; done)
            | (refine soft_const rfl ?_; go_simp; exact rfl)
            | (exact soft_load rfl hw _ _ rfl _ _ rfl _ _ rq Try.underlying24 rfl (by kernel_rfl))
            | (exact soft_load rfl hw _ _ rfl _ _ rfl _ _ rf Try.underlying24 rfl (by kernel_rfl))
            | (refine soft_str rfl _ _ _ rfl _ rfl _ Try.underlying30 Try.underlying5 Try.underlying9 _ _ ?_ rfl; exact sa.tr0 hw)
            | (refine soft_str rfl _ _ _ rfl _ rfl _ Try.underlying30 Try.underlying5 Try.underlying9 _ _ ?_ rfl; exact sb.tr0 hw)
            | (exact soft_skip rfl)
        · intro V w hw hd
          simp [phi, Region.binds, cst] at hd
          try simp only [hd]
          first
            | (refine soft_const rfl ?_; go_simp; done)
            | (refine soft_const rfl ?_; go_simp; exact rfl)
            | (exact soft_load rfl hw _ _ rfl _ _ rfl _ _ rq Try.underlying24 rfl (by kernel_rfl))
            | (exact soft_load rfl hw _ _ rfl _ _ rfl _ _ rf Try.underlying24 rfl (by kernel_rfl))
            | (refine soft_str rfl _ _ _ rfl _ rfl _ Try.underlying30 Try.underlying5 Try.underlying9 _ _ ?_ rfl; exact sa.tr0 hw)
            | (refine soft_str rfl _ _ _ rfl _ rfl _ Try.underlying30 Try.underlying5 Try.underlying9 _ _ ?_ rfl; exact sb.tr0 hw)
            | (exact soft_skip rfl)
        · intro V w hw hd
          simp [phi, Region.binds, cst] at hd
          try simp only [hd]
          first
            | (refine soft_const rfl ?_; go_simp; done)
            | (refine soft_const rfl ?_; go_simp; exact rfl)
            | (exact soft_load rfl hw _ _ rfl _ _ rfl _ _ rq Try.underlying24 rfl (by kernel_rfl))
            | (exact soft_load rfl hw _ _ rfl _ _ rfl _ _ rf Try.underlying24 rfl (by kernel_rfl))
            | (refine soft_str rfl _ _ _ rfl _ rfl _ Try.underlying30 Try.underlying5 Try.underlying9 _ _ ?_ rfl; exact sa.tr0 hw)
            | (refine soft_str rfl _ _ _ rfl _ rfl _ Try.underlying30 Try.underlying5 Try.underlying9 _ _ ?_ rfl; exact sb.tr0 hw)
            | (exact soft_skip rfl)
        · intro V w hw hd
          simp [phi, Region.binds, cst] at hd
          try simp only [hd]
          first
            | (refine soft_const rfl ?_; go_simp; done)
            | (refine soft_const rfl ?_; go_simp; exact rfl)
            | (exact soft_load rfl hw _ _ rfl _ _ rfl _ _ rq Try.underlying24 rfl (by kernel_rfl))
            | (exact soft_load rfl hw _ _ rfl _ _ rfl _ _ rf Try.underlying24 rfl (by kernel_rfl))
            | (refine soft_str rfl _ _ _ rfl _ rfl _ Try.underlying30 Try.underlying5 Try.underlying9 _ _ ?_ rfl; exact sa.tr0 hw)
            | (refine soft_str rfl _ _ _ rfl _ rfl _ Try.underlying30 Try.underlying5 Try.underlying9 _ _ ?_ rfl; exact sb.tr0 hw)
            | (exact soft_skip rfl)
        · intro V w hw hd
          simp [phi, Region.binds, cst] at hd
          try simp only [hd]
          first
            | (refine soft_const rfl ?_; go_simp; done)
            | (refine soft_const rfl ?_; go_simp; exact rfl)
            | (exact soft_load rfl hw _ _ rfl _ _ rfl _ _ rq Try.underlying24 rfl (by kernel_rfl))
            | (exact soft_load rfl hw _ _ rfl _ _ rfl _ _ rf Try.underlying24 rfl (by kernel_rfl))
            | (refine soft_str rfl _ _ _ rfl _ rfl _ Try.underlying30 Try.underlying5 Try.underlying9 _ _ ?_ rfl; exact sa.tr0 hw)
            | (refine soft_str rfl _ _ _ rfl _ rfl _ Try.underlying30 Try.underlying5 Try.underlying9 _ _ ?_ rfl; exact sb.tr0 hw)
            | (exact soft_skip rfl)
        · intro V w hw hd
          simp [phi, Region.binds, cst] at hd
          try simp only [hd]
          first
            | (refine soft_const rfl ?_; go_simp; done)
            | (refine soft_const rfl ?_; go_simp; exact rfl)
            | (exact soft_load rfl hw _ _ rfl _ _ rfl _ _ rq Try.underlying24 rfl (by kernel_rfl))
            | (exact soft_load rfl hw _ _ rfl _ _ rfl _ _ rf Try.underlying24 rfl (by kernel_rfl))
            | (refine soft_str rfl _ _ _ rfl _ rfl _ Try.underlying30 Try.underlying5 Try.underlying9 _ _ ?_ rfl; exact sa.tr0 hw)
            | (refine soft_str rfl _ _ _ rfl _ rfl _ Try.underlying30 Try.underlying5 Try.underlying9 _ _ ?_ rfl; exact sb.tr0 hw)
            | (exact soft_skip rfl)
        · intro V w hw hd
          simp [phi, Region.binds, cst] at hd
          try simp only [hd]
          first
            | (refine soft_const rfl ?_; go_simp; done)
            | (refine soft_const rfl ?_; go_simp; exact rfl)
            | (exact soft_load rfl hw _ _ rfl _ _ rfl _ _ rq Try.underlying24 rfl (by kernel_rfl))
            | (exact soft_load rfl hw _ _ rfl _ _ rfl _ _ rf Try.underlying24 rfl (by kernel_rfl))
            | (refine soft_str rfl _ _ _ rfl _ rfl _ Try.underlying30 Try.underlying5 Try.underlying9 _ _ ?_ rfl; exact sa.tr0 hw)
            | (refine soft_str rfl _ _ _ rfl _ rfl _ Try.underlying30 Try.underlying5 Try.underlying9 _ _ ?_ rfl; exact sb.tr0 hw)
            | (exact soft_skip rfl)
        · intro V w hw hd
          simp [phi, Region.binds, cst] at hd
          try simp only [hd]
          first
            | (refine soft_const rfl ?_; go_simp; done)
            | (refine soft_const rfl ?_; go_simp; exact rfl)
            | (exact soft_load rfl hw _ _ rfl _ _ rfl _ _ rq Try.underlying24 rfl (by kernel_rfl))
            | (exact soft_load rfl hw _ _ rfl _ _ rfl _ _ rf Try.underlying24 rfl (by kernel_rfl))
            | (refine soft_str rfl _ _ _ rfl _ rfl _ Try.underlying30 Try.underlying5 Try.underlying9 _ _ ?_ rfl; exact sa.tr0 hw)
            | (refine soft_str rfl _ _ _ rfl _ rfl _ Try.underlying30 Try.underlying5 Try.underlying9 _ _ ?_ rfl; exact sb.tr0 hw)
            | (exact soft_skip rfl)
        · intro V w hw hd
          simp [phi, Region.binds, cst] at hd
          try simp only [hd]
          first
            | (refine soft_const rfl ?_; go_simp; done)
            | (refine soft_const rfl ?_; go_simp; exact rfl)
            | (exact soft_load rfl hw _ _ rfl _ _ rfl _ _ rq Try.underlying24 rfl (by kernel_rfl))
            | (exact soft_load rfl hw _ _ rfl _ _ rfl _ _ rf Try.underlying24 rfl (by kernel_rfl))
            | (refine soft_str rfl _ _ _ rfl _ rfl _ Try.underlying30 Try.underlying5 Try.underlying9 _ _ ?_ rfl; exact sa.tr0 hw)
            | (refine soft_str rfl _ _ _ rfl _ rfl _ Try.underlying30 Try.underlying5 Try.underlying9 _ _ ?_ rfl; exact sb.tr0 hw)
            | (exact soft_skip rfl)
        · intro V w hw hd
          simp [phi, Region.binds, cst] at hd
          try simp only [hd]
          first
            | (refine soft_const rfl ?_; go_simp; done)
            | (refine soft_const rfl ?_; go_simp; exact rfl)
            | (exact soft_load rfl hw _ _ rfl _ _ rfl _ _ rq Try.underlying24 rfl (by kernel_rfl))
            | (exact soft_load rfl hw _ _ rfl _ _ rfl _ _ rf Try.underlying24 rfl (by kernel_rfl))
            | (refine soft_str rfl _ _ _ rfl _ rfl _ Try.underlying30 Try.underlying5 Try.underlying9 _ _ ?_ rfl; exact sa.tr0 hw)
            | (refine soft_str rfl _ _ _ rfl _ rfl _ Try.underlying30 Try.underlying5 Try.underlying9 _ _ ?_ rfl; exact sb.tr0 hw)
            | (exact soft_skip rfl)
        · intro V w hw hd
          simp [phi, Region.binds, cst] at hd
          try simp only [hd]
          first
            | (refine soft_const rfl ?_; go_simp; done)
            | (refine soft_const rfl ?_; go_simp; exact rfl)
            | (exact soft_load rfl hw _ _ rfl _ _ rfl _ _ rq Try.underlying24 rfl (by kernel_rfl))
            | (exact soft_load rfl hw _ _ rfl _ _ rfl _ _ rf Try.underlying24 rfl (by kernel_rfl))
            | (refine soft_str rfl _ _ _ rfl _ rfl _ Try.underlying30 Try.underlying5 Try.underlying9 _ _ ?_ rfl; exact sa.tr0 hw)
            | (refine soft_str rfl _ _ _ rfl _ rfl _ Try.underlying30 Try.underlying5 Try.underlying9 _ _ ?_ rfl; exact sb.tr0 hw)
            | (exact soft_skip rfl)
        · intro V w hw hd
          simp [phi, Region.binds, cst] at hd
          try simp only [hd]
          first
            | (refine soft_const rfl ?_; go_simp; done)
            | (refine soft_const rfl ?_; go_simp; exact rfl)
            | (exact soft_load rfl hw _ _ rfl _ _ rfl _ _ rq Try.underlying24 rfl (by kernel_rfl))
            | (exact soft_load rfl hw _ _ rfl _ _ rfl _ _ rf Try.underlying24 rfl (by kernel_rfl))
            | (refine soft_str rfl _ _ _ rfl _ rfl _ Try.underlying30 Try.underlying5 Try.underlying9 _ _ ?_ rfl; exact sa.tr0 hw)
            | (refine soft_str rfl _ _ _ rfl _ rfl _ Try.underlying30 Try.underlying5 Try.underlying9 _ _ ?_ rfl; exact sb.tr0 hw)
            | (exact soft_skip rfl)
        · intro V w hw hd
          simp [phi, Region.binds, cst] at hd
          try simp only [hd]
          first
            | (refine soft_const rfl ?_; go_simp; done)
            | (refine soft_const rfl ?_; go_simp; exact rfl)
            | (exact soft_load rfl hw _ _ rfl _ _ rfl _ _ rq Try.underlying24 rfl (by kernel_rfl))
            | (exact soft_load rfl hw _ _ rfl _ _ rfl _ _ rf Try.underlying24 rfl (by kernel_rfl))
            | (refine soft_str rfl _ _ _ rfl _ rfl _ Try.underlying30 Try.underlying5 Try.underlying9 _ _ ?_ rfl; exact sa.tr0 hw)
            | (refine soft_str rfl _ _ _ rfl _ rfl _ Try.underlying30 Try.underlying5 Try.underlying9 _ _ ?_ rfl; exact sb.tr0 hw)
            | (exact soft_skip rfl)
        · intro V w hw hd
          simp [phi, Region.binds, cst] at hd
          try simp only [hd]
          first
            | (refine soft_const rfl ?_; go_simp; done)
            | (refine soft_const rfl ?_; go_simp; exact rfl)
            | (exact soft_load rfl hw _ _ rfl _ _ rfl _ _ rq Try.underlying24 rfl (by kernel_rfl))
            | (exact soft_load rfl hw _ _ rfl _ _ rfl _ _ rf Try.underlying24 rfl (by kernel_rfl))
            | (refine soft_str rfl _ _ _ rfl _ rfl _ Try.underlying30 Try.underlying5 Try.underlying9 _ _ ?_ rfl; exact sa.tr0 hw)
            | (refine soft_str rfl _ _ _ rfl _ rfl _ Try.underlying30 Try.underlying5 Try.underlying9 _ _ ?_ rfl; exact sb.tr0 hw)
            | (exact soft_skip rfl)
      intro V w4 g4 hk
      have h19 := hk 19 (by decide)
      simp [phi, cst] at h19
      simp only [h19, List.drop_succ_cons, List.drop_zero]
      clear hk
      go_wp2
      go_ret
      exact ⟨rfl, g0.t0 g4⟩
    | true =>
      have hk := hkey h1 h2
      clear hkey h1 h2
      rw [decide_eq_decide.2 bstr_inj] at hk
      have hk2 : (RP == RQ) = D := by rw [← hk]; by_cases h : RP = RQ
                                      · rw [decide_eq_true h]; simpa using h
                                      · rw [decide_eq_false h]; simpa using h
      go_wp2_with fail
      refine' region_soft 20 [cst (.bool true), cst (.bool true), cst (.bool true), cst (.bool false), cst (.bool false), cst (.bool true), cst (.bool false), cst (.bool false), cst (.bool false), cst _, cst (.string (bstr RP)), cst _, cst (.string (bstr RQ)), cst (.bool D), cst (.agg #[.slice a0 p.cols.length c0, .int .i64 p.lo, .int .i64 p.hi]), cst (.agg #[.slice a1 q.cols.length c1, .int .i64 q.lo, .int .i64 q.hi]), cst (.bool D), cst (.bool true), cst (.bool true), cst (.bool true)] rfl (by kernel_rfl) (by kernel_rfl) (stays_cons (Stays.cst _) (stays_cons (Stays.cst _) (stays_cons (Stays.cst _) (stays_cons (Stays.cst _) (stays_cons (Stays.cst _) (stays_cons (Stays.cst _) (stays_cons (Stays.cst _) (stays_cons (Stays.cst _) (stays_cons (Stays.cst _) (stays_cons (Stays.cst _) (stays_cons (Stays.cst _) (stays_cons (Stays.cst _) (stays_cons (Stays.cst _) (stays_cons (Stays.cst _) (stays_cons (Stays.cst _) (stays_cons (Stays.cst _) (stays_cons (Stays.cst _) (stays_cons (Stays.cst _) (stays_cons (Stays.cst _) (stays_cons (Stays.cst _) stays_nil)))))))))))))))))))) _ (fun V => by simp only [putAll, Act.put, List.take_succ_cons, List.take_zero, List.setIfInBounds_toArray, List.set_cons_zero, List.set_cons_succ, Nat.reduceAdd]; exact rfl) ?hs3 ?ht3
      case hs3 =>
        simp only [List.take_succ_cons, List.take_zero, softs]
        refine ⟨?_, ?_, ?_, ?_, ?_, ?_, ?_, ?_, ?_, ?_, ?_, ?_, ?_, ?_, ?_, ?_, ?_, ?_, ?_, ?_, trivial⟩
        · intro V w hw hd
          simp [phi, Region.binds, cst] at hd
          try simp only [hd]
          first
            | (refine soft_const rfl ?_; go_simp; done)
            | (refine soft_const rfl ?_; go_simp; exact rfl)
            | (exact soft_load rfl hw _ _ rfl _ _ rfl _ _ rq Try.underlying24 rfl (by kernel_rfl))
            | (exact soft_load rfl hw _ _ rfl _ _ rfl _ _ rf Try.underlying24 rfl (by kernel_rfl))
            | (refine soft_str rfl _ _ _ rfl _ rfl _ Try.underlying30 Try.underlying5 Try.underlying9 _ _ ?_ rfl; exact sa.tr0 hw)
            | (refine soft_str rfl _ _ _ rfl _ rfl _ Try.underlying30 Try.underlying5 Try.underlying9 _ _ ?_ rfl; exact sb.tr0 hw)
            | (exact soft_skip rfl)
        · intro V w hw hd
          simp [phi, Region.binds, cst] at hd
          try simp only [hd]
          first
            | (refine soft_const rfl ?_; go_simp; done)
            | (refine soft_const rfl ?_; go_simp; exact rfl)
            | (exact soft_load rfl hw _ _ rfl _ _ rfl _ _ rq Try.underlying24 rfl (by kernel_rfl))
            | (exact soft_load rfl hw _ _ rfl _ _ rfl _ _ rf Try.underlying24 rfl (by kernel_rfl))
            | (refine soft_str rfl _ _ _ rfl _ rfl _ Try.underlying30 Try.underlying5 Try.underlying9 _ _ ?_ rfl; exact sa.tr0 hw)
            | (refine soft_str rfl _ _ _ rfl _ rfl _ Try.underlying30 Try.underlying5 Try.underlying9 _ _ ?_ rfl; exact sb.tr0 hw)
            | (exact soft_skip rfl)
        · intro V w hw hd
          simp [phi, Region.binds, cst] at hd
          try simp only [hd]
          first
            | (refine soft_const rfl ?_; go_simp; done)
            | (refine soft_const rfl ?_; go_simp; exact rfl)
            | (exact soft_load rfl hw _ _ rfl _ _ rfl _ _ rq Try.underlying24 rfl (by kernel_rfl))
            | (exact soft_load rfl hw _ _ rfl _ _ rfl _ _ rf Try.underlying24 rfl (by kernel_rfl))
            | (refine soft_str rfl _ _ _ rfl _ rfl _ Try.underlying30 Try.underlying5 Try.underlying9 _ _ ?_ rfl; exact sa.tr0 hw)
            | (refine soft_str rfl _ _ _ rfl _ rfl _ Try.underlying30 Try.underlying5 Try.underlying9 _ _ ?_ rfl; exact sb.tr0 hw)
            | (exact soft_skip rfl)
        · intro V w hw hd
          simp [phi, Region.binds, cst] at hd
          try simp only [hd]
          first
            | (refine soft_const rfl ?_; go_simp; done)
            | (refine soft_const rfl ?_; go_simp; exact rfl)
            | (exact soft_load rfl hw _ _ rfl _ _ rfl _ _ rq Try.underlying24 rfl (by kernel_rfl))
            | (exact soft_load rfl hw _ _ rfl _ _ rfl _ _ rf Try.underlying24 rfl (by kernel_rfl))
            | (refine soft_str rfl _ _ _ rfl _ rfl _ Try.underlying30 Try.underlying5 Try.underlying9 _ _ ?_ rfl; exact sa.tr0 hw)
            | (refine soft_str rfl _ _ _ rfl _ rfl _ Try.underlying30 Try.underlying5 Try.underlying9 _ _ ?_ rfl; exact sb.tr0 hw)
            | (exact soft_skip rfl)
        · intro V w hw hd
          simp [phi, Region.binds, cst] at hd
          try simp only [hd]
          first
            | (refine soft_const rfl ?_; go_simp; done)
            | (refine soft_const rfl ?_; go_simp; exact rfl)
            | (exact soft_load rfl hw _ _ rfl _ _ rfl _ _ rq Try.underlying24 rfl (by kernel_rfl))
            | (exact soft_load rfl hw _ _ rfl _ _ rfl _ _ rf Try.underlying24 rfl (by kernel_rfl))
            | (refine soft_str rfl _ _ _ rfl _ rfl _ Try.underlying30 Try.underlying5 Try.underlying9 _ _ ?_ rfl; exact sa.tr0 hw)
            | (refine soft_str rfl _ _ _ rfl _ rfl _ Try.underlying30 Try.underlying5 Try.underlying9 _ _ ?_ rfl; exact sb.tr0 hw)
            | (exact soft_skip rfl)
        · intro V w hw hd
          simp [phi, Region.binds, cst] at hd
          try simp only [hd]
          first
            | (refine soft_const rfl ?_; go_simp; done)
            | (refine soft_const rfl ?_; go_simp; exact rfl)
            | (exact soft_load rfl hw _ _ rfl _ _ rfl _ _ rq Try.underlying24 rfl (by kernel_rfl))
            | (exact soft_load rfl hw _ _ rfl _ _ rfl _ _ rf Try.underlying24 rfl (by kernel_rfl))
            | (refine soft_str rfl _ _ _ rfl _ rfl _ Try.underlying30 Try.underlying5 Try.underlying9 _ _ ?_ rfl; exact sa.tr0 hw)
            | (refine soft_str rfl _ _ _ rfl _ rfl _ Try.underlying30 Try.underlying5 Try.underlying9 _ _ ?_ rfl; exact sb.tr0 hw)
            | (exact soft_skip rfl)
        · intro V w hw hd
          simp [phi, Region.binds, cst] at hd
          try simp only [hd]
          first
            | (refine soft_const rfl ?_; go_simp; done)
            | (refine soft_const rfl ?_; go_simp; exact rfl)
            | (exact soft_load rfl hw _ _ rfl _ _ rfl _ _ rq Try.underlying24 rfl (by kernel_rfl))
            | (exact soft_load rfl hw _ _ rfl _ _ rfl _ _ rf Try.underlying24 rfl (by kernel_rfl))
            | (refine soft_str rfl _ _ _ rfl _ rfl _ Try.underlying30 Try.underlying5 Try.underlying9 _ _ ?_ rfl; exact sa.tr0 hw)
            | (refine soft_str rfl _ _ _ rfl _ rfl _ Try.underlying30 Try.underlying5 Try.underlying9 _ _ ?_ rfl; exact sb.tr0 hw)
            | (exact soft_skip rfl)
        · intro V w hw hd
          simp [phi, Region.binds, cst] at hd
          try simp only [hd]
          first
            | (refine soft_const rfl ?_; go_simp; done)
            | (refine soft_const rfl ?_; go_simp; exact rfl)
            | (exact soft_load rfl hw _ _ rfl _ _ rfl _ _ rq Try.underlying24 rfl (by kernel_rfl))
            | (exact soft_load rfl hw _ _ rfl _ _ rfl _ _ rf Try.underlying24 rfl (by kernel_rfl))
            | (refine soft_str rfl _ _ _ rfl _ rfl _ Try.underlying30 Try.underlying5 Try.underlying9 _ _ ?_ rfl; exact sa.tr0 hw)
            | (refine soft_str rfl _ _ _ rfl _ rfl _ Try.underlying30 Try.underlying5 Try.underlying9 _ _ ?_ rfl; exact sb.tr0 hw)
            | (exact soft_skip rfl)
        · intro V w hw hd
          simp [phi, Region.binds, cst] at hd
          try simp only [hd]
          first
            | (refine soft_const rfl ?_; go_simp; done)
            | (refine soft_const rfl ?_; go_simp; exact rfl)
            | (exact soft_load rfl hw _ _ rfl _ _ rfl _ _ rq Try.underlying24 rfl (by kernel_rfl))
            | (exact soft_load rfl hw _ _ rfl _ _ rfl _ _ rf Try.underlying24 rfl (by kernel_rfl))
            | (refine soft_str rfl _ _ _ rfl _ rfl _ Try.underlying30 Try.underlying5 Try.underlying9 _ _ ?_ rfl; exact sa.tr0 hw)
            | (refine soft_str rfl _ _ _ rfl _ rfl _ Try.underlying30 Try.underlying5 Try.underlying9 _ _ ?_ rfl; exact sb.tr0 hw)
            | (exact soft_skip rfl)
        · intro V w hw hd
          simp [phi, Region.binds, cst] at hd
          try simp only [hd]
          first
            | (refine soft_const rfl ?_; go_simp; done)
            | (refine soft_const rfl ?_; go_simp; exact rfl)
            | (exact soft_load rfl hw _ _ rfl _ _ rfl _ _ rq Try.underlying24 rfl (by kernel_rfl))
            | (exact soft_load rfl hw _ _ rfl _ _ rfl _ _ rf Try.underlying24 rfl (by kernel_rfl))
            | (refine soft_str rfl _ _ _ rfl _ rfl _ Try.underlying30 Try.underlying5 Try.underlying9 _ _ ?_ rfl; exact sa.tr0 hw)
            | (refine soft_str rfl _ _ _ rfl _ rfl _ Try.underlying30 Try.underlying5 Try.underlying9 _ _ ?_ rfl; exact sb.tr0 hw)
            | (exact soft_skip rfl)
        · intro V w hw hd
          simp [phi, Region.binds, cst] at hd
          try simp only [hd]
          first
            | (refine soft_const rfl ?_; go_simp; done)
            | (refine soft_const rfl ?_; go_simp; exact rfl)
            | (exact soft_load rfl hw _ _ rfl _ _ rfl _ _ rq Try.underlying24 rfl (by kernel_rfl))
            | (exact soft_load rfl hw _ _ rfl _ _ rfl _ _ rf Try.underlying24 rfl (by kernel_rfl))
            | (refine soft_str rfl _ _ _ rfl _ rfl _ Try.underlying30 Try.underlying5 Try.underlying9 _ _ ?_ rfl; exact sa.tr0 hw)
            | (refine soft_str rfl _ _ _ rfl _ rfl _ Try.underlying30 Try.underlying5 Try.underlying9 _ _ ?_ rfl; exact sb.tr0 hw)
            | (exact soft_skip rfl)
        · intro V w hw hd
          simp [phi, Region.binds, cst] at hd
          try simp only [hd]
          first
            | (refine soft_const rfl ?_; go_simp; done)
            | (refine soft_const rfl ?_; go_simp; exact rfl)
            | (exact soft_load rfl hw _ _ rfl _ _ rfl _ _ rq Try.underlying24 rfl (by kernel_rfl))
            | (exact soft_load rfl hw _ _ rfl _ _ rfl _ _ rf Try.underlying24 rfl (by kernel_rfl))
            | (refine soft_str rfl _ _ _ rfl _ rfl _ Try.underlying30 Try.underlying5 Try.underlying9 _ _ ?_ rfl; exact sa.tr0 hw)
            | (refine soft_str rfl _ _ _ rfl _ rfl _ Try.underlying30 Try.underlying5 Try.underlying9 _ _ ?_ rfl; exact sb.tr0 hw)
            | (exact soft_skip rfl)
        · intro V w hw hd
          simp [phi, Region.binds, cst] at hd
          try simp only [hd]
          first
            | (refine soft_const rfl ?_; go_simp; done)
            | (refine soft_const rfl ?_; go_simp; exact rfl)
            | (exact soft_load rfl hw _ _ rfl _ _ rfl _ _ rq Try.underlying24 rfl (by kernel_rfl))
            | (exact soft_load rfl hw _ _ rfl _ _ rfl _ _ rf Try.underlying24 rfl (by kernel_rfl))
            | (refine soft_str rfl _ _ _ rfl _ rfl _ Try.underlying30 Try.underlying5 Try.underlying9 _ _ ?_ rfl; exact sa.tr0 hw)
            | (refine soft_str rfl _ _ _ rfl _ rfl _ Try.underlying30 Try.underlying5 Try.underlying9 _ _ ?_ rfl; exact sb.tr0 hw)
            | (exact soft_skip rfl)
        · intro V w hw hd
          simp [phi, Region.binds, cst] at hd
          try simp only [hd]
          first
            | (refine soft_const rfl ?_; go_simp; done)
            | (refine soft_const rfl ?_; go_simp; exact rfl)
            | (exact soft_load rfl hw _ _ rfl _ _ rfl _ _ rq Try.underlying24 rfl (by kernel_rfl))
            | (exact soft_load rfl hw _ _ rfl _ _ rfl _ _ rf Try.underlying24 rfl (by kernel_rfl))
            | (refine soft_str rfl _ _ _ rfl _ rfl _ Try.underlying30 Try.underlying5 Try.underlying9 _ _ ?_ rfl; exact sa.tr0 hw)
            | (refine soft_str rfl _ _ _ rfl _ rfl _ Try.underlying30 Try.underlying5 Try.underlying9 _ _ ?_ rfl; exact sb.tr0 hw)
            | (exact soft_skip rfl)
        · intro V w hw hd
          simp [phi, Region.binds, cst] at hd
          try simp only [hd]
          first
            | (refine soft_const rfl ?_; go_simp; done)
            | (refine soft_const rfl ?_; go_simp; exact rfl)
            | (exact soft_load rfl hw _ _ rfl _ _ rfl _ _ rq Try.underlying24 rfl (by kernel_rfl))
            | (exact soft_load rfl hw _ _ rfl _ _ rfl _ _ rf Try.underlying24 rfl (by kernel_rfl))
            | (refine soft_str rfl _ _ _ rfl _ rfl _ Try.underlying30 Try.underlying5 Try.underlying9 _ _ ?_ rfl; exact sa.tr0 hw)
            | (refine soft_str rfl _ _ _ rfl _ rfl _ Try.underlying30 Try.underlying5 Try.underlying9 _ _ ?_ rfl; exact sb.tr0 hw)
            | (exact soft_skip rfl)
        · intro V w hw hd
          simp [phi, Region.binds, cst] at hd
          try simp only [hd]
          first
            | (refine soft_const rfl ?_; go_simp; done)
            | (refine soft_const rfl ?_; go_simp; exact rfl)
            | (exact soft_load rfl hw _ _ rfl _ _ rfl _ _ rq Try.underlying24 rfl (by kernel_rfl))
            | (exact soft_load rfl hw _ _ rfl _ _ rfl _ _ rf Try.underlying24 rfl (by kernel_rfl))
            | (refine soft_str rfl _ _ _ rfl _ rfl _ Try.underlying30 Try.underlying5 Try.underlying9 _ _ ?_ rfl; exact sa.tr0 hw)
            | (refine soft_str rfl _ _ _ rfl _ rfl _ Try.underlying30 Try.underlying5 Try.underlying9 _ _ ?_ rfl; exact sb.tr0 hw)
            | (exact soft_skip rfl)
        · intro V w hw hd
          simp [phi, Region.binds, cst] at hd
          try simp only [hd]
          refine soft_callC rfl _ _ (by go_simp; try exact ⟨rfl, rfl⟩) (kS _ hw)
        · intro V w hw hd
          simp [phi, Region.binds, cst] at hd
          try simp only [hd]
          first
            | (refine soft_const rfl ?_; go_simp; done)
            | (refine soft_const rfl ?_; go_simp; exact rfl)
            | (exact soft_load rfl hw _ _ rfl _ _ rfl _ _ rq Try.underlying24 rfl (by kernel_rfl))
            | (exact soft_load rfl hw _ _ rfl _ _ rfl _ _ rf Try.underlying24 rfl (by kernel_rfl))
            | (refine soft_str rfl _ _ _ rfl _ rfl _ Try.underlying30 Try.underlying5 Try.underlying9 _ _ ?_ rfl; exact sa.tr0 hw)
            | (refine soft_str rfl _ _ _ rfl _ rfl _ Try.underlying30 Try.underlying5 Try.underlying9 _ _ ?_ rfl; exact sb.tr0 hw)
            | (exact soft_skip rfl)
        · intro V w hw hd
          simp [phi, Region.binds, cst] at hd
          try simp only [hd]
          first
            | (refine soft_const rfl ?_; go_simp; done)
            | (refine soft_const rfl ?_; go_simp; exact rfl)
            | (exact soft_load rfl hw _ _ rfl _ _ rfl _ _ rq Try.underlying24 rfl (by kernel_rfl))
            | (exact soft_load rfl hw _ _ rfl _ _ rfl _ _ rf Try.underlying24 rfl (by kernel_rfl))
            | (refine soft_str rfl _ _ _ rfl _ rfl _ Try.underlying30 Try.underlying5 Try.underlying9 _ _ ?_ rfl; exact sa.tr0 hw)
            | (refine soft_str rfl _ _ _ rfl _ rfl _ Try.underlying30 Try.underlying5 Try.underlying9 _ _ ?_ rfl; exact sb.tr0 hw)
            | (exact soft_skip rfl)
        · intro V w hw hd
          simp [phi, Region.binds, cst] at hd
          try simp only [hd]
          first
            | (refine soft_const rfl ?_; go_simp; done)
            | (refine soft_const rfl ?_; go_simp; exact rfl)
            | (exact soft_load rfl hw _ _ rfl _ _ rfl _ _ rq Try.underlying24 rfl (by kernel_rfl))
            | (exact soft_load rfl hw _ _ rfl _ _ rfl _ _ rf Try.underlying24 rfl (by kernel_rfl))
            | (refine soft_str rfl _ _ _ rfl _ rfl _ Try.underlying30 Try.underlying5 Try.underlying9 _ _ ?_ rfl; exact sa.tr0 hw)
            | (refine soft_str rfl _ _ _ rfl _ rfl _ Try.underlying30 Try.underlying5 Try.underlying9 _ _ ?_ rfl; exact sb.tr0 hw)
            | (exact soft_skip rfl)
      intro V w4 g4 hk
      have h19 := hk 19 (by decide)
      simp [phi, cst] at h19
      simp only [h19, List.drop_succ_cons, List.drop_zero]
      clear hk
      go_wp2
      go_ret
      exact ⟨rfl, g0.t0 g4⟩
end Go.Proofs.Ytfnfcioofkeanaa
