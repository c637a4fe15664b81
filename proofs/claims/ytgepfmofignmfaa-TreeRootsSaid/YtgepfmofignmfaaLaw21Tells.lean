/-
  TreeTells: the walk.
-/
import Derived.Test.YtgepfmofignmfaaLaw21Halves
import Derived.Test.YtgepfmofignmfaaTagExt
namespace Go.Proofs.Ytgepfmofignmfaa
set_option linter.unusedSimpArgs false
set_option linter.unusedVariables false
open Go.RowKit

/-- Another log's own block is written. -/
theorem LogAt.logRow {w w' : World} {p q base b2 : Nat} {v u : Value} {F G : RowsB} (h : LogAt w p base v F) (k : LogAt w q b2 u G) (g : Chg [q] w w') (hpq : p ≠ q) : LogAt w' p base v F :=
  ⟨g.heap h.cell (by simpa using hpq), h.rows.trT g k.cell (by decide) (by decide)⟩
set_option maxHeartbeats 16000000 in
set_option maxRecDepth 100000 in
theorem treeTells_run (w : World) (va : Value) (A : List Bytes) (vb : Value) (B : List Bytes) (hsA : Sl w va A.length (A.flatMap bcs)) (okA : ∀ x ∈ A, x.length = 32) (_ba : A.length * 32 ≤ 140737488351232)
    (hsB : Sl w vb B.length (B.flatMap bcs)) (okB : ∀ x ∈ B, x.length = 32) (_bb : B.length * 32 ≤ 140737488351232) :
    Calls Try.prog 6 #[va, vb] w fun e w' => e = .returned (.bool true) ∧ Chg [] w w' := by
  have hA : Dg w va A := ⟨hsA, okA⟩
  have hB : Dg w vb B := ⟨hsB, okB⟩
  have hle := hsA.le
  have hle2 := hsB.le
  unfold maxLen at hle hle2
  obtain ⟨aa, ca, rfl⟩ := hsA.shape
  obtain ⟨ab, cb, rfl⟩ := hsB.shape
  clear hsA hsB
  go_enter Try.func6, Try.ntmps6
  go_wp2_with fail
  refine (small21_ok w).mono ?_
  rintro e w1 ⟨rfl, g1⟩
  go_wp2_with fail
  refine (lognew_ok w1 w1.heap.size).mono ?_
  rintro e w2 ⟨rfl, l2, g2⟩
  have c2 := g1.t0 g2
  have zp := g1.size
  have hpq : w1.heap.size < w2.heap.size := l2.lt
  generalize w1.heap.size = p at *
  clear g1 g2
  go_wp2_with fail
  refine (lognew_ok w2 w2.heap.size).mono ?_
  rintro e w3 ⟨rfl, m3, g3⟩
  have c3 := c2.t0 g3
  have l3 := l2.tr0 g3
  generalize w2.heap.size = q at *
  clear g3 l2 c2
  by_cases h40 : 40 < A.length
  · have h4' : (40 : Int) < A.length := by omega
    go_wp2
    go_ret
    exact ⟨rfl, c3⟩
  have h40i : (A.length : Int) ≤ 40 := by omega
  by_cases hab : A.length = B.length
  rotate_left
  · have h4' : ((A.length : Int) != B.length) = true := by rw [bne_iff_ne]; omega
    go_wp2
    go_ret
    exact ⟨rfl, c3⟩
  have habi : (A.length : Int) = B.length := by omega
  have zq : w.heap.size ≤ q := by omega
  have kA := root_new _ w3 p _ _ l3 c3 zp Short.nil A (by simp; omega) _ hA
  have kB := fun w vl F h1 h2 h3 h4 => root_new _ w q vl F h1 h2 zq h3 B h4 _ hB
  have tA := treeV_len okA
  have tB := treeV_len okB
  have nA := treeV_count A
  have nB := treeV_count B
  have hT : A ≠ B → (treeV A).1 = (treeV B).1 → ∃ u v, extT (treeV A).2 (treeV B).2 = (u, v, true) ∧ u ∈ (treeV A).2 ∧ v ∈ (treeV B).2 ∧ sumB v = sumB u ∧ v ≠ u := fun hne hr => by
    obtain ⟨x, hx, y, hy, h1, h2⟩ := treeV_tells okA okB hab hr hne
    exact ext_found hx hy h1 h2
  have hE : A = B → (treeV A).1 = (treeV B).1 := fun h => by rw [h]
  have sA := treeV_short okA
  have sB := treeV_short okB
  generalize treeV A = RA at *
  generalize treeV B = RB at *
  obtain ⟨xA, fA⟩ := RA
  obtain ⟨xB, fB⟩ := RB
  dsimp only at *
  replace nA := Lib.hid nA
  replace nB := Lib.hid nB
  replace hT := Lib.hid hT
  replace hE := Lib.hid hE
  replace sA := Lib.hid sA
  replace sB := Lib.hid sB
  replace kB := Lib.hid kB
  replace hab := Lib.hid hab
  clear habi
  have habj : (B.length : Int) = A.length := by have := hab.out; omega
  go_wp2_with fail
  refine kA.mono ?_
  rintro e w4 ⟨rfl, v4, F4, l4, hF4, g4, c4, S4⟩
  have m4 : LogAt w4 q q (.slice none 0 0) [] := ⟨g4.heap m3.cell (by simp [Value.ownBlock]; omega), OwnsB.nil _ _⟩
  have hA4 := hA.tr0 c4
  have hB4 := hB.tr0 c4
  simp only [List.map_nil, List.nil_append] at hF4
  clear kA l3 m3 g4 c3
  replace hF4 := Lib.hid hF4
  replace S4 := Lib.hid S4
  go_wp2_with (first
    | (refine alloc_bytes (by rfl) 32 (by rfl) 32 (by kernel_rfl) ?_; intro w5 h5 g5 z5; replace z5 : Hid _ := z5)
    | (refine store_bytes (by rfl) 32 (.tmp 8) (.tmp 47) (by rfl) _ 32 _ (by rfl) xA (by rfl) _ h5 (by kernel_rfl) tA (by rw [List.length_replicate]) ?_; intro w6 h6 g6 z6; replace z6 : Hid _ := z6))
  have g46 : Chg [] w4 w6 := g5.tn g6 (Nat.le_refl _)
  have l6 := l4.tr0 g46
  have m6 := m4.tr0 g46
  have c6 := c4.t0 g46
  have hq4 := m4.lt
  generalize hq : w4.heap.size = r1 at *
  clear h5 g5 g6 z5 z6 g46 l4 m4 c4 hq hA4 hB4
  refine (kB.out w6 _ _ m6 c6 Short.nil (by simp; have := hab.out; omega)).mono ?_
  rintro e w8 ⟨rfl, v8, F8, m8, hF8, g8, c8, S8⟩
  have h8 := m6.dig g8 (by omega) h6
  have l8 := l6.logRow m6 (by simpa [Value.ownBlock] using g8) (by omega)
  simp only [List.map_nil, List.nil_append] at hF8
  clear kB l6 m6 g8 c6 h6
  replace hF8 := Lib.hid hF8
  replace S8 := Lib.hid S8
  go_wp2_with (first
    | (refine alloc_bytes (by rfl) 32 (by rfl) 32 (by kernel_rfl) ?_; intro w9 h9 g9 z9; replace z9 : Hid _ := z9)
    | (refine store_bytes (by rfl) 32 (.tmp 9) (.tmp 50) (by rfl) _ 32 _ (by rfl) xB (by rfl) _ h9 (by kernel_rfl) tB (by rw [List.length_replicate]) ?_; intro w10 h10 g10 z10; replace z10 : Hid _ := z10))
  have g810 : Chg [] w8 w10 := g9.tn g10 (Nat.le_refl _)
  have l10 := l8.tr0 g810
  have m10 := m8.tr0 g810
  have c10 := c8.t0 g810
  have h8' := g810.heap h8 (by simp)
  have hA10 := hA.tr0 c10
  have hB10 := hB.tr0 c10
  generalize hq : w8.heap.size = r2 at *
  clear h9 g9 g10 z9 z10 g810 l8 m8 c8 hq h8
  have htk : ∀ k, k < A.length → ∀ (h1 : k < A.length) (h2 : k < B.length), (A.take (k + 1) = B.take (k + 1) ↔ A.take k = B.take k ∧ A[k] = B[k]) := fun k hk h1 h2 => by
    rw [List.take_succ_eq_append_getElem h1, List.take_succ_eq_append_getElem h2]
    constructor
    · intro h
      have := List.append_inj h (by simp; omega)
      exact ⟨this.1, by simpa using this.2⟩
    · rintro ⟨h3, h4⟩; rw [h3, h4]
  go_loopw [10, 11] (fun sv iv wr => ∃ (k : Nat), k ≤ A.length ∧ iv = .int .i64 k ∧ sv = .bool (decide (A.take k = B.take k)) ∧ Chg [] w10 wr) (fun _ iv _ => A.length - (intOf iv).toNat)
  case atStart => exact ⟨0, Nat.zero_le _, rfl, by simp, Chg.refl _ _⟩
  case round =>
    obtain ⟨k, hk, rfl, rfl, hc⟩ := hrel
    by_cases hlt : k < A.length
    · have hlB : k < B.length := by have := hab.out; omega
      obtain ⟨b1, o1, c1, e1, hc1, hm1, hb1, hr1⟩ := hA10.at (by omega)
      cases e1
      obtain ⟨b2, o2, c2, e2, hc2, hm2, hb2, hr2⟩ := hB10.at (by omega)
      cases e2
      have y1 := hc.range (hr1 k hlt) (by simp)
      have y2 := hc.range (hr2 k hlB) (by simp)
      have ht := htk k hlt hlt hlB
      have u1 := okA _ (List.getElem_mem hlt)
      have u2 := okB _ (List.getElem_mem hlB)
      have hkd : (k : Int) < A.length := by omega
      have hkb : (k : Int) < B.length := by omega
      clear hr1 hr2 htk
      generalize A[k] = d1 at *
      generalize B[k] = d2 at *
      have EQ := fun w => eql_dv (P := Try.prog) w 32 5 32 Try.underlying32 Try.underlying5 (fun w => by go_simp) d1 d2 u1 u2
      have GQ := fun w x y => eqg_dv (P := Try.prog) w .eql 32 x y d1 d2 (by kernel_rfl)
      unfold dv at EQ GQ
      have hd12 : (d1 == d2) = decide (d1 = d2) := by rw [Bool.eq_iff_iff]; simp
      rw [hd12] at EQ
      clear hd12
      by_cases hs : A.take k = B.take k
      · have hs1 : decide (A.take k = B.take k) = true := decide_eq_true hs
        have hnx : decide (A.take (k + 1) = B.take (k + 1)) = decide (d1 = d2) := by rw [decide_eq_decide, ht]; exact ⟨fun h => h.2, fun h => ⟨hs, h⟩⟩
        rw [hs1]
        clear hs hs1 ht
        generalize decide (d1 = d2) = bv at *
        replace hnx := Lib.hid hnx
        go_wp2_with fail
        refine' region_soft 12 [cst (.bool true), cst (.bool true), cst (.slice (some ⟨b1, o1, none⟩) A.length ca), cst (.int .i64 k), cst (.pointer (some ⟨b1, o1 + k * 32, none⟩)), cst (.agg (bcs d1).toArray), cst (.slice (some ⟨b2, o2, none⟩) B.length cb), cst (.int .i64 k), cst (.pointer (some ⟨b2, o2 + k * 32, none⟩)), cst (.agg (bcs d2).toArray), cst (.bool bv), cst (.bool bv)] rfl (by kernel_rfl) (by kernel_rfl) (stays_cons (Stays.cst _) (stays_cons (Stays.cst _) (stays_cons (Stays.cst _) (stays_cons (Stays.cst _) (stays_cons (Stays.cst _) (stays_cons (Stays.cst _) (stays_cons (Stays.cst _) (stays_cons (Stays.cst _) (stays_cons (Stays.cst _) (stays_cons (Stays.cst _) (stays_cons (Stays.cst _) (stays_cons (Stays.cst _) stays_nil)))))))))))) _ (fun V => by simp only [putAll, Act.put, List.take_succ_cons, List.take_zero, List.setIfInBounds_toArray, List.set_cons_zero, List.set_cons_succ, Nat.reduceAdd]; exact rfl) ?hs1 ?ht1
        case hs1 =>
          simp only [List.take_succ_cons, List.take_zero, softs]
          refine ⟨?_, ?_, ?_, ?_, ?_, ?_, ?_, ?_, ?_, ?_, ?_, ?_, trivial⟩
          · intro V wx hw hd
            simp [phi, Region.binds, cst] at hd
            try simp only [hd]
            first
              | (refine soft_const rfl ?_; go_simp; done)
              | (refine soft_const rfl ?_; go_simp; exact rfl)
              | (exact soft_load rfl hw _ _ rfl _ _ rfl _ _ y1 Try.underlying32 rfl (by rw [bcs_length, u1]; kernel_rfl))
              | (exact soft_load rfl hw _ _ rfl _ _ rfl _ _ y2 Try.underlying32 rfl (by rw [bcs_length, u2]; kernel_rfl))
              | (exact soft_skip rfl)
          · intro V wx hw hd
            simp [phi, Region.binds, cst] at hd
            try simp only [hd]
            first
              | (refine soft_const rfl ?_; go_simp; done)
              | (refine soft_const rfl ?_; go_simp; exact rfl)
              | (exact soft_load rfl hw _ _ rfl _ _ rfl _ _ y1 Try.underlying32 rfl (by rw [bcs_length, u1]; kernel_rfl))
              | (exact soft_load rfl hw _ _ rfl _ _ rfl _ _ y2 Try.underlying32 rfl (by rw [bcs_length, u2]; kernel_rfl))
              | (exact soft_skip rfl)
          · intro V wx hw hd
            simp [phi, Region.binds, cst] at hd
            try simp only [hd]
            first
              | (refine soft_const rfl ?_; go_simp; done)
              | (refine soft_const rfl ?_; go_simp; exact rfl)
              | (exact soft_load rfl hw _ _ rfl _ _ rfl _ _ y1 Try.underlying32 rfl (by rw [bcs_length, u1]; kernel_rfl))
              | (exact soft_load rfl hw _ _ rfl _ _ rfl _ _ y2 Try.underlying32 rfl (by rw [bcs_length, u2]; kernel_rfl))
              | (exact soft_skip rfl)
          · intro V wx hw hd
            simp [phi, Region.binds, cst] at hd
            try simp only [hd]
            first
              | (refine soft_const rfl ?_; go_simp; done)
              | (refine soft_const rfl ?_; go_simp; exact rfl)
              | (exact soft_load rfl hw _ _ rfl _ _ rfl _ _ y1 Try.underlying32 rfl (by rw [bcs_length, u1]; kernel_rfl))
              | (exact soft_load rfl hw _ _ rfl _ _ rfl _ _ y2 Try.underlying32 rfl (by rw [bcs_length, u2]; kernel_rfl))
              | (exact soft_skip rfl)
          · intro V wx hw hd
            simp [phi, Region.binds, cst] at hd
            try simp only [hd]
            first
              | (refine soft_const rfl ?_; go_simp; done)
              | (refine soft_const rfl ?_; go_simp; exact rfl)
              | (exact soft_load rfl hw _ _ rfl _ _ rfl _ _ y1 Try.underlying32 rfl (by rw [bcs_length, u1]; kernel_rfl))
              | (exact soft_load rfl hw _ _ rfl _ _ rfl _ _ y2 Try.underlying32 rfl (by rw [bcs_length, u2]; kernel_rfl))
              | (exact soft_skip rfl)
          · intro V wx hw hd
            simp [phi, Region.binds, cst] at hd
            try simp only [hd]
            first
              | (refine soft_const rfl ?_; go_simp; done)
              | (refine soft_const rfl ?_; go_simp; exact rfl)
              | (exact soft_load rfl hw _ _ rfl _ _ rfl _ _ y1 Try.underlying32 rfl (by rw [bcs_length, u1]; kernel_rfl))
              | (exact soft_load rfl hw _ _ rfl _ _ rfl _ _ y2 Try.underlying32 rfl (by rw [bcs_length, u2]; kernel_rfl))
              | (exact soft_skip rfl)
          · intro V wx hw hd
            simp [phi, Region.binds, cst] at hd
            try simp only [hd]
            first
              | (refine soft_const rfl ?_; go_simp; done)
              | (refine soft_const rfl ?_; go_simp; exact rfl)
              | (exact soft_load rfl hw _ _ rfl _ _ rfl _ _ y1 Try.underlying32 rfl (by rw [bcs_length, u1]; kernel_rfl))
              | (exact soft_load rfl hw _ _ rfl _ _ rfl _ _ y2 Try.underlying32 rfl (by rw [bcs_length, u2]; kernel_rfl))
              | (exact soft_skip rfl)
          · intro V wx hw hd
            simp [phi, Region.binds, cst] at hd
            try simp only [hd]
            first
              | (refine soft_const rfl ?_; go_simp; done)
              | (refine soft_const rfl ?_; go_simp; exact rfl)
              | (exact soft_load rfl hw _ _ rfl _ _ rfl _ _ y1 Try.underlying32 rfl (by rw [bcs_length, u1]; kernel_rfl))
              | (exact soft_load rfl hw _ _ rfl _ _ rfl _ _ y2 Try.underlying32 rfl (by rw [bcs_length, u2]; kernel_rfl))
              | (exact soft_skip rfl)
          · intro V wx hw hd
            simp [phi, Region.binds, cst] at hd
            try simp only [hd]
            first
              | (refine soft_const rfl ?_; go_simp; done)
              | (refine soft_const rfl ?_; go_simp; exact rfl)
              | (exact soft_load rfl hw _ _ rfl _ _ rfl _ _ y1 Try.underlying32 rfl (by rw [bcs_length, u1]; kernel_rfl))
              | (exact soft_load rfl hw _ _ rfl _ _ rfl _ _ y2 Try.underlying32 rfl (by rw [bcs_length, u2]; kernel_rfl))
              | (exact soft_skip rfl)
          · intro V wx hw hd
            simp [phi, Region.binds, cst] at hd
            try simp only [hd]
            first
              | (refine soft_const rfl ?_; go_simp; done)
              | (refine soft_const rfl ?_; go_simp; exact rfl)
              | (exact soft_load rfl hw _ _ rfl _ _ rfl _ _ y1 Try.underlying32 rfl (by rw [bcs_length, u1]; kernel_rfl))
              | (exact soft_load rfl hw _ _ rfl _ _ rfl _ _ y2 Try.underlying32 rfl (by rw [bcs_length, u2]; kernel_rfl))
              | (exact soft_skip rfl)
          · intro V wx hw hd
            simp [phi, Region.binds, cst] at hd
            try simp only [hd]
            first
              | (refine soft_const rfl ?_; go_simp; done)
              | (refine soft_const rfl ?_; go_simp; exact rfl)
              | (exact soft_load rfl hw _ _ rfl _ _ rfl _ _ y1 Try.underlying32 rfl (by rw [bcs_length, u1]; kernel_rfl))
              | (exact soft_load rfl hw _ _ rfl _ _ rfl _ _ y2 Try.underlying32 rfl (by rw [bcs_length, u2]; kernel_rfl))
              | (exact soft_skip rfl)
          · intro V wx hw hd
            simp [phi, Region.binds, cst] at hd
            try simp only [hd]
            first
              | (refine soft_const rfl ?_; go_simp; done)
              | (refine soft_const rfl ?_; go_simp; exact rfl)
              | (exact soft_load rfl hw _ _ rfl _ _ rfl _ _ y1 Try.underlying32 rfl (by rw [bcs_length, u1]; kernel_rfl))
              | (exact soft_load rfl hw _ _ rfl _ _ rfl _ _ y2 Try.underlying32 rfl (by rw [bcs_length, u2]; kernel_rfl))
              | (exact soft_skip rfl)
        intro V w11 g11 hk2
        have h11 := hk2 11 (by decide)
        simp [phi, cst] at h11
        simp only [h11, List.drop_succ_cons, List.drop_zero]
        clear hk2
        go_wp2
        go_roundw
        case rel => exact ⟨k + 1, by omega, by go_num, by rw [hnx.out], hc.t0 g11⟩
        case measure => simp [intOf]; omega
      · have hs1 : decide (A.take k = B.take k) = false := decide_eq_false hs
        have hnx : decide (A.take (k + 1) = B.take (k + 1)) = false := by rw [decide_eq_false_iff_not, ht]; exact fun h => hs h.1
        rw [hs1]
        clear hs hs1 ht
        replace hnx := Lib.hid hnx
        go_wp2_with fail
        refine' region_soft 12 [cst (.bool false), cst (.bool false), cst undef, cst undef, cst undef, cst undef, cst undef, cst undef, cst undef, cst undef, cst undef, cst (.bool false)] rfl (by kernel_rfl) (by kernel_rfl) (stays_cons (Stays.cst _) (stays_cons (Stays.cst _) (stays_cons (Stays.cst _) (stays_cons (Stays.cst _) (stays_cons (Stays.cst _) (stays_cons (Stays.cst _) (stays_cons (Stays.cst _) (stays_cons (Stays.cst _) (stays_cons (Stays.cst _) (stays_cons (Stays.cst _) (stays_cons (Stays.cst _) (stays_cons (Stays.cst _) stays_nil)))))))))))) _ (fun V => by simp only [putAll, Act.put, List.take_succ_cons, List.take_zero, List.setIfInBounds_toArray, List.set_cons_zero, List.set_cons_succ, Nat.reduceAdd]; exact rfl) ?hs2 ?ht2
        case hs2 =>
          simp only [List.take_succ_cons, List.take_zero, softs]
          refine ⟨?_, ?_, ?_, ?_, ?_, ?_, ?_, ?_, ?_, ?_, ?_, ?_, trivial⟩
          · intro V wx hw hd
            simp [phi, Region.binds, cst] at hd
            try simp only [hd]
            first
              | (refine soft_const rfl ?_; go_simp; done)
              | (refine soft_const rfl ?_; go_simp; exact rfl)
              | (exact soft_skip rfl)
          · intro V wx hw hd
            simp [phi, Region.binds, cst] at hd
            try simp only [hd]
            first
              | (refine soft_const rfl ?_; go_simp; done)
              | (refine soft_const rfl ?_; go_simp; exact rfl)
              | (exact soft_skip rfl)
          · intro V wx hw hd
            simp [phi, Region.binds, cst] at hd
            try simp only [hd]
            first
              | (refine soft_const rfl ?_; go_simp; done)
              | (refine soft_const rfl ?_; go_simp; exact rfl)
              | (exact soft_skip rfl)
          · intro V wx hw hd
            simp [phi, Region.binds, cst] at hd
            try simp only [hd]
            first
              | (refine soft_const rfl ?_; go_simp; done)
              | (refine soft_const rfl ?_; go_simp; exact rfl)
              | (exact soft_skip rfl)
          · intro V wx hw hd
            simp [phi, Region.binds, cst] at hd
            try simp only [hd]
            first
              | (refine soft_const rfl ?_; go_simp; done)
              | (refine soft_const rfl ?_; go_simp; exact rfl)
              | (exact soft_skip rfl)
          · intro V wx hw hd
            simp [phi, Region.binds, cst] at hd
            try simp only [hd]
            first
              | (refine soft_const rfl ?_; go_simp; done)
              | (refine soft_const rfl ?_; go_simp; exact rfl)
              | (exact soft_skip rfl)
          · intro V wx hw hd
            simp [phi, Region.binds, cst] at hd
            try simp only [hd]
            first
              | (refine soft_const rfl ?_; go_simp; done)
              | (refine soft_const rfl ?_; go_simp; exact rfl)
              | (exact soft_skip rfl)
          · intro V wx hw hd
            simp [phi, Region.binds, cst] at hd
            try simp only [hd]
            first
              | (refine soft_const rfl ?_; go_simp; done)
              | (refine soft_const rfl ?_; go_simp; exact rfl)
              | (exact soft_skip rfl)
          · intro V wx hw hd
            simp [phi, Region.binds, cst] at hd
            try simp only [hd]
            first
              | (refine soft_const rfl ?_; go_simp; done)
              | (refine soft_const rfl ?_; go_simp; exact rfl)
              | (exact soft_skip rfl)
          · intro V wx hw hd
            simp [phi, Region.binds, cst] at hd
            try simp only [hd]
            first
              | (refine soft_const rfl ?_; go_simp; done)
              | (refine soft_const rfl ?_; go_simp; exact rfl)
              | (exact soft_skip rfl)
          · intro V wx hw hd
            simp [phi, Region.binds, cst] at hd
            try simp only [hd]
            first
              | (refine soft_const rfl ?_; go_simp; done)
              | (refine soft_const rfl ?_; go_simp; exact rfl)
              | (exact soft_skip rfl)
          · intro V wx hw hd
            simp [phi, Region.binds, cst] at hd
            try simp only [hd]
            first
              | (refine soft_const rfl ?_; go_simp; done)
              | (refine soft_const rfl ?_; go_simp; exact rfl)
              | (exact soft_skip rfl)
        intro V w11 g11 hk2
        have h11 := hk2 11 (by decide)
        simp [phi, cst] at h11
        simp only [h11, List.drop_succ_cons, List.drop_zero]
        clear hk2
        go_wp2
        go_roundw
        case rel => exact ⟨k + 1, by omega, by go_num, by rw [hnx.out], hc.t0 g11⟩
        case measure => simp [intOf]; omega
    · obtain rfl : k = A.length := by omega
      have hab' := hab.out
      rw [List.take_of_length_le (Nat.le_refl _), List.take_of_length_le (by omega)]
      have R1 := ra_block (hc.heap h8' (by simp))
      have R2 := ra_block (hc.heap h10 (by simp))
      simp only [List.toList_toArray] at R1 R2
      have cw := c10.t0 hc
      by_cases hs : A = B
      · have hs1 : decide (A = B) = true := decide_eq_true hs
        have hx := hE.out hs
        rw [hs1]
        subst hx
        have EQ := fun w => eql_dv (P := Try.prog) w 32 5 32 Try.underlying32 Try.underlying5 (fun w => by go_simp) xA xA tA tA
        have GQ := fun w x y => eqg_dv (P := Try.prog) w .eql 32 x y xA xA (by kernel_rfl)
        unfold dv at EQ GQ
        simp only [beq_self_eq_true] at EQ
        clear hs hs1
        replace R1 := Lib.hid R1
        replace R2 := Lib.hid R2
        go_wp2_with (first
          | (refine load_raG (by rfl) 32 (.tmp 8) (by rfl) r1 0 (by rfl) (bcs xA) _ R1.out Try.underlying32 (by rfl) (by rw [bcs_length, tA]; kernel_rfl) ?_)
          | (refine load_raG (by rfl) 32 (.tmp 9) (by rfl) r2 0 (by rfl) (bcs xA) _ R2.out Try.underlying32 (by rfl) (by rw [bcs_length, tA]; kernel_rfl) ?_))
        go_ret
        exact ⟨rfl, cw⟩
      · have hs1 : decide (A = B) = false := decide_eq_false hs
        have hx := hT.out hs
        rw [hs1]
        have kE := extract_ok wr p q p q v4 v8 F4 F8 (l10.tr0 hc) (m10.tr0 hc) (by
          have := congrArg List.length hF4.out
          have := nA.out
          simp at *; split at this <;> omega) (by
          have := congrArg List.length hF8.out
          have := nB.out
          simp at *; split at this <;> omega) S4.out.rows S8.out.rows
        rw [hF4.out, hF8.out] at kE
        clear hs hs1 l10 m10
        replace R1 := Lib.hid R1
        replace R2 := Lib.hid R2
        have NE := fun w => neq_dv (P := Try.prog) w 32 5 32 Try.underlying32 Try.underlying5 (fun w => by go_simp) xA xB tA tB
        have NG := fun w x y => eqg_dv (P := Try.prog) w .neq 32 x y xA xB (by kernel_rfl)
        unfold dv at NE NG
        by_cases hr : xA = xB
        · obtain ⟨u, v, hex, hu, hv, hsum, hne⟩ := hx hr
          rw [hex] at kE
          subst hr
          simp only [bne_self_eq_false] at NE
          dsimp only at kE
          have bu := sA.out u hu
          have bv := sB.out v hv
          have L1 := sumB_len u
          have hub : (v == u) = false := by simpa using hne
          have huc : (u == v) = false := by simpa using fun e => hne e.symm
          replace hne := Lib.hid hne
          go_wp2_with fail
          refine kE.mono ?_
          clear kE
          rintro e w11 ⟨y1, y2, rfl, o1, o2, g11⟩
          have s1 := Sl.ofOwns o1
          have s2 := Sl.ofOwns o2
          have k1 := run_str (P := Try.prog) Try.underlying22 Try.underlying5 Try.underlying9 s1 rfl
          have k2 := run_str (P := Try.prog) Try.underlying22 Try.underlying5 Try.underlying9 s2 rfl
          obtain ⟨a1, q1, rfl⟩ := s1.shape
          obtain ⟨a2, q2, rfl⟩ := s2.shape
          have R3 := (g11.range R1.out (by simp))
          have R4 := (g11.range R2.out (by simp))
          replace R3 := Lib.hid R3
          replace R4 := Lib.hid R4
          have cw11 := cw.t0 g11
          have kp := fun wx (g : Chg [] w11 wx) => sum_ok wx _ u (s1.tr0 g) (by omega)
          have kq := fun wx (g : Chg [] w11 wx) => sum_ok wx _ v (s2.tr0 g) (by omega)
          rw [hsum] at kq
          have E := fun w => eql_dv (P := Try.prog) w 32 5 32 Try.underlying32 Try.underlying5 (fun w => by go_simp) (sumB u) (sumB u) L1 L1
          have GG := fun w x y => eqg_dv (P := Try.prog) w .eql 32 x y (sumB u) (sumB u) (by kernel_rfl)
          unfold dv at E GG
          simp only [beq_self_eq_true] at E
          generalize sumB u = H1 at *
          clear hsum o1 o2 hx hex hT hu hv
          go_wp2_with (first
            | (refine load_raG (by rfl) 32 (.tmp 8) (by rfl) r1 0 (by rfl) (bcs xA) _ R3.out Try.underlying32 (by rfl) (by rw [bcs_length, tA]; kernel_rfl) ?_)
            | (refine load_raG (by rfl) 32 (.tmp 9) (by rfl) r2 0 (by rfl) (bcs xA) _ R4.out Try.underlying32 (by rfl) (by rw [bcs_length, tA]; kernel_rfl) ?_))
          refine (kp w11 (Chg.refl _ _)).mono ?_
          rintro e w12 ⟨rfl, g12⟩
          go_wp2_with fail
          refine (kq w12 g12).mono ?_
          rintro e w13 ⟨rfl, g13⟩
          go_wp2
          go_ret
          exact ⟨by simp, (cw11.t0 g12).t0 g13⟩
        · have hnr : (xA != xB) = true := by rw [bne_iff_ne]; exact hr
          rw [hnr] at NE
          generalize (extT fA fB).1 = T1 at *
          generalize (extT fA fB).2.1 = T2 at *
          generalize (extT fA fB).2.2 = TO at *
          clear hx hr hnr hT
          go_wp2_with fail
          refine kE.mono ?_
          clear kE
          rintro e w11 ⟨y1, y2, rfl, o1, o2, g11⟩
          have R3 := (g11.range R1.out (by simp))
          have R4 := (g11.range R2.out (by simp))
          replace R3 := Lib.hid R3
          replace R4 := Lib.hid R4
          have cw11 := cw.t0 g11
          obtain ⟨a1, q1, rfl⟩ := own_shape o1
          obtain ⟨a2, q2, rfl⟩ := own_shape o2
          clear o1 o2
          go_wp2_with (first
            | (refine load_raG (by rfl) 32 (.tmp 8) (by rfl) r1 0 (by rfl) (bcs xA) _ R3.out Try.underlying32 (by rfl) (by rw [bcs_length, tA]; kernel_rfl) ?_)
            | (refine load_raG (by rfl) 32 (.tmp 9) (by rfl) r2 0 (by rfl) (bcs xB) _ R4.out Try.underlying32 (by rfl) (by rw [bcs_length, tB]; kernel_rfl) ?_))
          go_ret
          exact ⟨by simp, cw11⟩
end Go.Proofs.Ytgepfmofignmfaa
