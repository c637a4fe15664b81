/-
  The contract of the document's own .Extract (hypostyleref02).
-/
import Derived.Test.YtfodlkofjmbolaaTagExt
import Derived.Test.YtfodlkofjmbolaaSoftW
namespace Go.Proofs.Ytfodlkofjmbolaa
set_option linter.unusedSimpArgs false
set_option linter.unusedVariables false
open Go.RowKit

/-- The pairs still to be looked at: of x with those of B from k on; then the rest of A with all B. -/
def extGo (x : Bytes) (Bk : List Bytes) (A B : List Bytes) : Bytes × Bytes × Bool :=
  match Bk.find? fun y => decide (sumB y = sumB x) && decide (y ≠ x) with | some y => (x, y, true) | none => extT A B
theorem extT_go (x : Bytes) (A B : List Bytes) : extT (x :: A) B = extGo x B A B := by
  unfold extGo extT extractV
  rw [List.findSome?_cons]
  cases B.find? fun y => decide (sumB y = sumB x) && decide (y ≠ x) <;> rfl
theorem extGo_nil (x : Bytes) (A B : List Bytes) : extGo x [] A B = extT A B := rfl
theorem extGo_yes {x y : Bytes} {Bk A B : List Bytes} (h : y ≠ x) (h2 : sumB x = sumB y) : extGo x (y :: Bk) A B = (x, y, true) := by
  unfold extGo
  rw [List.find?_cons, decide_eq_true h2.symm, decide_eq_true h]; rfl
theorem extGo_no {x y : Bytes} {Bk A B : List Bytes} (h : y = x ∨ ¬ sumB x = sumB y) : extGo x (y :: Bk) A B = extGo x Bk A B := by
  unfold extGo
  rw [List.find?_cons]
  have : (decide (sumB y = sumB x) && decide (y ≠ x)) = false := by
    rcases h with h | h
    · rw [h]; simp
    · rw [decide_eq_false (fun e => h e.symm), Bool.false_and]
  rw [this]

set_option maxHeartbeats 8000000 in
set_option maxRecDepth 100000 in
theorem rext_ok (w : World) (va vb : Value) (A B : RowsB) (hA : SlB w va A) (hB : SlB w vb B) (hxa : ∀ x ∈ A, x.2.length ≤ 2147483647) (hxb : ∀ x ∈ B, x.2.length ≤ 2147483647) :
    Calls Try.prog 36 #[va, vb] w fun e w' => ∃ v1 v2, e = .returned (.tuple #[v1, v2, .bool (extT (A.map (·.2)) (B.map (·.2))).2.2]) ∧
      Sl w v1 (extT (A.map (·.2)) (B.map (·.2))).1.length (bcs (extT (A.map (·.2)) (B.map (·.2))).1) ∧ Sl w v2 (extT (A.map (·.2)) (B.map (·.2))).2.1.length (bcs (extT (A.map (·.2)) (B.map (·.2))).2.1) ∧ Chg [] w w' := by
  obtain ⟨R, hR⟩ : ∃ R, R = extT (A.map (·.2)) (B.map (·.2)) := ⟨_, rfl⟩
  rw [← hR]
  replace hR := Lib.hid hR
  obtain ⟨aa, ca, rfl⟩ := hA.1.shape
  obtain ⟨ab, cb, rfl⟩ := hB.1.shape
  have hal := hA.1.le
  have hbl := hB.1.le
  unfold maxLen at hal hbl
  go_enter Try.func36, Try.ntmps36
  go_wp2_with fail
  go_loopw [7] (fun iv wr => ∃ i : Nat, i ≤ A.length ∧ iv = .int .i64 i ∧ R = extT ((A.map (·.2)).drop i) (B.map (·.2)) ∧ Chg [] w wr) (fun iv _ => A.length - (intOf iv).toNat)
  case atStart => exact ⟨0, Nat.zero_le _, rfl, by rw [List.drop_zero]; exact hR.out, Chg.refl _ _⟩
  case round =>
    obtain ⟨i, hi, rfl, hRi, hc⟩ := hrel
    by_cases hli : i < A.length
    · have hid : (i : Int) < A.length := by omega
      have hi0 : (0 : Int) ≤ i := by omega
      rw [show (A.map (·.2)).drop i = A[i].2 :: (A.map (·.2)).drop (i + 1) by rw [List.drop_eq_getElem_cons (by simpa using hli), List.getElem_map], extT_go] at hRi
      obtain ⟨b1, o1, c1, e, hb1, x1, s1⟩ := hA.cell i hli
      cases e
      have hf1 := hxa _ (List.getElem_mem hli)
      obtain ⟨ax, cx, ex⟩ := s1.shape
      rw [ex] at x1 s1
      generalize A[i].2 = p at *
      replace hRi := Lib.hid hRi
      clear ex
      go_wp2_with fail
      go_loopw [8] (fun kv wq => ∃ k : Nat, k ≤ B.length ∧ kv = .int .i64 k ∧ R = extGo p ((B.map (·.2)).drop k) ((A.map (·.2)).drop (i + 1)) (B.map (·.2)) ∧ Chg [] w wq) (fun kv _ => B.length - (intOf kv).toNat)
      case atStart => exact ⟨0, Nat.zero_le _, rfl, by rw [List.drop_zero]; exact hRi.out, hc⟩
      case round =>
        clear hRi hc
        obtain ⟨k, hk, rfl, hRk, hc⟩ := hrel
        by_cases hlk : k < B.length
        · have hkd : (k : Int) < B.length := by omega
          have hk0 : (0 : Int) ≤ k := by omega
          rw [show (B.map (·.2)).drop k = B[k].2 :: (B.map (·.2)).drop (k + 1) by rw [List.drop_eq_getElem_cons (by simpa using hlk), List.getElem_map]] at hRk
          obtain ⟨b2, o2, c2, e, hb2, x2, s2⟩ := hB.cell k hlk
          cases e
          have hf2 := hxb _ (List.getElem_mem hlk)
          obtain ⟨ay, cy, ey⟩ := s2.shape
          rw [ey] at x2 s2
          generalize B[k].2 = q at *
          replace hRk := Lib.hid hRk
          clear ey
          have y1 := hc.cellv x1 (by simp)
          have y2 := hc.cellv x2 (by simp)
          have t1 := s1.tr0 hc
          have t2 := s2.tr0 hc
          by_cases hpq : q = p
          · have hn := hRk.out
            rw [extGo_no (.inl hpq)] at hn
            replace hn := Lib.hid hn
            subst hpq
            go_wp2_with fail
            refine' region_soft 24 [cst (.slice (some ⟨b1, o1, none⟩) A.length ca), cst (.int .i64 (i : Int)), cst (.pointer (some ⟨b1, o1 + i, none⟩)), cst (.slice ax q.length cx), cst (.string (bstr q)), cst (.slice (some ⟨b2, o2, none⟩) B.length cb), cst (.int .i64 (k : Int)), cst (.pointer (some ⟨b2, o2 + k, none⟩)), cst (.slice ay q.length cy), cst (.string (bstr q)), cst (.bool false), cst (.bool false), cst undef, cst undef, cst undef, cst undef, cst undef, cst undef, cst undef, cst undef, cst undef, cst undef, cst undef, cst (.bool false)] rfl (by kernel_rfl) (by kernel_rfl) (stays_cons (Stays.cst _) (stays_cons (Stays.cst _) (stays_cons (Stays.cst _) (stays_cons (Stays.cst _) (stays_cons (Stays.cst _) (stays_cons (Stays.cst _) (stays_cons (Stays.cst _) (stays_cons (Stays.cst _) (stays_cons (Stays.cst _) (stays_cons (Stays.cst _) (stays_cons (Stays.cst _) (stays_cons (Stays.cst _) (stays_cons (Stays.cst _) (stays_cons (Stays.cst _) (stays_cons (Stays.cst _) (stays_cons (Stays.cst _) (stays_cons (Stays.cst _) (stays_cons (Stays.cst _) (stays_cons (Stays.cst _) (stays_cons (Stays.cst _) (stays_cons (Stays.cst _) (stays_cons (Stays.cst _) (stays_cons (Stays.cst _) (stays_cons (Stays.cst _) stays_nil)))))))))))))))))))))))) _ (fun V => by simp only [putAll, Act.put, List.take_succ_cons, List.take_zero, List.setIfInBounds_toArray, List.set_cons_zero, List.set_cons_succ, Nat.reduceAdd]; exact rfl) ?hs1 ?ht1
            case hs1 =>
              simp only [List.take_succ_cons, List.take_zero, softs]
              refine ⟨?_, ?_, ?_, ?_, ?_, ?_, ?_, ?_, ?_, ?_, ?_, ?_, ?_, ?_, ?_, ?_, ?_, ?_, ?_, ?_, ?_, ?_, ?_, ?_, trivial⟩
              · intro V wx hw hd
                simp [phi, Region.binds, cst] at hd
                try simp only [hd]
                first
                  | (refine soft_const rfl ?_; go_simp; done)
                  | (refine soft_const rfl ?_; go_simp; exact rfl)
                  | (exact soft_cell rfl hw _ _ rfl _ rfl _ _ y1 Try.underlying22 rfl)
                  | (exact soft_cell rfl hw _ _ rfl _ rfl _ _ y2 Try.underlying22 rfl)
                  | (refine soft_str rfl _ _ _ rfl _ rfl _ Try.underlying22 Try.underlying5 Try.underlying9 _ _ ?_ rfl; exact (t1.tr0 hw))
                  | (refine soft_str rfl _ _ _ rfl _ rfl _ Try.underlying22 Try.underlying5 Try.underlying9 _ _ ?_ rfl; exact (t2.tr0 hw))
                  | (exact soft_skip rfl)
              · intro V wx hw hd
                simp [phi, Region.binds, cst] at hd
                try simp only [hd]
                first
                  | (refine soft_const rfl ?_; go_simp; done)
                  | (refine soft_const rfl ?_; go_simp; exact rfl)
                  | (exact soft_cell rfl hw _ _ rfl _ rfl _ _ y1 Try.underlying22 rfl)
                  | (exact soft_cell rfl hw _ _ rfl _ rfl _ _ y2 Try.underlying22 rfl)
                  | (refine soft_str rfl _ _ _ rfl _ rfl _ Try.underlying22 Try.underlying5 Try.underlying9 _ _ ?_ rfl; exact (t1.tr0 hw))
                  | (refine soft_str rfl _ _ _ rfl _ rfl _ Try.underlying22 Try.underlying5 Try.underlying9 _ _ ?_ rfl; exact (t2.tr0 hw))
                  | (exact soft_skip rfl)
              · intro V wx hw hd
                simp [phi, Region.binds, cst] at hd
                try simp only [hd]
                first
                  | (refine soft_const rfl ?_; go_simp; done)
                  | (refine soft_const rfl ?_; go_simp; exact rfl)
                  | (exact soft_cell rfl hw _ _ rfl _ rfl _ _ y1 Try.underlying22 rfl)
                  | (exact soft_cell rfl hw _ _ rfl _ rfl _ _ y2 Try.underlying22 rfl)
                  | (refine soft_str rfl _ _ _ rfl _ rfl _ Try.underlying22 Try.underlying5 Try.underlying9 _ _ ?_ rfl; exact (t1.tr0 hw))
                  | (refine soft_str rfl _ _ _ rfl _ rfl _ Try.underlying22 Try.underlying5 Try.underlying9 _ _ ?_ rfl; exact (t2.tr0 hw))
                  | (exact soft_skip rfl)
              · intro V wx hw hd
                simp [phi, Region.binds, cst] at hd
                try simp only [hd]
                first
                  | (refine soft_const rfl ?_; go_simp; done)
                  | (refine soft_const rfl ?_; go_simp; exact rfl)
                  | (exact soft_cell rfl hw _ _ rfl _ rfl _ _ y1 Try.underlying22 rfl)
                  | (exact soft_cell rfl hw _ _ rfl _ rfl _ _ y2 Try.underlying22 rfl)
                  | (refine soft_str rfl _ _ _ rfl _ rfl _ Try.underlying22 Try.underlying5 Try.underlying9 _ _ ?_ rfl; exact (t1.tr0 hw))
                  | (refine soft_str rfl _ _ _ rfl _ rfl _ Try.underlying22 Try.underlying5 Try.underlying9 _ _ ?_ rfl; exact (t2.tr0 hw))
                  | (exact soft_skip rfl)
              · intro V wx hw hd
                simp [phi, Region.binds, cst] at hd
                try simp only [hd]
                first
                  | (refine soft_const rfl ?_; go_simp; done)
                  | (refine soft_const rfl ?_; go_simp; exact rfl)
                  | (exact soft_cell rfl hw _ _ rfl _ rfl _ _ y1 Try.underlying22 rfl)
                  | (exact soft_cell rfl hw _ _ rfl _ rfl _ _ y2 Try.underlying22 rfl)
                  | (refine soft_str rfl _ _ _ rfl _ rfl _ Try.underlying22 Try.underlying5 Try.underlying9 _ _ ?_ rfl; exact (t1.tr0 hw))
                  | (refine soft_str rfl _ _ _ rfl _ rfl _ Try.underlying22 Try.underlying5 Try.underlying9 _ _ ?_ rfl; exact (t2.tr0 hw))
                  | (exact soft_skip rfl)
              · intro V wx hw hd
                simp [phi, Region.binds, cst] at hd
                try simp only [hd]
                first
                  | (refine soft_const rfl ?_; go_simp; done)
                  | (refine soft_const rfl ?_; go_simp; exact rfl)
                  | (exact soft_cell rfl hw _ _ rfl _ rfl _ _ y1 Try.underlying22 rfl)
                  | (exact soft_cell rfl hw _ _ rfl _ rfl _ _ y2 Try.underlying22 rfl)
                  | (refine soft_str rfl _ _ _ rfl _ rfl _ Try.underlying22 Try.underlying5 Try.underlying9 _ _ ?_ rfl; exact (t1.tr0 hw))
                  | (refine soft_str rfl _ _ _ rfl _ rfl _ Try.underlying22 Try.underlying5 Try.underlying9 _ _ ?_ rfl; exact (t2.tr0 hw))
                  | (exact soft_skip rfl)
              · intro V wx hw hd
                simp [phi, Region.binds, cst] at hd
                try simp only [hd]
                first
                  | (refine soft_const rfl ?_; go_simp; done)
                  | (refine soft_const rfl ?_; go_simp; exact rfl)
                  | (exact soft_cell rfl hw _ _ rfl _ rfl _ _ y1 Try.underlying22 rfl)
                  | (exact soft_cell rfl hw _ _ rfl _ rfl _ _ y2 Try.underlying22 rfl)
                  | (refine soft_str rfl _ _ _ rfl _ rfl _ Try.underlying22 Try.underlying5 Try.underlying9 _ _ ?_ rfl; exact (t1.tr0 hw))
                  | (refine soft_str rfl _ _ _ rfl _ rfl _ Try.underlying22 Try.underlying5 Try.underlying9 _ _ ?_ rfl; exact (t2.tr0 hw))
                  | (exact soft_skip rfl)
              · intro V wx hw hd
                simp [phi, Region.binds, cst] at hd
                try simp only [hd]
                first
                  | (refine soft_const rfl ?_; go_simp; done)
                  | (refine soft_const rfl ?_; go_simp; exact rfl)
                  | (exact soft_cell rfl hw _ _ rfl _ rfl _ _ y1 Try.underlying22 rfl)
                  | (exact soft_cell rfl hw _ _ rfl _ rfl _ _ y2 Try.underlying22 rfl)
                  | (refine soft_str rfl _ _ _ rfl _ rfl _ Try.underlying22 Try.underlying5 Try.underlying9 _ _ ?_ rfl; exact (t1.tr0 hw))
                  | (refine soft_str rfl _ _ _ rfl _ rfl _ Try.underlying22 Try.underlying5 Try.underlying9 _ _ ?_ rfl; exact (t2.tr0 hw))
                  | (exact soft_skip rfl)
              · intro V wx hw hd
                simp [phi, Region.binds, cst] at hd
                try simp only [hd]
                first
                  | (refine soft_const rfl ?_; go_simp; done)
                  | (refine soft_const rfl ?_; go_simp; exact rfl)
                  | (exact soft_cell rfl hw _ _ rfl _ rfl _ _ y1 Try.underlying22 rfl)
                  | (exact soft_cell rfl hw _ _ rfl _ rfl _ _ y2 Try.underlying22 rfl)
                  | (refine soft_str rfl _ _ _ rfl _ rfl _ Try.underlying22 Try.underlying5 Try.underlying9 _ _ ?_ rfl; exact (t1.tr0 hw))
                  | (refine soft_str rfl _ _ _ rfl _ rfl _ Try.underlying22 Try.underlying5 Try.underlying9 _ _ ?_ rfl; exact (t2.tr0 hw))
                  | (exact soft_skip rfl)
              · intro V wx hw hd
                simp [phi, Region.binds, cst] at hd
                try simp only [hd]
                first
                  | (refine soft_const rfl ?_; go_simp; done)
                  | (refine soft_const rfl ?_; go_simp; exact rfl)
                  | (exact soft_cell rfl hw _ _ rfl _ rfl _ _ y1 Try.underlying22 rfl)
                  | (exact soft_cell rfl hw _ _ rfl _ rfl _ _ y2 Try.underlying22 rfl)
                  | (refine soft_str rfl _ _ _ rfl _ rfl _ Try.underlying22 Try.underlying5 Try.underlying9 _ _ ?_ rfl; exact (t1.tr0 hw))
                  | (refine soft_str rfl _ _ _ rfl _ rfl _ Try.underlying22 Try.underlying5 Try.underlying9 _ _ ?_ rfl; exact (t2.tr0 hw))
                  | (exact soft_skip rfl)
              · intro V wx hw hd
                simp [phi, Region.binds, cst] at hd
                try simp only [hd]
                first
                  | (refine soft_const rfl ?_; go_simp; done)
                  | (refine soft_const rfl ?_; go_simp; exact rfl)
                  | (exact soft_cell rfl hw _ _ rfl _ rfl _ _ y1 Try.underlying22 rfl)
                  | (exact soft_cell rfl hw _ _ rfl _ rfl _ _ y2 Try.underlying22 rfl)
                  | (refine soft_str rfl _ _ _ rfl _ rfl _ Try.underlying22 Try.underlying5 Try.underlying9 _ _ ?_ rfl; exact (t1.tr0 hw))
                  | (refine soft_str rfl _ _ _ rfl _ rfl _ Try.underlying22 Try.underlying5 Try.underlying9 _ _ ?_ rfl; exact (t2.tr0 hw))
                  | (exact soft_skip rfl)
              · intro V wx hw hd
                simp [phi, Region.binds, cst] at hd
                try simp only [hd]
                first
                  | (refine soft_const rfl ?_; go_simp; done)
                  | (refine soft_const rfl ?_; go_simp; exact rfl)
                  | (exact soft_cell rfl hw _ _ rfl _ rfl _ _ y1 Try.underlying22 rfl)
                  | (exact soft_cell rfl hw _ _ rfl _ rfl _ _ y2 Try.underlying22 rfl)
                  | (refine soft_str rfl _ _ _ rfl _ rfl _ Try.underlying22 Try.underlying5 Try.underlying9 _ _ ?_ rfl; exact (t1.tr0 hw))
                  | (refine soft_str rfl _ _ _ rfl _ rfl _ Try.underlying22 Try.underlying5 Try.underlying9 _ _ ?_ rfl; exact (t2.tr0 hw))
                  | (exact soft_skip rfl)
              · intro V wx hw hd
                simp [phi, Region.binds, cst] at hd
                try simp only [hd]
                first
                  | (refine soft_const rfl ?_; go_simp; done)
                  | (refine soft_const rfl ?_; go_simp; exact rfl)
                  | (exact soft_cell rfl hw _ _ rfl _ rfl _ _ y1 Try.underlying22 rfl)
                  | (exact soft_cell rfl hw _ _ rfl _ rfl _ _ y2 Try.underlying22 rfl)
                  | (refine soft_str rfl _ _ _ rfl _ rfl _ Try.underlying22 Try.underlying5 Try.underlying9 _ _ ?_ rfl; exact (t1.tr0 hw))
                  | (refine soft_str rfl _ _ _ rfl _ rfl _ Try.underlying22 Try.underlying5 Try.underlying9 _ _ ?_ rfl; exact (t2.tr0 hw))
                  | (exact soft_skip rfl)
              · intro V wx hw hd
                simp [phi, Region.binds, cst] at hd
                try simp only [hd]
                first
                  | (refine soft_const rfl ?_; go_simp; done)
                  | (refine soft_const rfl ?_; go_simp; exact rfl)
                  | (exact soft_cell rfl hw _ _ rfl _ rfl _ _ y1 Try.underlying22 rfl)
                  | (exact soft_cell rfl hw _ _ rfl _ rfl _ _ y2 Try.underlying22 rfl)
                  | (refine soft_str rfl _ _ _ rfl _ rfl _ Try.underlying22 Try.underlying5 Try.underlying9 _ _ ?_ rfl; exact (t1.tr0 hw))
                  | (refine soft_str rfl _ _ _ rfl _ rfl _ Try.underlying22 Try.underlying5 Try.underlying9 _ _ ?_ rfl; exact (t2.tr0 hw))
                  | (exact soft_skip rfl)
              · intro V wx hw hd
                simp [phi, Region.binds, cst] at hd
                try simp only [hd]
                first
                  | (refine soft_const rfl ?_; go_simp; done)
                  | (refine soft_const rfl ?_; go_simp; exact rfl)
                  | (exact soft_cell rfl hw _ _ rfl _ rfl _ _ y1 Try.underlying22 rfl)
                  | (exact soft_cell rfl hw _ _ rfl _ rfl _ _ y2 Try.underlying22 rfl)
                  | (refine soft_str rfl _ _ _ rfl _ rfl _ Try.underlying22 Try.underlying5 Try.underlying9 _ _ ?_ rfl; exact (t1.tr0 hw))
                  | (refine soft_str rfl _ _ _ rfl _ rfl _ Try.underlying22 Try.underlying5 Try.underlying9 _ _ ?_ rfl; exact (t2.tr0 hw))
                  | (exact soft_skip rfl)
              · intro V wx hw hd
                simp [phi, Region.binds, cst] at hd
                try simp only [hd]
                first
                  | (refine soft_const rfl ?_; go_simp; done)
                  | (refine soft_const rfl ?_; go_simp; exact rfl)
                  | (exact soft_cell rfl hw _ _ rfl _ rfl _ _ y1 Try.underlying22 rfl)
                  | (exact soft_cell rfl hw _ _ rfl _ rfl _ _ y2 Try.underlying22 rfl)
                  | (refine soft_str rfl _ _ _ rfl _ rfl _ Try.underlying22 Try.underlying5 Try.underlying9 _ _ ?_ rfl; exact (t1.tr0 hw))
                  | (refine soft_str rfl _ _ _ rfl _ rfl _ Try.underlying22 Try.underlying5 Try.underlying9 _ _ ?_ rfl; exact (t2.tr0 hw))
                  | (exact soft_skip rfl)
              · intro V wx hw hd
                simp [phi, Region.binds, cst] at hd
                try simp only [hd]
                first
                  | (refine soft_const rfl ?_; go_simp; done)
                  | (refine soft_const rfl ?_; go_simp; exact rfl)
                  | (exact soft_cell rfl hw _ _ rfl _ rfl _ _ y1 Try.underlying22 rfl)
                  | (exact soft_cell rfl hw _ _ rfl _ rfl _ _ y2 Try.underlying22 rfl)
                  | (refine soft_str rfl _ _ _ rfl _ rfl _ Try.underlying22 Try.underlying5 Try.underlying9 _ _ ?_ rfl; exact (t1.tr0 hw))
                  | (refine soft_str rfl _ _ _ rfl _ rfl _ Try.underlying22 Try.underlying5 Try.underlying9 _ _ ?_ rfl; exact (t2.tr0 hw))
                  | (exact soft_skip rfl)
              · intro V wx hw hd
                simp [phi, Region.binds, cst] at hd
                try simp only [hd]
                first
                  | (refine soft_const rfl ?_; go_simp; done)
                  | (refine soft_const rfl ?_; go_simp; exact rfl)
                  | (exact soft_cell rfl hw _ _ rfl _ rfl _ _ y1 Try.underlying22 rfl)
                  | (exact soft_cell rfl hw _ _ rfl _ rfl _ _ y2 Try.underlying22 rfl)
                  | (refine soft_str rfl _ _ _ rfl _ rfl _ Try.underlying22 Try.underlying5 Try.underlying9 _ _ ?_ rfl; exact (t1.tr0 hw))
                  | (refine soft_str rfl _ _ _ rfl _ rfl _ Try.underlying22 Try.underlying5 Try.underlying9 _ _ ?_ rfl; exact (t2.tr0 hw))
                  | (exact soft_skip rfl)
              · intro V wx hw hd
                simp [phi, Region.binds, cst] at hd
                try simp only [hd]
                first
                  | (refine soft_const rfl ?_; go_simp; done)
                  | (refine soft_const rfl ?_; go_simp; exact rfl)
                  | (exact soft_cell rfl hw _ _ rfl _ rfl _ _ y1 Try.underlying22 rfl)
                  | (exact soft_cell rfl hw _ _ rfl _ rfl _ _ y2 Try.underlying22 rfl)
                  | (refine soft_str rfl _ _ _ rfl _ rfl _ Try.underlying22 Try.underlying5 Try.underlying9 _ _ ?_ rfl; exact (t1.tr0 hw))
                  | (refine soft_str rfl _ _ _ rfl _ rfl _ Try.underlying22 Try.underlying5 Try.underlying9 _ _ ?_ rfl; exact (t2.tr0 hw))
                  | (exact soft_skip rfl)
              · intro V wx hw hd
                simp [phi, Region.binds, cst] at hd
                try simp only [hd]
                first
                  | (refine soft_const rfl ?_; go_simp; done)
                  | (refine soft_const rfl ?_; go_simp; exact rfl)
                  | (exact soft_cell rfl hw _ _ rfl _ rfl _ _ y1 Try.underlying22 rfl)
                  | (exact soft_cell rfl hw _ _ rfl _ rfl _ _ y2 Try.underlying22 rfl)
                  | (refine soft_str rfl _ _ _ rfl _ rfl _ Try.underlying22 Try.underlying5 Try.underlying9 _ _ ?_ rfl; exact (t1.tr0 hw))
                  | (refine soft_str rfl _ _ _ rfl _ rfl _ Try.underlying22 Try.underlying5 Try.underlying9 _ _ ?_ rfl; exact (t2.tr0 hw))
                  | (exact soft_skip rfl)
              · intro V wx hw hd
                simp [phi, Region.binds, cst] at hd
                try simp only [hd]
                first
                  | (refine soft_const rfl ?_; go_simp; done)
                  | (refine soft_const rfl ?_; go_simp; exact rfl)
                  | (exact soft_cell rfl hw _ _ rfl _ rfl _ _ y1 Try.underlying22 rfl)
                  | (exact soft_cell rfl hw _ _ rfl _ rfl _ _ y2 Try.underlying22 rfl)
                  | (refine soft_str rfl _ _ _ rfl _ rfl _ Try.underlying22 Try.underlying5 Try.underlying9 _ _ ?_ rfl; exact (t1.tr0 hw))
                  | (refine soft_str rfl _ _ _ rfl _ rfl _ Try.underlying22 Try.underlying5 Try.underlying9 _ _ ?_ rfl; exact (t2.tr0 hw))
                  | (exact soft_skip rfl)
              · intro V wx hw hd
                simp [phi, Region.binds, cst] at hd
                try simp only [hd]
                first
                  | (refine soft_const rfl ?_; go_simp; done)
                  | (refine soft_const rfl ?_; go_simp; exact rfl)
                  | (exact soft_cell rfl hw _ _ rfl _ rfl _ _ y1 Try.underlying22 rfl)
                  | (exact soft_cell rfl hw _ _ rfl _ rfl _ _ y2 Try.underlying22 rfl)
                  | (refine soft_str rfl _ _ _ rfl _ rfl _ Try.underlying22 Try.underlying5 Try.underlying9 _ _ ?_ rfl; exact (t1.tr0 hw))
                  | (refine soft_str rfl _ _ _ rfl _ rfl _ Try.underlying22 Try.underlying5 Try.underlying9 _ _ ?_ rfl; exact (t2.tr0 hw))
                  | (exact soft_skip rfl)
              · intro V wx hw hd
                simp [phi, Region.binds, cst] at hd
                try simp only [hd]
                first
                  | (refine soft_const rfl ?_; go_simp; done)
                  | (refine soft_const rfl ?_; go_simp; exact rfl)
                  | (exact soft_cell rfl hw _ _ rfl _ rfl _ _ y1 Try.underlying22 rfl)
                  | (exact soft_cell rfl hw _ _ rfl _ rfl _ _ y2 Try.underlying22 rfl)
                  | (refine soft_str rfl _ _ _ rfl _ rfl _ Try.underlying22 Try.underlying5 Try.underlying9 _ _ ?_ rfl; exact (t1.tr0 hw))
                  | (refine soft_str rfl _ _ _ rfl _ rfl _ Try.underlying22 Try.underlying5 Try.underlying9 _ _ ?_ rfl; exact (t2.tr0 hw))
                  | (exact soft_skip rfl)
              · intro V wx hw hd
                simp [phi, Region.binds, cst] at hd
                try simp only [hd]
                first
                  | (refine soft_const rfl ?_; go_simp; done)
                  | (refine soft_const rfl ?_; go_simp; exact rfl)
                  | (exact soft_cell rfl hw _ _ rfl _ rfl _ _ y1 Try.underlying22 rfl)
                  | (exact soft_cell rfl hw _ _ rfl _ rfl _ _ y2 Try.underlying22 rfl)
                  | (refine soft_str rfl _ _ _ rfl _ rfl _ Try.underlying22 Try.underlying5 Try.underlying9 _ _ ?_ rfl; exact (t1.tr0 hw))
                  | (refine soft_str rfl _ _ _ rfl _ rfl _ Try.underlying22 Try.underlying5 Try.underlying9 _ _ ?_ rfl; exact (t2.tr0 hw))
                  | (exact soft_skip rfl)
            intro V w' g hk
            have q23 := hk 23 (by decide)
            simp [phi, cst] at q23
            simp only [q23, List.drop_succ_cons, List.drop_zero]
            clear hk q23
            go_wp2
            go_roundw
            case rel => exact ⟨k + 1, by omega, by go_num, hn.out, hc.t0 g⟩
            case measure => simp [intOf]; omega

          · skip
            have hne : (p == q) = false := by simpa using fun e => hpq (by rw [e])
            have hne2 : (q == p) = false := by simpa using hpq
            have E := fun w => eql_dv (P := Try.prog) w 25 5 32 Try.underlying25 Try.underlying5 (fun w => by go_simp) (sumB p) (sumB q) (sumB_len p) (sumB_len q)
            have G := fun w x y => eqg_dv (P := Try.prog) w .eql 25 x y (sumB p) (sumB q) (by kernel_rfl)
            unfold dv at E G
            go_wp2_with fail
            refine' region_soft 24 [cst (.slice (some ⟨b1, o1, none⟩) A.length ca), cst (.int .i64 (i : Int)), cst (.pointer (some ⟨b1, o1 + i, none⟩)), cst (.slice ax p.length cx), cst (.string (bstr p)), cst (.slice (some ⟨b2, o2, none⟩) B.length cb), cst (.int .i64 (k : Int)), cst (.pointer (some ⟨b2, o2 + k, none⟩)), cst (.slice ay q.length cy), cst (.string (bstr q)), cst (.bool true), cst (.bool true), cst (.slice (some ⟨b1, o1, none⟩) A.length ca), cst (.int .i64 (i : Int)), cst (.pointer (some ⟨b1, o1 + i, none⟩)), cst (.slice ax p.length cx), cst (.agg (bcs (sumB p)).toArray), cst (.slice (some ⟨b2, o2, none⟩) B.length cb), cst (.int .i64 (k : Int)), cst (.pointer (some ⟨b2, o2 + k, none⟩)), cst (.slice ay q.length cy), cst (.agg (bcs (sumB q)).toArray), cst (.bool (sumB p == sumB q)), cst (.bool (sumB p == sumB q))] rfl (by kernel_rfl) (by kernel_rfl) (stays_cons (Stays.cst _) (stays_cons (Stays.cst _) (stays_cons (Stays.cst _) (stays_cons (Stays.cst _) (stays_cons (Stays.cst _) (stays_cons (Stays.cst _) (stays_cons (Stays.cst _) (stays_cons (Stays.cst _) (stays_cons (Stays.cst _) (stays_cons (Stays.cst _) (stays_cons (Stays.cst _) (stays_cons (Stays.cst _) (stays_cons (Stays.cst _) (stays_cons (Stays.cst _) (stays_cons (Stays.cst _) (stays_cons (Stays.cst _) (stays_cons (Stays.cst _) (stays_cons (Stays.cst _) (stays_cons (Stays.cst _) (stays_cons (Stays.cst _) (stays_cons (Stays.cst _) (stays_cons (Stays.cst _) (stays_cons (Stays.cst _) (stays_cons (Stays.cst _) stays_nil)))))))))))))))))))))))) _ (fun V => by simp only [putAll, Act.put, List.take_succ_cons, List.take_zero, List.setIfInBounds_toArray, List.set_cons_zero, List.set_cons_succ, Nat.reduceAdd]; exact rfl) ?hs2 ?ht2
            case hs2 =>
              simp only [List.take_succ_cons, List.take_zero, softs]
              refine ⟨?_, ?_, ?_, ?_, ?_, ?_, ?_, ?_, ?_, ?_, ?_, ?_, ?_, ?_, ?_, ?_, ?_, ?_, ?_, ?_, ?_, ?_, ?_, ?_, trivial⟩
              · intro V wx hw hd
                simp [phi, Region.binds, cst] at hd
                try simp only [hd]
                first
                  | (refine soft_const rfl ?_; go_simp; done)
                  | (refine soft_const rfl ?_; go_simp; exact rfl)
                  | (exact soft_cell rfl hw _ _ rfl _ rfl _ _ y1 Try.underlying22 rfl)
                  | (exact soft_cell rfl hw _ _ rfl _ rfl _ _ y2 Try.underlying22 rfl)
                  | (refine soft_str rfl _ _ _ rfl _ rfl _ Try.underlying22 Try.underlying5 Try.underlying9 _ _ ?_ rfl; exact (t1.tr0 hw))
                  | (refine soft_str rfl _ _ _ rfl _ rfl _ Try.underlying22 Try.underlying5 Try.underlying9 _ _ ?_ rfl; exact (t2.tr0 hw))
                  | (exact soft_skip rfl)
              · intro V wx hw hd
                simp [phi, Region.binds, cst] at hd
                try simp only [hd]
                first
                  | (refine soft_const rfl ?_; go_simp; done)
                  | (refine soft_const rfl ?_; go_simp; exact rfl)
                  | (exact soft_cell rfl hw _ _ rfl _ rfl _ _ y1 Try.underlying22 rfl)
                  | (exact soft_cell rfl hw _ _ rfl _ rfl _ _ y2 Try.underlying22 rfl)
                  | (refine soft_str rfl _ _ _ rfl _ rfl _ Try.underlying22 Try.underlying5 Try.underlying9 _ _ ?_ rfl; exact (t1.tr0 hw))
                  | (refine soft_str rfl _ _ _ rfl _ rfl _ Try.underlying22 Try.underlying5 Try.underlying9 _ _ ?_ rfl; exact (t2.tr0 hw))
                  | (exact soft_skip rfl)
              · intro V wx hw hd
                simp [phi, Region.binds, cst] at hd
                try simp only [hd]
                first
                  | (refine soft_const rfl ?_; go_simp; done)
                  | (refine soft_const rfl ?_; go_simp; exact rfl)
                  | (exact soft_cell rfl hw _ _ rfl _ rfl _ _ y1 Try.underlying22 rfl)
                  | (exact soft_cell rfl hw _ _ rfl _ rfl _ _ y2 Try.underlying22 rfl)
                  | (refine soft_str rfl _ _ _ rfl _ rfl _ Try.underlying22 Try.underlying5 Try.underlying9 _ _ ?_ rfl; exact (t1.tr0 hw))
                  | (refine soft_str rfl _ _ _ rfl _ rfl _ Try.underlying22 Try.underlying5 Try.underlying9 _ _ ?_ rfl; exact (t2.tr0 hw))
                  | (exact soft_skip rfl)
              · intro V wx hw hd
                simp [phi, Region.binds, cst] at hd
                try simp only [hd]
                first
                  | (refine soft_const rfl ?_; go_simp; done)
                  | (refine soft_const rfl ?_; go_simp; exact rfl)
                  | (exact soft_cell rfl hw _ _ rfl _ rfl _ _ y1 Try.underlying22 rfl)
                  | (exact soft_cell rfl hw _ _ rfl _ rfl _ _ y2 Try.underlying22 rfl)
                  | (refine soft_str rfl _ _ _ rfl _ rfl _ Try.underlying22 Try.underlying5 Try.underlying9 _ _ ?_ rfl; exact (t1.tr0 hw))
                  | (refine soft_str rfl _ _ _ rfl _ rfl _ Try.underlying22 Try.underlying5 Try.underlying9 _ _ ?_ rfl; exact (t2.tr0 hw))
                  | (exact soft_skip rfl)
              · intro V wx hw hd
                simp [phi, Region.binds, cst] at hd
                try simp only [hd]
                first
                  | (refine soft_const rfl ?_; go_simp; done)
                  | (refine soft_const rfl ?_; go_simp; exact rfl)
                  | (exact soft_cell rfl hw _ _ rfl _ rfl _ _ y1 Try.underlying22 rfl)
                  | (exact soft_cell rfl hw _ _ rfl _ rfl _ _ y2 Try.underlying22 rfl)
                  | (refine soft_str rfl _ _ _ rfl _ rfl _ Try.underlying22 Try.underlying5 Try.underlying9 _ _ ?_ rfl; exact (t1.tr0 hw))
                  | (refine soft_str rfl _ _ _ rfl _ rfl _ Try.underlying22 Try.underlying5 Try.underlying9 _ _ ?_ rfl; exact (t2.tr0 hw))
                  | (exact soft_skip rfl)
              · intro V wx hw hd
                simp [phi, Region.binds, cst] at hd
                try simp only [hd]
                first
                  | (refine soft_const rfl ?_; go_simp; done)
                  | (refine soft_const rfl ?_; go_simp; exact rfl)
                  | (exact soft_cell rfl hw _ _ rfl _ rfl _ _ y1 Try.underlying22 rfl)
                  | (exact soft_cell rfl hw _ _ rfl _ rfl _ _ y2 Try.underlying22 rfl)
                  | (refine soft_str rfl _ _ _ rfl _ rfl _ Try.underlying22 Try.underlying5 Try.underlying9 _ _ ?_ rfl; exact (t1.tr0 hw))
                  | (refine soft_str rfl _ _ _ rfl _ rfl _ Try.underlying22 Try.underlying5 Try.underlying9 _ _ ?_ rfl; exact (t2.tr0 hw))
                  | (exact soft_skip rfl)
              · intro V wx hw hd
                simp [phi, Region.binds, cst] at hd
                try simp only [hd]
                first
                  | (refine soft_const rfl ?_; go_simp; done)
                  | (refine soft_const rfl ?_; go_simp; exact rfl)
                  | (exact soft_cell rfl hw _ _ rfl _ rfl _ _ y1 Try.underlying22 rfl)
                  | (exact soft_cell rfl hw _ _ rfl _ rfl _ _ y2 Try.underlying22 rfl)
                  | (refine soft_str rfl _ _ _ rfl _ rfl _ Try.underlying22 Try.underlying5 Try.underlying9 _ _ ?_ rfl; exact (t1.tr0 hw))
                  | (refine soft_str rfl _ _ _ rfl _ rfl _ Try.underlying22 Try.underlying5 Try.underlying9 _ _ ?_ rfl; exact (t2.tr0 hw))
                  | (exact soft_skip rfl)
              · intro V wx hw hd
                simp [phi, Region.binds, cst] at hd
                try simp only [hd]
                first
                  | (refine soft_const rfl ?_; go_simp; done)
                  | (refine soft_const rfl ?_; go_simp; exact rfl)
                  | (exact soft_cell rfl hw _ _ rfl _ rfl _ _ y1 Try.underlying22 rfl)
                  | (exact soft_cell rfl hw _ _ rfl _ rfl _ _ y2 Try.underlying22 rfl)
                  | (refine soft_str rfl _ _ _ rfl _ rfl _ Try.underlying22 Try.underlying5 Try.underlying9 _ _ ?_ rfl; exact (t1.tr0 hw))
                  | (refine soft_str rfl _ _ _ rfl _ rfl _ Try.underlying22 Try.underlying5 Try.underlying9 _ _ ?_ rfl; exact (t2.tr0 hw))
                  | (exact soft_skip rfl)
              · intro V wx hw hd
                simp [phi, Region.binds, cst] at hd
                try simp only [hd]
                first
                  | (refine soft_const rfl ?_; go_simp; done)
                  | (refine soft_const rfl ?_; go_simp; exact rfl)
                  | (exact soft_cell rfl hw _ _ rfl _ rfl _ _ y1 Try.underlying22 rfl)
                  | (exact soft_cell rfl hw _ _ rfl _ rfl _ _ y2 Try.underlying22 rfl)
                  | (refine soft_str rfl _ _ _ rfl _ rfl _ Try.underlying22 Try.underlying5 Try.underlying9 _ _ ?_ rfl; exact (t1.tr0 hw))
                  | (refine soft_str rfl _ _ _ rfl _ rfl _ Try.underlying22 Try.underlying5 Try.underlying9 _ _ ?_ rfl; exact (t2.tr0 hw))
                  | (exact soft_skip rfl)
              · intro V wx hw hd
                simp [phi, Region.binds, cst] at hd
                try simp only [hd]
                first
                  | (refine soft_const rfl ?_; go_simp; done)
                  | (refine soft_const rfl ?_; go_simp; exact rfl)
                  | (exact soft_cell rfl hw _ _ rfl _ rfl _ _ y1 Try.underlying22 rfl)
                  | (exact soft_cell rfl hw _ _ rfl _ rfl _ _ y2 Try.underlying22 rfl)
                  | (refine soft_str rfl _ _ _ rfl _ rfl _ Try.underlying22 Try.underlying5 Try.underlying9 _ _ ?_ rfl; exact (t1.tr0 hw))
                  | (refine soft_str rfl _ _ _ rfl _ rfl _ Try.underlying22 Try.underlying5 Try.underlying9 _ _ ?_ rfl; exact (t2.tr0 hw))
                  | (exact soft_skip rfl)
              · intro V wx hw hd
                simp [phi, Region.binds, cst] at hd
                try simp only [hd]
                first
                  | (refine soft_const rfl ?_; go_simp; done)
                  | (refine soft_const rfl ?_; go_simp; exact rfl)
                  | (exact soft_cell rfl hw _ _ rfl _ rfl _ _ y1 Try.underlying22 rfl)
                  | (exact soft_cell rfl hw _ _ rfl _ rfl _ _ y2 Try.underlying22 rfl)
                  | (refine soft_str rfl _ _ _ rfl _ rfl _ Try.underlying22 Try.underlying5 Try.underlying9 _ _ ?_ rfl; exact (t1.tr0 hw))
                  | (refine soft_str rfl _ _ _ rfl _ rfl _ Try.underlying22 Try.underlying5 Try.underlying9 _ _ ?_ rfl; exact (t2.tr0 hw))
                  | (exact soft_skip rfl)
              · intro V wx hw hd
                simp [phi, Region.binds, cst] at hd
                try simp only [hd]
                first
                  | (refine soft_const rfl ?_; go_simp; done)
                  | (refine soft_const rfl ?_; go_simp; exact rfl)
                  | (exact soft_cell rfl hw _ _ rfl _ rfl _ _ y1 Try.underlying22 rfl)
                  | (exact soft_cell rfl hw _ _ rfl _ rfl _ _ y2 Try.underlying22 rfl)
                  | (refine soft_str rfl _ _ _ rfl _ rfl _ Try.underlying22 Try.underlying5 Try.underlying9 _ _ ?_ rfl; exact (t1.tr0 hw))
                  | (refine soft_str rfl _ _ _ rfl _ rfl _ Try.underlying22 Try.underlying5 Try.underlying9 _ _ ?_ rfl; exact (t2.tr0 hw))
                  | (exact soft_skip rfl)
              · intro V wx hw hd
                simp [phi, Region.binds, cst] at hd
                try simp only [hd]
                first
                  | (refine soft_const rfl ?_; go_simp; done)
                  | (refine soft_const rfl ?_; go_simp; exact rfl)
                  | (exact soft_cell rfl hw _ _ rfl _ rfl _ _ y1 Try.underlying22 rfl)
                  | (exact soft_cell rfl hw _ _ rfl _ rfl _ _ y2 Try.underlying22 rfl)
                  | (refine soft_str rfl _ _ _ rfl _ rfl _ Try.underlying22 Try.underlying5 Try.underlying9 _ _ ?_ rfl; exact (t1.tr0 hw))
                  | (refine soft_str rfl _ _ _ rfl _ rfl _ Try.underlying22 Try.underlying5 Try.underlying9 _ _ ?_ rfl; exact (t2.tr0 hw))
                  | (exact soft_skip rfl)
              · intro V wx hw hd
                simp [phi, Region.binds, cst] at hd
                try simp only [hd]
                first
                  | (refine soft_const rfl ?_; go_simp; done)
                  | (refine soft_const rfl ?_; go_simp; exact rfl)
                  | (exact soft_cell rfl hw _ _ rfl _ rfl _ _ y1 Try.underlying22 rfl)
                  | (exact soft_cell rfl hw _ _ rfl _ rfl _ _ y2 Try.underlying22 rfl)
                  | (refine soft_str rfl _ _ _ rfl _ rfl _ Try.underlying22 Try.underlying5 Try.underlying9 _ _ ?_ rfl; exact (t1.tr0 hw))
                  | (refine soft_str rfl _ _ _ rfl _ rfl _ Try.underlying22 Try.underlying5 Try.underlying9 _ _ ?_ rfl; exact (t2.tr0 hw))
                  | (exact soft_skip rfl)
              · intro V wx hw hd
                simp [phi, Region.binds, cst] at hd
                try simp only [hd]
                first
                  | (refine soft_const rfl ?_; go_simp; done)
                  | (refine soft_const rfl ?_; go_simp; exact rfl)
                  | (exact soft_cell rfl hw _ _ rfl _ rfl _ _ y1 Try.underlying22 rfl)
                  | (exact soft_cell rfl hw _ _ rfl _ rfl _ _ y2 Try.underlying22 rfl)
                  | (refine soft_str rfl _ _ _ rfl _ rfl _ Try.underlying22 Try.underlying5 Try.underlying9 _ _ ?_ rfl; exact (t1.tr0 hw))
                  | (refine soft_str rfl _ _ _ rfl _ rfl _ Try.underlying22 Try.underlying5 Try.underlying9 _ _ ?_ rfl; exact (t2.tr0 hw))
                  | (exact soft_skip rfl)
              · intro V wx hw hd
                simp [phi, Region.binds, cst] at hd
                try simp only [hd]
                first
                  | (refine soft_const rfl ?_; go_simp; done)
                  | (refine soft_const rfl ?_; go_simp; exact rfl)
                  | (exact soft_cell rfl hw _ _ rfl _ rfl _ _ y1 Try.underlying22 rfl)
                  | (exact soft_cell rfl hw _ _ rfl _ rfl _ _ y2 Try.underlying22 rfl)
                  | (refine soft_str rfl _ _ _ rfl _ rfl _ Try.underlying22 Try.underlying5 Try.underlying9 _ _ ?_ rfl; exact (t1.tr0 hw))
                  | (refine soft_str rfl _ _ _ rfl _ rfl _ Try.underlying22 Try.underlying5 Try.underlying9 _ _ ?_ rfl; exact (t2.tr0 hw))
                  | (exact soft_skip rfl)
              · intro V wx hw hd
                simp [phi, Region.binds, cst] at hd
                try simp only [hd]
                refine soft_callC rfl _ _ (by go_simp; try exact ⟨rfl, rfl⟩) (ref01_sum_ok wx _ p (t1.tr0 hw) hf1)
              · intro V wx hw hd
                simp [phi, Region.binds, cst] at hd
                try simp only [hd]
                first
                  | (refine soft_const rfl ?_; go_simp; done)
                  | (refine soft_const rfl ?_; go_simp; exact rfl)
                  | (exact soft_cell rfl hw _ _ rfl _ rfl _ _ y1 Try.underlying22 rfl)
                  | (exact soft_cell rfl hw _ _ rfl _ rfl _ _ y2 Try.underlying22 rfl)
                  | (refine soft_str rfl _ _ _ rfl _ rfl _ Try.underlying22 Try.underlying5 Try.underlying9 _ _ ?_ rfl; exact (t1.tr0 hw))
                  | (refine soft_str rfl _ _ _ rfl _ rfl _ Try.underlying22 Try.underlying5 Try.underlying9 _ _ ?_ rfl; exact (t2.tr0 hw))
                  | (exact soft_skip rfl)
              · intro V wx hw hd
                simp [phi, Region.binds, cst] at hd
                try simp only [hd]
                first
                  | (refine soft_const rfl ?_; go_simp; done)
                  | (refine soft_const rfl ?_; go_simp; exact rfl)
                  | (exact soft_cell rfl hw _ _ rfl _ rfl _ _ y1 Try.underlying22 rfl)
                  | (exact soft_cell rfl hw _ _ rfl _ rfl _ _ y2 Try.underlying22 rfl)
                  | (refine soft_str rfl _ _ _ rfl _ rfl _ Try.underlying22 Try.underlying5 Try.underlying9 _ _ ?_ rfl; exact (t1.tr0 hw))
                  | (refine soft_str rfl _ _ _ rfl _ rfl _ Try.underlying22 Try.underlying5 Try.underlying9 _ _ ?_ rfl; exact (t2.tr0 hw))
                  | (exact soft_skip rfl)
              · intro V wx hw hd
                simp [phi, Region.binds, cst] at hd
                try simp only [hd]
                first
                  | (refine soft_const rfl ?_; go_simp; done)
                  | (refine soft_const rfl ?_; go_simp; exact rfl)
                  | (exact soft_cell rfl hw _ _ rfl _ rfl _ _ y1 Try.underlying22 rfl)
                  | (exact soft_cell rfl hw _ _ rfl _ rfl _ _ y2 Try.underlying22 rfl)
                  | (refine soft_str rfl _ _ _ rfl _ rfl _ Try.underlying22 Try.underlying5 Try.underlying9 _ _ ?_ rfl; exact (t1.tr0 hw))
                  | (refine soft_str rfl _ _ _ rfl _ rfl _ Try.underlying22 Try.underlying5 Try.underlying9 _ _ ?_ rfl; exact (t2.tr0 hw))
                  | (exact soft_skip rfl)
              · intro V wx hw hd
                simp [phi, Region.binds, cst] at hd
                try simp only [hd]
                first
                  | (refine soft_const rfl ?_; go_simp; done)
                  | (refine soft_const rfl ?_; go_simp; exact rfl)
                  | (exact soft_cell rfl hw _ _ rfl _ rfl _ _ y1 Try.underlying22 rfl)
                  | (exact soft_cell rfl hw _ _ rfl _ rfl _ _ y2 Try.underlying22 rfl)
                  | (refine soft_str rfl _ _ _ rfl _ rfl _ Try.underlying22 Try.underlying5 Try.underlying9 _ _ ?_ rfl; exact (t1.tr0 hw))
                  | (refine soft_str rfl _ _ _ rfl _ rfl _ Try.underlying22 Try.underlying5 Try.underlying9 _ _ ?_ rfl; exact (t2.tr0 hw))
                  | (exact soft_skip rfl)
              · intro V wx hw hd
                simp [phi, Region.binds, cst] at hd
                try simp only [hd]
                refine soft_callC rfl _ _ (by go_simp; try exact ⟨rfl, rfl⟩) (ref01_sum_ok wx _ q (t2.tr0 hw) hf2)
              · intro V wx hw hd
                simp [phi, Region.binds, cst] at hd
                try simp only [hd]
                first
                  | (refine soft_const rfl ?_; go_simp; done)
                  | (refine soft_const rfl ?_; go_simp; exact rfl)
                  | (exact soft_cell rfl hw _ _ rfl _ rfl _ _ y1 Try.underlying22 rfl)
                  | (exact soft_cell rfl hw _ _ rfl _ rfl _ _ y2 Try.underlying22 rfl)
                  | (refine soft_str rfl _ _ _ rfl _ rfl _ Try.underlying22 Try.underlying5 Try.underlying9 _ _ ?_ rfl; exact (t1.tr0 hw))
                  | (refine soft_str rfl _ _ _ rfl _ rfl _ Try.underlying22 Try.underlying5 Try.underlying9 _ _ ?_ rfl; exact (t2.tr0 hw))
                  | (exact soft_skip rfl)
              · intro V wx hw hd
                simp [phi, Region.binds, cst] at hd
                try simp only [hd]
                first
                  | (refine soft_const rfl ?_; go_simp; done)
                  | (refine soft_const rfl ?_; go_simp; exact rfl)
                  | (exact soft_cell rfl hw _ _ rfl _ rfl _ _ y1 Try.underlying22 rfl)
                  | (exact soft_cell rfl hw _ _ rfl _ rfl _ _ y2 Try.underlying22 rfl)
                  | (refine soft_str rfl _ _ _ rfl _ rfl _ Try.underlying22 Try.underlying5 Try.underlying9 _ _ ?_ rfl; exact (t1.tr0 hw))
                  | (refine soft_str rfl _ _ _ rfl _ rfl _ Try.underlying22 Try.underlying5 Try.underlying9 _ _ ?_ rfl; exact (t2.tr0 hw))
                  | (exact soft_skip rfl)
            intro V w' g hk
            have q23 := hk 23 (by decide)
            simp [phi, cst] at q23
            simp only [q23, List.drop_succ_cons, List.drop_zero]
            clear hk q23
            clear E G
            by_cases hsum : sumB p = sumB q
            · have hy := hRk.out
              rw [extGo_yes hpq hsum] at hy
              have hs : (sumB p == sumB q) = true := by simpa using hsum
              simp only [hs]
              subst hy
              have z1 := g.cellv y1 (by simp)
              have z2 := g.cellv y2 (by simp)
              go_wp2_with fail
              go_quiet (fail)
              go_wp2
              go_ret3
              exact ⟨_, _, rfl, s1, s2, (hc.t0 g).t0 (Chg.drewN [] _ _)⟩
            · have hs : (sumB p == sumB q) = false := by simpa using hsum
              simp only [hs]
              have hn := hRk.out
              rw [extGo_no (.inr hsum)] at hn
              replace hn := Lib.hid hn
              go_wp2
              go_roundw
              case rel => exact ⟨k + 1, by omega, by go_num, hn.out, hc.t0 g⟩
              case measure => simp [intOf]; omega

        · obtain rfl : k = B.length := by omega
          rw [List.drop_of_length_le (by simp), extGo_nil] at hRk
          replace hRk := Lib.hid hRk
          go_wp2
          go_roundw
          case rel => exact ⟨i + 1, by omega, by go_num, hRk.out, hc⟩
          case measure => simp [intOf]; omega
    · obtain rfl : i = A.length := by omega
      rw [List.drop_of_length_le (by simp)] at hRi
      subst hRi
      go_wp2
      go_ret3
      exact ⟨_, _, rfl, Sl.nil _, Sl.nil _, hc⟩
end Go.Proofs.Ytfodlkofjmbolaa
