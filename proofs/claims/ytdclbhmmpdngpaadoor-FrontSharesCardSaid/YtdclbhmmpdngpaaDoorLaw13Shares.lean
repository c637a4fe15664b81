/-
  The walk of FrontShares.
-/
import Derived.Test.YtdclbhmmpdngpaaDoorLaw13
import Derived.Test.YtdclbhmmpdngpaaDoorSoftC
namespace Go.Proofs.YtdclbhmmpdngpaaDoor
set_option linter.unusedSimpArgs false
set_option linter.unusedVariables false
open Go.RowKit

/-- One text is not behind the other. -/
def leT (a c : List UInt8) : Bool := Op.bytesLess a c || a == c
theorem leT_cons {x z : UInt8} {a c : List UInt8} (h : leT (x :: a) (z :: c) = true) : x < z ∨ (x = z ∧ leT a c = true) := by
  unfold leT at h ⊢
  simp only [Op.bytesLess, Bool.or_eq_true, decide_eq_true_eq, Bool.and_eq_true, beq_iff_eq, List.cons.injEq] at h ⊢
  rcases h with (h | h) | h
  · exact .inl h
  · exact .inr ⟨h.1, .inl h.2⟩
  · exact .inr ⟨h.1, .inr h.2⟩
/-- What lies between two texts shares with both what they share. -/
theorem share_between : ∀ (a b c : List UInt8), leT a c = true → leT c b = true → shareV a b ≤ shareV a c ∧ shareV a b ≤ shareV c b
  | [], _, _, _, _ => by simp [shareV]
  | _ :: _, [], _, _, _ => by simp [shareV]
  | x :: a, y :: b, [], h, _ => by simp [leT, Op.bytesLess] at h
  | x :: a, y :: b, z :: c, h1, h2 => by
    by_cases hxy : x = y
    · subst hxy
      rcases leT_cons h1 with h1 | ⟨h1, h3⟩
      · rcases leT_cons h2 with h2 | ⟨h2, _⟩
        · exact absurd (UInt8.lt_trans h1 h2) (UInt8.lt_irrefl x)
        · rw [h2] at h1; exact absurd h1 (UInt8.lt_irrefl x)
      · subst h1
        rcases leT_cons h2 with h2 | ⟨_, h4⟩
        · exact absurd h2 (UInt8.lt_irrefl x)
        · have := share_between a b c h3 h4
          simp only [shareV, if_pos]
          omega
    · simp [shareV, hxy]

set_option maxHeartbeats 16000000 in
set_option maxRecDepth 100000 in
theorem shares13 (w : World) (a b c : List UInt8) :
    Calls Tryd.prog 7 #[.string (bstr a), .string (bstr b), .string (bstr c)] w fun e w' => e = .returned (.bool true) ∧ Chg [] w w' := by
  go_enter Tryd.func7, Tryd.ntmps7
  go_wp2_with fail
  refine (small13_ok w).mono ?_
  rintro e w1 ⟨rfl, g1⟩
  by_cases ha : 1000 < a.length
  · have hai : (1000 : Int) < a.length := by omega
    go_wp2
    go_ret
    exact ⟨rfl, g1⟩
  have hai : ¬ (1000 : Int) < a.length := by omega
  by_cases hb : 1000 < b.length
  · have hbi : (1000 : Int) < b.length := by omega
    go_wp2
    go_ret
    exact ⟨rfl, g1⟩
  have hbi : ¬ (1000 : Int) < b.length := by omega
  by_cases hc : 1000 < c.length
  · have hci : (1000 : Int) < c.length := by omega
    go_wp2
    go_ret
    exact ⟨rfl, g1⟩
  have hci : ¬ (1000 : Int) < c.length := by omega
  have k1 := fun w => shared_ok w a b (by unfold big; omega) (by unfold big; omega)
  have k2 := fun w => shared_ok w b a (by unfold big; omega) (by unfold big; omega)
  have k3 := fun w => shared_ok w a c (by unfold big; omega) (by unfold big; omega)
  have k4 := fun w => shared_ok w c b (by unfold big; omega) (by unfold big; omega)
  rw [shareV_comm b a] at k2
  obtain ⟨h1, h2⟩ := shareV_le a b
  have hbt := share_between a b c
  have hP := shareV_take a b
  have hq := @shareV_parts a b
  generalize shareV a b = n at *
  generalize shareV a c = s1 at *
  generalize shareV c b = s2 at *
  have hna : ¬ (a.length : Int) < n := by omega
  have hnb : ¬ (b.length : Int) < n := by omega
  have hta : (bstr a).extract 0 n = bstr (a.take n) := by
    unfold bstr; apply ByteArray.ext; simp [ByteArray.data_extract]
  have htb : (bstr b).extract 0 n = bstr (a.take n) := by
    rw [hP]; unfold bstr; apply ByteArray.ext; simp [ByteArray.data_extract]
  replace hbt := Lib.hid hbt
  generalize a.take n = P at *
  replace hq := Lib.hid hq
  clear hP ha hb hc
  replace k3 := Lib.hid k3
  replace k4 := Lib.hid k4
  go_wp2_with fail
  refine (k1 w1).mono ?_
  rintro e w2 ⟨rfl, g2⟩
  replace g2 := g1.t0 g2
  clear g1 k1 hai hbi hci
  have hn0 : ¬ (n : Int) < 0 := by omega
  have hnn : ((n : Int) != n) = false := by simp
  by_cases hla : n < a.length
  · have hlai : (n : Int) < a.length := by omega
    by_cases hlb : n < b.length
    · have hlbi : (n : Int) < b.length := by omega
      have hne := hq.out hla hlb
      have hbe : ((((bstr a)[n]'(by simpa using hla)).toNat : Int) == (((bstr b)[n]'(by simpa using hlb)).toNat : Int)) = false := by
        have := bstr_ne hla hlb hne
        simpa [bne] using this
      clear hne
      go_wp2_with fail
      refine' region_soft 51 [cst _, cst (.bool false), cst (.bool false), cst _, cst _, cst _, cst (.bool false), cst (.bool false), cst (.bool false), cst _, cst _, cst _, cst (.bool false), cst (.bool false), cst (.bool false), cst _, cst _, cst (.string (bstr P)), cst _, cst _, cst (.string (bstr P)), cst (.bool false), cst (.bool false), cst (.bool false), cst _, cst _, cst _, cst (.bool true), cst (.bool true), cst _, cst _, cst _, cst (.bool true), cst (.bool true), cst (.bool true), cst _, cst _, cst _, cst _, cst _, cst _, cst (.bool false), cst (.bool false), cst (.bool false), cst (.bool false), cst _, cst _, cst _, cst (.int .i64 (n : Nat)), cst (.bool false), cst (.bool false)] rfl (by kernel_rfl) (by kernel_rfl) (stays_cons (Stays.cst _) (stays_cons (Stays.cst _) (stays_cons (Stays.cst _) (stays_cons (Stays.cst _) (stays_cons (Stays.cst _) (stays_cons (Stays.cst _) (stays_cons (Stays.cst _) (stays_cons (Stays.cst _) (stays_cons (Stays.cst _) (stays_cons (Stays.cst _) (stays_cons (Stays.cst _) (stays_cons (Stays.cst _) (stays_cons (Stays.cst _) (stays_cons (Stays.cst _) (stays_cons (Stays.cst _) (stays_cons (Stays.cst _) (stays_cons (Stays.cst _) (stays_cons (Stays.cst _) (stays_cons (Stays.cst _) (stays_cons (Stays.cst _) (stays_cons (Stays.cst _) (stays_cons (Stays.cst _) (stays_cons (Stays.cst _) (stays_cons (Stays.cst _) (stays_cons (Stays.cst _) (stays_cons (Stays.cst _) (stays_cons (Stays.cst _) (stays_cons (Stays.cst _) (stays_cons (Stays.cst _) (stays_cons (Stays.cst _) (stays_cons (Stays.cst _) (stays_cons (Stays.cst _) (stays_cons (Stays.cst _) (stays_cons (Stays.cst _) (stays_cons (Stays.cst _) (stays_cons (Stays.cst _) (stays_cons (Stays.cst _) (stays_cons (Stays.cst _) (stays_cons (Stays.cst _) (stays_cons (Stays.cst _) (stays_cons (Stays.cst _) (stays_cons (Stays.cst _) (stays_cons (Stays.cst _) (stays_cons (Stays.cst _) (stays_cons (Stays.cst _) (stays_cons (Stays.cst _) (stays_cons (Stays.cst _) (stays_cons (Stays.cst _) (stays_cons (Stays.cst _) (stays_cons (Stays.cst _) (stays_cons (Stays.cst _) stays_nil))))))))))))))))))))))))))))))))))))))))))))))))))) _ (fun V => by simp only [putAll, Act.put, List.take_succ_cons, List.take_zero, List.setIfInBounds_toArray, List.set_cons_zero, List.set_cons_succ, Nat.reduceAdd]; exact rfl) ?hs1 ?ht1
      case hs1 =>
        simp only [List.take_succ_cons, List.take_zero]
        refine softs_cons ?_ ?_
        · intro V w hw hd
          simp [phi, Region.binds, cst] at hd
          try simp only [hd]
          first
            | (refine soft_const rfl ?_; go_simp; done)
            | (refine soft_const rfl ?_; go_simp; exact rfl)
            | (refine soft_const rfl ?_; go_simp; simp [hn0, hna, hnb]; done)
            | (refine soft_const rfl ?_; go_simp; omega)
            | (refine soft_const rfl ?_; go_simp; simp; omega)
            | (exact soft_skip rfl)
        refine softs_cons ?_ ?_
        · intro V w hw hd
          simp [phi, Region.binds, cst] at hd
          try simp only [hd]
          first
            | (refine soft_const rfl ?_; go_simp; done)
            | (refine soft_const rfl ?_; go_simp; exact rfl)
            | (refine soft_const rfl ?_; go_simp; simp [hn0, hna, hnb]; done)
            | (refine soft_const rfl ?_; go_simp; omega)
            | (refine soft_const rfl ?_; go_simp; simp; omega)
            | (exact soft_skip rfl)
        refine softs_cons ?_ ?_
        · intro V w hw hd
          simp [phi, Region.binds, cst] at hd
          try simp only [hd]
          first
            | (refine soft_const rfl ?_; go_simp; done)
            | (refine soft_const rfl ?_; go_simp; exact rfl)
            | (refine soft_const rfl ?_; go_simp; simp [hn0, hna, hnb]; done)
            | (refine soft_const rfl ?_; go_simp; omega)
            | (refine soft_const rfl ?_; go_simp; simp; omega)
            | (exact soft_skip rfl)
        refine softs_cons ?_ ?_
        · intro V w hw hd
          simp [phi, Region.binds, cst] at hd
          try simp only [hd]
          first
            | (refine soft_const rfl ?_; go_simp; done)
            | (refine soft_const rfl ?_; go_simp; exact rfl)
            | (refine soft_const rfl ?_; go_simp; simp [hn0, hna, hnb]; done)
            | (refine soft_const rfl ?_; go_simp; omega)
            | (refine soft_const rfl ?_; go_simp; simp; omega)
            | (exact soft_skip rfl)
        refine softs_cons ?_ ?_
        · intro V w hw hd
          simp [phi, Region.binds, cst] at hd
          try simp only [hd]
          first
            | (refine soft_const rfl ?_; go_simp; done)
            | (refine soft_const rfl ?_; go_simp; exact rfl)
            | (refine soft_const rfl ?_; go_simp; simp [hn0, hna, hnb]; done)
            | (refine soft_const rfl ?_; go_simp; omega)
            | (refine soft_const rfl ?_; go_simp; simp; omega)
            | (exact soft_skip rfl)
        refine softs_cons ?_ ?_
        · intro V w hw hd
          simp [phi, Region.binds, cst] at hd
          try simp only [hd]
          first
            | (refine soft_const rfl ?_; go_simp; done)
            | (refine soft_const rfl ?_; go_simp; exact rfl)
            | (refine soft_const rfl ?_; go_simp; simp [hn0, hna, hnb]; done)
            | (refine soft_const rfl ?_; go_simp; omega)
            | (refine soft_const rfl ?_; go_simp; simp; omega)
            | (exact soft_skip rfl)
        refine softs_cons ?_ ?_
        · intro V w hw hd
          simp [phi, Region.binds, cst] at hd
          try simp only [hd]
          first
            | (refine soft_const rfl ?_; go_simp; done)
            | (refine soft_const rfl ?_; go_simp; exact rfl)
            | (refine soft_const rfl ?_; go_simp; simp [hn0, hna, hnb]; done)
            | (refine soft_const rfl ?_; go_simp; omega)
            | (refine soft_const rfl ?_; go_simp; simp; omega)
            | (exact soft_skip rfl)
        refine softs_cons ?_ ?_
        · intro V w hw hd
          simp [phi, Region.binds, cst] at hd
          try simp only [hd]
          first
            | (refine soft_const rfl ?_; go_simp; done)
            | (refine soft_const rfl ?_; go_simp; exact rfl)
            | (refine soft_const rfl ?_; go_simp; simp [hn0, hna, hnb]; done)
            | (refine soft_const rfl ?_; go_simp; omega)
            | (refine soft_const rfl ?_; go_simp; simp; omega)
            | (exact soft_skip rfl)
        refine softs_cons ?_ ?_
        · intro V w hw hd
          simp [phi, Region.binds, cst] at hd
          try simp only [hd]
          first
            | (refine soft_const rfl ?_; go_simp; done)
            | (refine soft_const rfl ?_; go_simp; exact rfl)
            | (refine soft_const rfl ?_; go_simp; simp [hn0, hna, hnb]; done)
            | (refine soft_const rfl ?_; go_simp; omega)
            | (refine soft_const rfl ?_; go_simp; simp; omega)
            | (exact soft_skip rfl)
        refine softs_cons ?_ ?_
        · intro V w hw hd
          simp [phi, Region.binds, cst] at hd
          try simp only [hd]
          first
            | (refine soft_const rfl ?_; go_simp; done)
            | (refine soft_const rfl ?_; go_simp; exact rfl)
            | (refine soft_const rfl ?_; go_simp; simp [hn0, hna, hnb]; done)
            | (refine soft_const rfl ?_; go_simp; omega)
            | (refine soft_const rfl ?_; go_simp; simp; omega)
            | (exact soft_skip rfl)
        refine softs_cons ?_ ?_
        · intro V w hw hd
          simp [phi, Region.binds, cst] at hd
          try simp only [hd]
          first
            | (refine soft_const rfl ?_; go_simp; done)
            | (refine soft_const rfl ?_; go_simp; exact rfl)
            | (refine soft_const rfl ?_; go_simp; simp [hn0, hna, hnb]; done)
            | (refine soft_const rfl ?_; go_simp; omega)
            | (refine soft_const rfl ?_; go_simp; simp; omega)
            | (exact soft_skip rfl)
        refine softs_cons ?_ ?_
        · intro V w hw hd
          simp [phi, Region.binds, cst] at hd
          try simp only [hd]
          first
            | (refine soft_const rfl ?_; go_simp; done)
            | (refine soft_const rfl ?_; go_simp; exact rfl)
            | (refine soft_const rfl ?_; go_simp; simp [hn0, hna, hnb]; done)
            | (refine soft_const rfl ?_; go_simp; omega)
            | (refine soft_const rfl ?_; go_simp; simp; omega)
            | (exact soft_skip rfl)
        refine softs_cons ?_ ?_
        · intro V w hw hd
          simp [phi, Region.binds, cst] at hd
          try simp only [hd]
          first
            | (refine soft_const rfl ?_; go_simp; done)
            | (refine soft_const rfl ?_; go_simp; exact rfl)
            | (refine soft_const rfl ?_; go_simp; simp [hn0, hna, hnb]; done)
            | (refine soft_const rfl ?_; go_simp; omega)
            | (refine soft_const rfl ?_; go_simp; simp; omega)
            | (exact soft_skip rfl)
        refine softs_cons ?_ ?_
        · intro V w hw hd
          simp [phi, Region.binds, cst] at hd
          try simp only [hd]
          first
            | (refine soft_const rfl ?_; go_simp; done)
            | (refine soft_const rfl ?_; go_simp; exact rfl)
            | (refine soft_const rfl ?_; go_simp; simp [hn0, hna, hnb]; done)
            | (refine soft_const rfl ?_; go_simp; omega)
            | (refine soft_const rfl ?_; go_simp; simp; omega)
            | (exact soft_skip rfl)
        refine softs_cons ?_ ?_
        · intro V w hw hd
          simp [phi, Region.binds, cst] at hd
          try simp only [hd]
          first
            | (refine soft_const rfl ?_; go_simp; done)
            | (refine soft_const rfl ?_; go_simp; exact rfl)
            | (refine soft_const rfl ?_; go_simp; simp [hn0, hna, hnb]; done)
            | (refine soft_const rfl ?_; go_simp; omega)
            | (refine soft_const rfl ?_; go_simp; simp; omega)
            | (exact soft_skip rfl)
        refine softs_cons ?_ ?_
        · intro V w hw hd
          simp [phi, Region.binds, cst] at hd
          try simp only [hd]
          first
            | (refine soft_const rfl ?_; go_simp; done)
            | (refine soft_const rfl ?_; go_simp; exact rfl)
            | (refine soft_const rfl ?_; go_simp; simp [hn0, hna, hnb]; done)
            | (refine soft_const rfl ?_; go_simp; omega)
            | (refine soft_const rfl ?_; go_simp; simp; omega)
            | (exact soft_skip rfl)
        refine softs_cons ?_ ?_
        · intro V w hw hd
          simp [phi, Region.binds, cst] at hd
          try simp only [hd]
          first
            | (refine soft_const rfl ?_; go_simp; done)
            | (refine soft_const rfl ?_; go_simp; exact rfl)
            | (refine soft_const rfl ?_; go_simp; simp [hn0, hna, hnb]; done)
            | (refine soft_const rfl ?_; go_simp; omega)
            | (refine soft_const rfl ?_; go_simp; simp; omega)
            | (exact soft_skip rfl)
        refine softs_cons ?_ ?_
        · intro V w hw hd
          simp [phi, Region.binds, cst] at hd
          try simp only [hd]
          refine soft_const rfl ?_
          go_simp
          try simp only [hta]
        refine softs_cons ?_ ?_
        · intro V w hw hd
          simp [phi, Region.binds, cst] at hd
          try simp only [hd]
          first
            | (refine soft_const rfl ?_; go_simp; done)
            | (refine soft_const rfl ?_; go_simp; exact rfl)
            | (refine soft_const rfl ?_; go_simp; simp [hn0, hna, hnb]; done)
            | (refine soft_const rfl ?_; go_simp; omega)
            | (refine soft_const rfl ?_; go_simp; simp; omega)
            | (exact soft_skip rfl)
        refine softs_cons ?_ ?_
        · intro V w hw hd
          simp [phi, Region.binds, cst] at hd
          try simp only [hd]
          first
            | (refine soft_const rfl ?_; go_simp; done)
            | (refine soft_const rfl ?_; go_simp; exact rfl)
            | (refine soft_const rfl ?_; go_simp; simp [hn0, hna, hnb]; done)
            | (refine soft_const rfl ?_; go_simp; omega)
            | (refine soft_const rfl ?_; go_simp; simp; omega)
            | (exact soft_skip rfl)
        refine softs_cons ?_ ?_
        · intro V w hw hd
          simp [phi, Region.binds, cst] at hd
          try simp only [hd]
          refine soft_const rfl ?_
          go_simp
          try simp only [htb]
        refine softs_cons ?_ ?_
        · intro V w hw hd
          simp [phi, Region.binds, cst] at hd
          try simp only [hd]
          first
            | (refine soft_const rfl ?_; go_simp; done)
            | (refine soft_const rfl ?_; go_simp; exact rfl)
            | (refine soft_const rfl ?_; go_simp; simp [hn0, hna, hnb]; done)
            | (refine soft_const rfl ?_; go_simp; omega)
            | (refine soft_const rfl ?_; go_simp; simp; omega)
            | (exact soft_skip rfl)
        refine softs_cons ?_ ?_
        · intro V w hw hd
          simp [phi, Region.binds, cst] at hd
          try simp only [hd]
          first
            | (refine soft_const rfl ?_; go_simp; done)
            | (refine soft_const rfl ?_; go_simp; exact rfl)
            | (refine soft_const rfl ?_; go_simp; simp [hn0, hna, hnb]; done)
            | (refine soft_const rfl ?_; go_simp; omega)
            | (refine soft_const rfl ?_; go_simp; simp; omega)
            | (exact soft_skip rfl)
        refine softs_cons ?_ ?_
        · intro V w hw hd
          simp [phi, Region.binds, cst] at hd
          try simp only [hd]
          first
            | (refine soft_const rfl ?_; go_simp; done)
            | (refine soft_const rfl ?_; go_simp; exact rfl)
            | (refine soft_const rfl ?_; go_simp; simp [hn0, hna, hnb]; done)
            | (refine soft_const rfl ?_; go_simp; omega)
            | (refine soft_const rfl ?_; go_simp; simp; omega)
            | (exact soft_skip rfl)
        refine softs_cons ?_ ?_
        · intro V w hw hd
          simp [phi, Region.binds, cst] at hd
          try simp only [hd]
          first
            | (refine soft_const rfl ?_; go_simp; done)
            | (refine soft_const rfl ?_; go_simp; exact rfl)
            | (refine soft_const rfl ?_; go_simp; simp [hn0, hna, hnb]; done)
            | (refine soft_const rfl ?_; go_simp; omega)
            | (refine soft_const rfl ?_; go_simp; simp; omega)
            | (exact soft_skip rfl)
        refine softs_cons ?_ ?_
        · intro V w hw hd
          simp [phi, Region.binds, cst] at hd
          try simp only [hd]
          first
            | (refine soft_const rfl ?_; go_simp; done)
            | (refine soft_const rfl ?_; go_simp; exact rfl)
            | (refine soft_const rfl ?_; go_simp; simp [hn0, hna, hnb]; done)
            | (refine soft_const rfl ?_; go_simp; omega)
            | (refine soft_const rfl ?_; go_simp; simp; omega)
            | (exact soft_skip rfl)
        refine softs_cons ?_ ?_
        · intro V w hw hd
          simp [phi, Region.binds, cst] at hd
          try simp only [hd]
          first
            | (refine soft_const rfl ?_; go_simp; done)
            | (refine soft_const rfl ?_; go_simp; exact rfl)
            | (refine soft_const rfl ?_; go_simp; simp [hn0, hna, hnb]; done)
            | (refine soft_const rfl ?_; go_simp; omega)
            | (refine soft_const rfl ?_; go_simp; simp; omega)
            | (exact soft_skip rfl)
        refine softs_cons ?_ ?_
        · intro V w hw hd
          simp [phi, Region.binds, cst] at hd
          try simp only [hd]
          first
            | (refine soft_const rfl ?_; go_simp; done)
            | (refine soft_const rfl ?_; go_simp; exact rfl)
            | (refine soft_const rfl ?_; go_simp; simp [hn0, hna, hnb]; done)
            | (refine soft_const rfl ?_; go_simp; omega)
            | (refine soft_const rfl ?_; go_simp; simp; omega)
            | (exact soft_skip rfl)
        refine softs_cons ?_ ?_
        · intro V w hw hd
          simp [phi, Region.binds, cst] at hd
          try simp only [hd]
          first
            | (refine soft_const rfl ?_; go_simp; done)
            | (refine soft_const rfl ?_; go_simp; exact rfl)
            | (refine soft_const rfl ?_; go_simp; simp [hn0, hna, hnb]; done)
            | (refine soft_const rfl ?_; go_simp; omega)
            | (refine soft_const rfl ?_; go_simp; simp; omega)
            | (exact soft_skip rfl)
        refine softs_cons ?_ ?_
        · intro V w hw hd
          simp [phi, Region.binds, cst] at hd
          try simp only [hd]
          first
            | (refine soft_const rfl ?_; go_simp; done)
            | (refine soft_const rfl ?_; go_simp; exact rfl)
            | (refine soft_const rfl ?_; go_simp; simp [hn0, hna, hnb]; done)
            | (refine soft_const rfl ?_; go_simp; omega)
            | (refine soft_const rfl ?_; go_simp; simp; omega)
            | (exact soft_skip rfl)
        refine softs_cons ?_ ?_
        · intro V w hw hd
          simp [phi, Region.binds, cst] at hd
          try simp only [hd]
          first
            | (refine soft_const rfl ?_; go_simp; done)
            | (refine soft_const rfl ?_; go_simp; exact rfl)
            | (refine soft_const rfl ?_; go_simp; simp [hn0, hna, hnb]; done)
            | (refine soft_const rfl ?_; go_simp; omega)
            | (refine soft_const rfl ?_; go_simp; simp; omega)
            | (exact soft_skip rfl)
        refine softs_cons ?_ ?_
        · intro V w hw hd
          simp [phi, Region.binds, cst] at hd
          try simp only [hd]
          first
            | (refine soft_const rfl ?_; go_simp; done)
            | (refine soft_const rfl ?_; go_simp; exact rfl)
            | (refine soft_const rfl ?_; go_simp; simp [hn0, hna, hnb]; done)
            | (refine soft_const rfl ?_; go_simp; omega)
            | (refine soft_const rfl ?_; go_simp; simp; omega)
            | (exact soft_skip rfl)
        refine softs_cons ?_ ?_
        · intro V w hw hd
          simp [phi, Region.binds, cst] at hd
          try simp only [hd]
          first
            | (refine soft_const rfl ?_; go_simp; done)
            | (refine soft_const rfl ?_; go_simp; exact rfl)
            | (refine soft_const rfl ?_; go_simp; simp [hn0, hna, hnb]; done)
            | (refine soft_const rfl ?_; go_simp; omega)
            | (refine soft_const rfl ?_; go_simp; simp; omega)
            | (exact soft_skip rfl)
        refine softs_cons ?_ ?_
        · intro V w hw hd
          simp [phi, Region.binds, cst] at hd
          try simp only [hd]
          first
            | (refine soft_const rfl ?_; go_simp; done)
            | (refine soft_const rfl ?_; go_simp; exact rfl)
            | (refine soft_const rfl ?_; go_simp; simp [hn0, hna, hnb]; done)
            | (refine soft_const rfl ?_; go_simp; omega)
            | (refine soft_const rfl ?_; go_simp; simp; omega)
            | (exact soft_skip rfl)
        refine softs_cons ?_ ?_
        · intro V w hw hd
          simp [phi, Region.binds, cst] at hd
          try simp only [hd]
          first
            | (refine soft_const rfl ?_; go_simp; done)
            | (refine soft_const rfl ?_; go_simp; exact rfl)
            | (refine soft_const rfl ?_; go_simp; simp [hn0, hna, hnb]; done)
            | (refine soft_const rfl ?_; go_simp; omega)
            | (refine soft_const rfl ?_; go_simp; simp; omega)
            | (exact soft_skip rfl)
        refine softs_cons ?_ ?_
        · intro V w hw hd
          simp [phi, Region.binds, cst] at hd
          try simp only [hd]
          first
            | (refine soft_const rfl ?_; go_simp; done)
            | (refine soft_const rfl ?_; go_simp; exact rfl)
            | (refine soft_const rfl ?_; go_simp; simp [hn0, hna, hnb]; done)
            | (refine soft_const rfl ?_; go_simp; omega)
            | (refine soft_const rfl ?_; go_simp; simp; omega)
            | (exact soft_skip rfl)
        refine softs_cons ?_ ?_
        · intro V w hw hd
          simp [phi, Region.binds, cst] at hd
          try simp only [hd]
          first
            | (refine soft_const rfl ?_; go_simp; done)
            | (refine soft_const rfl ?_; go_simp; exact rfl)
            | (refine soft_const rfl ?_; go_simp; simp [hn0, hna, hnb]; done)
            | (refine soft_const rfl ?_; go_simp; omega)
            | (refine soft_const rfl ?_; go_simp; simp; omega)
            | (exact soft_skip rfl)
        refine softs_cons ?_ ?_
        · intro V w hw hd
          simp [phi, Region.binds, cst] at hd
          try simp only [hd]
          first
            | (refine soft_const rfl ?_; go_simp; done)
            | (refine soft_const rfl ?_; go_simp; exact rfl)
            | (refine soft_const rfl ?_; go_simp; simp [hn0, hna, hnb]; done)
            | (refine soft_const rfl ?_; go_simp; omega)
            | (refine soft_const rfl ?_; go_simp; simp; omega)
            | (exact soft_skip rfl)
        refine softs_cons ?_ ?_
        · intro V w hw hd
          simp [phi, Region.binds, cst] at hd
          try simp only [hd]
          first
            | (refine soft_const rfl ?_; go_simp; done)
            | (refine soft_const rfl ?_; go_simp; exact rfl)
            | (refine soft_const rfl ?_; go_simp; simp [hn0, hna, hnb]; done)
            | (refine soft_const rfl ?_; go_simp; omega)
            | (refine soft_const rfl ?_; go_simp; simp; omega)
            | (exact soft_skip rfl)
        refine softs_cons ?_ ?_
        · intro V w hw hd
          simp [phi, Region.binds, cst] at hd
          try simp only [hd]
          first
            | (refine soft_const rfl ?_; go_simp; done)
            | (refine soft_const rfl ?_; go_simp; exact rfl)
            | (refine soft_const rfl ?_; go_simp; simp [hn0, hna, hnb]; done)
            | (refine soft_const rfl ?_; go_simp; omega)
            | (refine soft_const rfl ?_; go_simp; simp; omega)
            | (exact soft_skip rfl)
        refine softs_cons ?_ ?_
        · intro V w hw hd
          simp [phi, Region.binds, cst] at hd
          try simp only [hd]
          first
            | (refine soft_const rfl ?_; go_simp; done)
            | (refine soft_const rfl ?_; go_simp; exact rfl)
            | (refine soft_const rfl ?_; go_simp; simp [hn0, hna, hnb]; done)
            | (refine soft_const rfl ?_; go_simp; omega)
            | (refine soft_const rfl ?_; go_simp; simp; omega)
            | (exact soft_skip rfl)
        refine softs_cons ?_ ?_
        · intro V w hw hd
          simp [phi, Region.binds, cst] at hd
          try simp only [hd]
          first
            | (refine soft_const rfl ?_; go_simp; done)
            | (refine soft_const rfl ?_; go_simp; exact rfl)
            | (refine soft_const rfl ?_; go_simp; simp [hn0, hna, hnb]; done)
            | (refine soft_const rfl ?_; go_simp; omega)
            | (refine soft_const rfl ?_; go_simp; simp; omega)
            | (exact soft_skip rfl)
        refine softs_cons ?_ ?_
        · intro V w hw hd
          simp [phi, Region.binds, cst] at hd
          try simp only [hd]
          first
            | (refine soft_const rfl ?_; go_simp; done)
            | (refine soft_const rfl ?_; go_simp; exact rfl)
            | (refine soft_const rfl ?_; go_simp; simp [hn0, hna, hnb]; done)
            | (refine soft_const rfl ?_; go_simp; omega)
            | (refine soft_const rfl ?_; go_simp; simp; omega)
            | (exact soft_skip rfl)
        refine softs_cons ?_ ?_
        · intro V w hw hd
          simp [phi, Region.binds, cst] at hd
          try simp only [hd]
          first
            | (refine soft_const rfl ?_; go_simp; done)
            | (refine soft_const rfl ?_; go_simp; exact rfl)
            | (refine soft_const rfl ?_; go_simp; simp [hn0, hna, hnb]; done)
            | (refine soft_const rfl ?_; go_simp; omega)
            | (refine soft_const rfl ?_; go_simp; simp; omega)
            | (exact soft_skip rfl)
        refine softs_cons ?_ ?_
        · intro V w hw hd
          simp [phi, Region.binds, cst] at hd
          try simp only [hd]
          first
            | (refine soft_const rfl ?_; go_simp; done)
            | (refine soft_const rfl ?_; go_simp; exact rfl)
            | (refine soft_const rfl ?_; go_simp; simp [hn0, hna, hnb]; done)
            | (refine soft_const rfl ?_; go_simp; omega)
            | (refine soft_const rfl ?_; go_simp; simp; omega)
            | (exact soft_skip rfl)
        refine softs_cons ?_ ?_
        · intro V w hw hd
          simp [phi, Region.binds, cst] at hd
          try simp only [hd]
          first
            | (refine soft_const rfl ?_; go_simp; done)
            | (refine soft_const rfl ?_; go_simp; exact rfl)
            | (refine soft_const rfl ?_; go_simp; simp [hn0, hna, hnb]; done)
            | (refine soft_const rfl ?_; go_simp; omega)
            | (refine soft_const rfl ?_; go_simp; simp; omega)
            | (exact soft_skip rfl)
        refine softs_cons ?_ ?_
        · intro V w hw hd
          simp [phi, Region.binds, cst] at hd
          try simp only [hd]
          first
            | (refine soft_const rfl ?_; go_simp; done)
            | (refine soft_const rfl ?_; go_simp; exact rfl)
            | (refine soft_const rfl ?_; go_simp; simp [hn0, hna, hnb]; done)
            | (refine soft_const rfl ?_; go_simp; omega)
            | (refine soft_const rfl ?_; go_simp; simp; omega)
            | (exact soft_skip rfl)
        refine softs_cons ?_ ?_
        · intro V w hw hd
          simp [phi, Region.binds, cst] at hd
          try simp only [hd]
          first
            | (refine soft_const rfl ?_; go_simp; done)
            | (refine soft_const rfl ?_; go_simp; exact rfl)
            | (refine soft_const rfl ?_; go_simp; simp [hn0, hna, hnb]; done)
            | (refine soft_const rfl ?_; go_simp; omega)
            | (refine soft_const rfl ?_; go_simp; simp; omega)
            | (exact soft_skip rfl)
        refine softs_cons ?_ ?_
        · intro V w hw hd
          simp [phi, Region.binds, cst] at hd
          try simp only [hd]
          refine soft_callC rfl _ _ (by go_simp; try exact ⟨rfl, rfl⟩) (k2 _)
        refine softs_cons ?_ ?_
        · intro V w hw hd
          simp [phi, Region.binds, cst] at hd
          try simp only [hd]
          first
            | (refine soft_const rfl ?_; go_simp; done)
            | (refine soft_const rfl ?_; go_simp; exact rfl)
            | (refine soft_const rfl ?_; go_simp; simp [hn0, hna, hnb]; done)
            | (refine soft_const rfl ?_; go_simp; omega)
            | (refine soft_const rfl ?_; go_simp; simp; omega)
            | (exact soft_skip rfl)
        refine softs_cons ?_ ?_
        · intro V w hw hd
          simp [phi, Region.binds, cst] at hd
          try simp only [hd]
          first
            | (refine soft_const rfl ?_; go_simp; done)
            | (refine soft_const rfl ?_; go_simp; exact rfl)
            | (refine soft_const rfl ?_; go_simp; simp [hn0, hna, hnb]; done)
            | (refine soft_const rfl ?_; go_simp; omega)
            | (refine soft_const rfl ?_; go_simp; simp; omega)
            | (exact soft_skip rfl)
        exact softs_nil
      intro V w3 g3 hk
      have h50 := hk 50 (by decide)
      simp [phi, cst] at h50
      simp only [h50, List.drop_succ_cons, List.drop_zero]
      clear hk h50
      clear k2 hta htb
      have g3 := g2.t0 g3
      cases hle : leT a c
      · have hA : Op.bytesLess a c = false ∧ (a == c) = false := by unfold leT at hle; simpa using hle
        obtain ⟨hA1, hA2⟩ := hA
        replace hA2 : ¬ a = c := by simpa using hA2
        clear hle
        go_wp2
        go_ret
        exact ⟨by simp, g3⟩
      have hA : Op.bytesLess a c = true ∨ a = c := by unfold leT at hle; simpa using hle
      cases hle2 : leT c b
      · have hB : Op.bytesLess c b = false ∧ (c == b) = false := by unfold leT at hle2; simpa using hle2
        obtain ⟨hB1, hB2⟩ := hB
        replace hB2 : ¬ c = b := by simpa using hB2
        clear hle hle2
        go_wp2
        go_ret
        exact ⟨by simp, g3⟩
      have hB : Op.bytesLess c b = true ∨ c = b := by unfold leT at hle2; simpa using hle2
      obtain ⟨t1, t2⟩ := hbt.out hle hle2
      have t1i : (n : Int) ≤ s1 := by omega
      have t2i : (n : Int) ≤ s2 := by omega
      clear hle hle2
      go_wp2_with fail
      refine (k3.out w3).mono ?_
      rintro e w4 ⟨rfl, g4⟩
      go_wp2_with fail
      refine (k4.out w4).mono ?_
      rintro e w5 ⟨rfl, g5⟩
      go_wp2
      go_ret
      exact ⟨by simp, (g3.t0 g4).t0 g5⟩
    · have hlbi : ¬ (n : Int) < b.length := by omega
      go_wp2_with fail
      refine' region_soft 51 [cst _, cst (.bool false), cst (.bool false), cst _, cst _, cst _, cst (.bool false), cst (.bool false), cst (.bool false), cst _, cst _, cst _, cst (.bool false), cst (.bool false), cst (.bool false), cst _, cst _, cst (.string (bstr P)), cst _, cst _, cst (.string (bstr P)), cst (.bool false), cst (.bool false), cst (.bool false), cst _, cst _, cst _, cst (.bool true), cst (.bool true), cst _, cst _, cst _, cst (.bool false), cst (.bool false), cst (.bool false), cst undef, cst undef, cst undef, cst undef, cst undef, cst undef, cst undef, cst (.bool false), cst (.bool false), cst (.bool false), cst _, cst _, cst _, cst (.int .i64 (n : Nat)), cst (.bool false), cst (.bool false)] rfl (by kernel_rfl) (by kernel_rfl) (stays_cons (Stays.cst _) (stays_cons (Stays.cst _) (stays_cons (Stays.cst _) (stays_cons (Stays.cst _) (stays_cons (Stays.cst _) (stays_cons (Stays.cst _) (stays_cons (Stays.cst _) (stays_cons (Stays.cst _) (stays_cons (Stays.cst _) (stays_cons (Stays.cst _) (stays_cons (Stays.cst _) (stays_cons (Stays.cst _) (stays_cons (Stays.cst _) (stays_cons (Stays.cst _) (stays_cons (Stays.cst _) (stays_cons (Stays.cst _) (stays_cons (Stays.cst _) (stays_cons (Stays.cst _) (stays_cons (Stays.cst _) (stays_cons (Stays.cst _) (stays_cons (Stays.cst _) (stays_cons (Stays.cst _) (stays_cons (Stays.cst _) (stays_cons (Stays.cst _) (stays_cons (Stays.cst _) (stays_cons (Stays.cst _) (stays_cons (Stays.cst _) (stays_cons (Stays.cst _) (stays_cons (Stays.cst _) (stays_cons (Stays.cst _) (stays_cons (Stays.cst _) (stays_cons (Stays.cst _) (stays_cons (Stays.cst _) (stays_cons (Stays.cst _) (stays_cons (Stays.cst _) (stays_cons (Stays.cst _) (stays_cons (Stays.cst _) (stays_cons (Stays.cst _) (stays_cons (Stays.cst _) (stays_cons (Stays.cst _) (stays_cons (Stays.cst _) (stays_cons (Stays.cst _) (stays_cons (Stays.cst _) (stays_cons (Stays.cst _) (stays_cons (Stays.cst _) (stays_cons (Stays.cst _) (stays_cons (Stays.cst _) (stays_cons (Stays.cst _) (stays_cons (Stays.cst _) (stays_cons (Stays.cst _) (stays_cons (Stays.cst _) stays_nil))))))))))))))))))))))))))))))))))))))))))))))))))) _ (fun V => by simp only [putAll, Act.put, List.take_succ_cons, List.take_zero, List.setIfInBounds_toArray, List.set_cons_zero, List.set_cons_succ, Nat.reduceAdd]; exact rfl) ?hs2 ?ht2
      case hs2 =>
        simp only [List.take_succ_cons, List.take_zero]
        refine softs_cons ?_ ?_
        · intro V w hw hd
          simp [phi, Region.binds, cst] at hd
          try simp only [hd]
          first
            | (refine soft_const rfl ?_; go_simp; done)
            | (refine soft_const rfl ?_; go_simp; exact rfl)
            | (refine soft_const rfl ?_; go_simp; simp [hn0, hna, hnb]; done)
            | (refine soft_const rfl ?_; go_simp; omega)
            | (refine soft_const rfl ?_; go_simp; simp; omega)
            | (exact soft_skip rfl)
        refine softs_cons ?_ ?_
        · intro V w hw hd
          simp [phi, Region.binds, cst] at hd
          try simp only [hd]
          first
            | (refine soft_const rfl ?_; go_simp; done)
            | (refine soft_const rfl ?_; go_simp; exact rfl)
            | (refine soft_const rfl ?_; go_simp; simp [hn0, hna, hnb]; done)
            | (refine soft_const rfl ?_; go_simp; omega)
            | (refine soft_const rfl ?_; go_simp; simp; omega)
            | (exact soft_skip rfl)
        refine softs_cons ?_ ?_
        · intro V w hw hd
          simp [phi, Region.binds, cst] at hd
          try simp only [hd]
          first
            | (refine soft_const rfl ?_; go_simp; done)
            | (refine soft_const rfl ?_; go_simp; exact rfl)
            | (refine soft_const rfl ?_; go_simp; simp [hn0, hna, hnb]; done)
            | (refine soft_const rfl ?_; go_simp; omega)
            | (refine soft_const rfl ?_; go_simp; simp; omega)
            | (exact soft_skip rfl)
        refine softs_cons ?_ ?_
        · intro V w hw hd
          simp [phi, Region.binds, cst] at hd
          try simp only [hd]
          first
            | (refine soft_const rfl ?_; go_simp; done)
            | (refine soft_const rfl ?_; go_simp; exact rfl)
            | (refine soft_const rfl ?_; go_simp; simp [hn0, hna, hnb]; done)
            | (refine soft_const rfl ?_; go_simp; omega)
            | (refine soft_const rfl ?_; go_simp; simp; omega)
            | (exact soft_skip rfl)
        refine softs_cons ?_ ?_
        · intro V w hw hd
          simp [phi, Region.binds, cst] at hd
          try simp only [hd]
          first
            | (refine soft_const rfl ?_; go_simp; done)
            | (refine soft_const rfl ?_; go_simp; exact rfl)
            | (refine soft_const rfl ?_; go_simp; simp [hn0, hna, hnb]; done)
            | (refine soft_const rfl ?_; go_simp; omega)
            | (refine soft_const rfl ?_; go_simp; simp; omega)
            | (exact soft_skip rfl)
        refine softs_cons ?_ ?_
        · intro V w hw hd
          simp [phi, Region.binds, cst] at hd
          try simp only [hd]
          first
            | (refine soft_const rfl ?_; go_simp; done)
            | (refine soft_const rfl ?_; go_simp; exact rfl)
            | (refine soft_const rfl ?_; go_simp; simp [hn0, hna, hnb]; done)
            | (refine soft_const rfl ?_; go_simp; omega)
            | (refine soft_const rfl ?_; go_simp; simp; omega)
            | (exact soft_skip rfl)
        refine softs_cons ?_ ?_
        · intro V w hw hd
          simp [phi, Region.binds, cst] at hd
          try simp only [hd]
          first
            | (refine soft_const rfl ?_; go_simp; done)
            | (refine soft_const rfl ?_; go_simp; exact rfl)
            | (refine soft_const rfl ?_; go_simp; simp [hn0, hna, hnb]; done)
            | (refine soft_const rfl ?_; go_simp; omega)
            | (refine soft_const rfl ?_; go_simp; simp; omega)
            | (exact soft_skip rfl)
        refine softs_cons ?_ ?_
        · intro V w hw hd
          simp [phi, Region.binds, cst] at hd
          try simp only [hd]
          first
            | (refine soft_const rfl ?_; go_simp; done)
            | (refine soft_const rfl ?_; go_simp; exact rfl)
            | (refine soft_const rfl ?_; go_simp; simp [hn0, hna, hnb]; done)
            | (refine soft_const rfl ?_; go_simp; omega)
            | (refine soft_const rfl ?_; go_simp; simp; omega)
            | (exact soft_skip rfl)
        refine softs_cons ?_ ?_
        · intro V w hw hd
          simp [phi, Region.binds, cst] at hd
          try simp only [hd]
          first
            | (refine soft_const rfl ?_; go_simp; done)
            | (refine soft_const rfl ?_; go_simp; exact rfl)
            | (refine soft_const rfl ?_; go_simp; simp [hn0, hna, hnb]; done)
            | (refine soft_const rfl ?_; go_simp; omega)
            | (refine soft_const rfl ?_; go_simp; simp; omega)
            | (exact soft_skip rfl)
        refine softs_cons ?_ ?_
        · intro V w hw hd
          simp [phi, Region.binds, cst] at hd
          try simp only [hd]
          first
            | (refine soft_const rfl ?_; go_simp; done)
            | (refine soft_const rfl ?_; go_simp; exact rfl)
            | (refine soft_const rfl ?_; go_simp; simp [hn0, hna, hnb]; done)
            | (refine soft_const rfl ?_; go_simp; omega)
            | (refine soft_const rfl ?_; go_simp; simp; omega)
            | (exact soft_skip rfl)
        refine softs_cons ?_ ?_
        · intro V w hw hd
          simp [phi, Region.binds, cst] at hd
          try simp only [hd]
          first
            | (refine soft_const rfl ?_; go_simp; done)
            | (refine soft_const rfl ?_; go_simp; exact rfl)
            | (refine soft_const rfl ?_; go_simp; simp [hn0, hna, hnb]; done)
            | (refine soft_const rfl ?_; go_simp; omega)
            | (refine soft_const rfl ?_; go_simp; simp; omega)
            | (exact soft_skip rfl)
        refine softs_cons ?_ ?_
        · intro V w hw hd
          simp [phi, Region.binds, cst] at hd
          try simp only [hd]
          first
            | (refine soft_const rfl ?_; go_simp; done)
            | (refine soft_const rfl ?_; go_simp; exact rfl)
            | (refine soft_const rfl ?_; go_simp; simp [hn0, hna, hnb]; done)
            | (refine soft_const rfl ?_; go_simp; omega)
            | (refine soft_const rfl ?_; go_simp; simp; omega)
            | (exact soft_skip rfl)
        refine softs_cons ?_ ?_
        · intro V w hw hd
          simp [phi, Region.binds, cst] at hd
          try simp only [hd]
          first
            | (refine soft_const rfl ?_; go_simp; done)
            | (refine soft_const rfl ?_; go_simp; exact rfl)
            | (refine soft_const rfl ?_; go_simp; simp [hn0, hna, hnb]; done)
            | (refine soft_const rfl ?_; go_simp; omega)
            | (refine soft_const rfl ?_; go_simp; simp; omega)
            | (exact soft_skip rfl)
        refine softs_cons ?_ ?_
        · intro V w hw hd
          simp [phi, Region.binds, cst] at hd
          try simp only [hd]
          first
            | (refine soft_const rfl ?_; go_simp; done)
            | (refine soft_const rfl ?_; go_simp; exact rfl)
            | (refine soft_const rfl ?_; go_simp; simp [hn0, hna, hnb]; done)
            | (refine soft_const rfl ?_; go_simp; omega)
            | (refine soft_const rfl ?_; go_simp; simp; omega)
            | (exact soft_skip rfl)
        refine softs_cons ?_ ?_
        · intro V w hw hd
          simp [phi, Region.binds, cst] at hd
          try simp only [hd]
          first
            | (refine soft_const rfl ?_; go_simp; done)
            | (refine soft_const rfl ?_; go_simp; exact rfl)
            | (refine soft_const rfl ?_; go_simp; simp [hn0, hna, hnb]; done)
            | (refine soft_const rfl ?_; go_simp; omega)
            | (refine soft_const rfl ?_; go_simp; simp; omega)
            | (exact soft_skip rfl)
        refine softs_cons ?_ ?_
        · intro V w hw hd
          simp [phi, Region.binds, cst] at hd
          try simp only [hd]
          first
            | (refine soft_const rfl ?_; go_simp; done)
            | (refine soft_const rfl ?_; go_simp; exact rfl)
            | (refine soft_const rfl ?_; go_simp; simp [hn0, hna, hnb]; done)
            | (refine soft_const rfl ?_; go_simp; omega)
            | (refine soft_const rfl ?_; go_simp; simp; omega)
            | (exact soft_skip rfl)
        refine softs_cons ?_ ?_
        · intro V w hw hd
          simp [phi, Region.binds, cst] at hd
          try simp only [hd]
          first
            | (refine soft_const rfl ?_; go_simp; done)
            | (refine soft_const rfl ?_; go_simp; exact rfl)
            | (refine soft_const rfl ?_; go_simp; simp [hn0, hna, hnb]; done)
            | (refine soft_const rfl ?_; go_simp; omega)
            | (refine soft_const rfl ?_; go_simp; simp; omega)
            | (exact soft_skip rfl)
        refine softs_cons ?_ ?_
        · intro V w hw hd
          simp [phi, Region.binds, cst] at hd
          try simp only [hd]
          refine soft_const rfl ?_
          go_simp
          try simp only [hta]
        refine softs_cons ?_ ?_
        · intro V w hw hd
          simp [phi, Region.binds, cst] at hd
          try simp only [hd]
          first
            | (refine soft_const rfl ?_; go_simp; done)
            | (refine soft_const rfl ?_; go_simp; exact rfl)
            | (refine soft_const rfl ?_; go_simp; simp [hn0, hna, hnb]; done)
            | (refine soft_const rfl ?_; go_simp; omega)
            | (refine soft_const rfl ?_; go_simp; simp; omega)
            | (exact soft_skip rfl)
        refine softs_cons ?_ ?_
        · intro V w hw hd
          simp [phi, Region.binds, cst] at hd
          try simp only [hd]
          first
            | (refine soft_const rfl ?_; go_simp; done)
            | (refine soft_const rfl ?_; go_simp; exact rfl)
            | (refine soft_const rfl ?_; go_simp; simp [hn0, hna, hnb]; done)
            | (refine soft_const rfl ?_; go_simp; omega)
            | (refine soft_const rfl ?_; go_simp; simp; omega)
            | (exact soft_skip rfl)
        refine softs_cons ?_ ?_
        · intro V w hw hd
          simp [phi, Region.binds, cst] at hd
          try simp only [hd]
          refine soft_const rfl ?_
          go_simp
          try simp only [htb]
        refine softs_cons ?_ ?_
        · intro V w hw hd
          simp [phi, Region.binds, cst] at hd
          try simp only [hd]
          first
            | (refine soft_const rfl ?_; go_simp; done)
            | (refine soft_const rfl ?_; go_simp; exact rfl)
            | (refine soft_const rfl ?_; go_simp; simp [hn0, hna, hnb]; done)
            | (refine soft_const rfl ?_; go_simp; omega)
            | (refine soft_const rfl ?_; go_simp; simp; omega)
            | (exact soft_skip rfl)
        refine softs_cons ?_ ?_
        · intro V w hw hd
          simp [phi, Region.binds, cst] at hd
          try simp only [hd]
          first
            | (refine soft_const rfl ?_; go_simp; done)
            | (refine soft_const rfl ?_; go_simp; exact rfl)
            | (refine soft_const rfl ?_; go_simp; simp [hn0, hna, hnb]; done)
            | (refine soft_const rfl ?_; go_simp; omega)
            | (refine soft_const rfl ?_; go_simp; simp; omega)
            | (exact soft_skip rfl)
        refine softs_cons ?_ ?_
        · intro V w hw hd
          simp [phi, Region.binds, cst] at hd
          try simp only [hd]
          first
            | (refine soft_const rfl ?_; go_simp; done)
            | (refine soft_const rfl ?_; go_simp; exact rfl)
            | (refine soft_const rfl ?_; go_simp; simp [hn0, hna, hnb]; done)
            | (refine soft_const rfl ?_; go_simp; omega)
            | (refine soft_const rfl ?_; go_simp; simp; omega)
            | (exact soft_skip rfl)
        refine softs_cons ?_ ?_
        · intro V w hw hd
          simp [phi, Region.binds, cst] at hd
          try simp only [hd]
          first
            | (refine soft_const rfl ?_; go_simp; done)
            | (refine soft_const rfl ?_; go_simp; exact rfl)
            | (refine soft_const rfl ?_; go_simp; simp [hn0, hna, hnb]; done)
            | (refine soft_const rfl ?_; go_simp; omega)
            | (refine soft_const rfl ?_; go_simp; simp; omega)
            | (exact soft_skip rfl)
        refine softs_cons ?_ ?_
        · intro V w hw hd
          simp [phi, Region.binds, cst] at hd
          try simp only [hd]
          first
            | (refine soft_const rfl ?_; go_simp; done)
            | (refine soft_const rfl ?_; go_simp; exact rfl)
            | (refine soft_const rfl ?_; go_simp; simp [hn0, hna, hnb]; done)
            | (refine soft_const rfl ?_; go_simp; omega)
            | (refine soft_const rfl ?_; go_simp; simp; omega)
            | (exact soft_skip rfl)
        refine softs_cons ?_ ?_
        · intro V w hw hd
          simp [phi, Region.binds, cst] at hd
          try simp only [hd]
          first
            | (refine soft_const rfl ?_; go_simp; done)
            | (refine soft_const rfl ?_; go_simp; exact rfl)
            | (refine soft_const rfl ?_; go_simp; simp [hn0, hna, hnb]; done)
            | (refine soft_const rfl ?_; go_simp; omega)
            | (refine soft_const rfl ?_; go_simp; simp; omega)
            | (exact soft_skip rfl)
        refine softs_cons ?_ ?_
        · intro V w hw hd
          simp [phi, Region.binds, cst] at hd
          try simp only [hd]
          first
            | (refine soft_const rfl ?_; go_simp; done)
            | (refine soft_const rfl ?_; go_simp; exact rfl)
            | (refine soft_const rfl ?_; go_simp; simp [hn0, hna, hnb]; done)
            | (refine soft_const rfl ?_; go_simp; omega)
            | (refine soft_const rfl ?_; go_simp; simp; omega)
            | (exact soft_skip rfl)
        refine softs_cons ?_ ?_
        · intro V w hw hd
          simp [phi, Region.binds, cst] at hd
          try simp only [hd]
          first
            | (refine soft_const rfl ?_; go_simp; done)
            | (refine soft_const rfl ?_; go_simp; exact rfl)
            | (refine soft_const rfl ?_; go_simp; simp [hn0, hna, hnb]; done)
            | (refine soft_const rfl ?_; go_simp; omega)
            | (refine soft_const rfl ?_; go_simp; simp; omega)
            | (exact soft_skip rfl)
        refine softs_cons ?_ ?_
        · intro V w hw hd
          simp [phi, Region.binds, cst] at hd
          try simp only [hd]
          first
            | (refine soft_const rfl ?_; go_simp; done)
            | (refine soft_const rfl ?_; go_simp; exact rfl)
            | (refine soft_const rfl ?_; go_simp; simp [hn0, hna, hnb]; done)
            | (refine soft_const rfl ?_; go_simp; omega)
            | (refine soft_const rfl ?_; go_simp; simp; omega)
            | (exact soft_skip rfl)
        refine softs_cons ?_ ?_
        · intro V w hw hd
          simp [phi, Region.binds, cst] at hd
          try simp only [hd]
          first
            | (refine soft_const rfl ?_; go_simp; done)
            | (refine soft_const rfl ?_; go_simp; exact rfl)
            | (refine soft_const rfl ?_; go_simp; simp [hn0, hna, hnb]; done)
            | (refine soft_const rfl ?_; go_simp; omega)
            | (refine soft_const rfl ?_; go_simp; simp; omega)
            | (exact soft_skip rfl)
        refine softs_cons ?_ ?_
        · intro V w hw hd
          simp [phi, Region.binds, cst] at hd
          try simp only [hd]
          first
            | (refine soft_const rfl ?_; go_simp; done)
            | (refine soft_const rfl ?_; go_simp; exact rfl)
            | (refine soft_const rfl ?_; go_simp; simp [hn0, hna, hnb]; done)
            | (refine soft_const rfl ?_; go_simp; omega)
            | (refine soft_const rfl ?_; go_simp; simp; omega)
            | (exact soft_skip rfl)
        refine softs_cons ?_ ?_
        · intro V w hw hd
          simp [phi, Region.binds, cst] at hd
          try simp only [hd]
          first
            | (refine soft_const rfl ?_; go_simp; done)
            | (refine soft_const rfl ?_; go_simp; exact rfl)
            | (refine soft_const rfl ?_; go_simp; simp [hn0, hna, hnb]; done)
            | (refine soft_const rfl ?_; go_simp; omega)
            | (refine soft_const rfl ?_; go_simp; simp; omega)
            | (exact soft_skip rfl)
        refine softs_cons ?_ ?_
        · intro V w hw hd
          simp [phi, Region.binds, cst] at hd
          try simp only [hd]
          first
            | (refine soft_const rfl ?_; go_simp; done)
            | (refine soft_const rfl ?_; go_simp; exact rfl)
            | (refine soft_const rfl ?_; go_simp; simp [hn0, hna, hnb]; done)
            | (refine soft_const rfl ?_; go_simp; omega)
            | (refine soft_const rfl ?_; go_simp; simp; omega)
            | (exact soft_skip rfl)
        refine softs_cons ?_ ?_
        · intro V w hw hd
          simp [phi, Region.binds, cst] at hd
          try simp only [hd]
          first
            | (refine soft_const rfl ?_; go_simp; done)
            | (refine soft_const rfl ?_; go_simp; exact rfl)
            | (refine soft_const rfl ?_; go_simp; simp [hn0, hna, hnb]; done)
            | (refine soft_const rfl ?_; go_simp; omega)
            | (refine soft_const rfl ?_; go_simp; simp; omega)
            | (exact soft_skip rfl)
        refine softs_cons ?_ ?_
        · intro V w hw hd
          simp [phi, Region.binds, cst] at hd
          try simp only [hd]
          first
            | (refine soft_const rfl ?_; go_simp; done)
            | (refine soft_const rfl ?_; go_simp; exact rfl)
            | (refine soft_const rfl ?_; go_simp; simp [hn0, hna, hnb]; done)
            | (refine soft_const rfl ?_; go_simp; omega)
            | (refine soft_const rfl ?_; go_simp; simp; omega)
            | (exact soft_skip rfl)
        refine softs_cons ?_ ?_
        · intro V w hw hd
          simp [phi, Region.binds, cst] at hd
          try simp only [hd]
          first
            | (refine soft_const rfl ?_; go_simp; done)
            | (refine soft_const rfl ?_; go_simp; exact rfl)
            | (refine soft_const rfl ?_; go_simp; simp [hn0, hna, hnb]; done)
            | (refine soft_const rfl ?_; go_simp; omega)
            | (refine soft_const rfl ?_; go_simp; simp; omega)
            | (exact soft_skip rfl)
        refine softs_cons ?_ ?_
        · intro V w hw hd
          simp [phi, Region.binds, cst] at hd
          try simp only [hd]
          first
            | (refine soft_const rfl ?_; go_simp; done)
            | (refine soft_const rfl ?_; go_simp; exact rfl)
            | (refine soft_const rfl ?_; go_simp; simp [hn0, hna, hnb]; done)
            | (refine soft_const rfl ?_; go_simp; omega)
            | (refine soft_const rfl ?_; go_simp; simp; omega)
            | (exact soft_skip rfl)
        refine softs_cons ?_ ?_
        · intro V w hw hd
          simp [phi, Region.binds, cst] at hd
          try simp only [hd]
          first
            | (refine soft_const rfl ?_; go_simp; done)
            | (refine soft_const rfl ?_; go_simp; exact rfl)
            | (refine soft_const rfl ?_; go_simp; simp [hn0, hna, hnb]; done)
            | (refine soft_const rfl ?_; go_simp; omega)
            | (refine soft_const rfl ?_; go_simp; simp; omega)
            | (exact soft_skip rfl)
        refine softs_cons ?_ ?_
        · intro V w hw hd
          simp [phi, Region.binds, cst] at hd
          try simp only [hd]
          first
            | (refine soft_const rfl ?_; go_simp; done)
            | (refine soft_const rfl ?_; go_simp; exact rfl)
            | (refine soft_const rfl ?_; go_simp; simp [hn0, hna, hnb]; done)
            | (refine soft_const rfl ?_; go_simp; omega)
            | (refine soft_const rfl ?_; go_simp; simp; omega)
            | (exact soft_skip rfl)
        refine softs_cons ?_ ?_
        · intro V w hw hd
          simp [phi, Region.binds, cst] at hd
          try simp only [hd]
          first
            | (refine soft_const rfl ?_; go_simp; done)
            | (refine soft_const rfl ?_; go_simp; exact rfl)
            | (refine soft_const rfl ?_; go_simp; simp [hn0, hna, hnb]; done)
            | (refine soft_const rfl ?_; go_simp; omega)
            | (refine soft_const rfl ?_; go_simp; simp; omega)
            | (exact soft_skip rfl)
        refine softs_cons ?_ ?_
        · intro V w hw hd
          simp [phi, Region.binds, cst] at hd
          try simp only [hd]
          first
            | (refine soft_const rfl ?_; go_simp; done)
            | (refine soft_const rfl ?_; go_simp; exact rfl)
            | (refine soft_const rfl ?_; go_simp; simp [hn0, hna, hnb]; done)
            | (refine soft_const rfl ?_; go_simp; omega)
            | (refine soft_const rfl ?_; go_simp; simp; omega)
            | (exact soft_skip rfl)
        refine softs_cons ?_ ?_
        · intro V w hw hd
          simp [phi, Region.binds, cst] at hd
          try simp only [hd]
          first
            | (refine soft_const rfl ?_; go_simp; done)
            | (refine soft_const rfl ?_; go_simp; exact rfl)
            | (refine soft_const rfl ?_; go_simp; simp [hn0, hna, hnb]; done)
            | (refine soft_const rfl ?_; go_simp; omega)
            | (refine soft_const rfl ?_; go_simp; simp; omega)
            | (exact soft_skip rfl)
        refine softs_cons ?_ ?_
        · intro V w hw hd
          simp [phi, Region.binds, cst] at hd
          try simp only [hd]
          first
            | (refine soft_const rfl ?_; go_simp; done)
            | (refine soft_const rfl ?_; go_simp; exact rfl)
            | (refine soft_const rfl ?_; go_simp; simp [hn0, hna, hnb]; done)
            | (refine soft_const rfl ?_; go_simp; omega)
            | (refine soft_const rfl ?_; go_simp; simp; omega)
            | (exact soft_skip rfl)
        refine softs_cons ?_ ?_
        · intro V w hw hd
          simp [phi, Region.binds, cst] at hd
          try simp only [hd]
          first
            | (refine soft_const rfl ?_; go_simp; done)
            | (refine soft_const rfl ?_; go_simp; exact rfl)
            | (refine soft_const rfl ?_; go_simp; simp [hn0, hna, hnb]; done)
            | (refine soft_const rfl ?_; go_simp; omega)
            | (refine soft_const rfl ?_; go_simp; simp; omega)
            | (exact soft_skip rfl)
        refine softs_cons ?_ ?_
        · intro V w hw hd
          simp [phi, Region.binds, cst] at hd
          try simp only [hd]
          first
            | (refine soft_const rfl ?_; go_simp; done)
            | (refine soft_const rfl ?_; go_simp; exact rfl)
            | (refine soft_const rfl ?_; go_simp; simp [hn0, hna, hnb]; done)
            | (refine soft_const rfl ?_; go_simp; omega)
            | (refine soft_const rfl ?_; go_simp; simp; omega)
            | (exact soft_skip rfl)
        refine softs_cons ?_ ?_
        · intro V w hw hd
          simp [phi, Region.binds, cst] at hd
          try simp only [hd]
          first
            | (refine soft_const rfl ?_; go_simp; done)
            | (refine soft_const rfl ?_; go_simp; exact rfl)
            | (refine soft_const rfl ?_; go_simp; simp [hn0, hna, hnb]; done)
            | (refine soft_const rfl ?_; go_simp; omega)
            | (refine soft_const rfl ?_; go_simp; simp; omega)
            | (exact soft_skip rfl)
        refine softs_cons ?_ ?_
        · intro V w hw hd
          simp [phi, Region.binds, cst] at hd
          try simp only [hd]
          first
            | (refine soft_const rfl ?_; go_simp; done)
            | (refine soft_const rfl ?_; go_simp; exact rfl)
            | (refine soft_const rfl ?_; go_simp; simp [hn0, hna, hnb]; done)
            | (refine soft_const rfl ?_; go_simp; omega)
            | (refine soft_const rfl ?_; go_simp; simp; omega)
            | (exact soft_skip rfl)
        refine softs_cons ?_ ?_
        · intro V w hw hd
          simp [phi, Region.binds, cst] at hd
          try simp only [hd]
          refine soft_callC rfl _ _ (by go_simp; try exact ⟨rfl, rfl⟩) (k2 _)
        refine softs_cons ?_ ?_
        · intro V w hw hd
          simp [phi, Region.binds, cst] at hd
          try simp only [hd]
          first
            | (refine soft_const rfl ?_; go_simp; done)
            | (refine soft_const rfl ?_; go_simp; exact rfl)
            | (refine soft_const rfl ?_; go_simp; simp [hn0, hna, hnb]; done)
            | (refine soft_const rfl ?_; go_simp; omega)
            | (refine soft_const rfl ?_; go_simp; simp; omega)
            | (exact soft_skip rfl)
        refine softs_cons ?_ ?_
        · intro V w hw hd
          simp [phi, Region.binds, cst] at hd
          try simp only [hd]
          first
            | (refine soft_const rfl ?_; go_simp; done)
            | (refine soft_const rfl ?_; go_simp; exact rfl)
            | (refine soft_const rfl ?_; go_simp; simp [hn0, hna, hnb]; done)
            | (refine soft_const rfl ?_; go_simp; omega)
            | (refine soft_const rfl ?_; go_simp; simp; omega)
            | (exact soft_skip rfl)
        exact softs_nil
      intro V w3 g3 hk
      have h50 := hk 50 (by decide)
      simp [phi, cst] at h50
      simp only [h50, List.drop_succ_cons, List.drop_zero]
      clear hk h50
      clear k2 hta htb
      have g3 := g2.t0 g3
      cases hle : leT a c
      · have hA : Op.bytesLess a c = false ∧ (a == c) = false := by unfold leT at hle; simpa using hle
        obtain ⟨hA1, hA2⟩ := hA
        replace hA2 : ¬ a = c := by simpa using hA2
        clear hle
        go_wp2
        go_ret
        exact ⟨by simp, g3⟩
      have hA : Op.bytesLess a c = true ∨ a = c := by unfold leT at hle; simpa using hle
      cases hle2 : leT c b
      · have hB : Op.bytesLess c b = false ∧ (c == b) = false := by unfold leT at hle2; simpa using hle2
        obtain ⟨hB1, hB2⟩ := hB
        replace hB2 : ¬ c = b := by simpa using hB2
        clear hle hle2
        go_wp2
        go_ret
        exact ⟨by simp, g3⟩
      have hB : Op.bytesLess c b = true ∨ c = b := by unfold leT at hle2; simpa using hle2
      obtain ⟨t1, t2⟩ := hbt.out hle hle2
      have t1i : (n : Int) ≤ s1 := by omega
      have t2i : (n : Int) ≤ s2 := by omega
      clear hle hle2
      go_wp2_with fail
      refine (k3.out w3).mono ?_
      rintro e w4 ⟨rfl, g4⟩
      go_wp2_with fail
      refine (k4.out w4).mono ?_
      rintro e w5 ⟨rfl, g5⟩
      go_wp2
      go_ret
      exact ⟨by simp, (g3.t0 g4).t0 g5⟩
  · have hlai : ¬ (n : Int) < a.length := by omega
    go_wp2_with fail
    refine' region_soft 51 [cst _, cst (.bool false), cst (.bool false), cst _, cst _, cst _, cst (.bool false), cst (.bool false), cst (.bool false), cst _, cst _, cst _, cst (.bool false), cst (.bool false), cst (.bool false), cst _, cst _, cst (.string (bstr P)), cst _, cst _, cst (.string (bstr P)), cst (.bool false), cst (.bool false), cst (.bool false), cst _, cst _, cst _, cst (.bool false), cst (.bool false), cst undef, cst undef, cst undef, cst undef, cst (.bool false), cst (.bool false), cst undef, cst undef, cst undef, cst undef, cst undef, cst undef, cst undef, cst (.bool false), cst (.bool false), cst (.bool false), cst _, cst _, cst _, cst (.int .i64 (n : Nat)), cst (.bool false), cst (.bool false)] rfl (by kernel_rfl) (by kernel_rfl) (stays_cons (Stays.cst _) (stays_cons (Stays.cst _) (stays_cons (Stays.cst _) (stays_cons (Stays.cst _) (stays_cons (Stays.cst _) (stays_cons (Stays.cst _) (stays_cons (Stays.cst _) (stays_cons (Stays.cst _) (stays_cons (Stays.cst _) (stays_cons (Stays.cst _) (stays_cons (Stays.cst _) (stays_cons (Stays.cst _) (stays_cons (Stays.cst _) (stays_cons (Stays.cst _) (stays_cons (Stays.cst _) (stays_cons (Stays.cst _) (stays_cons (Stays.cst _) (stays_cons (Stays.cst _) (stays_cons (Stays.cst _) (stays_cons (Stays.cst _) (stays_cons (Stays.cst _) (stays_cons (Stays.cst _) (stays_cons (Stays.cst _) (stays_cons (Stays.cst _) (stays_cons (Stays.cst _) (stays_cons (Stays.cst _) (stays_cons (Stays.cst _) (stays_cons (Stays.cst _) (stays_cons (Stays.cst _) (stays_cons (Stays.cst _) (stays_cons (Stays.cst _) (stays_cons (Stays.cst _) (stays_cons (Stays.cst _) (stays_cons (Stays.cst _) (stays_cons (Stays.cst _) (stays_cons (Stays.cst _) (stays_cons (Stays.cst _) (stays_cons (Stays.cst _) (stays_cons (Stays.cst _) (stays_cons (Stays.cst _) (stays_cons (Stays.cst _) (stays_cons (Stays.cst _) (stays_cons (Stays.cst _) (stays_cons (Stays.cst _) (stays_cons (Stays.cst _) (stays_cons (Stays.cst _) (stays_cons (Stays.cst _) (stays_cons (Stays.cst _) (stays_cons (Stays.cst _) (stays_cons (Stays.cst _) (stays_cons (Stays.cst _) stays_nil))))))))))))))))))))))))))))))))))))))))))))))))))) _ (fun V => by simp only [putAll, Act.put, List.take_succ_cons, List.take_zero, List.setIfInBounds_toArray, List.set_cons_zero, List.set_cons_succ, Nat.reduceAdd]; exact rfl) ?hs3 ?ht3
    case hs3 =>
      simp only [List.take_succ_cons, List.take_zero]
      refine softs_cons ?_ ?_
      · intro V w hw hd
        simp [phi, Region.binds, cst] at hd
        try simp only [hd]
        first
          | (refine soft_const rfl ?_; go_simp; done)
          | (refine soft_const rfl ?_; go_simp; exact rfl)
          | (refine soft_const rfl ?_; go_simp; simp [hn0, hna, hnb]; done)
          | (refine soft_const rfl ?_; go_simp; omega)
          | (refine soft_const rfl ?_; go_simp; simp; omega)
          | (exact soft_skip rfl)
      refine softs_cons ?_ ?_
      · intro V w hw hd
        simp [phi, Region.binds, cst] at hd
        try simp only [hd]
        first
          | (refine soft_const rfl ?_; go_simp; done)
          | (refine soft_const rfl ?_; go_simp; exact rfl)
          | (refine soft_const rfl ?_; go_simp; simp [hn0, hna, hnb]; done)
          | (refine soft_const rfl ?_; go_simp; omega)
          | (refine soft_const rfl ?_; go_simp; simp; omega)
          | (exact soft_skip rfl)
      refine softs_cons ?_ ?_
      · intro V w hw hd
        simp [phi, Region.binds, cst] at hd
        try simp only [hd]
        first
          | (refine soft_const rfl ?_; go_simp; done)
          | (refine soft_const rfl ?_; go_simp; exact rfl)
          | (refine soft_const rfl ?_; go_simp; simp [hn0, hna, hnb]; done)
          | (refine soft_const rfl ?_; go_simp; omega)
          | (refine soft_const rfl ?_; go_simp; simp; omega)
          | (exact soft_skip rfl)
      refine softs_cons ?_ ?_
      · intro V w hw hd
        simp [phi, Region.binds, cst] at hd
        try simp only [hd]
        first
          | (refine soft_const rfl ?_; go_simp; done)
          | (refine soft_const rfl ?_; go_simp; exact rfl)
          | (refine soft_const rfl ?_; go_simp; simp [hn0, hna, hnb]; done)
          | (refine soft_const rfl ?_; go_simp; omega)
          | (refine soft_const rfl ?_; go_simp; simp; omega)
          | (exact soft_skip rfl)
      refine softs_cons ?_ ?_
      · intro V w hw hd
        simp [phi, Region.binds, cst] at hd
        try simp only [hd]
        first
          | (refine soft_const rfl ?_; go_simp; done)
          | (refine soft_const rfl ?_; go_simp; exact rfl)
          | (refine soft_const rfl ?_; go_simp; simp [hn0, hna, hnb]; done)
          | (refine soft_const rfl ?_; go_simp; omega)
          | (refine soft_const rfl ?_; go_simp; simp; omega)
          | (exact soft_skip rfl)
      refine softs_cons ?_ ?_
      · intro V w hw hd
        simp [phi, Region.binds, cst] at hd
        try simp only [hd]
        first
          | (refine soft_const rfl ?_; go_simp; done)
          | (refine soft_const rfl ?_; go_simp; exact rfl)
          | (refine soft_const rfl ?_; go_simp; simp [hn0, hna, hnb]; done)
          | (refine soft_const rfl ?_; go_simp; omega)
          | (refine soft_const rfl ?_; go_simp; simp; omega)
          | (exact soft_skip rfl)
      refine softs_cons ?_ ?_
      · intro V w hw hd
        simp [phi, Region.binds, cst] at hd
        try simp only [hd]
        first
          | (refine soft_const rfl ?_; go_simp; done)
          | (refine soft_const rfl ?_; go_simp; exact rfl)
          | (refine soft_const rfl ?_; go_simp; simp [hn0, hna, hnb]; done)
          | (refine soft_const rfl ?_; go_simp; omega)
          | (refine soft_const rfl ?_; go_simp; simp; omega)
          | (exact soft_skip rfl)
      refine softs_cons ?_ ?_
      · intro V w hw hd
        simp [phi, Region.binds, cst] at hd
        try simp only [hd]
        first
          | (refine soft_const rfl ?_; go_simp; done)
          | (refine soft_const rfl ?_; go_simp; exact rfl)
          | (refine soft_const rfl ?_; go_simp; simp [hn0, hna, hnb]; done)
          | (refine soft_const rfl ?_; go_simp; omega)
          | (refine soft_const rfl ?_; go_simp; simp; omega)
          | (exact soft_skip rfl)
      refine softs_cons ?_ ?_
      · intro V w hw hd
        simp [phi, Region.binds, cst] at hd
        try simp only [hd]
        first
          | (refine soft_const rfl ?_; go_simp; done)
          | (refine soft_const rfl ?_; go_simp; exact rfl)
          | (refine soft_const rfl ?_; go_simp; simp [hn0, hna, hnb]; done)
          | (refine soft_const rfl ?_; go_simp; omega)
          | (refine soft_const rfl ?_; go_simp; simp; omega)
          | (exact soft_skip rfl)
      refine softs_cons ?_ ?_
      · intro V w hw hd
        simp [phi, Region.binds, cst] at hd
        try simp only [hd]
        first
          | (refine soft_const rfl ?_; go_simp; done)
          | (refine soft_const rfl ?_; go_simp; exact rfl)
          | (refine soft_const rfl ?_; go_simp; simp [hn0, hna, hnb]; done)
          | (refine soft_const rfl ?_; go_simp; omega)
          | (refine soft_const rfl ?_; go_simp; simp; omega)
          | (exact soft_skip rfl)
      refine softs_cons ?_ ?_
      · intro V w hw hd
        simp [phi, Region.binds, cst] at hd
        try simp only [hd]
        first
          | (refine soft_const rfl ?_; go_simp; done)
          | (refine soft_const rfl ?_; go_simp; exact rfl)
          | (refine soft_const rfl ?_; go_simp; simp [hn0, hna, hnb]; done)
          | (refine soft_const rfl ?_; go_simp; omega)
          | (refine soft_const rfl ?_; go_simp; simp; omega)
          | (exact soft_skip rfl)
      refine softs_cons ?_ ?_
      · intro V w hw hd
        simp [phi, Region.binds, cst] at hd
        try simp only [hd]
        first
          | (refine soft_const rfl ?_; go_simp; done)
          | (refine soft_const rfl ?_; go_simp; exact rfl)
          | (refine soft_const rfl ?_; go_simp; simp [hn0, hna, hnb]; done)
          | (refine soft_const rfl ?_; go_simp; omega)
          | (refine soft_const rfl ?_; go_simp; simp; omega)
          | (exact soft_skip rfl)
      refine softs_cons ?_ ?_
      · intro V w hw hd
        simp [phi, Region.binds, cst] at hd
        try simp only [hd]
        first
          | (refine soft_const rfl ?_; go_simp; done)
          | (refine soft_const rfl ?_; go_simp; exact rfl)
          | (refine soft_const rfl ?_; go_simp; simp [hn0, hna, hnb]; done)
          | (refine soft_const rfl ?_; go_simp; omega)
          | (refine soft_const rfl ?_; go_simp; simp; omega)
          | (exact soft_skip rfl)
      refine softs_cons ?_ ?_
      · intro V w hw hd
        simp [phi, Region.binds, cst] at hd
        try simp only [hd]
        first
          | (refine soft_const rfl ?_; go_simp; done)
          | (refine soft_const rfl ?_; go_simp; exact rfl)
          | (refine soft_const rfl ?_; go_simp; simp [hn0, hna, hnb]; done)
          | (refine soft_const rfl ?_; go_simp; omega)
          | (refine soft_const rfl ?_; go_simp; simp; omega)
          | (exact soft_skip rfl)
      refine softs_cons ?_ ?_
      · intro V w hw hd
        simp [phi, Region.binds, cst] at hd
        try simp only [hd]
        first
          | (refine soft_const rfl ?_; go_simp; done)
          | (refine soft_const rfl ?_; go_simp; exact rfl)
          | (refine soft_const rfl ?_; go_simp; simp [hn0, hna, hnb]; done)
          | (refine soft_const rfl ?_; go_simp; omega)
          | (refine soft_const rfl ?_; go_simp; simp; omega)
          | (exact soft_skip rfl)
      refine softs_cons ?_ ?_
      · intro V w hw hd
        simp [phi, Region.binds, cst] at hd
        try simp only [hd]
        first
          | (refine soft_const rfl ?_; go_simp; done)
          | (refine soft_const rfl ?_; go_simp; exact rfl)
          | (refine soft_const rfl ?_; go_simp; simp [hn0, hna, hnb]; done)
          | (refine soft_const rfl ?_; go_simp; omega)
          | (refine soft_const rfl ?_; go_simp; simp; omega)
          | (exact soft_skip rfl)
      refine softs_cons ?_ ?_
      · intro V w hw hd
        simp [phi, Region.binds, cst] at hd
        try simp only [hd]
        first
          | (refine soft_const rfl ?_; go_simp; done)
          | (refine soft_const rfl ?_; go_simp; exact rfl)
          | (refine soft_const rfl ?_; go_simp; simp [hn0, hna, hnb]; done)
          | (refine soft_const rfl ?_; go_simp; omega)
          | (refine soft_const rfl ?_; go_simp; simp; omega)
          | (exact soft_skip rfl)
      refine softs_cons ?_ ?_
      · intro V w hw hd
        simp [phi, Region.binds, cst] at hd
        try simp only [hd]
        refine soft_const rfl ?_
        go_simp
        try simp only [hta]
      refine softs_cons ?_ ?_
      · intro V w hw hd
        simp [phi, Region.binds, cst] at hd
        try simp only [hd]
        first
          | (refine soft_const rfl ?_; go_simp; done)
          | (refine soft_const rfl ?_; go_simp; exact rfl)
          | (refine soft_const rfl ?_; go_simp; simp [hn0, hna, hnb]; done)
          | (refine soft_const rfl ?_; go_simp; omega)
          | (refine soft_const rfl ?_; go_simp; simp; omega)
          | (exact soft_skip rfl)
      refine softs_cons ?_ ?_
      · intro V w hw hd
        simp [phi, Region.binds, cst] at hd
        try simp only [hd]
        first
          | (refine soft_const rfl ?_; go_simp; done)
          | (refine soft_const rfl ?_; go_simp; exact rfl)
          | (refine soft_const rfl ?_; go_simp; simp [hn0, hna, hnb]; done)
          | (refine soft_const rfl ?_; go_simp; omega)
          | (refine soft_const rfl ?_; go_simp; simp; omega)
          | (exact soft_skip rfl)
      refine softs_cons ?_ ?_
      · intro V w hw hd
        simp [phi, Region.binds, cst] at hd
        try simp only [hd]
        refine soft_const rfl ?_
        go_simp
        try simp only [htb]
      refine softs_cons ?_ ?_
      · intro V w hw hd
        simp [phi, Region.binds, cst] at hd
        try simp only [hd]
        first
          | (refine soft_const rfl ?_; go_simp; done)
          | (refine soft_const rfl ?_; go_simp; exact rfl)
          | (refine soft_const rfl ?_; go_simp; simp [hn0, hna, hnb]; done)
          | (refine soft_const rfl ?_; go_simp; omega)
          | (refine soft_const rfl ?_; go_simp; simp; omega)
          | (exact soft_skip rfl)
      refine softs_cons ?_ ?_
      · intro V w hw hd
        simp [phi, Region.binds, cst] at hd
        try simp only [hd]
        first
          | (refine soft_const rfl ?_; go_simp; done)
          | (refine soft_const rfl ?_; go_simp; exact rfl)
          | (refine soft_const rfl ?_; go_simp; simp [hn0, hna, hnb]; done)
          | (refine soft_const rfl ?_; go_simp; omega)
          | (refine soft_const rfl ?_; go_simp; simp; omega)
          | (exact soft_skip rfl)
      refine softs_cons ?_ ?_
      · intro V w hw hd
        simp [phi, Region.binds, cst] at hd
        try simp only [hd]
        first
          | (refine soft_const rfl ?_; go_simp; done)
          | (refine soft_const rfl ?_; go_simp; exact rfl)
          | (refine soft_const rfl ?_; go_simp; simp [hn0, hna, hnb]; done)
          | (refine soft_const rfl ?_; go_simp; omega)
          | (refine soft_const rfl ?_; go_simp; simp; omega)
          | (exact soft_skip rfl)
      refine softs_cons ?_ ?_
      · intro V w hw hd
        simp [phi, Region.binds, cst] at hd
        try simp only [hd]
        first
          | (refine soft_const rfl ?_; go_simp; done)
          | (refine soft_const rfl ?_; go_simp; exact rfl)
          | (refine soft_const rfl ?_; go_simp; simp [hn0, hna, hnb]; done)
          | (refine soft_const rfl ?_; go_simp; omega)
          | (refine soft_const rfl ?_; go_simp; simp; omega)
          | (exact soft_skip rfl)
      refine softs_cons ?_ ?_
      · intro V w hw hd
        simp [phi, Region.binds, cst] at hd
        try simp only [hd]
        first
          | (refine soft_const rfl ?_; go_simp; done)
          | (refine soft_const rfl ?_; go_simp; exact rfl)
          | (refine soft_const rfl ?_; go_simp; simp [hn0, hna, hnb]; done)
          | (refine soft_const rfl ?_; go_simp; omega)
          | (refine soft_const rfl ?_; go_simp; simp; omega)
          | (exact soft_skip rfl)
      refine softs_cons ?_ ?_
      · intro V w hw hd
        simp [phi, Region.binds, cst] at hd
        try simp only [hd]
        first
          | (refine soft_const rfl ?_; go_simp; done)
          | (refine soft_const rfl ?_; go_simp; exact rfl)
          | (refine soft_const rfl ?_; go_simp; simp [hn0, hna, hnb]; done)
          | (refine soft_const rfl ?_; go_simp; omega)
          | (refine soft_const rfl ?_; go_simp; simp; omega)
          | (exact soft_skip rfl)
      refine softs_cons ?_ ?_
      · intro V w hw hd
        simp [phi, Region.binds, cst] at hd
        try simp only [hd]
        first
          | (refine soft_const rfl ?_; go_simp; done)
          | (refine soft_const rfl ?_; go_simp; exact rfl)
          | (refine soft_const rfl ?_; go_simp; simp [hn0, hna, hnb]; done)
          | (refine soft_const rfl ?_; go_simp; omega)
          | (refine soft_const rfl ?_; go_simp; simp; omega)
          | (exact soft_skip rfl)
      refine softs_cons ?_ ?_
      · intro V w hw hd
        simp [phi, Region.binds, cst] at hd
        try simp only [hd]
        first
          | (refine soft_const rfl ?_; go_simp; done)
          | (refine soft_const rfl ?_; go_simp; exact rfl)
          | (refine soft_const rfl ?_; go_simp; simp [hn0, hna, hnb]; done)
          | (refine soft_const rfl ?_; go_simp; omega)
          | (refine soft_const rfl ?_; go_simp; simp; omega)
          | (exact soft_skip rfl)
      refine softs_cons ?_ ?_
      · intro V w hw hd
        simp [phi, Region.binds, cst] at hd
        try simp only [hd]
        first
          | (refine soft_const rfl ?_; go_simp; done)
          | (refine soft_const rfl ?_; go_simp; exact rfl)
          | (refine soft_const rfl ?_; go_simp; simp [hn0, hna, hnb]; done)
          | (refine soft_const rfl ?_; go_simp; omega)
          | (refine soft_const rfl ?_; go_simp; simp; omega)
          | (exact soft_skip rfl)
      refine softs_cons ?_ ?_
      · intro V w hw hd
        simp [phi, Region.binds, cst] at hd
        try simp only [hd]
        first
          | (refine soft_const rfl ?_; go_simp; done)
          | (refine soft_const rfl ?_; go_simp; exact rfl)
          | (refine soft_const rfl ?_; go_simp; simp [hn0, hna, hnb]; done)
          | (refine soft_const rfl ?_; go_simp; omega)
          | (refine soft_const rfl ?_; go_simp; simp; omega)
          | (exact soft_skip rfl)
      refine softs_cons ?_ ?_
      · intro V w hw hd
        simp [phi, Region.binds, cst] at hd
        try simp only [hd]
        first
          | (refine soft_const rfl ?_; go_simp; done)
          | (refine soft_const rfl ?_; go_simp; exact rfl)
          | (refine soft_const rfl ?_; go_simp; simp [hn0, hna, hnb]; done)
          | (refine soft_const rfl ?_; go_simp; omega)
          | (refine soft_const rfl ?_; go_simp; simp; omega)
          | (exact soft_skip rfl)
      refine softs_cons ?_ ?_
      · intro V w hw hd
        simp [phi, Region.binds, cst] at hd
        try simp only [hd]
        first
          | (refine soft_const rfl ?_; go_simp; done)
          | (refine soft_const rfl ?_; go_simp; exact rfl)
          | (refine soft_const rfl ?_; go_simp; simp [hn0, hna, hnb]; done)
          | (refine soft_const rfl ?_; go_simp; omega)
          | (refine soft_const rfl ?_; go_simp; simp; omega)
          | (exact soft_skip rfl)
      refine softs_cons ?_ ?_
      · intro V w hw hd
        simp [phi, Region.binds, cst] at hd
        try simp only [hd]
        first
          | (refine soft_const rfl ?_; go_simp; done)
          | (refine soft_const rfl ?_; go_simp; exact rfl)
          | (refine soft_const rfl ?_; go_simp; simp [hn0, hna, hnb]; done)
          | (refine soft_const rfl ?_; go_simp; omega)
          | (refine soft_const rfl ?_; go_simp; simp; omega)
          | (exact soft_skip rfl)
      refine softs_cons ?_ ?_
      · intro V w hw hd
        simp [phi, Region.binds, cst] at hd
        try simp only [hd]
        first
          | (refine soft_const rfl ?_; go_simp; done)
          | (refine soft_const rfl ?_; go_simp; exact rfl)
          | (refine soft_const rfl ?_; go_simp; simp [hn0, hna, hnb]; done)
          | (refine soft_const rfl ?_; go_simp; omega)
          | (refine soft_const rfl ?_; go_simp; simp; omega)
          | (exact soft_skip rfl)
      refine softs_cons ?_ ?_
      · intro V w hw hd
        simp [phi, Region.binds, cst] at hd
        try simp only [hd]
        first
          | (refine soft_const rfl ?_; go_simp; done)
          | (refine soft_const rfl ?_; go_simp; exact rfl)
          | (refine soft_const rfl ?_; go_simp; simp [hn0, hna, hnb]; done)
          | (refine soft_const rfl ?_; go_simp; omega)
          | (refine soft_const rfl ?_; go_simp; simp; omega)
          | (exact soft_skip rfl)
      refine softs_cons ?_ ?_
      · intro V w hw hd
        simp [phi, Region.binds, cst] at hd
        try simp only [hd]
        first
          | (refine soft_const rfl ?_; go_simp; done)
          | (refine soft_const rfl ?_; go_simp; exact rfl)
          | (refine soft_const rfl ?_; go_simp; simp [hn0, hna, hnb]; done)
          | (refine soft_const rfl ?_; go_simp; omega)
          | (refine soft_const rfl ?_; go_simp; simp; omega)
          | (exact soft_skip rfl)
      refine softs_cons ?_ ?_
      · intro V w hw hd
        simp [phi, Region.binds, cst] at hd
        try simp only [hd]
        first
          | (refine soft_const rfl ?_; go_simp; done)
          | (refine soft_const rfl ?_; go_simp; exact rfl)
          | (refine soft_const rfl ?_; go_simp; simp [hn0, hna, hnb]; done)
          | (refine soft_const rfl ?_; go_simp; omega)
          | (refine soft_const rfl ?_; go_simp; simp; omega)
          | (exact soft_skip rfl)
      refine softs_cons ?_ ?_
      · intro V w hw hd
        simp [phi, Region.binds, cst] at hd
        try simp only [hd]
        first
          | (refine soft_const rfl ?_; go_simp; done)
          | (refine soft_const rfl ?_; go_simp; exact rfl)
          | (refine soft_const rfl ?_; go_simp; simp [hn0, hna, hnb]; done)
          | (refine soft_const rfl ?_; go_simp; omega)
          | (refine soft_const rfl ?_; go_simp; simp; omega)
          | (exact soft_skip rfl)
      refine softs_cons ?_ ?_
      · intro V w hw hd
        simp [phi, Region.binds, cst] at hd
        try simp only [hd]
        first
          | (refine soft_const rfl ?_; go_simp; done)
          | (refine soft_const rfl ?_; go_simp; exact rfl)
          | (refine soft_const rfl ?_; go_simp; simp [hn0, hna, hnb]; done)
          | (refine soft_const rfl ?_; go_simp; omega)
          | (refine soft_const rfl ?_; go_simp; simp; omega)
          | (exact soft_skip rfl)
      refine softs_cons ?_ ?_
      · intro V w hw hd
        simp [phi, Region.binds, cst] at hd
        try simp only [hd]
        first
          | (refine soft_const rfl ?_; go_simp; done)
          | (refine soft_const rfl ?_; go_simp; exact rfl)
          | (refine soft_const rfl ?_; go_simp; simp [hn0, hna, hnb]; done)
          | (refine soft_const rfl ?_; go_simp; omega)
          | (refine soft_const rfl ?_; go_simp; simp; omega)
          | (exact soft_skip rfl)
      refine softs_cons ?_ ?_
      · intro V w hw hd
        simp [phi, Region.binds, cst] at hd
        try simp only [hd]
        first
          | (refine soft_const rfl ?_; go_simp; done)
          | (refine soft_const rfl ?_; go_simp; exact rfl)
          | (refine soft_const rfl ?_; go_simp; simp [hn0, hna, hnb]; done)
          | (refine soft_const rfl ?_; go_simp; omega)
          | (refine soft_const rfl ?_; go_simp; simp; omega)
          | (exact soft_skip rfl)
      refine softs_cons ?_ ?_
      · intro V w hw hd
        simp [phi, Region.binds, cst] at hd
        try simp only [hd]
        first
          | (refine soft_const rfl ?_; go_simp; done)
          | (refine soft_const rfl ?_; go_simp; exact rfl)
          | (refine soft_const rfl ?_; go_simp; simp [hn0, hna, hnb]; done)
          | (refine soft_const rfl ?_; go_simp; omega)
          | (refine soft_const rfl ?_; go_simp; simp; omega)
          | (exact soft_skip rfl)
      refine softs_cons ?_ ?_
      · intro V w hw hd
        simp [phi, Region.binds, cst] at hd
        try simp only [hd]
        first
          | (refine soft_const rfl ?_; go_simp; done)
          | (refine soft_const rfl ?_; go_simp; exact rfl)
          | (refine soft_const rfl ?_; go_simp; simp [hn0, hna, hnb]; done)
          | (refine soft_const rfl ?_; go_simp; omega)
          | (refine soft_const rfl ?_; go_simp; simp; omega)
          | (exact soft_skip rfl)
      refine softs_cons ?_ ?_
      · intro V w hw hd
        simp [phi, Region.binds, cst] at hd
        try simp only [hd]
        first
          | (refine soft_const rfl ?_; go_simp; done)
          | (refine soft_const rfl ?_; go_simp; exact rfl)
          | (refine soft_const rfl ?_; go_simp; simp [hn0, hna, hnb]; done)
          | (refine soft_const rfl ?_; go_simp; omega)
          | (refine soft_const rfl ?_; go_simp; simp; omega)
          | (exact soft_skip rfl)
      refine softs_cons ?_ ?_
      · intro V w hw hd
        simp [phi, Region.binds, cst] at hd
        try simp only [hd]
        first
          | (refine soft_const rfl ?_; go_simp; done)
          | (refine soft_const rfl ?_; go_simp; exact rfl)
          | (refine soft_const rfl ?_; go_simp; simp [hn0, hna, hnb]; done)
          | (refine soft_const rfl ?_; go_simp; omega)
          | (refine soft_const rfl ?_; go_simp; simp; omega)
          | (exact soft_skip rfl)
      refine softs_cons ?_ ?_
      · intro V w hw hd
        simp [phi, Region.binds, cst] at hd
        try simp only [hd]
        first
          | (refine soft_const rfl ?_; go_simp; done)
          | (refine soft_const rfl ?_; go_simp; exact rfl)
          | (refine soft_const rfl ?_; go_simp; simp [hn0, hna, hnb]; done)
          | (refine soft_const rfl ?_; go_simp; omega)
          | (refine soft_const rfl ?_; go_simp; simp; omega)
          | (exact soft_skip rfl)
      refine softs_cons ?_ ?_
      · intro V w hw hd
        simp [phi, Region.binds, cst] at hd
        try simp only [hd]
        first
          | (refine soft_const rfl ?_; go_simp; done)
          | (refine soft_const rfl ?_; go_simp; exact rfl)
          | (refine soft_const rfl ?_; go_simp; simp [hn0, hna, hnb]; done)
          | (refine soft_const rfl ?_; go_simp; omega)
          | (refine soft_const rfl ?_; go_simp; simp; omega)
          | (exact soft_skip rfl)
      refine softs_cons ?_ ?_
      · intro V w hw hd
        simp [phi, Region.binds, cst] at hd
        try simp only [hd]
        refine soft_callC rfl _ _ (by go_simp; try exact ⟨rfl, rfl⟩) (k2 _)
      refine softs_cons ?_ ?_
      · intro V w hw hd
        simp [phi, Region.binds, cst] at hd
        try simp only [hd]
        first
          | (refine soft_const rfl ?_; go_simp; done)
          | (refine soft_const rfl ?_; go_simp; exact rfl)
          | (refine soft_const rfl ?_; go_simp; simp [hn0, hna, hnb]; done)
          | (refine soft_const rfl ?_; go_simp; omega)
          | (refine soft_const rfl ?_; go_simp; simp; omega)
          | (exact soft_skip rfl)
      refine softs_cons ?_ ?_
      · intro V w hw hd
        simp [phi, Region.binds, cst] at hd
        try simp only [hd]
        first
          | (refine soft_const rfl ?_; go_simp; done)
          | (refine soft_const rfl ?_; go_simp; exact rfl)
          | (refine soft_const rfl ?_; go_simp; simp [hn0, hna, hnb]; done)
          | (refine soft_const rfl ?_; go_simp; omega)
          | (refine soft_const rfl ?_; go_simp; simp; omega)
          | (exact soft_skip rfl)
      exact softs_nil
    intro V w3 g3 hk
    have h50 := hk 50 (by decide)
    simp [phi, cst] at h50
    simp only [h50, List.drop_succ_cons, List.drop_zero]
    clear hk h50
    clear k2 hta htb
    have g3 := g2.t0 g3
    cases hle : leT a c
    · have hA : Op.bytesLess a c = false ∧ (a == c) = false := by unfold leT at hle; simpa using hle
      obtain ⟨hA1, hA2⟩ := hA
      replace hA2 : ¬ a = c := by simpa using hA2
      clear hle
      go_wp2
      go_ret
      exact ⟨by simp, g3⟩
    have hA : Op.bytesLess a c = true ∨ a = c := by unfold leT at hle; simpa using hle
    cases hle2 : leT c b
    · have hB : Op.bytesLess c b = false ∧ (c == b) = false := by unfold leT at hle2; simpa using hle2
      obtain ⟨hB1, hB2⟩ := hB
      replace hB2 : ¬ c = b := by simpa using hB2
      clear hle hle2
      go_wp2
      go_ret
      exact ⟨by simp, g3⟩
    have hB : Op.bytesLess c b = true ∨ c = b := by unfold leT at hle2; simpa using hle2
    obtain ⟨t1, t2⟩ := hbt.out hle hle2
    have t1i : (n : Int) ≤ s1 := by omega
    have t2i : (n : Int) ≤ s2 := by omega
    clear hle hle2
    go_wp2_with fail
    refine (k3.out w3).mono ?_
    rintro e w4 ⟨rfl, g4⟩
    go_wp2_with fail
    refine (k4.out w4).mono ?_
    rintro e w5 ⟨rfl, g5⟩
    go_wp2
    go_ret
    exact ⟨by simp, (g3.t0 g4).t0 g5⟩
theorem frontShares_run (w : World) (a b c : ByteArray) (_ : a.size ≤ 140737488351232) (_ : b.size ≤ 140737488351232) (_ : c.size ≤ 140737488351232) :
    Calls Tryd.prog 7 #[.string a, .string b, .string c] w fun e w' => e = .returned (.bool true) ∧ Chg [] w w' := shares13 w (strL a) (strL b) (strL c)
end Go.Proofs.YtdclbhmmpdngpaaDoor
