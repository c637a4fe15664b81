/-
  VarintOnce: the walk.
-/
import Derived.Test.YtllidfhdklfkmaaLaw04Small
import Derived.Test.YtllidfhdklfkmaaSoft
import Derived.Test.YtllidfhdklfkmaaOpen
namespace Go.Proofs.Ytllidfhdklfkmaa
open Go.RowKit

/-- What was read well is what the number's bytes are. -/
theorem CS.vget_once {l : List UInt8} (h : (CS.vget ⟨l, false⟩).2.bad = false) : ∃ n r, CS.vget ⟨l, false⟩ = (n, ⟨r, false⟩) ∧ l = vput n ++ r ∧ n < 2 ^ 64 := by
  have hlt := CS.vget_lt ⟨l, false⟩
  unfold CS.vget at h hlt ⊢
  rw [if_neg (by simp)] at h hlt ⊢
  cases hv : vgetL l 0 0 with
  | none => rw [hv] at h; cases h
  | some x =>
    obtain ⟨n, r⟩ := x
    obtain ⟨m, hm, hl, _⟩ := vput_vgetL l 0 0 n r (by decide) hv
    rw [hv] at hlt
    refine ⟨n, r, rfl, ?_, hlt⟩
    rw [hl, hm]; simp

set_option maxRecDepth 100000 in
set_option maxHeartbeats 8000000 in
theorem once_walk (w : World) (v0 : Value) (l : List UInt8) (hb : l.length ≤ 140737488351232) (h0 : Sl w v0 l.length (bcs l)) :
    Calls Try.prog 8 #[v0] w fun e w' => e = .returned (.bool true) ∧ Chg [] w w' := by
  obtain ⟨a0, c0, rfl⟩ := h0.shape
  go_enter Try.func8, Try.ntmps8
  go_wp2_with fail
  refine (small04_ok w).mono ?_
  rintro e w1 ⟨rfl, g1⟩
  go_wp2_with fail
  refine (over_ok w1 _ l (h0.tr0 g1) (by unfold big; omega)).mono ?_
  rintro e w3 ⟨p, rfl, hp, c3, g3⟩
  have g13 := g1.t0 g3
  have hp' : w.heap.size ≤ p := Nat.le_trans g1.size hp
  clear g3 g1
  by_cases hl : 300 < l.length
  · go_wp2
    go_ret
    exact ⟨rfl, g13⟩
  go_wp2_with fail
  refine (vget_ok _ p _ c3).mono ?_
  rintro e w4 ⟨rfl, c4, g4⟩
  have g14 := g13.tn g4 hp'
  clear g4 c3 g13
  go_wp2_with fail
  refine (bad_ok _ p _ c4).mono ?_
  rintro e w4' ⟨rfl, rfl⟩
  cases hbad : (CS.vget ⟨l, false⟩).2.bad with
  | true =>
    have hv := CS.vget_bad _ hbad
    rw [hv] at c4 ⊢
    clear hv hbad
    go_wp2_with fail
    refine (left_ok _ p _ c4).mono ?_
    rintro e w4' ⟨he, rfl⟩
    obtain rfl : e = .returned (.int .i64 0) := he
    go_wp2
    go_ret
    exact ⟨rfl, g14⟩
  | false =>
    obtain ⟨n, r, hv, hlr, hn⟩ := CS.vget_once hbad
    rw [hv] at c4 ⊢
    clear hv hbad
    have hten := vsize_ten hn
    replace hlr := Lib.hid hlr
    go_wp2_with fail
    refine (vput_ok w4 _ [] n hn (Sl.nil w4) (by decide)).mono ?_
    rintro e w5 ⟨vx, rfl, o5, g5⟩
    have g15 := g14.t0 g5
    have c5 := c4.tr0 g5
    have sx := Sl.ofOwns o5
    replace hlr := hlr.out
    have hlen : 0 + vsize n = (vput n).length := by simp [vsize]
    rw [List.length_nil, hlen, List.nil_append] at sx
    obtain ⟨ax, kx, rfl⟩ := sx.shape
    have s5 := h0.tr0 g15
    have hk : (vput n).length ≤ l.length := by rw [hlr]; simp
    have hlr2 : l.length = (vput n).length + r.length := by rw [hlr]; simp
    have stk := s5.take hk (vput n).length
    have htk : (bcs l).take (vput n).length = bcs (vput n) := by
      rw [hlr, bcs_append, List.take_left' (by simp [bcs])]
    rw [htk] at stk
    have e1 : decide (((vput n).length : Int) ≤ (l.length : Int)) = true := decide_eq_true (by omega)
    have e2 : (l.length : Int) - (r.length : Int) = ((vput n).length : Int) := by omega
    have e3 : (0 : Int) ≤ ((vput n).length : Int) := by omega
    have e4 : IntKind.i64.wrap ((vput n).length : Int) = ((vput n).length : Int) := by simp [IntKind.wrap, IntKind.bits, IntKind.signed]; omega
    have hkc : (vput n).length ≤ c0 := by obtain ⟨_, _, e, q1, _⟩ := id h0; cases e; omega
    have hkb : c0 ≤ 9223372036854775807 := by obtain ⟨_, _, e, _, q2, _⟩ := id h0; cases e; unfold maxLen at q2; omega
    have kL : ∀ w, Chg [] w5 w → Calls Try.prog 29 #[.pointer (some ⟨p, 0, none⟩)] w fun e w' => e = .returned (.int .i64 (r.length : Int)) ∧ Chg [] w w' := fun w g =>
      (left_ok w p _ (c5.tr0 g)).mono fun e w' ⟨h1, h2⟩ => ⟨h1, h2 ▸ Chg.refl _ _⟩
    clear hlr hlr2 htk s5 hlen o5 c4 c5 hten g5 g14 h0
    go_wp2_with fail
    refine' region_soft 28 [cst _, cst _, cst _, cst _, cst _, cst _, cst (.bool true), cst (.bool true), cst (.bool true), cst _, cst _, cst _, cst _, cst _, cst (.int .i64 r.length), cst (.int .i64 (vput n).length), cst (.bool true), cst (.bool true), cst (.bool true), cst _, cst (.string (bstr (vput n))), cst _, cst _, cst _, cst (.slice a0 (vput n).length c0), cst (.string (bstr (vput n))), cst (.bool true), cst (.bool true)] rfl (by kernel_rfl) (by kernel_rfl) (stays_cons (Stays.cst _) (stays_cons (Stays.cst _) (stays_cons (Stays.cst _) (stays_cons (Stays.cst _) (stays_cons (Stays.cst _) (stays_cons (Stays.cst _) (stays_cons (Stays.cst _) (stays_cons (Stays.cst _) (stays_cons (Stays.cst _) (stays_cons (Stays.cst _) (stays_cons (Stays.cst _) (stays_cons (Stays.cst _) (stays_cons (Stays.cst _) (stays_cons (Stays.cst _) (stays_cons (Stays.cst _) (stays_cons (Stays.cst _) (stays_cons (Stays.cst _) (stays_cons (Stays.cst _) (stays_cons (Stays.cst _) (stays_cons (Stays.cst _) (stays_cons (Stays.cst _) (stays_cons (Stays.cst _) (stays_cons (Stays.cst _) (stays_cons (Stays.cst _) (stays_cons (Stays.cst _) (stays_cons (Stays.cst _) (stays_cons (Stays.cst _) (stays_cons (Stays.cst _) stays_nil)))))))))))))))))))))))))))) _ (fun V => by simp only [putAll, Act.put, List.take_succ_cons, List.take_zero, List.setIfInBounds_toArray, List.set_cons_zero, List.set_cons_succ, Nat.reduceAdd]; exact rfl) ?hs1 ?ht1
    case hs1 =>
      simp only [List.take_succ_cons, List.take_zero, softs]
      refine ⟨?_, ?_, ?_, ?_, ?_, ?_, ?_, ?_, ?_, ?_, ?_, ?_, ?_, ?_, ?_, ?_, ?_, ?_, ?_, ?_, ?_, ?_, ?_, ?_, ?_, ?_, ?_, ?_, trivial⟩
      · intro V w hw hd
        simp [phi, Region.binds, cst] at hd
        try simp only [hd]
        first
          | (refine soft_const rfl ?_; go_simp; done)
          | (refine soft_const rfl ?_; go_simp; exact rfl)
          | (refine soft_str rfl _ _ _ rfl _ rfl _ Try.underlying22 Try.underlying5 Try.underlying9 _ _ ?_ rfl; exact sx.tr0 hw)
          | (refine soft_str rfl _ _ _ rfl _ rfl _ Try.underlying22 Try.underlying5 Try.underlying9 _ _ ?_ rfl; exact stk.tr0 hw)
          | (exact soft_skip rfl)
      · intro V w hw hd
        simp [phi, Region.binds, cst] at hd
        try simp only [hd]
        first
          | (refine soft_const rfl ?_; go_simp; done)
          | (refine soft_const rfl ?_; go_simp; exact rfl)
          | (refine soft_str rfl _ _ _ rfl _ rfl _ Try.underlying22 Try.underlying5 Try.underlying9 _ _ ?_ rfl; exact sx.tr0 hw)
          | (refine soft_str rfl _ _ _ rfl _ rfl _ Try.underlying22 Try.underlying5 Try.underlying9 _ _ ?_ rfl; exact stk.tr0 hw)
          | (exact soft_skip rfl)
      · intro V w hw hd
        simp [phi, Region.binds, cst] at hd
        try simp only [hd]
        first
          | (refine soft_const rfl ?_; go_simp; done)
          | (refine soft_const rfl ?_; go_simp; exact rfl)
          | (refine soft_str rfl _ _ _ rfl _ rfl _ Try.underlying22 Try.underlying5 Try.underlying9 _ _ ?_ rfl; exact sx.tr0 hw)
          | (refine soft_str rfl _ _ _ rfl _ rfl _ Try.underlying22 Try.underlying5 Try.underlying9 _ _ ?_ rfl; exact stk.tr0 hw)
          | (exact soft_skip rfl)
      · intro V w hw hd
        simp [phi, Region.binds, cst] at hd
        try simp only [hd]
        first
          | (refine soft_const rfl ?_; go_simp; done)
          | (refine soft_const rfl ?_; go_simp; exact rfl)
          | (refine soft_str rfl _ _ _ rfl _ rfl _ Try.underlying22 Try.underlying5 Try.underlying9 _ _ ?_ rfl; exact sx.tr0 hw)
          | (refine soft_str rfl _ _ _ rfl _ rfl _ Try.underlying22 Try.underlying5 Try.underlying9 _ _ ?_ rfl; exact stk.tr0 hw)
          | (exact soft_skip rfl)
      · intro V w hw hd
        simp [phi, Region.binds, cst] at hd
        try simp only [hd]
        first
          | (refine soft_const rfl ?_; go_simp; done)
          | (refine soft_const rfl ?_; go_simp; exact rfl)
          | (refine soft_str rfl _ _ _ rfl _ rfl _ Try.underlying22 Try.underlying5 Try.underlying9 _ _ ?_ rfl; exact sx.tr0 hw)
          | (refine soft_str rfl _ _ _ rfl _ rfl _ Try.underlying22 Try.underlying5 Try.underlying9 _ _ ?_ rfl; exact stk.tr0 hw)
          | (exact soft_skip rfl)
      · intro V w hw hd
        simp [phi, Region.binds, cst] at hd
        try simp only [hd]
        first
          | (refine soft_const rfl ?_; go_simp; done)
          | (refine soft_const rfl ?_; go_simp; exact rfl)
          | (refine soft_str rfl _ _ _ rfl _ rfl _ Try.underlying22 Try.underlying5 Try.underlying9 _ _ ?_ rfl; exact sx.tr0 hw)
          | (refine soft_str rfl _ _ _ rfl _ rfl _ Try.underlying22 Try.underlying5 Try.underlying9 _ _ ?_ rfl; exact stk.tr0 hw)
          | (exact soft_skip rfl)
      · intro V w hw hd
        simp [phi, Region.binds, cst] at hd
        try simp only [hd]
        first
          | (refine soft_const rfl ?_; go_simp; done)
          | (refine soft_const rfl ?_; go_simp; exact rfl)
          | (refine soft_str rfl _ _ _ rfl _ rfl _ Try.underlying22 Try.underlying5 Try.underlying9 _ _ ?_ rfl; exact sx.tr0 hw)
          | (refine soft_str rfl _ _ _ rfl _ rfl _ Try.underlying22 Try.underlying5 Try.underlying9 _ _ ?_ rfl; exact stk.tr0 hw)
          | (exact soft_skip rfl)
      · intro V w hw hd
        simp [phi, Region.binds, cst] at hd
        try simp only [hd]
        first
          | (refine soft_const rfl ?_; go_simp; done)
          | (refine soft_const rfl ?_; go_simp; exact rfl)
          | (refine soft_str rfl _ _ _ rfl _ rfl _ Try.underlying22 Try.underlying5 Try.underlying9 _ _ ?_ rfl; exact sx.tr0 hw)
          | (refine soft_str rfl _ _ _ rfl _ rfl _ Try.underlying22 Try.underlying5 Try.underlying9 _ _ ?_ rfl; exact stk.tr0 hw)
          | (exact soft_skip rfl)
      · intro V w hw hd
        simp [phi, Region.binds, cst] at hd
        try simp only [hd]
        first
          | (refine soft_const rfl ?_; go_simp; done)
          | (refine soft_const rfl ?_; go_simp; exact rfl)
          | (refine soft_str rfl _ _ _ rfl _ rfl _ Try.underlying22 Try.underlying5 Try.underlying9 _ _ ?_ rfl; exact sx.tr0 hw)
          | (refine soft_str rfl _ _ _ rfl _ rfl _ Try.underlying22 Try.underlying5 Try.underlying9 _ _ ?_ rfl; exact stk.tr0 hw)
          | (exact soft_skip rfl)
      · intro V w hw hd
        simp [phi, Region.binds, cst] at hd
        try simp only [hd]
        first
          | (refine soft_const rfl ?_; go_simp; done)
          | (refine soft_const rfl ?_; go_simp; exact rfl)
          | (refine soft_str rfl _ _ _ rfl _ rfl _ Try.underlying22 Try.underlying5 Try.underlying9 _ _ ?_ rfl; exact sx.tr0 hw)
          | (refine soft_str rfl _ _ _ rfl _ rfl _ Try.underlying22 Try.underlying5 Try.underlying9 _ _ ?_ rfl; exact stk.tr0 hw)
          | (exact soft_skip rfl)
      · intro V w hw hd
        simp [phi, Region.binds, cst] at hd
        try simp only [hd]
        first
          | (refine soft_const rfl ?_; go_simp; done)
          | (refine soft_const rfl ?_; go_simp; exact rfl)
          | (refine soft_str rfl _ _ _ rfl _ rfl _ Try.underlying22 Try.underlying5 Try.underlying9 _ _ ?_ rfl; exact sx.tr0 hw)
          | (refine soft_str rfl _ _ _ rfl _ rfl _ Try.underlying22 Try.underlying5 Try.underlying9 _ _ ?_ rfl; exact stk.tr0 hw)
          | (exact soft_skip rfl)
      · intro V w hw hd
        simp [phi, Region.binds, cst] at hd
        try simp only [hd]
        first
          | (refine soft_const rfl ?_; go_simp; done)
          | (refine soft_const rfl ?_; go_simp; exact rfl)
          | (refine soft_str rfl _ _ _ rfl _ rfl _ Try.underlying22 Try.underlying5 Try.underlying9 _ _ ?_ rfl; exact sx.tr0 hw)
          | (refine soft_str rfl _ _ _ rfl _ rfl _ Try.underlying22 Try.underlying5 Try.underlying9 _ _ ?_ rfl; exact stk.tr0 hw)
          | (exact soft_skip rfl)
      · intro V w hw hd
        simp [phi, Region.binds, cst] at hd
        try simp only [hd]
        first
          | (refine soft_const rfl ?_; go_simp; done)
          | (refine soft_const rfl ?_; go_simp; exact rfl)
          | (refine soft_str rfl _ _ _ rfl _ rfl _ Try.underlying22 Try.underlying5 Try.underlying9 _ _ ?_ rfl; exact sx.tr0 hw)
          | (refine soft_str rfl _ _ _ rfl _ rfl _ Try.underlying22 Try.underlying5 Try.underlying9 _ _ ?_ rfl; exact stk.tr0 hw)
          | (exact soft_skip rfl)
      · intro V w hw hd
        simp [phi, Region.binds, cst] at hd
        try simp only [hd]
        first
          | (refine soft_const rfl ?_; go_simp; done)
          | (refine soft_const rfl ?_; go_simp; exact rfl)
          | (refine soft_str rfl _ _ _ rfl _ rfl _ Try.underlying22 Try.underlying5 Try.underlying9 _ _ ?_ rfl; exact sx.tr0 hw)
          | (refine soft_str rfl _ _ _ rfl _ rfl _ Try.underlying22 Try.underlying5 Try.underlying9 _ _ ?_ rfl; exact stk.tr0 hw)
          | (exact soft_skip rfl)
      · intro V w hw hd
        simp [phi, Region.binds, cst] at hd
        try simp only [hd]
        refine soft_callC rfl _ _ (by go_simp; try exact ⟨rfl, rfl⟩) (kL w hw)
      · intro V w hw hd
        simp [phi, Region.binds, cst] at hd
        try simp only [hd]
        first
          | (refine soft_const rfl ?_; go_simp; done)
          | (refine soft_const rfl ?_; go_simp; exact rfl)
          | (refine soft_str rfl _ _ _ rfl _ rfl _ Try.underlying22 Try.underlying5 Try.underlying9 _ _ ?_ rfl; exact sx.tr0 hw)
          | (refine soft_str rfl _ _ _ rfl _ rfl _ Try.underlying22 Try.underlying5 Try.underlying9 _ _ ?_ rfl; exact stk.tr0 hw)
          | (exact soft_skip rfl)
      · intro V w hw hd
        simp [phi, Region.binds, cst] at hd
        try simp only [hd]
        first
          | (refine soft_const rfl ?_; go_simp; done)
          | (refine soft_const rfl ?_; go_simp; exact rfl)
          | (refine soft_str rfl _ _ _ rfl _ rfl _ Try.underlying22 Try.underlying5 Try.underlying9 _ _ ?_ rfl; exact sx.tr0 hw)
          | (refine soft_str rfl _ _ _ rfl _ rfl _ Try.underlying22 Try.underlying5 Try.underlying9 _ _ ?_ rfl; exact stk.tr0 hw)
          | (exact soft_skip rfl)
      · intro V w hw hd
        simp [phi, Region.binds, cst] at hd
        try simp only [hd]
        first
          | (refine soft_const rfl ?_; go_simp; done)
          | (refine soft_const rfl ?_; go_simp; exact rfl)
          | (refine soft_str rfl _ _ _ rfl _ rfl _ Try.underlying22 Try.underlying5 Try.underlying9 _ _ ?_ rfl; exact sx.tr0 hw)
          | (refine soft_str rfl _ _ _ rfl _ rfl _ Try.underlying22 Try.underlying5 Try.underlying9 _ _ ?_ rfl; exact stk.tr0 hw)
          | (exact soft_skip rfl)
      · intro V w hw hd
        simp [phi, Region.binds, cst] at hd
        try simp only [hd]
        first
          | (refine soft_const rfl ?_; go_simp; done)
          | (refine soft_const rfl ?_; go_simp; exact rfl)
          | (refine soft_str rfl _ _ _ rfl _ rfl _ Try.underlying22 Try.underlying5 Try.underlying9 _ _ ?_ rfl; exact sx.tr0 hw)
          | (refine soft_str rfl _ _ _ rfl _ rfl _ Try.underlying22 Try.underlying5 Try.underlying9 _ _ ?_ rfl; exact stk.tr0 hw)
          | (exact soft_skip rfl)
      · intro V w hw hd
        simp [phi, Region.binds, cst] at hd
        try simp only [hd]
        first
          | (refine soft_const rfl ?_; go_simp; done)
          | (refine soft_const rfl ?_; go_simp; exact rfl)
          | (refine soft_str rfl _ _ _ rfl _ rfl _ Try.underlying22 Try.underlying5 Try.underlying9 _ _ ?_ rfl; exact sx.tr0 hw)
          | (refine soft_str rfl _ _ _ rfl _ rfl _ Try.underlying22 Try.underlying5 Try.underlying9 _ _ ?_ rfl; exact stk.tr0 hw)
          | (exact soft_skip rfl)
      · intro V w hw hd
        simp [phi, Region.binds, cst] at hd
        try simp only [hd]
        first
          | (refine soft_const rfl ?_; go_simp; done)
          | (refine soft_const rfl ?_; go_simp; exact rfl)
          | (refine soft_str rfl _ _ _ rfl _ rfl _ Try.underlying22 Try.underlying5 Try.underlying9 _ _ ?_ rfl; exact sx.tr0 hw)
          | (refine soft_str rfl _ _ _ rfl _ rfl _ Try.underlying22 Try.underlying5 Try.underlying9 _ _ ?_ rfl; exact stk.tr0 hw)
          | (exact soft_skip rfl)
      · intro V w hw hd
        simp [phi, Region.binds, cst] at hd
        try simp only [hd]
        first
          | (refine soft_const rfl ?_; go_simp; done)
          | (refine soft_const rfl ?_; go_simp; exact rfl)
          | (refine soft_str rfl _ _ _ rfl _ rfl _ Try.underlying22 Try.underlying5 Try.underlying9 _ _ ?_ rfl; exact sx.tr0 hw)
          | (refine soft_str rfl _ _ _ rfl _ rfl _ Try.underlying22 Try.underlying5 Try.underlying9 _ _ ?_ rfl; exact stk.tr0 hw)
          | (exact soft_skip rfl)
      · intro V w hw hd
        simp [phi, Region.binds, cst] at hd
        try simp only [hd]
        first
          | (refine soft_const rfl ?_; go_simp; done)
          | (refine soft_const rfl ?_; go_simp; exact rfl)
          | (refine soft_str rfl _ _ _ rfl _ rfl _ Try.underlying22 Try.underlying5 Try.underlying9 _ _ ?_ rfl; exact sx.tr0 hw)
          | (refine soft_str rfl _ _ _ rfl _ rfl _ Try.underlying22 Try.underlying5 Try.underlying9 _ _ ?_ rfl; exact stk.tr0 hw)
          | (exact soft_skip rfl)
      · intro V w hw hd
        simp [phi, Region.binds, cst] at hd
        try simp only [hd]
        first
          | (refine soft_const rfl ?_; go_simp; done)
          | (refine soft_const rfl ?_; go_simp; exact rfl)
          | (refine soft_str rfl _ _ _ rfl _ rfl _ Try.underlying22 Try.underlying5 Try.underlying9 _ _ ?_ rfl; exact sx.tr0 hw)
          | (refine soft_str rfl _ _ _ rfl _ rfl _ Try.underlying22 Try.underlying5 Try.underlying9 _ _ ?_ rfl; exact stk.tr0 hw)
          | (exact soft_skip rfl)
      · intro V w hw hd
        simp [phi, Region.binds, cst] at hd
        try simp only [hd]
        first
          | (refine soft_const rfl ?_; go_simp; done)
          | (refine soft_const rfl ?_; go_simp; exact rfl)
          | (refine soft_str rfl _ _ _ rfl _ rfl _ Try.underlying22 Try.underlying5 Try.underlying9 _ _ ?_ rfl; exact sx.tr0 hw)
          | (refine soft_str rfl _ _ _ rfl _ rfl _ Try.underlying22 Try.underlying5 Try.underlying9 _ _ ?_ rfl; exact stk.tr0 hw)
          | (exact soft_skip rfl)
      · intro V w hw hd
        simp [phi, Region.binds, cst] at hd
        try simp only [hd]
        first
          | (refine soft_const rfl ?_; go_simp; done)
          | (refine soft_const rfl ?_; go_simp; exact rfl)
          | (refine soft_str rfl _ _ _ rfl _ rfl _ Try.underlying22 Try.underlying5 Try.underlying9 _ _ ?_ rfl; exact sx.tr0 hw)
          | (refine soft_str rfl _ _ _ rfl _ rfl _ Try.underlying22 Try.underlying5 Try.underlying9 _ _ ?_ rfl; exact stk.tr0 hw)
          | (exact soft_skip rfl)
      · intro V w hw hd
        simp [phi, Region.binds, cst] at hd
        try simp only [hd]
        first
          | (refine soft_const rfl ?_; go_simp; done)
          | (refine soft_const rfl ?_; go_simp; exact rfl)
          | (refine soft_str rfl _ _ _ rfl _ rfl _ Try.underlying22 Try.underlying5 Try.underlying9 _ _ ?_ rfl; exact sx.tr0 hw)
          | (refine soft_str rfl _ _ _ rfl _ rfl _ Try.underlying22 Try.underlying5 Try.underlying9 _ _ ?_ rfl; exact stk.tr0 hw)
          | (exact soft_skip rfl)
      · intro V w hw hd
        simp [phi, Region.binds, cst] at hd
        try simp only [hd]
        first
          | (refine soft_const rfl ?_; go_simp; done)
          | (refine soft_const rfl ?_; go_simp; exact rfl)
          | (refine soft_str rfl _ _ _ rfl _ rfl _ Try.underlying22 Try.underlying5 Try.underlying9 _ _ ?_ rfl; exact sx.tr0 hw)
          | (refine soft_str rfl _ _ _ rfl _ rfl _ Try.underlying22 Try.underlying5 Try.underlying9 _ _ ?_ rfl; exact stk.tr0 hw)
          | (exact soft_skip rfl)
    intro V w6 g6 hk2
    have h27 := hk2 27 (by decide)
    simp [phi, cst] at h27
    simp only [h27, List.drop_succ_cons, List.drop_zero]
    clear hk2
    go_wp2
    go_ret
    exact ⟨rfl, g15.t0 g6⟩

theorem varintOnce_run (W : World) (v0 : Value) (l : List UInt8) (h0 : Sl W v0 l.length (bcs l)) (hb : l.length * 1 ≤ 140737488351232) :
    Calls Try.prog 8 #[v0] W fun e w' => e = .returned (.bool true) ∧ Chg [] W w' := once_walk W v0 l (by omega) h0
end Go.Proofs.Ytllidfhdklfkmaa
