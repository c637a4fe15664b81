/-
  SchemaOnce: the walk.
-/
import Derived.Test.YtllidfhdklfkmaaLaw16Small
import Derived.Test.YtllidfhdklfkmaaSoft
import Derived.Test.YtllidfhdklfkmaaOpen
namespace Go.Proofs.Ytllidfhdklfkmaa
open Go.RowKit

theorem putB_le {L : List Col} (h : colsV L = 0) : (putB L).length ≤ 8000 := by
  obtain ⟨h1, h2⟩ := colsV_zero h
  have := colsB_length L (fun x hx => (h2 x hx).2.1)
  have h3 : (vput L.length).length ≤ 10 := vsize_ten (by omega)
  unfold putB
  rw [List.length_append]
  omega

set_option maxRecDepth 100000 in
set_option maxHeartbeats 8000000 in
theorem schemaOnce_run (w : World) (v0 : Value) (l : List UInt8) (h0 : Sl w v0 l.length (bcs l)) (hb : l.length * 1 ≤ 140737488351232) :
    Calls Try.prog 13 #[v0] w fun e w' => e = .returned (.bool true) ∧ Chg [] w w' := by
  obtain ⟨a0, c0, rfl⟩ := h0.shape
  go_enter Try.func13, Try.ntmps13
  go_wp2_with fail
  refine (small16_ok w).mono ?_
  rintro e w1 ⟨rfl, g1⟩
  go_wp2_with fail
  refine (over_ok w1 _ l (h0.tr0 g1) (by unfold big; omega)).mono ?_
  rintro e w3 ⟨p, rfl, hp, c3, g3⟩
  have g13 := g1.t0 g3
  have hp' : w.heap.size ≤ p := Nat.le_trans g1.size hp
  clear g3 g1
  by_cases hl : 1500 < l.length
  · go_wp2
    go_ret
    exact ⟨rfl, g13⟩
  have hpl := c3.lt
  go_wp2_with fail
  refine (sget_ok w3 p _ c3).mono ?_
  rintro e w4 ⟨vx, rfl, ox, c4, g4⟩
  have g14 := g13.tn g4 hp'
  have sx := Sl.ofOwns ox
  obtain ⟨ax, kx, rfl⟩ := sx.shape
  clear c3 g13 g4 ox
  go_wp2_with fail
  refine (bad_ok w4 p _ c4).mono ?_
  rintro e w4' ⟨rfl, rfl⟩
  have hinv := gcols_inv l
  generalize CS.gcols ⟨l, false⟩ = R at *
  rcases hinv with rfl | ⟨L, r, rfl, hv, hlr⟩
  · dsimp only at *
    go_wp2
    go_ret
    exact ⟨rfl, g14⟩
  · dsimp only at *
    obtain ⟨hl64, hL⟩ := colsV_zero hv
    have hL' : ∀ c ∈ L, c.name.length ≤ maxLen ∧ -9223372036854775808 ≤ c.typ ∧ c.typ ≤ 9223372036854775807 := fun c hc => by have := hL c hc; unfold maxLen; omega
    have hP8 := putB_le hv
    replace hlr := Lib.hid hlr
    go_wp2_with fail
    refine (sput_ok w4 _ _ [] L hL' (Sl.nil w4) sx (by decide) (by unfold maxLen; omega)).mono ?_
    rintro e w5 ⟨vy, rfl, o5, g5⟩
    rw [if_pos hv, List.nil_append] at o5
    have c5 := c4.tr0 g5
    have g15 := g14.t0 g5
    have sx5 := sx.tr0 g5
    have sy := Sl.ofOwns o5
    obtain ⟨ay, ky, rfl⟩ := sy.shape
    replace hlr := hlr.out
    have hk : (putB L).length ≤ l.length := by rw [hlr]; simp
    have hlr2 : l.length = (putB L).length + r.length := by rw [hlr]; simp
    have s5 := h0.tr0 g15
    have stk := s5.take hk (putB L).length
    have htk : (bcs l).take (putB L).length = bcs (putB L) := by
      rw [hlr, bcs_append, List.take_left' (by simp [bcs])]
    rw [htk] at stk
    generalize hP : putB L = P at *
    have e1 : decide ((P.length : Int) ≤ (l.length : Int)) = true := decide_eq_true (by omega)
    have e2 : (l.length : Int) - (r.length : Int) = (P.length : Int) := by omega
    have e3 : (0 : Int) ≤ (P.length : Int) := by omega
    have e4 : IntKind.i64.wrap (P.length : Int) = (P.length : Int) := by simp [IntKind.wrap, IntKind.bits, IntKind.signed]; omega
    have hkc : P.length ≤ c0 := by obtain ⟨_, _, e, q1, _⟩ := id h0; cases e; omega
    have hkb : c0 ≤ 9223372036854775807 := by obtain ⟨_, _, e, _, q2, _⟩ := id h0; cases e; unfold maxLen at q2; omega
    have kL := left_C c5
    have kC : ∀ w, Chg [] w5 w → Calls Try.prog 35 #[.slice ax L.length kx] w fun e w' => e = .returned (.int .i64 0) ∧ Chg [] w w' := fun w g =>
      (cols_ok w _ L hL' (sx5.tr0 g) (by unfold maxLen; omega)).mono fun e w' ⟨h1, h2⟩ => ⟨by rw [h1, hv], h2⟩
    clear hlr hlr2 htk s5 o5 c4 c5 g5 g14 h0 sx sx5 hL hL' hv hP
    go_wp2_with fail
    refine' region_soft 33 [cst _, cst _, cst _, cst (.int .i64 0), cst _, cst _, cst _, cst _, cst (.int .i64 P.length), cst _, cst (.int .i64 l.length), cst (.bool true), cst (.bool true), cst (.bool true), cst _, cst (.int .i64 P.length), cst _, cst (.int .i64 l.length), cst _, cst (.int .i64 r.length), cst (.int .i64 P.length), cst (.bool true), cst (.bool true), cst (.bool true), cst _, cst (.string (bstr P)), cst _, cst _, cst (.int .i64 P.length), cst (.slice a0 P.length c0), cst (.string (bstr P)), cst (.bool true), cst (.bool true)] rfl (by kernel_rfl) (by kernel_rfl) (stays_cons (Stays.cst _) (stays_cons (Stays.cst _) (stays_cons (Stays.cst _) (stays_cons (Stays.cst _) (stays_cons (Stays.cst _) (stays_cons (Stays.cst _) (stays_cons (Stays.cst _) (stays_cons (Stays.cst _) (stays_cons (Stays.cst _) (stays_cons (Stays.cst _) (stays_cons (Stays.cst _) (stays_cons (Stays.cst _) (stays_cons (Stays.cst _) (stays_cons (Stays.cst _) (stays_cons (Stays.cst _) (stays_cons (Stays.cst _) (stays_cons (Stays.cst _) (stays_cons (Stays.cst _) (stays_cons (Stays.cst _) (stays_cons (Stays.cst _) (stays_cons (Stays.cst _) (stays_cons (Stays.cst _) (stays_cons (Stays.cst _) (stays_cons (Stays.cst _) (stays_cons (Stays.cst _) (stays_cons (Stays.cst _) (stays_cons (Stays.cst _) (stays_cons (Stays.cst _) (stays_cons (Stays.cst _) (stays_cons (Stays.cst _) (stays_cons (Stays.cst _) (stays_cons (Stays.cst _) (stays_cons (Stays.cst _) stays_nil))))))))))))))))))))))))))))))))) _ (fun V => by simp only [putAll, Act.put, List.take_succ_cons, List.take_zero, List.setIfInBounds_toArray, List.set_cons_zero, List.set_cons_succ, Nat.reduceAdd]; exact rfl) ?hs1 ?ht1
    case hs1 =>
      simp only [List.take_succ_cons, List.take_zero, softs]
      refine ⟨?_, ?_, ?_, ?_, ?_, ?_, ?_, ?_, ?_, ?_, ?_, ?_, ?_, ?_, ?_, ?_, ?_, ?_, ?_, ?_, ?_, ?_, ?_, ?_, ?_, ?_, ?_, ?_, ?_, ?_, ?_, ?_, ?_, trivial⟩
      · intro V w hw hd
        simp [phi, Region.binds, cst] at hd
        try simp only [hd]
        first
          | (refine soft_const rfl ?_; go_simp; done)
          | (refine soft_const rfl ?_; go_simp; exact rfl)
          | (refine soft_str rfl _ _ _ rfl _ rfl _ Try.underlying22 Try.underlying5 Try.underlying9 _ _ ?_ rfl; exact sy.tr0 hw)
          | (refine soft_str rfl _ _ _ rfl _ rfl _ Try.underlying22 Try.underlying5 Try.underlying9 _ _ ?_ rfl; exact stk.tr0 hw)
          | (exact soft_skip rfl)
      · intro V w hw hd
        simp [phi, Region.binds, cst] at hd
        try simp only [hd]
        first
          | (refine soft_const rfl ?_; go_simp; done)
          | (refine soft_const rfl ?_; go_simp; exact rfl)
          | (refine soft_str rfl _ _ _ rfl _ rfl _ Try.underlying22 Try.underlying5 Try.underlying9 _ _ ?_ rfl; exact sy.tr0 hw)
          | (refine soft_str rfl _ _ _ rfl _ rfl _ Try.underlying22 Try.underlying5 Try.underlying9 _ _ ?_ rfl; exact stk.tr0 hw)
          | (exact soft_skip rfl)
      · intro V w hw hd
        simp [phi, Region.binds, cst] at hd
        try simp only [hd]
        first
          | (refine soft_const rfl ?_; go_simp; done)
          | (refine soft_const rfl ?_; go_simp; exact rfl)
          | (refine soft_str rfl _ _ _ rfl _ rfl _ Try.underlying22 Try.underlying5 Try.underlying9 _ _ ?_ rfl; exact sy.tr0 hw)
          | (refine soft_str rfl _ _ _ rfl _ rfl _ Try.underlying22 Try.underlying5 Try.underlying9 _ _ ?_ rfl; exact stk.tr0 hw)
          | (exact soft_skip rfl)
      · intro V w hw hd
        simp [phi, Region.binds, cst] at hd
        try simp only [hd]
        refine soft_callC rfl _ _ (by go_simp; try exact ⟨rfl, rfl⟩) (kC w hw)
      · intro V w hw hd
        simp [phi, Region.binds, cst] at hd
        try simp only [hd]
        first
          | (refine soft_const rfl ?_; go_simp; done)
          | (refine soft_const rfl ?_; go_simp; exact rfl)
          | (refine soft_str rfl _ _ _ rfl _ rfl _ Try.underlying22 Try.underlying5 Try.underlying9 _ _ ?_ rfl; exact sy.tr0 hw)
          | (refine soft_str rfl _ _ _ rfl _ rfl _ Try.underlying22 Try.underlying5 Try.underlying9 _ _ ?_ rfl; exact stk.tr0 hw)
          | (exact soft_skip rfl)
      · intro V w hw hd
        simp [phi, Region.binds, cst] at hd
        try simp only [hd]
        first
          | (refine soft_const rfl ?_; go_simp; done)
          | (refine soft_const rfl ?_; go_simp; exact rfl)
          | (refine soft_str rfl _ _ _ rfl _ rfl _ Try.underlying22 Try.underlying5 Try.underlying9 _ _ ?_ rfl; exact sy.tr0 hw)
          | (refine soft_str rfl _ _ _ rfl _ rfl _ Try.underlying22 Try.underlying5 Try.underlying9 _ _ ?_ rfl; exact stk.tr0 hw)
          | (exact soft_skip rfl)
      · intro V w hw hd
        simp [phi, Region.binds, cst] at hd
        try simp only [hd]
        first
          | (refine soft_const rfl ?_; go_simp; done)
          | (refine soft_const rfl ?_; go_simp; exact rfl)
          | (refine soft_str rfl _ _ _ rfl _ rfl _ Try.underlying22 Try.underlying5 Try.underlying9 _ _ ?_ rfl; exact sy.tr0 hw)
          | (refine soft_str rfl _ _ _ rfl _ rfl _ Try.underlying22 Try.underlying5 Try.underlying9 _ _ ?_ rfl; exact stk.tr0 hw)
          | (exact soft_skip rfl)
      · intro V w hw hd
        simp [phi, Region.binds, cst] at hd
        try simp only [hd]
        first
          | (refine soft_const rfl ?_; go_simp; done)
          | (refine soft_const rfl ?_; go_simp; exact rfl)
          | (refine soft_str rfl _ _ _ rfl _ rfl _ Try.underlying22 Try.underlying5 Try.underlying9 _ _ ?_ rfl; exact sy.tr0 hw)
          | (refine soft_str rfl _ _ _ rfl _ rfl _ Try.underlying22 Try.underlying5 Try.underlying9 _ _ ?_ rfl; exact stk.tr0 hw)
          | (exact soft_skip rfl)
      · intro V w hw hd
        simp [phi, Region.binds, cst] at hd
        try simp only [hd]
        first
          | (refine soft_const rfl ?_; go_simp; done)
          | (refine soft_const rfl ?_; go_simp; exact rfl)
          | (refine soft_str rfl _ _ _ rfl _ rfl _ Try.underlying22 Try.underlying5 Try.underlying9 _ _ ?_ rfl; exact sy.tr0 hw)
          | (refine soft_str rfl _ _ _ rfl _ rfl _ Try.underlying22 Try.underlying5 Try.underlying9 _ _ ?_ rfl; exact stk.tr0 hw)
          | (exact soft_skip rfl)
      · intro V w hw hd
        simp [phi, Region.binds, cst] at hd
        try simp only [hd]
        first
          | (refine soft_const rfl ?_; go_simp; done)
          | (refine soft_const rfl ?_; go_simp; exact rfl)
          | (refine soft_str rfl _ _ _ rfl _ rfl _ Try.underlying22 Try.underlying5 Try.underlying9 _ _ ?_ rfl; exact sy.tr0 hw)
          | (refine soft_str rfl _ _ _ rfl _ rfl _ Try.underlying22 Try.underlying5 Try.underlying9 _ _ ?_ rfl; exact stk.tr0 hw)
          | (exact soft_skip rfl)
      · intro V w hw hd
        simp [phi, Region.binds, cst] at hd
        try simp only [hd]
        first
          | (refine soft_const rfl ?_; go_simp; done)
          | (refine soft_const rfl ?_; go_simp; exact rfl)
          | (refine soft_str rfl _ _ _ rfl _ rfl _ Try.underlying22 Try.underlying5 Try.underlying9 _ _ ?_ rfl; exact sy.tr0 hw)
          | (refine soft_str rfl _ _ _ rfl _ rfl _ Try.underlying22 Try.underlying5 Try.underlying9 _ _ ?_ rfl; exact stk.tr0 hw)
          | (exact soft_skip rfl)
      · intro V w hw hd
        simp [phi, Region.binds, cst] at hd
        try simp only [hd]
        first
          | (refine soft_const rfl ?_; go_simp; done)
          | (refine soft_const rfl ?_; go_simp; exact rfl)
          | (refine soft_str rfl _ _ _ rfl _ rfl _ Try.underlying22 Try.underlying5 Try.underlying9 _ _ ?_ rfl; exact sy.tr0 hw)
          | (refine soft_str rfl _ _ _ rfl _ rfl _ Try.underlying22 Try.underlying5 Try.underlying9 _ _ ?_ rfl; exact stk.tr0 hw)
          | (exact soft_skip rfl)
      · intro V w hw hd
        simp [phi, Region.binds, cst] at hd
        try simp only [hd]
        first
          | (refine soft_const rfl ?_; go_simp; done)
          | (refine soft_const rfl ?_; go_simp; exact rfl)
          | (refine soft_str rfl _ _ _ rfl _ rfl _ Try.underlying22 Try.underlying5 Try.underlying9 _ _ ?_ rfl; exact sy.tr0 hw)
          | (refine soft_str rfl _ _ _ rfl _ rfl _ Try.underlying22 Try.underlying5 Try.underlying9 _ _ ?_ rfl; exact stk.tr0 hw)
          | (exact soft_skip rfl)
      · intro V w hw hd
        simp [phi, Region.binds, cst] at hd
        try simp only [hd]
        first
          | (refine soft_const rfl ?_; go_simp; done)
          | (refine soft_const rfl ?_; go_simp; exact rfl)
          | (refine soft_str rfl _ _ _ rfl _ rfl _ Try.underlying22 Try.underlying5 Try.underlying9 _ _ ?_ rfl; exact sy.tr0 hw)
          | (refine soft_str rfl _ _ _ rfl _ rfl _ Try.underlying22 Try.underlying5 Try.underlying9 _ _ ?_ rfl; exact stk.tr0 hw)
          | (exact soft_skip rfl)
      · intro V w hw hd
        simp [phi, Region.binds, cst] at hd
        try simp only [hd]
        first
          | (refine soft_const rfl ?_; go_simp; done)
          | (refine soft_const rfl ?_; go_simp; exact rfl)
          | (refine soft_str rfl _ _ _ rfl _ rfl _ Try.underlying22 Try.underlying5 Try.underlying9 _ _ ?_ rfl; exact sy.tr0 hw)
          | (refine soft_str rfl _ _ _ rfl _ rfl _ Try.underlying22 Try.underlying5 Try.underlying9 _ _ ?_ rfl; exact stk.tr0 hw)
          | (exact soft_skip rfl)
      · intro V w hw hd
        simp [phi, Region.binds, cst] at hd
        try simp only [hd]
        first
          | (refine soft_const rfl ?_; go_simp; done)
          | (refine soft_const rfl ?_; go_simp; exact rfl)
          | (refine soft_str rfl _ _ _ rfl _ rfl _ Try.underlying22 Try.underlying5 Try.underlying9 _ _ ?_ rfl; exact sy.tr0 hw)
          | (refine soft_str rfl _ _ _ rfl _ rfl _ Try.underlying22 Try.underlying5 Try.underlying9 _ _ ?_ rfl; exact stk.tr0 hw)
          | (exact soft_skip rfl)
      · intro V w hw hd
        simp [phi, Region.binds, cst] at hd
        try simp only [hd]
        first
          | (refine soft_const rfl ?_; go_simp; done)
          | (refine soft_const rfl ?_; go_simp; exact rfl)
          | (refine soft_str rfl _ _ _ rfl _ rfl _ Try.underlying22 Try.underlying5 Try.underlying9 _ _ ?_ rfl; exact sy.tr0 hw)
          | (refine soft_str rfl _ _ _ rfl _ rfl _ Try.underlying22 Try.underlying5 Try.underlying9 _ _ ?_ rfl; exact stk.tr0 hw)
          | (exact soft_skip rfl)
      · intro V w hw hd
        simp [phi, Region.binds, cst] at hd
        try simp only [hd]
        first
          | (refine soft_const rfl ?_; go_simp; done)
          | (refine soft_const rfl ?_; go_simp; exact rfl)
          | (refine soft_str rfl _ _ _ rfl _ rfl _ Try.underlying22 Try.underlying5 Try.underlying9 _ _ ?_ rfl; exact sy.tr0 hw)
          | (refine soft_str rfl _ _ _ rfl _ rfl _ Try.underlying22 Try.underlying5 Try.underlying9 _ _ ?_ rfl; exact stk.tr0 hw)
          | (exact soft_skip rfl)
      · intro V w hw hd
        simp [phi, Region.binds, cst] at hd
        try simp only [hd]
        first
          | (refine soft_const rfl ?_; go_simp; done)
          | (refine soft_const rfl ?_; go_simp; exact rfl)
          | (refine soft_str rfl _ _ _ rfl _ rfl _ Try.underlying22 Try.underlying5 Try.underlying9 _ _ ?_ rfl; exact sy.tr0 hw)
          | (refine soft_str rfl _ _ _ rfl _ rfl _ Try.underlying22 Try.underlying5 Try.underlying9 _ _ ?_ rfl; exact stk.tr0 hw)
          | (exact soft_skip rfl)
      · intro V w hw hd
        simp [phi, Region.binds, cst] at hd
        try simp only [hd]
        refine soft_callC rfl _ _ (by go_simp; try exact ⟨rfl, rfl⟩) (kL w hw)
      · intro V w hw hd
        simp [phi, Region.binds, cst] at hd
        try simp only [hd]
        first
          | (refine soft_const rfl ?_; go_simp; done)
          | (refine soft_const rfl ?_; go_simp; exact rfl)
          | (refine soft_str rfl _ _ _ rfl _ rfl _ Try.underlying22 Try.underlying5 Try.underlying9 _ _ ?_ rfl; exact sy.tr0 hw)
          | (refine soft_str rfl _ _ _ rfl _ rfl _ Try.underlying22 Try.underlying5 Try.underlying9 _ _ ?_ rfl; exact stk.tr0 hw)
          | (exact soft_skip rfl)
      · intro V w hw hd
        simp [phi, Region.binds, cst] at hd
        try simp only [hd]
        first
          | (refine soft_const rfl ?_; go_simp; done)
          | (refine soft_const rfl ?_; go_simp; exact rfl)
          | (refine soft_str rfl _ _ _ rfl _ rfl _ Try.underlying22 Try.underlying5 Try.underlying9 _ _ ?_ rfl; exact sy.tr0 hw)
          | (refine soft_str rfl _ _ _ rfl _ rfl _ Try.underlying22 Try.underlying5 Try.underlying9 _ _ ?_ rfl; exact stk.tr0 hw)
          | (exact soft_skip rfl)
      · intro V w hw hd
        simp [phi, Region.binds, cst] at hd
        try simp only [hd]
        first
          | (refine soft_const rfl ?_; go_simp; done)
          | (refine soft_const rfl ?_; go_simp; exact rfl)
          | (refine soft_str rfl _ _ _ rfl _ rfl _ Try.underlying22 Try.underlying5 Try.underlying9 _ _ ?_ rfl; exact sy.tr0 hw)
          | (refine soft_str rfl _ _ _ rfl _ rfl _ Try.underlying22 Try.underlying5 Try.underlying9 _ _ ?_ rfl; exact stk.tr0 hw)
          | (exact soft_skip rfl)
      · intro V w hw hd
        simp [phi, Region.binds, cst] at hd
        try simp only [hd]
        first
          | (refine soft_const rfl ?_; go_simp; done)
          | (refine soft_const rfl ?_; go_simp; exact rfl)
          | (refine soft_str rfl _ _ _ rfl _ rfl _ Try.underlying22 Try.underlying5 Try.underlying9 _ _ ?_ rfl; exact sy.tr0 hw)
          | (refine soft_str rfl _ _ _ rfl _ rfl _ Try.underlying22 Try.underlying5 Try.underlying9 _ _ ?_ rfl; exact stk.tr0 hw)
          | (exact soft_skip rfl)
      · intro V w hw hd
        simp [phi, Region.binds, cst] at hd
        try simp only [hd]
        first
          | (refine soft_const rfl ?_; go_simp; done)
          | (refine soft_const rfl ?_; go_simp; exact rfl)
          | (refine soft_str rfl _ _ _ rfl _ rfl _ Try.underlying22 Try.underlying5 Try.underlying9 _ _ ?_ rfl; exact sy.tr0 hw)
          | (refine soft_str rfl _ _ _ rfl _ rfl _ Try.underlying22 Try.underlying5 Try.underlying9 _ _ ?_ rfl; exact stk.tr0 hw)
          | (exact soft_skip rfl)
      · intro V w hw hd
        simp [phi, Region.binds, cst] at hd
        try simp only [hd]
        first
          | (refine soft_const rfl ?_; go_simp; done)
          | (refine soft_const rfl ?_; go_simp; exact rfl)
          | (refine soft_str rfl _ _ _ rfl _ rfl _ Try.underlying22 Try.underlying5 Try.underlying9 _ _ ?_ rfl; exact sy.tr0 hw)
          | (refine soft_str rfl _ _ _ rfl _ rfl _ Try.underlying22 Try.underlying5 Try.underlying9 _ _ ?_ rfl; exact stk.tr0 hw)
          | (exact soft_skip rfl)
      · intro V w hw hd
        simp [phi, Region.binds, cst] at hd
        try simp only [hd]
        first
          | (refine soft_const rfl ?_; go_simp; done)
          | (refine soft_const rfl ?_; go_simp; exact rfl)
          | (refine soft_str rfl _ _ _ rfl _ rfl _ Try.underlying22 Try.underlying5 Try.underlying9 _ _ ?_ rfl; exact sy.tr0 hw)
          | (refine soft_str rfl _ _ _ rfl _ rfl _ Try.underlying22 Try.underlying5 Try.underlying9 _ _ ?_ rfl; exact stk.tr0 hw)
          | (exact soft_skip rfl)
      · intro V w hw hd
        simp [phi, Region.binds, cst] at hd
        try simp only [hd]
        first
          | (refine soft_const rfl ?_; go_simp; done)
          | (refine soft_const rfl ?_; go_simp; exact rfl)
          | (refine soft_str rfl _ _ _ rfl _ rfl _ Try.underlying22 Try.underlying5 Try.underlying9 _ _ ?_ rfl; exact sy.tr0 hw)
          | (refine soft_str rfl _ _ _ rfl _ rfl _ Try.underlying22 Try.underlying5 Try.underlying9 _ _ ?_ rfl; exact stk.tr0 hw)
          | (exact soft_skip rfl)
      · intro V w hw hd
        simp [phi, Region.binds, cst] at hd
        try simp only [hd]
        first
          | (refine soft_const rfl ?_; go_simp; done)
          | (refine soft_const rfl ?_; go_simp; exact rfl)
          | (refine soft_str rfl _ _ _ rfl _ rfl _ Try.underlying22 Try.underlying5 Try.underlying9 _ _ ?_ rfl; exact sy.tr0 hw)
          | (refine soft_str rfl _ _ _ rfl _ rfl _ Try.underlying22 Try.underlying5 Try.underlying9 _ _ ?_ rfl; exact stk.tr0 hw)
          | (exact soft_skip rfl)
      · intro V w hw hd
        simp [phi, Region.binds, cst] at hd
        try simp only [hd]
        first
          | (refine soft_const rfl ?_; go_simp; done)
          | (refine soft_const rfl ?_; go_simp; exact rfl)
          | (refine soft_str rfl _ _ _ rfl _ rfl _ Try.underlying22 Try.underlying5 Try.underlying9 _ _ ?_ rfl; exact sy.tr0 hw)
          | (refine soft_str rfl _ _ _ rfl _ rfl _ Try.underlying22 Try.underlying5 Try.underlying9 _ _ ?_ rfl; exact stk.tr0 hw)
          | (exact soft_skip rfl)
      · intro V w hw hd
        simp [phi, Region.binds, cst] at hd
        try simp only [hd]
        first
          | (refine soft_const rfl ?_; go_simp; done)
          | (refine soft_const rfl ?_; go_simp; exact rfl)
          | (refine soft_str rfl _ _ _ rfl _ rfl _ Try.underlying22 Try.underlying5 Try.underlying9 _ _ ?_ rfl; exact sy.tr0 hw)
          | (refine soft_str rfl _ _ _ rfl _ rfl _ Try.underlying22 Try.underlying5 Try.underlying9 _ _ ?_ rfl; exact stk.tr0 hw)
          | (exact soft_skip rfl)
      · intro V w hw hd
        simp [phi, Region.binds, cst] at hd
        try simp only [hd]
        first
          | (refine soft_const rfl ?_; go_simp; done)
          | (refine soft_const rfl ?_; go_simp; exact rfl)
          | (refine soft_str rfl _ _ _ rfl _ rfl _ Try.underlying22 Try.underlying5 Try.underlying9 _ _ ?_ rfl; exact sy.tr0 hw)
          | (refine soft_str rfl _ _ _ rfl _ rfl _ Try.underlying22 Try.underlying5 Try.underlying9 _ _ ?_ rfl; exact stk.tr0 hw)
          | (exact soft_skip rfl)
      · intro V w hw hd
        simp [phi, Region.binds, cst] at hd
        try simp only [hd]
        first
          | (refine soft_const rfl ?_; go_simp; done)
          | (refine soft_const rfl ?_; go_simp; exact rfl)
          | (refine soft_str rfl _ _ _ rfl _ rfl _ Try.underlying22 Try.underlying5 Try.underlying9 _ _ ?_ rfl; exact sy.tr0 hw)
          | (refine soft_str rfl _ _ _ rfl _ rfl _ Try.underlying22 Try.underlying5 Try.underlying9 _ _ ?_ rfl; exact stk.tr0 hw)
          | (exact soft_skip rfl)
    intro V w6 g6 hk2
    have h32 := hk2 32 (by decide)
    simp [phi, cst] at h32
    simp only [h32, List.drop_succ_cons, List.drop_zero]
    clear hk2
    go_wp2
    go_ret
    exact ⟨rfl, g15.t0 g6⟩
end Go.Proofs.Ytllidfhdklfkmaa
