/-
  How many parts there are beside: the contracts of proof.Need and of the document's own (hypostyleref22).
-/
import Derived.Test.YtgepfmofignmfaaOver
namespace Go.Proofs.Ytgepfmofignmfaa
set_option linter.unusedSimpArgs false
set_option linter.unusedVariables false
open Go.RowKit

set_option maxHeartbeats 4000000 in
set_option maxRecDepth 100000 in
theorem none_ok' (w : World) (a b : Value) : Calls Try.prog 46 #[a, b] w fun e w' => e = .returned (.agg (bcs zero32).toArray) ∧ Chg [] w w' := by
  go_enter Try.func46, Try.ntmps46
  go_wp2_with (first
    | (refine alloc_bytes (by rfl) 32 (by rfl) 32 (by kernel_rfl) ?_; intro w0 h0 g0 s0; replace s0 : Hid _ := s0)
    | (refine store_bytes (by rfl) 32 _ _ (by rfl) w.heap.size 32 _ (by rfl) zero32 (by rfl) (List.replicate 32 0) h0 (by kernel_rfl) zero32_len (by simp) ?_; intro w2 h2 g2 s2))
  exact ret_bytes 4 32 (by rfl) 32 5 Try.underlying32 (by kernel_rfl) (by rfl) _ rfl zero32 _ h2 zero32_len ⟨rfl, g0.tn g2 (Nat.le_refl _)⟩
set_option maxHeartbeats 4000000 in
set_option maxRecDepth 100000 in
theorem nothing_ok (w : World) (x y : Bytes) : Calls Try.prog 48 #[.agg (bcs x).toArray, .agg (bcs y).toArray] w fun e w' => e = .returned (.agg (bcs zero32).toArray) ∧ Chg [] w w' := by
  have gb : Chg [] w ((w.alloc (.cells (bcs x).toArray 32)).alloc (.cells (bcs y).toArray 32)) := (Chg.alloc _ _ _).t0 (Chg.alloc _ _ _)
  go_enter Try.func48, Try.ntmps48
  go_wp2_with (first
    | (refine alloc_bytes (by rfl) 32 (by rfl) 32 (by kernel_rfl) ?_; intro w0 h0 g0 s0; simp only [World.size_alloc] at h0 s0; replace s0 : Hid _ := s0)
    | (refine store_bytes (by rfl) 32 _ _ (by rfl) (w.heap.size + 1 + 1) 32 _ (by rfl) zero32 (by rfl) (List.replicate 32 0) h0 (by kernel_rfl) zero32_len (by simp) ?_; intro w2 h2 g2 s2))
  exact ret_bytes 4 32 (by rfl) 32 5 Try.underlying32 (by kernel_rfl) (by rfl) _ rfl zero32 _ h2 zero32_len ⟨rfl, (gb.t0 g0).tn g2 (by omega)⟩
set_option maxHeartbeats 4000000 in
set_option maxRecDepth 100000 in
theorem need1_ok (w : World) (a b : Value) (q s : Nat) (hs : s ≤ 200000) (hq : w.heap[q]? = some (.cells #[.int .i64 s] 3 (0, 0))) :
    Calls Try.prog 47 #[a, b, .pointer (some ⟨q, 0, none⟩)] w fun e w' => e = .returned (.agg (bcs zero32).toArray) ∧ w'.heap[q]? = some (.cells #[.int .i64 (s + 1 : Nat)] 3 (0, 0)) ∧ Chg [q] w w' := by
  have hqw := lt_of_heap hq
  have hsi : (s : Int) ≤ 200000 := by omega
  go_enter Try.func47, Try.ntmps47
  go_wp2_with (first
    | (refine alloc_bytes (by rfl) 32 (by rfl) 32 (by kernel_rfl) ?_; intro w0 h0 g0 s0; replace s0 : Hid _ := s0; have hq0 := g0.heap hq (by simp); obtain ⟨k0, f0⟩ := cells1 hq0)
    | (have gS := Chg.setCell w0 ⟨q, 0, none⟩ (.int .i64 ((s : Int) + 1)); have hq1 : (w0.setCell ⟨q, 0, none⟩ (.int .i64 ((s : Int) + 1))).heap[q]? = some (.cells #[.int .i64 (s + 1 : Nat)] 3 (0, 0)) := (by rw [heap_setCell_same _ q 0 _ _ _ hq0]; rfl); have h1 := gS.heap h0 (by simp; omega); refine store_bytes (by rfl) 32 _ _ (by rfl) w.heap.size 32 _ (by rfl) zero32 (by rfl) (List.replicate 32 0) h1 (by kernel_rfl) zero32_len (by simp) ?_; intro w2 h2 g2 s2))
  exact ret_bytes 5 32 (by rfl) 32 5 Try.underlying32 (by kernel_rfl) (by rfl) _ rfl zero32 _ h2 zero32_len ⟨rfl, g2.heap hq1 (by simp; omega), (g0.of0.t1 gS).tn g2 (Nat.le_refl _)⟩
set_option maxHeartbeats 4000000 in
set_option maxRecDepth 100000 in
theorem pfits_ok (w : World) (n lo hi : Int) : Calls Try.prog 45 #[.int .i64 n, .int .i64 lo, .int .i64 hi] w fun e w' => e = .returned (.bool (fitsP n lo hi)) ∧ w' = w := by
  obtain ⟨R, hR⟩ : ∃ R, R = fitsP n lo hi := ⟨_, rfl⟩
  rw [← hR]
  unfold fitsP at hR
  replace hR := Lib.hid hR
  by_cases h1 : 0 ≤ lo
  · by_cases h2 : lo ≤ hi
    · by_cases h3 : hi ≤ n
      · by_cases h4 : n ≤ 65536
        all_goals
          go_enter Try.func45, Try.ntmps45
          go_wp2
          go_ret
          exact ⟨by rw [hR.out]; simp [*] <;> omega, rfl⟩
      · go_enter Try.func45, Try.ntmps45
        go_wp2
        go_ret
        exact ⟨by rw [hR.out]; simp [*] <;> omega, rfl⟩
    · go_enter Try.func45, Try.ntmps45
      go_wp2
      go_ret
      exact ⟨by rw [hR.out]; simp [*] <;> omega, rfl⟩
  · go_enter Try.func45, Try.ntmps45
    go_wp2
    go_ret
    exact ⟨by rw [hR.out]; simp [*] <;> omega, rfl⟩
set_option maxHeartbeats 4000000 in
set_option maxRecDepth 100000 in
theorem rfits_ok' (w : World) (n lo hi : Int) : Calls Try.prog 50 #[.int .i64 n, .int .i64 lo, .int .i64 hi] w fun e w' => e = .returned (.bool (fitsP n lo hi)) ∧ w' = w := by
  obtain ⟨R, hR⟩ : ∃ R, R = fitsP n lo hi := ⟨_, rfl⟩
  rw [← hR]
  unfold fitsP at hR
  replace hR := Lib.hid hR
  by_cases h1 : 0 ≤ lo
  · by_cases h2 : lo ≤ hi
    · by_cases h3 : hi ≤ n
      · by_cases h4 : n ≤ 65536
        all_goals
          go_enter Try.func50, Try.ntmps50
          go_wp2
          go_ret
          exact ⟨by rw [hR.out]; simp [*] <;> omega, rfl⟩
      · go_enter Try.func50, Try.ntmps50
        go_wp2
        go_ret
        exact ⟨by rw [hR.out]; simp [*] <;> omega, rfl⟩
    · go_enter Try.func50, Try.ntmps50
      go_wp2
      go_ret
      exact ⟨by rw [hR.out]; simp [*] <;> omega, rfl⟩
  · go_enter Try.func50, Try.ntmps50
    go_wp2
    go_ret
    exact ⟨by rw [hR.out]; simp [*] <;> omega, rfl⟩
theorem need_le {lo hi n : Nat} (hn : n ≤ 65536) (h0 : 0 < n) (h : hi ≤ n) : needV lo hi 0 n ≤ 40 := by
  by_cases h1 : hi ≤ lo ∨ n ≤ lo ∨ hi ≤ 0
  · rw [needV_bes h1]; decide
  · have h2 := need_all (lo := lo) (hi := hi) h0 (by omega) (by omega) (by omega)
    have h3 : depthV n ≤ 16 := by
      have := depthV_mono (a := n) (b := 2 ^ 16) (by omega)
      rwa [depthV_pow] at this
    rw [Nat.sub_zero] at h2
    omega
theorem need_le2 {lo hi a b : Nat} (hab : a < b) (hb : b ≤ 65536) : needV lo hi a b ≤ 40 := by
  by_cases h1 : hi ≤ lo ∨ b ≤ lo ∨ hi ≤ a
  · rw [needV_bes h1]; decide
  · have h2 := need_all (lo := lo) (hi := hi) hab (by omega) (by omega) (by omega)
    have h3 : depthV (b - a) ≤ 16 := by
      have := depthV_mono (a := b - a) (b := 2 ^ 16) (by omega)
      rwa [depthV_pow] at this
    omega
/-- What Need's walk keeps. -/
def INeed (q B : Nat) (s : Nat) (w : World) (S : List Nat) : Prop := S = [q] ∧ B ≤ w.heap.size ∧ w.heap[q]? = some (.cells #[.int .i64 s] 3 (0, 0))
theorem needWalks (q B lo hi N : Nat) : Walks needA (INeed q B) (fun s c _ => s + c ≤ 200000) B lo hi N 46 47 48 #[] #[.pointer (some ⟨q, 0, none⟩)] #[] where
  ein := fun args w => by go_simp
  ebe := fun args w => by go_simp
  eno := fun args w => by go_simp
  keep := fun s w w' S T ⟨h1, h2, h3⟩ g hT => ⟨h1, Nat.le_trans h2 g.size, g.heap h3 fun hm => (hT q hm).1 (by rw [h1]; simp)⟩
  lt := fun s w S ⟨h1, h2, h3⟩ => ⟨h2, fun x hx => by rw [h1] at hx; rw [List.mem_singleton.1 hx]; exact lt_of_heap h3⟩
  inn := fun s w S a b c d ⟨h1, h2, h3⟩ _ _ _ _ _ => (none_ok' w _ _).mono fun e w' ⟨he, g⟩ => ⟨he, zero32_len, S, ⟨h1, Nat.le_trans h2 g.size, g.heap h3 (by simp)⟩, g.of0, fun x hx => .inl hx⟩
  bes := fun s w S a b c d ⟨h1, h2, h3⟩ hK _ _ => (need1_ok w _ _ q s (by omega) h3).mono fun e w' ⟨he, h4, g⟩ => ⟨he, zero32_len, S, ⟨h1, Nat.le_trans h2 g.size, h4⟩, by rw [h1]; exact g, fun x hx => .inl hx⟩
  nod := fun s w S x y c d ⟨h1, h2, h3⟩ _ _ _ => (nothing_ok w x y).mono fun e w' ⟨he, g⟩ => ⟨he, zero32_len, S, ⟨h1, Nat.le_trans h2 g.size, g.heap h3 (by simp)⟩, g.of0, fun x hx => .inl hx⟩
  kinn := fun s a b c d _ _ h => h
  kbes := fun s a b c d _ _ h => by show s + 1 + c ≤ 200000; omega
  knod := fun s x y c d h => h
set_option maxHeartbeats 8000000 in
set_option maxRecDepth 100000 in
theorem need_ok (w : World) (n lo hi : Int) : Calls Try.prog 30 #[.int .i64 n, .int .i64 lo, .int .i64 hi] w fun e w' => e = .returned (.int .i64 (needP n lo hi)) ∧ Chg [] w w' := by
  have kF := fun w => pfits_ok w n lo hi
  cases hf : fitsP n lo hi with
  | false =>
    have hP : needP n lo hi = -1 := by unfold needP; rw [if_neg (by rw [hf]; decide)]
    rw [hP]
    rw [hf] at kF
    clear hf hP
    go_enter Try.func30, Try.ntmps30
    go_wp2_with fail
    refine (kF _).mono ?_
    rintro e w1 ⟨rfl, rfl⟩
    go_wp2
    go_ret
    exact ⟨rfl, Chg.refl _ _⟩
  | true =>
    have hff := hf
    simp only [fitsP, Bool.and_eq_true, decide_eq_true_eq] at hf
    obtain ⟨N, rfl⟩ : ∃ N : Nat, n = N := ⟨n.toNat, by omega⟩
    obtain ⟨l, rfl⟩ : ∃ l : Nat, lo = l := ⟨lo.toNat, by omega⟩
    obtain ⟨h, rfl⟩ : ∃ h : Nat, hi = h := ⟨hi.toNat, by omega⟩
    have hP : needP N l h = if N = 0 then 0 else (needV l h 0 N : Int) := by
      unfold needP
      rw [if_pos hff]
      by_cases h0 : N = 0
      · rw [if_pos h0, if_pos (by omega)]
      · rw [if_neg h0, if_neg (by omega)]; rfl
    rw [hP]
    rw [hff] at kF
    clear hP hff
    by_cases h0 : N = 0
    · rw [if_pos h0]
      subst h0
      clear hf
      go_enter Try.func30, Try.ntmps30
      go_wp2_with fail
      refine (kF _).mono ?_
      rintro e w1 ⟨rfl, rfl⟩
      go_wp2
      go_ret
      exact ⟨rfl, Chg.alloc [] _ _⟩
    · rw [if_neg h0]
      have hN : (0 : Int) < N := by omega
      have hb := need_le (lo := l) (hi := h) (n := N) (by omega) (by omega) (by omega)
      have kO := fun B q w S hI => over_run (needWalks q B l h N) (by omega) (by omega) (by omega) 0 N (by omega) (Nat.le_refl _) 0 0 0 w S hI (by show 0 + (needV l h 0 N + 0) ≤ 200000; omega)
      have hv := need_over (lo := l) (hi := h) (a := 0) (b := N) (s := 0) (by omega)
      rw [Nat.zero_add] at hv
      generalize overV needA l h 0 N 0 = R at *
      obtain ⟨x, s⟩ := R
      dsimp only at hv kO
      subst hv
      generalize needV l h 0 N = c at *
      replace kO := Lib.hid kO
      go_enter Try.func30, Try.ntmps30
      go_wp2_with fail
      refine (kF _).mono ?_
      rintro e w1 ⟨rfl, rfl⟩
      go_wp2_with fail
      have hb1 := heap_alloc_new w1 (.cells #[.int .i64 0] 3)
      have g1 := Chg.alloc [] w1 (.cells #[.int .i64 0] 3)
      refine (kO.out (w1.alloc (.cells #[.int .i64 0] 3)).heap.size w1.heap.size _ [w1.heap.size] ⟨rfl, Nat.le_refl _, hb1⟩).mono ?_
      rintro e w2 ⟨rfl, _, _, S', ⟨rfl, _, hq⟩, g2, _⟩
      obtain ⟨k0, f0⟩ := cells1 hq
      have g12 : Chg [] w1 w2 := g1.tn g2 (Nat.le_refl _)
      clear hb1 g1 g2 kO
      go_wp2
      go_ret
      exact ⟨rfl, g12⟩
set_option maxHeartbeats 8000000 in
set_option maxRecDepth 100000 in
theorem rneed_run (lo hi : Nat) (hlo : lo ≤ 65536) (hhi : hi ≤ 65536) (a b : Nat) (hab : a < b) : b ≤ 65536 → ∀ (n : Nat), b = a + n → ∀ w, Calls Try.prog 51 #[.int .i64 a, .int .i64 n, .int .i64 lo, .int .i64 hi] w fun e w' => e = .returned (.int .i64 (needV lo hi a b)) ∧ w' = w := by
  refine over_ind (lo := lo) (hi := hi) (P := fun a b => b ≤ 65536 → ∀ (n : Nat), b = a + n → ∀ w, Calls Try.prog 51 #[.int .i64 a, .int .i64 n, .int .i64 lo, .int .i64 hi] w fun e w' => e = .returned (.int .i64 (needV lo hi a b)) ∧ w' = w) ?_ ?_ ?_ a b hab
  · intro a b h h1 hb n hn w
    rw [needV_bes h1]
    have hn0 : (n : Int) ≠ 0 := by omega
    have hbr : (hi : Int) ≤ lo ∨ (lo : Int) < hi ∧ (hi : Int) ≤ a ∨ (lo : Int) < hi ∧ (a : Int) < hi ∧ (a : Int) + n ≤ lo := by omega
    have hnn : ¬ ((lo : Int) ≤ a ∧ (a : Int) + n ≤ hi ∧ (lo : Int) < hi) := by omega
    have hcase : (a : Int) < lo ∨ ((lo : Int) ≤ a ∧ (hi : Int) < a + n) ∨ ((lo : Int) ≤ a ∧ (a : Int) + n ≤ hi ∧ (hi : Int) ≤ lo) := by omega
    clear hnn h1
    rcases hcase with z1 | ⟨z1, z2⟩ | ⟨z1, z2, z3⟩ <;> rcases hbr with y1 | ⟨y1, y2⟩ | ⟨y1, y2, y3⟩
    all_goals first
      | (exfalso; omega)
      | (go_enter Try.func51, Try.ntmps51
         go_wp2
         go_ret
         exact ⟨rfl, rfl⟩)
  · intro a b h h1 h2 hb n hn w
    rw [needV_inn h1 h2]
    have hn0 : (n : Int) ≠ 0 := by omega
    have y1 : (lo : Int) ≤ a := by omega
    have y2 : (a : Int) + n ≤ hi := by omega
    have y3 : (lo : Int) < hi := by omega
    clear h1 h2
    go_enter Try.func51, Try.ntmps51
    go_wp2
    go_ret
    exact ⟨rfl, rfl⟩
  · intro a b h h1 h2 k1 k2 i1 i2 hb n hn w
    rw [needV_nod h1 h2]
    have kS := fun w => rsplit_ok w n ⟨by omega, by omega⟩
    simp only [Int.toNat_natCast] at kS
    have en : b - a = n := by omega
    rw [en] at i1 i2 k1 k2 ⊢
    have kA := i1 (by omega) (splitV n) rfl
    have kB := i2 hb (n - splitV n) (by omega)
    have hl1 := need_le2 (lo := lo) (hi := hi) k1 (by omega)
    have hl2 := need_le2 (lo := lo) (hi := hi) k2 (by omega)
    rw [show ((n - splitV n : Nat) : Int) = (n : Int) - splitV n by omega] at kB
    simp only [Int.natCast_add] at kB
    clear i1 i2
    generalize needV lo hi a (a + splitV n) = c1 at *
    generalize needV lo hi (a + splitV n) b = c2 at *
    generalize splitV n = s at *
    have hn0 : (n : Int) ≠ 0 := by omega
    have y1 : (lo : Int) < hi := by omega
    have y2 : (a : Int) < hi := by omega
    have y3 : (lo : Int) < a + n := by omega
    have hcase : (a : Int) < lo ∨ ((lo : Int) ≤ a ∧ (hi : Int) < a + n) := by omega
    have hs0 : (s : Int) ≤ n := by omega
    have hbn : (a : Int) + n ≤ 65536 := by omega
    clear h1 h2 h hn en
    rcases hcase with z1 | ⟨z1, z2⟩
    all_goals
      go_enter Try.func51, Try.ntmps51
      go_wp2_with fail
      refine (kS w).mono ?_
      rintro e w1 ⟨rfl, rfl⟩
      go_wp2_with fail
      refine (kA w1).mono ?_
      rintro e w2 ⟨rfl, rfl⟩
      go_wp2_with fail
      refine (kB w2).mono ?_
      rintro e w3 ⟨rfl, rfl⟩
      go_wp2
      go_ret
      exact ⟨by simp, rfl⟩
set_option maxHeartbeats 8000000 in
set_option maxRecDepth 100000 in
theorem rneed_ok (w : World) (n lo hi : Int) : Calls Try.prog 31 #[.int .i64 n, .int .i64 lo, .int .i64 hi] w fun e w' => e = .returned (.int .i64 (needP n lo hi)) ∧ w' = w := by
  have kF := fun w => rfits_ok' w n lo hi
  cases hf : fitsP n lo hi with
  | false =>
    have hP : needP n lo hi = -1 := by unfold needP; rw [if_neg (by rw [hf]; decide)]
    rw [hP]
    rw [hf] at kF
    clear hf hP
    go_enter Try.func31, Try.ntmps31
    go_wp2_with fail
    refine (kF _).mono ?_
    rintro e w1 ⟨rfl, rfl⟩
    go_wp2
    go_ret
    exact ⟨rfl, rfl⟩
  | true =>
    have hff := hf
    simp only [fitsP, Bool.and_eq_true, decide_eq_true_eq] at hf
    obtain ⟨N, rfl⟩ : ∃ N : Nat, n = N := ⟨n.toNat, by omega⟩
    obtain ⟨l, rfl⟩ : ∃ l : Nat, lo = l := ⟨lo.toNat, by omega⟩
    obtain ⟨h, rfl⟩ : ∃ h : Nat, hi = h := ⟨hi.toNat, by omega⟩
    have hP : needP N l h = if N = 0 then 0 else (needV l h 0 N : Int) := by
      unfold needP
      rw [if_pos hff]
      by_cases h0 : N = 0
      · rw [if_pos h0, if_pos (by omega)]
      · rw [if_neg h0, if_neg (by omega)]; rfl
    have kN : ∀ w, Calls Try.prog 51 #[.int .i64 0, .int .i64 N, .int .i64 l, .int .i64 h] w fun e w' => e = .returned (.int .i64 (needP N l h)) ∧ w' = w := by
      rw [hP]
      intro w
      by_cases h0 : N = 0
      · rw [if_pos h0]
        subst h0
        clear hP hff kF
        go_enter Try.func51, Try.ntmps51
        go_wp2
        go_ret
        exact ⟨rfl, rfl⟩
      · rw [if_neg h0]
        exact rneed_run l h (by omega) (by omega) 0 N (by omega) (by omega) N (by omega) w
    rw [hff] at kF
    clear hP hff
    generalize needP N l h = R at *
    go_enter Try.func31, Try.ntmps31
    go_wp2_with fail
    refine (kF _).mono ?_
    rintro e w1 ⟨rfl, rfl⟩
    go_wp2_with fail
    refine (kN _).mono ?_
    rintro e w1 ⟨rfl, rfl⟩
    go_wp2
    go_ret
    exact ⟨rfl, rfl⟩
end Go.Proofs.Ytgepfmofignmfaa
