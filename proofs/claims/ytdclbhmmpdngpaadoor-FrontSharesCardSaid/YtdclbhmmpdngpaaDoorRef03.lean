/-
  The contracts of the document's own cursor (package hypostyleref03).
-/
import Derived.Test.YtdclbhmmpdngpaaDoorCursor
namespace Go.Proofs.YtdclbhmmpdngpaaDoor
set_option linter.unusedSimpArgs false
set_option linter.unusedVariables false
open Go.RowKit

/-- The document's cursor at block q holds s; its bytes lie below block B. -/
def RCur (B : Nat) (w : World) (q : Nat) (s : CS) : Prop :=
  ∃ v, w.heap[q]? = some (.cells #[v, .bool s.bad] 55 (0, 0)) ∧ Sl w v s.l.length (bcs s.l) ∧ (∀ k, vblk v = some k → k < B) ∧ B ≤ q ∧ s.l.length ≤ big ∧ (s.bad = true → s.l = [])
theorem RCur.lt {B : Nat} {w : World} {q : Nat} {s : CS} (h : RCur B w q s) : q < w.heap.size := by
  obtain ⟨v, h, _⟩ := h; exact lt_of_heap h
theorem RCur.tr {B : Nat} {w w' : World} {q : Nat} {s : CS} {S : List Nat} (h : RCur B w q s) (hc : Chg S w w') (hq : q ∉ S) (hS : ∀ k ∈ S, B ≤ k) : RCur B w' q s := by
  obtain ⟨v, h1, h2, h3, h4⟩ := h
  exact ⟨v, hc.heap h1 hq, h2.tr hc (fun k hk hm => by have := h3 k hk; have := hS k hm; omega), h3, h4⟩

theorem rfail_ok (B : Nat) (w : World) (p : Nat) (s : CS) (hc : RCur B w p s) :
    Calls Tryd.prog 39 #[.pointer (some ⟨p, 0, none⟩)] w fun e w' => e = .returned (.tuple #[]) ∧ RCur B w' p CS.fail ∧ Chg [p] w w' := by
  obtain ⟨v, hh, hs, hv, hB, hl, hb⟩ := hc
  obtain ⟨c0, c1, f0, f1⟩ := cells2 hh
  clear hs hv hb hl
  go_enter Tryd.func39, Tryd.ntmps39
  go_wp2
  go_end0
  refine ⟨rfl, ⟨.slice none 0 0, ?_, Sl.nil _, by simp [vblk], hB, by simp [CS.fail, big], fun _ => rfl⟩, (Chg.setCellS w ⟨p, 0, none⟩ _ (by simp)).trans (Chg.setCell _ ⟨p, 1, none⟩ _) (by simp)⟩
  rw [heap_setCell_same _ p 1 _ _ _ (heap_setCell_same _ p 0 _ _ _ hh)]
  rfl

theorem rend_ok (B : Nat) (w : World) (p : Nat) (s : CS) (hc : RCur B w p s) :
    Calls Tryd.prog 29 #[.pointer (some ⟨p, 0, none⟩)] w fun e w' => e = .returned (.bool s.done) ∧ w = w' := by
  obtain ⟨v, hh, hs, hv, hB, hl, hb⟩ := hc
  obtain ⟨c0, c1, f0, f1⟩ := cells2 hh
  obtain ⟨a, c, rfl, _⟩ := hs
  clear hv hb hl hh
  obtain ⟨l, bad⟩ := s
  dsimp only at *
  cases bad
  · cases l with
    | nil =>
      go_enter Tryd.func29, Tryd.ntmps29
      go_wp2
      go_ret
      exact ⟨rfl, rfl⟩
    | cons x l =>
      go_enter Tryd.func29, Tryd.ntmps29
      go_wp2
      go_ret
      exact ⟨rfl, rfl⟩
  · go_enter Tryd.func29, Tryd.ntmps29
    go_wp2
    go_ret
    exact ⟨rfl, rfl⟩

theorem rend_q (B : Nat) (w : World) (p : Nat) (s : CS) (hc : RCur B w p s) :
    Calls Tryd.prog 29 #[.pointer (some ⟨p, 0, none⟩)] w fun e w' => e = .returned (.bool s.done) ∧ w' = w := (rend_ok B w p s hc).mono fun _ _ ⟨h1, h2⟩ => ⟨h1, h2.symm⟩

theorem rtake_end {B : Nat} {w w1 : World} {p n : Nat} {vl v' X : Value} {l l' : List UInt8} {k : Nat} (hh : w.heap[p]? = some (.cells #[vl, .bool false] 55 (0, 0))) (hg : Chg [] w w1)
    (hown : w1.ownsRow w.heap.size 5 1 v' (l.take k).length (bcs (l.take k))) (hn : n = (l.take k).length)
    (hX : Sl w X l'.length (bcs l')) (hb : ∀ k, vblk X = some k → k < B) (hB : B ≤ p) (hl : l'.length ≤ big) :
    ∃ u, Ending.returned v' = .returned u ∧ (w1.setCell ⟨p, 0, none⟩ X).ownsRow w.heap.size 5 1 u n (bcs (l.take k)) ∧ RCur B (w1.setCell ⟨p, 0, none⟩ X) p ⟨l', false⟩ ∧ Chg [p] w (w1.setCell ⟨p, 0, none⟩ X) := by
  have hp : p < w.heap.size := lt_of_heap hh
  have hh1 := hg.heap hh (by simp)
  have c1 := Chg.setCell w1 ⟨p, 0, none⟩ X
  subst hn
  refine ⟨v', rfl, own_tr hown c1 (by simpa using hp), ⟨X, ?_, (hX.tr0 hg).tr c1 (fun k hk hm => ?_), hb, hB, hl, fun h => (by cases h)⟩, hg.of0.trans c1 (by simp)⟩
  · rw [heap_setCell_same _ p 0 _ _ _ hh1]; rfl
  · obtain rfl : k = p := by simpa using hm
    have := hb k hk; omega

theorem rtake_ok (B : Nat) (w : World) (p : Nat) (s : CS) (n : Int) (hc : RCur B w p s) :
    Calls Tryd.prog 28 #[.pointer (some ⟨p, 0, none⟩), .int .i64 n] w fun e w' =>
      ∃ v', e = .returned v' ∧ w'.ownsRow w.heap.size 5 1 v' (s.took n).length (bcs (s.took n)) ∧ RCur B w' p (s.then n) ∧ Chg [p] w w' := by
  have hc0 := hc
  obtain ⟨v, hh, hs, hv, hB, hl, hb⟩ := hc
  obtain ⟨c0, c1, f0, f1⟩ := cells2 hh
  have hs0 := hs
  obtain ⟨a, c, rfl, q1, q2, q3, q4, q6, q5⟩ := hs
  by_cases ho : s.off n
  · rw [CS.took_off ho, CS.then_off ho]
    unfold CS.off at ho
    clear hb hv hs0 q3 q4 q5 q6 hh
    go_enter Tryd.func28, Tryd.ntmps28
    go_wp2_with fail
    all_goals first
      | (go_at_call 39; refine (rfail_ok B w p s hc0).mono ?_; rintro e w1 ⟨rfl, hc1, hg1⟩; go_wp2; go_ret; exact ⟨_, rfl, World.ownsRow_nil _ _ _ _, hc1, hg1⟩)
      | (exfalso; rcases ho with h | h | h <;> simp_all <;> omega)
  · rw [CS.took_on ho, CS.then_on ho]
    unfold CS.off at ho
    simp only [not_or, Bool.not_eq_true] at ho
    obtain ⟨o1, o2, o3⟩ := ho
    obtain ⟨k, rfl⟩ : ∃ k : Nat, n = k := ⟨n.toNat, by omega⟩
    obtain ⟨l, bad⟩ := s
    dsimp only at *
    subst o1
    have hk : k ≤ l.length := by omega
    have hsk : Sl w (.slice a k c) k (bcs (l.take k)) := by
      have h := hs0.take hk k
      simpa [bcs, List.map_take] using h
    have hlk : (l.take k).length = k := by simp; omega
    have HK : Hid ((l.take k).length = k) := hlk
    have hlen : (l.drop k).length = l.length - k := by simp
    have HL : Hid ((l.drop k).length = l.length - k) := hlen
    unfold maxLen at q2
    unfold big at hl
    clear q3 q4 q5 q6 o2 o3 hlen hlk
    simp only [Int.toNat_natCast]
    have hcell0 : (w.alloc (.cells #[] 5)).cell? ⟨p, 0, none⟩ = w.cell? ⟨p, 0, none⟩ := World.cell?_alloc_lt w _ _ (lt_of_heap hh)
    go_enter Tryd.func28, Tryd.ntmps28
    go_wp2_with (at_builtin; refine wpList_append_sl _ rfl (.tmp 25) (.tmp 31) 25 5 1 1 rfl el_u8 w.heap.size _ 0 [] rfl (own_lit w #[] 5 0 1 _ (Nat.le_refl _) (Nat.zero_le _) rfl) _ k (bcs (l.take k)) rfl (hsk.tr0 (Chg.alloc _ _ _)) (by simp [bcs]; omega) (bcs_one _) (by unfold big; omega) (by simp) ?_)
    intro v' w1 hown hg'
    have hg : Chg [] w w1 := (Chg.alloc [] w _).trans (Chg.grown hg') (by simp [Value.ownBlock])
    have hown1 : w1.ownsRow w.heap.size 5 1 v' (l.take k).length (bcs (l.take k)) := by
      rw [HK.out]; simpa using hown
    clear hg' hown hcell0
    have hh1 := hg.heap hh (by simp)
    obtain ⟨c0', c1', f0', f1'⟩ := cells2 hh1
    go_wp2
    · go_ret
      exact rtake_end hh hg hown1 (by simp; omega) (by have h := hs0.dropE hk ‹_› 1 (by simp [bcs]); rw [HL.out]; simpa [bcs, List.map_drop] using h) (by intro j hj; simp [vblk] at hj) hB (by rw [HL.out]; unfold big; omega)
    · go_ret
      exact rtake_end hh hg hown1 (by simp; omega) (by have h := hs0.dropN hk ‹_› 1; rw [HL.out]; simpa [bcs, List.map_drop] using h) (by intro j hj; exact hv j (vblk_drop (Nat.sub_le _ _) hj)) hB (by rw [HL.out]; unfold big; omega)

theorem lenum_drop (l : List UInt8) (j : Nat) (h : j < l.length) : lenum (l.drop j) = l[j].toNat + 256 * lenum (l.drop (j + 1)) := by
  rw [List.drop_eq_getElem_cons h, lenum]

theorem low_tdiv (N j : Nat) (hN : N < 2 ^ 64) : IntKind.u64.wrap (((N : Int) / 256 ^ j).tdiv 256) = (N : Int) / 256 ^ j / 256 := by
  have e : (N : Int) / 256 ^ j = ((N / 256 ^ j : Nat) : Int) := by rw [Int.natCast_ediv, Int.natCast_pow]; rfl
  have h := Nat.div_le_self N (256 ^ j)
  rw [e]
  generalize N / 256 ^ j = M at h
  exact IntWalk.u64_quo _ _ (by omega)

end Go.Proofs.YtdclbhmmpdngpaaDoor
