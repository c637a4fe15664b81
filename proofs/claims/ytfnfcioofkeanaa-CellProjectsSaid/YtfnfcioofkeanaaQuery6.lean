/-
  Which queries fit: the contracts of query.Fits and of the document's Fits.
-/
import Derived.Test.YtfnfcioofkeanaaQuery3
import Derived.Laws.ByValue
namespace Go.Proofs.Ytfnfcioofkeanaa
set_option linter.unusedSimpArgs false
set_option linter.unusedVariables false
open Go.RowKit

set_option maxHeartbeats 2000000 in
set_option maxRecDepth 100000 in
theorem fits1_ok (w : World) (x : Int) (B : Nat) (a : Option Addr) (m c : Nat) (hc : w.cell? ⟨B, 0, none⟩ = some (.slice a m c)) :
    Calls Try.prog 39 #[.int .i64 x, .pointer (some ⟨B, 0, none⟩)] w fun e w' => e = .returned (.bool (decide ((m : Int) ≤ x))) ∧ w' = w := by
  go_enter Try.func39, Try.ntmps39
  go_wp2
  go_ret
  exact ⟨rfl, rfl⟩

def fitsF (B : Nat) : Value := .func (.func 39) #[] #[.pointer (some ⟨B, 0, none⟩)]
set_option maxHeartbeats 2000000 in
set_option maxRecDepth 100000 in
theorem index_fits (w : World) (v : Value) (l : List Int) (B : Nat) (a : Option Addr) (m c : Nat) (hc : w.cell? ⟨B, 0, none⟩ = some (.slice a m c)) (hs : Sl w v l.length (ics .i64 l)) (hb : l.length ≤ maxLen) :
    Calls Try.prog 64 #[v, fitsF B] w fun e w' => ∃ r : Int, e = .returned (.int .i64 r) ∧ (0 ≤ r ↔ ∃ x ∈ l, (m : Int) ≤ x) ∧ w' = w := by
  obtain ⟨a0, c0, rfl⟩ := hs.shape
  unfold maxLen at hb
  unfold fitsF
  go_enter Try.func64, Try.ntmps64
  go_wp2_with fail
  go_loop [8] (fun iv => ∃ (k : Nat), k ≤ l.length ∧ iv = .int .i64 k ∧ ∀ x ∈ l.take k, x < (m : Int)) (fun iv => l.length - (intOf iv).toNat)
  case atStart => exact ⟨0, Nat.zero_le _, rfl, by simp⟩
  case round =>
    obtain ⟨k, hk, rfl, hno⟩ := hrel
    by_cases hlt : k < l.length
    · obtain ⟨b, off, c', e, hbl, hc1⟩ := int_cells hs k hlt
      cases e
      have htk : l.take (k + 1) = l.take k ++ [l[k]] := List.take_succ_eq_append_getElem hlt
      have hmem : l[k] ∈ l := List.getElem_mem hlt
      replace htk := Lib.hid htk
      clear hs
      generalize l[k] = x at *
      go_wp2_with fail
      refine (fits1_ok w x B a m c hc).mono ?_
      rintro e w2 ⟨rfl, rfl⟩
      by_cases hx : (m : Int) ≤ x
      · go_wp2
        go_ret
        exact ⟨k, rfl, ⟨fun _ => ⟨x, hmem, hx⟩, fun _ => by omega⟩, rfl⟩
      · go_wp2
        go_round
        case rel => exact ⟨k + 1, by omega, by go_num, by rw [htk.out]; intro y hy; rcases List.mem_append.1 hy with hy | hy; exact hno y hy; rw [List.mem_singleton.1 hy]; omega⟩
        case measure => simp [intOf]; omega
    · obtain rfl : k = l.length := by omega
      rw [List.take_length] at hno
      go_wp2
      go_ret
      exact ⟨-1, rfl, ⟨fun h => by omega, fun ⟨x, hx, hm⟩ => by have := hno x hx; omega⟩, rfl⟩

set_option maxHeartbeats 2000000 in
set_option maxRecDepth 100000 in
theorem contains_fits (w : World) (v : Value) (l : List Int) (B : Nat) (a : Option Addr) (m c : Nat) (hc : w.cell? ⟨B, 0, none⟩ = some (.slice a m c)) (hs : Sl w v l.length (ics .i64 l)) (hb : l.length ≤ maxLen) :
    Calls Try.prog 38 #[v, fitsF B] w fun e w' => e = .returned (.bool (decide (∃ x ∈ l, (m : Int) ≤ x))) ∧ w' = w := by
  go_enter Try.func38, Try.ntmps38
  go_wp2_with fail
  refine (index_fits w v l B a m c hc hs hb).mono ?_
  rintro e w2 ⟨r, rfl, hr, rfl⟩
  have hd : decide (0 ≤ r) = decide (∃ x ∈ l, (m : Int) ≤ x) := by rw [decide_eq_decide]; exact hr
  replace hd := Lib.hid hd
  clear hr
  go_wp2
  go_ret
  exact ⟨by rw [← hd.out]; rfl, rfl⟩

theorem World.size_alloc1 (w : World) (o : Obj) : (w.alloc o).heap.size = w.heap.size + 1 := by simp
/-- The value of a footer. -/
def fv (v : Value) (rows : Int) (g : Value) : Value := .agg #[v, .int .i64 rows, g]
def fitQ (q : Qu) (m : Nat) (rows : Int) : Bool := mayQ q && fitsV q.cols q.lo q.hi m rows
theorem fitQ_eq (q : Qu) (m : Nat) (rows : Int) : fitQ q m rows = (mayQ q && decide (q.hi ≤ rows) && !decide (∃ x ∈ q.cols, (m : Int) ≤ x)) := by
  unfold fitQ mayQ fitsV
  rw [Bool.eq_iff_iff]
  simp only [Bool.and_eq_true, decide_eq_true_eq, Bool.not_eq_true', decide_eq_false_iff_not, not_exists, not_and, Int.not_le]
  constructor
  · rintro ⟨⟨h1, h2, h3, h4, h5⟩, _, h6, _, _, h7⟩
    exact ⟨⟨⟨h1, h2, h3, h4, h5⟩, h7⟩, fun x hx => (h6 x hx).2⟩
  · rintro ⟨⟨⟨h1, h2, h3, h4, h5⟩, h7⟩, h8⟩
    exact ⟨⟨h1, h2, h3, h4, h5⟩, h1, fun x hx => ⟨(h2 x hx).1, h8 x hx⟩, h3, h4, h7⟩

set_option maxHeartbeats 2000000 in
set_option maxRecDepth 100000 in
theorem rfitQ_ok (w : World) (v : Value) (q : Qu) (a : Option Addr) (m c : Nat) (rows : Int) (ga : Option Addr) (gn gc : Nat) (hs : Sl w v q.cols.length (ics .i64 q.cols)) (hb : q.cols.length ≤ maxLen) :
    Calls Try.prog 18 #[qv v q.lo q.hi, fv (.slice a m c) rows (.slice ga gn gc)] w fun e w' => e = .returned (.bool (fitQ q m rows)) ∧ Chg [] w w' := by
  obtain ⟨a0, c0, rfl⟩ := hs.shape
  unfold qv fv
  have hfq : fitQ q m rows = (fitsV q.cols q.lo q.hi 64 65536 && fitsV q.cols q.lo q.hi m rows) := rfl
  obtain ⟨l, lo, hi⟩ := q
  dsimp only at *
  replace hfq := Lib.hid hfq
  go_enter Try.func18, Try.ntmps18
  go_wp2_with fail
  have g2 : Chg [] w ((w.alloc (.cells #[.slice a0 l.length c0, .int .i64 lo, .int .i64 hi] 24)).alloc (.cells #[.slice a m c, .int .i64 rows, .slice ga gn gc] 28)) := (Chg.alloc _ _ _).t0 (Chg.alloc _ _ _)
  have b0 := (Chg.alloc [] (w.alloc (.cells #[.slice a0 l.length c0, .int .i64 lo, .int .i64 hi] 24)) (.cells #[.slice a m c, .int .i64 rows, .slice ga gn gc] 28)).heap (heap_alloc_new w (.cells #[.slice a0 l.length c0, .int .i64 lo, .int .i64 hi] 24)) (by simp)
  have b1 := heap_alloc_new (w.alloc (.cells #[.slice a0 l.length c0, .int .i64 lo, .int .i64 hi] 24)) (.cells #[.slice a m c, .int .i64 rows, .slice ga gn gc] 28)
  rw [World.size_alloc1] at b1
  generalize (w.alloc (.cells #[.slice a0 l.length c0, .int .i64 lo, .int .i64 hi] 24)).alloc (.cells #[.slice a m c, .int .i64 rows, .slice ga gn gc] 28) = w2 at *
  refine (rmay_ok w2 _ l lo hi (hs.tr0 g2) hb).mono ?_
  rintro e w3 ⟨rfl, g3⟩
  replace b0 := g3.heap b0 (by simp)
  replace b1 := g3.heap b1 (by simp)
  have g03 := g2.t0 g3
  obtain ⟨k0, k1, k2, _, _, _⟩ := cells3' b0
  obtain ⟨m0, m1, m2, _, _, _⟩ := cells3' b1
  clear g2 g3 b0 b1
  cases hm : fitsV l lo hi 64 65536 with
  | false =>
    have hV := hfq.out
    rw [hm, Bool.false_and] at hV
    replace hV := Lib.hid hV
    clear hfq hm
    go_wp2
    go_ret
    exact ⟨by rw [hV.out]; rfl, g03⟩
  | true =>
    have hV := hfq.out
    rw [hm, Bool.true_and] at hV
    replace hV := Lib.hid hV
    clear hfq hm
    go_wp2_with fail
    refine (rfits_ok w3 _ l lo hi m rows (hs.tr0 g03) hb).mono ?_
    rintro e w4 ⟨rfl, g4⟩
    go_wp2
    go_ret
    exact ⟨by rw [hV.out]; rfl, g03.t0 g4⟩

set_option maxHeartbeats 2000000 in
set_option maxRecDepth 100000 in
theorem fitQ_ok (w : World) (v : Value) (q : Qu) (a : Option Addr) (m c : Nat) (rows : Int) (ga : Option Addr) (gn gc : Nat) (hs : Sl w v q.cols.length (ics .i64 q.cols)) (hb : q.cols.length ≤ maxLen) :
    Calls Try.prog 17 #[qv v q.lo q.hi, fv (.slice a m c) rows (.slice ga gn gc)] w fun e w' => e = .returned (.bool (fitQ q m rows)) ∧ Chg [] w w' := by
  obtain ⟨a0, c0, rfl⟩ := hs.shape
  unfold qv fv
  have hfq := fitQ_eq q m rows
  unfold mayQ at hfq
  obtain ⟨l, lo, hi⟩ := q
  dsimp only at *
  replace hfq := Lib.hid hfq
  go_enter Try.func17, Try.ntmps17
  go_wp2_with fail
  have g2 : Chg [] w ((w.alloc (.cells #[.slice a0 l.length c0, .int .i64 lo, .int .i64 hi] 24)).alloc (.cells #[.slice a m c, .int .i64 rows, .slice ga gn gc] 28)) := (Chg.alloc _ _ _).t0 (Chg.alloc _ _ _)
  have b0 := (Chg.alloc [] (w.alloc (.cells #[.slice a0 l.length c0, .int .i64 lo, .int .i64 hi] 24)) (.cells #[.slice a m c, .int .i64 rows, .slice ga gn gc] 28)).heap (heap_alloc_new w (.cells #[.slice a0 l.length c0, .int .i64 lo, .int .i64 hi] 24)) (by simp)
  have b1 := heap_alloc_new (w.alloc (.cells #[.slice a0 l.length c0, .int .i64 lo, .int .i64 hi] 24)) (.cells #[.slice a m c, .int .i64 rows, .slice ga gn gc] 28)
  rw [World.size_alloc1] at b1
  generalize (w.alloc (.cells #[.slice a0 l.length c0, .int .i64 lo, .int .i64 hi] 24)).alloc (.cells #[.slice a m c, .int .i64 rows, .slice ga gn gc] 28) = w2 at *
  refine (may_ok w2 _ l lo hi (hs.tr0 g2) hb).mono ?_
  rintro e w3 ⟨rfl, g3⟩
  replace b0 := g3.heap b0 (by simp)
  replace b1 := g3.heap b1 (by simp)
  have g03 := g2.t0 g3
  obtain ⟨k0, k1, k2, _, _, _⟩ := cells3' b0
  obtain ⟨m0, m1, m2, _, _, _⟩ := cells3' b1
  clear g2 g3 b0 b1
  cases hm : fitsV l lo hi 64 65536 with
  | false =>
    have hV := hfq.out
    rw [hm, Bool.false_and, Bool.false_and] at hV
    replace hV := Lib.hid hV
    clear hfq hm
    go_wp2
    go_ret
    exact ⟨by rw [hV.out]; rfl, g03⟩
  | true =>
    have hV := hfq.out
    rw [hm, Bool.true_and] at hV
    by_cases hr : hi ≤ rows
    · rw [decide_eq_true hr, Bool.true_and] at hV
      replace hV := Lib.hid hV
      clear hfq hm
      go_wp2_with fail
      refine (contains_fits w3 _ l _ a m c m0 (hs.tr0 g03) hb).mono ?_
      rintro e w4 ⟨rfl, rfl⟩
      go_wp2
      go_ret
      exact ⟨by rw [hV.out]; rfl, g03⟩
    · rw [decide_eq_false hr, Bool.false_and] at hV
      replace hV := Lib.hid hV
      clear hfq hm
      go_wp2
      go_ret
      exact ⟨by rw [hV.out]; rfl, g03⟩
end Go.Proofs.Ytfnfcioofkeanaa
