/-
  The contracts of package cursor's functions: what each hands back, and what it leaves of the cursor.
-/
import Derived.Test.YtdclbhmmpdngpaaDoorProg
import Derived.Test.YtdclbhmmpdngpaaDoorBase
import Derived.Test.YtdclbhmmpdngpaaDoorCurPure
namespace Go.Proofs.YtdclbhmmpdngpaaDoor
set_option linter.unusedSimpArgs false
set_option linter.unusedVariables false
open Go.RowKit

theorem el_u8 : ElemT Tryd.prog 25 5 1 1 := by
  obtain ⟨i, hi, hz, h1, h2⟩ := info_parts (P := Tryd.prog) (e := 5) (z := .int .u8 0) (size := 1) (bytes := 1) (by kernel_rfl)
  exact ⟨Tryd.underlying25, ⟨i, _, hi, hz, h1, h2, rfl⟩, by decide, by decide⟩

/-- slices.Clone at []byte: a new row of the same bytes; nil stays nil. -/
theorem clone_ok (w : World) (v : Value) (l : List UInt8) (hs : Sl w v l.length (bcs l)) (hb : l.length ≤ big) :
    Calls Tryd.prog 33 #[v] w fun e w' => ∃ v', e = .returned v' ∧ w'.ownsRow w.heap.size 5 1 v' l.length (bcs l) ∧ Chg [] w w' := by
  have hs0 := hs
  obtain ⟨a, c, rfl, q1, q2, q3, q4, q6, q5⟩ := hs
  have keq : ∀ (w : World) (a : Option Addr) (n c : Nat), (binOp .eql 25 (.slice a n c) (.slice none 0 0)).run Tryd.prog w = .ok (.bool a.isNone) w := fun w a n c => Lib.run_eql_slice_nil w _ _ a n c 0 0 Tryd.underlying25
  cases a with
  | none =>
    have hc : c = 0 := q3 rfl
    have hl : l = [] := by have : l.length = 0 := by omega
                           simpa using this
    subst hc hl
    clear q1 q2 q3 q4 q5 q6
    go_enter Tryd.func33, Tryd.ntmps33
    go_wp2
    go_ret
    exact ⟨_, rfl, World.ownsRow_nil _ _ _ _, Chg.refl _ _⟩
  | some x =>
    clear q1 q2 q3 q4 q5 q6
    go_enter Tryd.func33, Tryd.ntmps33
    go_wp2_with (at_builtin; refine wpList_append_sl _ rfl (.tmp 5) (.tmp 6) 25 5 1 1 rfl el_u8 w.heap.size _ 0 [] rfl (own_lit w #[] 5 0 1 _ (Nat.le_refl _) (Nat.zero_le _) rfl) _ l.length (bcs l) rfl (hs0.tr0 (Chg.alloc _ _ _)) (by simp [bcs]) (bcs_one l) (by simpa using hb) (by simp) ?_)
    intro v' w1 hown hg
    try simp only [Nat.zero_add, List.nil_append] at hown
    go_wp2
    go_ret
    exact ⟨_, rfl, hown, (Chg.alloc [] w _).trans (Chg.grown hg) (by simp [Value.ownBlock])⟩

/-- The cursor at block p holds s: its bytes lie in a row of bytes that nobody writes. -/
def Cur (w : World) (p : Nat) (s : CS) : Prop :=
  ∃ v, w.heap[p]? = some (.cells #[v, .bool s.bad] 67 (0, 0)) ∧ Sl w v s.l.length (bcs s.l) ∧ (∀ k, vblk v = some k → ∃ cs f, w.heap[k]? = some (.cells cs 5 f)) ∧ s.l.length ≤ big ∧ (s.bad = true → s.l = [])

theorem Cur.lt {w : World} {p : Nat} {s : CS} (h : Cur w p s) : p < w.heap.size := by
  obtain ⟨v, h, _⟩ := h; exact lt_of_heap h
theorem Cur.len {w : World} {p : Nat} {s : CS} (h : Cur w p s) : s.l.length ≤ big := by
  obtain ⟨v, _, _, _, h, _⟩ := h; exact h
theorem Cur.nil {w : World} {p : Nat} {s : CS} (h : Cur w p s) : s.bad = true → s.l = [] := by
  obtain ⟨v, _, _, _, _, h⟩ := h; exact h
theorem Cur.tr0 {w w' : World} {p : Nat} {s : CS} (h : Cur w p s) (hc : Chg [] w w') : Cur w' p s := by
  obtain ⟨v, h1, h2, h3, h4⟩ := h
  refine ⟨v, hc.heap h1 (by simp), h2.tr0 hc, fun k hk => ?_, h4⟩
  obtain ⟨cs, f, hh⟩ := h3 k hk
  exact ⟨cs, f, hc.heap hh (by simp)⟩
theorem Cur.drewN {w : World} {p : Nat} {s : CS} (h : Cur w p s) (n : Nat) : Cur (w.drewN n) p s := h.tr0 (Chg.drewN [] w n)
theorem Cur.drew {w : World} {p : Nat} {s : CS} (h : Cur w p s) : Cur w.drew p s := h.tr0 (Chg.drew [] w)
/-- Another object is written. -/
theorem Cur.tr1 {w w' : World} {p q : Nat} {s : CS} (h : Cur w p s) (hc : Chg [q] w w') (hp : p ≠ q) {cs : Array Value} {e : TypeId} {f : Nat × Nat} (hq : w.heap[q]? = some (.cells cs e f)) (he : e ≠ 5) : Cur w' p s := by
  obtain ⟨v, h1, h2, h3, h4⟩ := h
  have hn : ∀ k, vblk v = some k → k ∉ [q] := by
    intro k hk hm
    obtain ⟨cs', f', hh⟩ := h3 k hk
    obtain rfl : k = q := by simpa using hm
    rw [hq] at hh
    simp only [Option.some.injEq, Obj.cells.injEq] at hh
    exact he hh.2.1
  refine ⟨v, hc.heap h1 (by simpa using hp), h2.tr hc hn, fun k hk => ?_, h4⟩
  obtain ⟨cs', f', hh⟩ := h3 k hk
  exact ⟨cs', f', hc.heap hh (hn k hk)⟩
theorem Cur.block {w : World} {p : Nat} {s : CS} (h : Cur w p s) : ∃ cs, w.heap[p]? = some (.cells cs 67 (0, 0)) := by
  obtain ⟨v, h, _⟩ := h; exact ⟨_, h⟩
/-- Another cursor is written. -/
theorem Cur.trC {w w' : World} {p q : Nat} {s s' : CS} (h : Cur w p s) (hc : Chg [q] w w') (hp : p ≠ q) (hq : Cur w q s') : Cur w' p s := by
  obtain ⟨cs, hh⟩ := hq.block
  exact h.tr1 hc hp hh (by decide)

/-- The block of the bytes that are left is such a one. -/
def Left (w : World) (p : Nat) (ok : Nat → Prop) : Prop := ∃ v b e f, w.heap[p]? = some (.cells #[v, b] e f) ∧ ∀ k, vblk v = some k → ok k
theorem Left.tr {w w' : World} {p : Nat} {ok : Nat → Prop} {S : List Nat} (h : Left w p ok) (hc : Chg S w w') (hp : p ∉ S) : Left w' p ok := by
  obtain ⟨v, b, e, f, hh, hk⟩ := h
  exact ⟨v, b, e, f, hc.heap hh hp, hk⟩
theorem Cur.trL {w w' : World} {p : Nat} {s : CS} {ok : Nat → Prop} {S : List Nat} (h : Cur w p s) (hl : Left w p ok) (hc : Chg S w w') (hp : p ∉ S) (hS : ∀ k ∈ S, ¬ ok k) : Cur w' p s := by
  obtain ⟨v, h1, h2, h3, h4⟩ := h
  obtain ⟨X, b, e, f, hh, hX⟩ := hl
  have e : v = X := by
    rw [hh] at h1
    simp only [Option.some.injEq, Obj.cells.injEq] at h1
    have := congrArg (fun a => a.toList) h1.1
    simp at this
    exact this.1.symm
  subst e
  have hn : ∀ k, vblk v = some k → k ∉ S := fun k hk hm => hS k hm (hX k hk)
  refine ⟨v, hc.heap h1 hp, h2.tr hc hn, fun k hk => ?_, h4⟩
  obtain ⟨cs, f, hh⟩ := h3 k hk
  exact ⟨cs, f, hc.heap hh (hn k hk)⟩

theorem fail_full (w : World) (p : Nat) (s : CS) (hc : Cur w p s) :
    Calls Tryd.prog 37 #[.pointer (some ⟨p, 0, none⟩)] w fun e w' => e = .returned (.tuple #[]) ∧ Cur w' p CS.fail ∧ Chg [p] w w' ∧ Left w' p (fun k => k < w.heap.size) := by
  obtain ⟨v, hh, hs, hv, hl, hb⟩ := hc
  obtain ⟨c0, c1, f0, f1⟩ := cells2 hh
  have hp : p < w.heap.size := lt_of_heap hh
  clear hs hv hb hl
  go_enter Tryd.func37, Tryd.ntmps37
  go_wp2
  go_end0
  have hh2 : ((w.setCell ⟨p, 0, none⟩ (.slice none 0 0)).setCell ⟨p, 1, none⟩ (.bool true)).heap[p]? = some (.cells #[.slice none 0 0, .bool CS.fail.bad] 67 (0, 0)) := by
    rw [heap_setCell_same _ p 1 _ _ _ (heap_setCell_same _ p 0 _ _ _ hh)]
    rfl
  have hcur : Cur ((w.setCell ⟨p, 0, none⟩ (.slice none 0 0)).setCell ⟨p, 1, none⟩ (.bool true)) p CS.fail := ⟨.slice none 0 0, hh2, Sl.nil _, by simp [vblk], by simp [CS.fail, big], fun _ => rfl⟩
  exact ⟨rfl, hcur, (Chg.setCellS w ⟨p, 0, none⟩ _ (by simp)).trans (Chg.setCell _ ⟨p, 1, none⟩ _) (by simp), ⟨_, _, _, _, hh2, by simp [vblk]⟩⟩
theorem fail_ok (w : World) (p : Nat) (s : CS) (hc : Cur w p s) :
    Calls Tryd.prog 37 #[.pointer (some ⟨p, 0, none⟩)] w fun e w' => e = .returned (.tuple #[]) ∧ Cur w' p CS.fail ∧ Chg [p] w w' :=
  (fail_full w p s hc).mono fun _ _ ⟨h1, h2, h3, _⟩ => ⟨h1, h2, h3⟩

theorem bad_ok (w : World) (p : Nat) (s : CS) (hc : Cur w p s) :
    Calls Tryd.prog 25 #[.pointer (some ⟨p, 0, none⟩)] w fun e w' => e = .returned (.bool s.bad) ∧ w = w' := by
  obtain ⟨v, hh, hs, hv, hl, hb⟩ := hc
  obtain ⟨c0, c1, f0, f1⟩ := cells2 hh
  clear hv hb hl hh hs
  go_enter Tryd.func25, Tryd.ntmps25
  go_wp2
  go_ret
  exact ⟨rfl, rfl⟩

theorem bad_q (w : World) (p : Nat) (s : CS) (hc : Cur w p s) :
    Calls Tryd.prog 25 #[.pointer (some ⟨p, 0, none⟩)] w fun e w' => e = .returned (.bool s.bad) ∧ w' = w := (bad_ok w p s hc).mono fun _ _ ⟨h1, h2⟩ => ⟨h1, h2.symm⟩

def CS.done (s : CS) : Bool := !s.bad && s.l.isEmpty
theorem end_ok (w : World) (p : Nat) (s : CS) (hc : Cur w p s) :
    Calls Tryd.prog 26 #[.pointer (some ⟨p, 0, none⟩)] w fun e w' => e = .returned (.bool s.done) ∧ w = w' := by
  obtain ⟨v, hh, hs, hv, hl, hb⟩ := hc
  obtain ⟨c0, c1, f0, f1⟩ := cells2 hh
  obtain ⟨a, c, rfl, _⟩ := hs
  clear hv hb hl hh
  obtain ⟨l, bad⟩ := s
  dsimp only at *
  cases bad
  · cases l with
    | nil =>
      go_enter Tryd.func26, Tryd.ntmps26
      go_wp2
      go_ret
      exact ⟨rfl, rfl⟩
    | cons x l =>
      go_enter Tryd.func26, Tryd.ntmps26
      go_wp2
      go_ret
      exact ⟨rfl, rfl⟩
  · go_enter Tryd.func26, Tryd.ntmps26
    go_wp2
    go_ret
    exact ⟨rfl, rfl⟩

theorem end_q (w : World) (p : Nat) (s : CS) (hc : Cur w p s) :
    Calls Tryd.prog 26 #[.pointer (some ⟨p, 0, none⟩)] w fun e w' => e = .returned (.bool s.done) ∧ w' = w := (end_ok w p s hc).mono fun _ _ ⟨h1, h2⟩ => ⟨h1, h2.symm⟩

theorem take_end {w w1 : World} {p n : Nat} {vl v' X : Value} {l l' : List UInt8} {k : Nat} (hh : w.heap[p]? = some (.cells #[vl, .bool false] 67 (0, 0))) (hg : Chg [] w w1)
    (hown : w1.ownsRow w.heap.size 5 1 v' (l.take k).length (bcs (l.take k))) (hn : n = (l.take k).length)
    (hX : Sl w X l'.length (bcs l')) (hb : ∀ k, vblk X = some k → ∃ cs f, w.heap[k]? = some (.cells cs 5 f)) (hl : l'.length ≤ big) :
    ∃ u, Ending.returned v' = .returned u ∧ (w1.setCell ⟨p, 0, none⟩ X).ownsRow w.heap.size 5 1 u n (bcs (l.take k)) ∧ Cur (w1.setCell ⟨p, 0, none⟩ X) p ⟨l', false⟩ ∧ Chg [p] w (w1.setCell ⟨p, 0, none⟩ X) ∧ Left (w1.setCell ⟨p, 0, none⟩ X) p (fun k => k < w.heap.size) := by
  have hp : p < w.heap.size := lt_of_heap hh
  have hh1 := hg.heap hh (by simp)
  have c1 := Chg.setCell w1 ⟨p, 0, none⟩ X
  subst hn
  have hbp : ∀ k, vblk X = some k → k ∉ [p] := by
    intro k hk hm
    obtain rfl : k = p := by simpa using hm
    obtain ⟨cs, f, h⟩ := hb k hk
    rw [hh] at h; simp at h
  have hcur : Cur (w1.setCell ⟨p, 0, none⟩ X) p ⟨l', false⟩ := by
    refine ⟨X, ?_, (hX.tr0 hg).tr c1 hbp, fun k hk => ?_, hl, fun h => (by cases h)⟩
    · rw [heap_setCell_same _ p 0 _ _ _ hh1]; rfl
    · obtain ⟨cs, f, h⟩ := hb k hk
      exact ⟨cs, f, c1.heap (hg.heap h (by simp)) (hbp k hk)⟩
  refine ⟨v', rfl, own_tr hown c1 (by simpa using hp), hcur, hg.of0.trans c1 (by simp), ⟨_, _, _, _, heap_setCell_same _ p 0 _ _ _ hh1, fun k hk => hX.lt k hk⟩⟩

theorem take_full (w : World) (p : Nat) (s : CS) (n : Int) (hc : Cur w p s) :
    Calls Tryd.prog 36 #[.pointer (some ⟨p, 0, none⟩), .int .i64 n] w fun e w' =>
      ∃ v', e = .returned v' ∧ w'.ownsRow w.heap.size 5 1 v' (s.took n).length (bcs (s.took n)) ∧ Cur w' p (s.then n) ∧ Chg [p] w w' ∧ Left w' p (fun k => k < w.heap.size) := by
  have hc0 := hc
  obtain ⟨v, hh, hs, hv, hl, hb⟩ := hc
  obtain ⟨c0, c1, f0, f1⟩ := cells2 hh
  have hs0 := hs
  obtain ⟨a, c, rfl, q1, q2, q3, q4, q6, q5⟩ := hs
  by_cases ho : s.off n
  · rw [CS.took_off ho, CS.then_off ho]
    unfold CS.off at ho
    clear hb hv hs0 q3 q4 q5 q6 hh
    go_enter Tryd.func36, Tryd.ntmps36
    go_wp2_with fail
    all_goals first
      | (go_at_call 37; refine (fail_full w p s hc0).mono ?_; rintro e w1 ⟨rfl, hc1, hg1, hkk⟩; go_wp2; go_ret; exact ⟨_, rfl, World.ownsRow_nil _ _ _ _, hc1, hg1, hkk⟩)
      | (exfalso; rcases ho with h | h | h <;> simp_all <;> omega)
  · rw [CS.took_on ho, CS.then_on ho]
    unfold CS.off at ho
    simp only [not_or, Bool.not_eq_true] at ho
    obtain ⟨o1, o2, o3⟩ := ho
    obtain ⟨k, rfl⟩ : ∃ k : Nat, n = k := ⟨n.toNat, by omega⟩
    obtain ⟨l, bad⟩ := s
    dsimp only at *
    subst o1
    have hk : k ≤ l.length := by omega
    have hsk : Sl w (.slice a k c) (l.take k).length (bcs (l.take k)) := by
      have h := hs0.take hk k
      rw [List.length_take, Nat.min_eq_left hk]
      simpa [bcs, List.map_take] using h
    have hlen : (l.drop k).length = l.length - k := by simp
    have HL : Hid ((l.drop k).length = l.length - k) := hlen
    unfold maxLen at q2
    clear q3 q4 q5 q6 o2 o3 hlen
    simp only [Int.toNat_natCast]
    go_enter Tryd.func36, Tryd.ntmps36
    go_wp2_with fail
    refine (clone_ok w _ _ hsk (by rw [List.length_take]; omega)).mono ?_
    rintro e w1 ⟨v', rfl, hown, hg⟩
    have hh1 := hg.heap hh (by simp)
    obtain ⟨c0', c1', f0', f1'⟩ := cells2 hh1
    go_wp2
    · go_ret
      exact take_end hh hg hown (by simp; omega) (by have h := hs0.dropE hk ‹_› 1 (by simp [bcs]); rw [HL.out]; simpa [bcs, List.map_drop] using h) (by intro j hj; simp [vblk] at hj) (by rw [HL.out]; omega)
    · go_ret
      exact take_end hh hg hown (by simp; omega) (by have h := hs0.dropN hk ‹_› 1; rw [HL.out]; simpa [bcs, List.map_drop] using h) (by intro j hj; exact hv j (vblk_drop (Nat.sub_le _ _) hj)) (by rw [HL.out]; omega)

theorem take_ok (w : World) (p : Nat) (s : CS) (n : Int) (hc : Cur w p s) :
    Calls Tryd.prog 36 #[.pointer (some ⟨p, 0, none⟩), .int .i64 n] w fun e w' =>
      ∃ v', e = .returned v' ∧ w'.ownsRow w.heap.size 5 1 v' (s.took n).length (bcs (s.took n)) ∧ Cur w' p (s.then n) ∧ Chg [p] w w' :=
  (take_full w p s n hc).mono fun _ _ ⟨v, h1, h2, h3, h4, _⟩ => ⟨v, h1, h2, h3, h4⟩

theorem over_full (w : World) (v : Value) (l : List UInt8) (hs : Sl w v l.length (bcs l)) (hb : l.length ≤ big) :
    Calls Tryd.prog 23 #[v] w fun e w' => ∃ p, e = .returned (.pointer (some ⟨p, 0, none⟩)) ∧ w.heap.size ≤ p ∧ Cur w' p ⟨l, false⟩ ∧ Chg [] w w' ∧ Left w' p (fun k => w.heap.size ≤ k) := by
  go_enter Tryd.func23, Tryd.ntmps23
  go_wp2_with fail
  refine (clone_ok w _ _ hs hb).mono ?_
  rintro e w1 ⟨v', rfl, hown, hg⟩
  obtain ⟨a, c, rfl⟩ := own_shape hown
  go_wp2
  go_ret
  have hal := Chg.alloc [] w1 (.cells #[.slice a l.length c, .bool false] 67)
  have hcur : Cur (w1.alloc (.cells #[.slice a l.length c, .bool false] 67)) w1.heap.size ⟨l, false⟩ := by
    refine ⟨_, heap_alloc_new w1 _, (Sl.ofOwns hown).tr0 hal, fun k hk => ?_, hb, fun h => (by cases h)⟩
    obtain ⟨cs, f, h⟩ := own_block hown k (vblk_own hk)
    exact ⟨cs, f, hal.heap h (by simp)⟩
  have hsz := hg.size
  refine ⟨_, rfl, hg.size, hcur, hg.t0 hal, ⟨_, _, _, _, heap_alloc_new w1 _, fun k hk => own_from hown k (vblk_own hk)⟩⟩
theorem over_ok (w : World) (v : Value) (l : List UInt8) (hs : Sl w v l.length (bcs l)) (hb : l.length ≤ big) :
    Calls Tryd.prog 23 #[v] w fun e w' => ∃ p, e = .returned (.pointer (some ⟨p, 0, none⟩)) ∧ w.heap.size ≤ p ∧ Cur w' p ⟨l, false⟩ ∧ Chg [] w w' :=
  (over_full w v l hs hb).mono fun _ _ ⟨p, h1, h2, h3, h4, _⟩ => ⟨p, h1, h2, h3, h4⟩

theorem read32_ok (w : World) (p : Nat) (s : CS) (n : Nat) (hn : n ≤ 4) (hc : Cur w p s) :
    Calls Tryd.prog 47 #[.pointer (some ⟨p, 0, none⟩), .int .i64 n] w fun e w' => e = .returned (.int .u32 (s.num n : Nat)) ∧ Cur w' p (s.then n) ∧ Chg [p] w w' := by
  go_enter Tryd.func47, Tryd.ntmps47
  go_wp2_with fail
  refine (take_ok w p s n hc).mono ?_
  rintro e w1 ⟨v', rfl, hown, hc1, hg⟩
  have hlen : (s.took n).length ≤ n := s.took_length n
  have hs1 := Sl.ofOwns hown
  have hs2 := hs1
  obtain ⟨a, c, rfl, q1, q2, q3, q4, q6, q5⟩ := hs1
  clear q1 q2 q3 q4 q6
  go_wp2
  go_loop [5, 12] (fun t i => ∃ k : Nat, k ≤ (s.took n).length ∧ i = .int .i64 k ∧ t = .int .u32 (lenum ((s.took n).take k) : Nat)) (fun _ i => (s.took n).length - (intOf i).toNat)
  case atStart => exact ⟨0, Nat.zero_le _, rfl, by simp [lenum]⟩
  case round =>
    obtain ⟨k, hk, rfl, rfl⟩ := hrel
    by_cases hlt : k < (s.took n).length
    · obtain ⟨x, rfl, hcell⟩ := q5 k _ (bcs_get _ k hlt)
      clear hown hs2 hc1 hg
      go_wp2
      go_round
      case rel =>
        refine ⟨k + 1, by omega, by go_num, ?_⟩
        have hlt2 := lenum_lt ((s.took n).take k)
        rw [List.length_take, Nat.min_eq_left hk] at hlt2
        rw [step_u32 _ _ k (UInt8.toNat_lt _) (by omega) hlt2, lenum_take _ k hlt]
      case measure => simp [intOf]; omega
    · go_wp2
      go_ret
      obtain rfl : k = (s.took n).length := by omega
      exact ⟨by rw [List.take_length]; rfl, hc1, hg⟩

theorem byte_ok (w : World) (p : Nat) (s : CS) (hc : Cur w p s) :
    Calls Tryd.prog 46 #[.pointer (some ⟨p, 0, none⟩)] w fun e w' => e = .returned (.int .u8 (s.num 1 : Nat)) ∧ Cur w' p (s.then 1) ∧ Chg [p] w w' := by
  go_enter Tryd.func46, Tryd.ntmps46
  go_wp2_with fail
  refine (read32_ok w p s 1 (by decide) hc).mono ?_
  rintro e w1 ⟨rfl, hc1, hg⟩
  have hb : s.num 1 < 256 := by
    have h := lenum_lt (s.took 1)
    have h2 := pow256_le (CS.took_length s 1)
    exact Nat.lt_of_lt_of_le h (by simpa using h2)
  go_wp2
  go_ret
  refine ⟨?_, hc1, hg⟩
  rfl

end Go.Proofs.YtdclbhmmpdngpaaDoor
