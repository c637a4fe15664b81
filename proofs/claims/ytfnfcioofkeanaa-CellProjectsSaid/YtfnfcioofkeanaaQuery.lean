/-
  Queries: what they are in memory, which may be; the contracts of query.may and of the document's may, Fits and Same.
-/
import Derived.Test.YtfnfcioofkeanaaCurMore
import Derived.Test.YtfnfcioofkeanaaSoft2
import Derived.Test.YtfnfcioofkeanaaOpenD
import Derived.Lib.Hide
namespace Go.Proofs.Ytfnfcioofkeanaa
set_option linter.unusedSimpArgs false
set_option linter.unusedVariables false
open Go.RowKit

/-- 'alloc t': a variable of t's zero value. -/
theorem wpList_alloc_z {P : Program} {ops : Array Oper} {rest : List Oper} {o : Oper} {a : Act} {w : World} {Q : Exit → Act → World → Prop} (hg : o.guard = none) (t : TypeId) (ho : o.op = .alloc t)
    (z : Value) (hz : (P.info? t).map (·.zero) = some (some z))
    (h : wpList P ops Q rest (a.put o.dst (.pointer (some ⟨w.heap.size, 0, none⟩))) (w.alloc (.cells z.cells t))) : wpList P ops Q (o :: rest) a w := by
  refine wpList_plain hg fun K hK => ?_
  cases hq : P.info? t with
  | none => simp [hq] at hz
  | some i =>
    have hi : i.zero = some z := by simpa [hq] using hz
    unfold Oper.wp execOp
    simp [ho, Sem.run_bind, Instr.alloc, newVar, newRow, run_newObj_alloc, Sem.run_pure, Result.andThen, zeroValue, typeInfo, hq, hi]
    exact hK _ _ h

structure Qu where
  cols : List Int
  lo : Int
  hi : Int
deriving DecidableEq

/-- Columns and rows fit so many of them. -/
def fitsV (cols : List Int) (lo hi many rows : Int) : Bool := decide (cols.Nodup ∧ (∀ c ∈ cols, 0 ≤ c ∧ c < many) ∧ 0 ≤ lo ∧ lo ≤ hi ∧ hi ≤ rows)
/-- The walk over columns, seen ahead of them. -/
def colsOk (many : Int) : List Int → List Int → Bool
  | [], _ => true
  | c :: r, seen => if c < 0 ∨ many ≤ c ∨ c ∈ seen then false else colsOk many r (seen ++ [c])
theorem colsOk_iff (many : Int) : ∀ (l seen : List Int), colsOk many l seen = true ↔ l.Nodup ∧ (∀ c ∈ l, 0 ≤ c ∧ c < many) ∧ ∀ c ∈ l, c ∉ seen
  | [], seen => by simp [colsOk]
  | c :: r, seen => by
    rw [colsOk]
    by_cases h : c < 0 ∨ many ≤ c ∨ c ∈ seen
    · rw [if_pos h]
      simp only [Bool.false_eq_true, false_iff]
      rintro ⟨_, h1, h2⟩
      have := h1 c (List.mem_cons_self ..)
      rcases h with h | h | h
      · omega
      · omega
      · exact h2 c (List.mem_cons_self ..) h
    · rw [if_neg h, colsOk_iff many r]
      simp only [not_or, Int.not_lt, Int.not_le] at h
      obtain ⟨h0, h1, h2⟩ := h
      simp only [List.nodup_cons, List.mem_cons, List.mem_append, List.mem_singleton, not_or, forall_eq_or_imp, List.not_mem_nil, or_false]
      constructor
      · rintro ⟨n, b, s⟩
        exact ⟨⟨fun hm => (s c hm).2 rfl, n⟩, ⟨⟨h0, h1⟩, b⟩, h2, fun x hx => (s x hx).1⟩
      · rintro ⟨⟨n0, n⟩, ⟨_, b⟩, _, s⟩
        exact ⟨n, b, fun x hx => ⟨s x hx, fun e => n0 (e ▸ hx)⟩⟩
theorem colsOk_nil (many : Int) (l : List Int) : colsOk many l [] = true ↔ l.Nodup ∧ ∀ c ∈ l, 0 ≤ c ∧ c < many := by
  rw [colsOk_iff]
  simp
theorem fitsV_eq (cols : List Int) (lo hi many rows : Int) : fitsV cols lo hi many rows = (colsOk many cols [] && (decide (0 ≤ lo) && decide (lo ≤ hi) && decide (hi ≤ rows))) := by
  unfold fitsV
  rw [Bool.eq_iff_iff]
  simp only [decide_eq_true_eq, Bool.and_eq_true, colsOk_nil]
  constructor
  · rintro ⟨h1, h2, h3, h4, h5⟩; exact ⟨⟨h1, h2⟩, ⟨h3, h4⟩, h5⟩
  · rintro ⟨⟨h1, h2⟩, ⟨h3, h4⟩, h5⟩; exact ⟨h1, h2, h3, h4, h5⟩
/-- Numbers below 'many' that are all unlike are not more. -/
theorem nodup_length (l : List Int) (many : Nat) (hn : l.Nodup) (hb : ∀ c ∈ l, 0 ≤ c ∧ c < many) : l.length ≤ many := by
  induction many generalizing l with
  | zero =>
    cases l with
    | nil => simp
    | cons c r => have := hb c (List.mem_cons_self ..); omega
  | succ m ih =>
    have h1 := ih (l.filter (· ≠ (m : Int))) (hn.filter _) (fun c hc => by
      obtain ⟨hc, hne⟩ := List.mem_filter.1 hc
      have := hb c hc
      simp at hne
      omega)
    have h2 : l.length ≤ (l.filter (· ≠ (m : Int))).length + 1 := by
      clear ih h1 hb
      induction l with
      | nil => simp
      | cons c r ih =>
        obtain ⟨hc, hr⟩ := List.nodup_cons.1 hn
        have := ih hr
        by_cases e : c = (m : Int)
        · subst e
          have : r.filter (· ≠ (m : Int)) = r := List.filter_eq_self.2 (fun x hx => by simp; rintro rfl; exact hc hx)
          rw [List.filter_cons_of_neg (by simp), this]; simp
        · rw [List.filter_cons_of_pos (by simpa using e)]
          simp only [List.length_cons]
          omega
    omega
theorem fits_len {cols : List Int} {lo hi many rows : Int} (h : fitsV cols lo hi many rows = true) : (cols.length : Int) ≤ many ∨ cols = [] := by
  obtain ⟨h1, h2, _⟩ := of_decide_eq_true h
  cases cols with
  | nil => exact .inr rfl
  | cons c r =>
    have hc := h2 c (List.mem_cons_self ..)
    have := nodup_length (c :: r) many.toNat h1 (fun x hx => by have := h2 x hx; omega)
    left; omega

theorem int_cells {w : World} {v : Value} {l : List Int} (h : Sl w v l.length (ics .i64 l)) (k : Nat) (hk : k < l.length) :
    ∃ b off c, v = .slice (some ⟨b, off, none⟩) l.length c ∧ b < w.heap.size ∧ w.cell? ⟨b, off + k, none⟩ = some (.int .i64 l[k]) := by
  obtain ⟨b, off, c, rfl, _, _, hb, hc⟩ := h.at (by rw [ics_length]; omega)
  exact ⟨b, off, c, rfl, hb, hc k _ (ics_get .i64 l k hk)⟩

/-- The value of a query. -/
def qv (v : Value) (lo hi : Int) : Value := .agg #[v, .int .i64 lo, .int .i64 hi]

set_option maxHeartbeats 4000000 in
set_option maxRecDepth 100000 in
theorem rfits_ok (w : World) (v : Value) (l : List Int) (lo hi many rows : Int) (hs : Sl w v l.length (ics .i64 l)) (hb : l.length ≤ maxLen) :
    Calls Try.prog 40 #[v, .int .i64 lo, .int .i64 hi, .int .i64 many, .int .i64 rows] w fun e w' => e = .returned (.bool (fitsV l lo hi many rows)) ∧ Chg [] w w' := by
  obtain ⟨a0, c0, rfl⟩ := hs.shape
  unfold maxLen at hb
  go_enter Try.func40, Try.ntmps40
  go_wp2_with fail
  go_loopw [11] (fun iv wr => ∃ (k : Nat), k ≤ l.length ∧ iv = .int .i64 k ∧ colsOk many l [] = colsOk many (l.drop k) (l.take k) ∧ Chg [] w wr) (fun iv _ => l.length - (intOf iv).toNat)
  case atStart => exact ⟨0, Nat.zero_le _, rfl, rfl, Chg.refl _ _⟩
  case round =>
    obtain ⟨k, hk, rfl, hgo, hch⟩ := hrel
    by_cases hlt : k < l.length
    · obtain ⟨b, off, c, e, hbl, hc1⟩ := int_cells (hs.tr0 hch) k hlt
      cases e
      rw [List.drop_eq_getElem_cons hlt, colsOk] at hgo
      have htk : l.take (k + 1) = l.take k ++ [l[k]] := List.take_succ_eq_append_getElem hlt
      replace hgo := Lib.hid hgo
      replace htk := Lib.hid htk
      generalize hx : l[k] = x at *
      by_cases hx0 : x < 0
      · have hV : fitsV l lo hi many rows = false := by rw [fitsV_eq, hgo.out, if_pos (.inl hx0)]; rfl
        replace hV := Lib.hid hV
        go_wp2
        go_ret
        exact ⟨by rw [hV.out]; rfl, hch⟩
      by_cases hx1 : many ≤ x
      · have hV : fitsV l lo hi many rows = false := by rw [fitsV_eq, hgo.out, if_pos (.inr (.inl hx1))]; rfl
        replace hV := Lib.hid hV
        go_wp2
        go_ret
        exact ⟨by rw [hV.out]; rfl, hch⟩
      go_wp2_with fail
      go_loopw [12] (fun jv wq => ∃ j : Nat, j ≤ k ∧ jv = .int .i64 j ∧ x ∉ l.take j ∧ Chg [] w wq) (fun jv _ => k - (intOf jv).toNat)
      case atStart => exact ⟨0, Nat.zero_le _, rfl, by simp, hch⟩
      case round =>
        clear hch
        rename_i wq
        obtain ⟨j, hj, rfl, hnot, hch⟩ := hrel
        by_cases hjt : j < k
        · obtain ⟨b', off', c', e, hbl', d1⟩ := int_cells (hs.tr0 hch) j (by omega)
          cases e
          obtain ⟨b', off', c', e, hbl', e1⟩ := int_cells (hs.tr0 hch) k hlt
          cases e
          rw [hx] at e1
          have hjl : j < l.length := by omega
          have hjl' : (j : Int) < l.length := by omega
          have hkl' : (k : Int) < l.length := by omega
          have hj0 : (0 : Int) ≤ j := by omega
          have hk0 : (0 : Int) ≤ k := by omega
          have htj : l.take (j + 1) = l.take j ++ [l[j]] := List.take_succ_eq_append_getElem hjl
          replace htj := Lib.hid htj
          generalize hy : l[j] = y at *
          by_cases hxy : y = x
          · subst hxy
            have hV : fitsV l lo hi many rows = false := by
              have hm : y ∈ l.take k := by rw [← hy]; exact List.mem_take_iff_getElem.2 ⟨j, by omega, rfl⟩
              rw [fitsV_eq, hgo.out, if_pos (.inr (.inr hm))]; rfl
            replace hV := Lib.hid hV
            go_wp2_with fail
            refine region_quietC (by kernel_rfl) (by kernel_rfl) ?_
            repeat (first
              | (refine quiet_cellC rfl _ _ rfl _ rfl _ _ d1 Try.underlying3 rfl ?_)
              | (refine quiet_cellC rfl _ _ rfl _ rfl _ _ e1 Try.underlying3 rfl ?_)
              | quiet_step ((intro hx; first | rfl)))
            refine wpQuiet_nil ?_
            intro w' g
            go_wp2
            go_ret
            exact ⟨by rw [hV.out]; rfl, hch.t0 g⟩
          · have hyx : (y == x) = false := by simpa using hxy
            go_wp2_with fail
            refine region_quietC (by kernel_rfl) (by kernel_rfl) ?_
            repeat (first
              | (refine quiet_cellC rfl _ _ rfl _ rfl _ _ d1 Try.underlying3 rfl ?_)
              | (refine quiet_cellC rfl _ _ rfl _ rfl _ _ e1 Try.underlying3 rfl ?_)
              | quiet_step ((intro hx; first | rfl)))
            refine wpQuiet_nil ?_
            intro w' g
            go_wp2
            go_roundw
            case rel => exact ⟨j + 1, by omega, by go_num, by rw [htj.out]; simp only [List.mem_append, List.mem_singleton, not_or]; exact ⟨hnot, fun e => hxy e.symm⟩, hch.t0 g⟩
            case measure => simp [intOf]; omega
        · obtain rfl : j = k := by omega
          have hgo2 := hgo.out
          rw [if_neg (by simp only [not_or]; exact ⟨by omega, by omega, hnot⟩), ← htk.out] at hgo2
          clear hgo htk hnot
          go_wp2
          go_roundw
          case rel => exact ⟨j + 1, by omega, by go_num, hgo2, hch⟩
          case measure => simp [intOf]; omega
    · obtain rfl : k = l.length := by omega
      rw [List.drop_length, colsOk] at hgo
      have hV : fitsV l lo hi many rows = (decide (0 ≤ lo) && decide (lo ≤ hi) && decide (hi ≤ rows)) := by rw [fitsV_eq, hgo, Bool.true_and]
      replace hV := Lib.hid hV
      clear hgo hs
      by_cases h0 : 0 ≤ lo
      · by_cases h1 : lo ≤ hi
        · have hV2 : Hid (fitsV l lo hi many rows = decide (hi ≤ rows)) := by rw [Hid, hV.out, decide_eq_true h0, decide_eq_true h1]; rfl
          go_wp2
          go_ret
          exact ⟨by rw [hV2.out]; rfl, hch⟩
        · have hV2 : Hid (fitsV l lo hi many rows = false) := by rw [Hid, hV.out, decide_eq_false h1, Bool.and_false]; rfl
          go_wp2
          go_ret
          exact ⟨by rw [hV2.out]; rfl, hch⟩
      · have hV2 : Hid (fitsV l lo hi many rows = false) := by rw [Hid, hV.out, decide_eq_false h0]; rfl
        go_wp2
        go_ret
        exact ⟨by rw [hV2.out]; rfl, hch⟩

theorem fits_64 {l : List Int} {lo hi rows : Int} (h : ¬ l.length ≤ 64) : fitsV l lo hi 64 rows = false := by
  cases hf : fitsV l lo hi 64 rows with
  | false => rfl
  | true => rcases fits_len hf with h' | rfl; omega; simp at h
set_option maxHeartbeats 4000000 in
set_option maxRecDepth 100000 in
theorem rmay_ok (w : World) (v : Value) (l : List Int) (lo hi : Int) (hs : Sl w v l.length (ics .i64 l)) (hb : l.length ≤ maxLen) :
    Calls Try.prog 36 #[qv v lo hi] w fun e w' => e = .returned (.bool (fitsV l lo hi 64 65536)) ∧ Chg [] w w' := by
  obtain ⟨a0, c0, rfl⟩ := hs.shape
  unfold maxLen at hb
  unfold qv
  go_enter Try.func36, Try.ntmps36
  by_cases h64 : l.length ≤ 64
  · go_wp2_with fail
    refine (rfits_ok _ _ l lo hi 64 65536 (hs.tr0 (Chg.alloc [] w _)) (by unfold maxLen; omega)).mono ?_
    rintro e w2 ⟨rfl, g2⟩
    go_wp2
    go_ret
    exact ⟨rfl, (Chg.alloc [] w _).t0 g2⟩
  · have hV := fits_64 (lo := lo) (hi := hi) (rows := 65536) h64
    replace hV := Lib.hid hV
    go_wp2
    go_ret
    exact ⟨by rw [hV.out]; rfl, Chg.alloc [] w _⟩

/-- A row of 64 bools. -/
def Had (w : World) (p : Nat) (seen : List Int) : Prop := ∃ t H, w.heap[p]? = some (.cells H t (0, 0)) ∧ H.size = 64 ∧ ∀ k : Nat, k < 64 → H[k]? = some (.bool (decide ((k : Int) ∈ seen)))
theorem Had.cell {w : World} {p : Nat} {seen : List Int} (h : Had w p seen) (k : Nat) (hk : k < 64) : w.cell? ⟨p, k, none⟩ = some (.bool (decide ((k : Int) ∈ seen))) ∧ w.frozen? ⟨p, k, none⟩ = false := by
  obtain ⟨t, H, h1, _, h2⟩ := h
  exact ⟨by rw [cell_of_row w p k _ _ _ h1]; exact h2 k hk, frozen_of_row w p k _ _ h1⟩
theorem Had.put {w : World} {p : Nat} {seen : List Int} (h : Had w p seen) (k : Nat) (hk : k < 64) : Had (w.setCell ⟨p, k, none⟩ (.bool true)) p (seen ++ [(k : Int)]) := by
  obtain ⟨t, H, h1, h0, h2⟩ := h
  refine ⟨t, _, heap_setCell_same w p k _ _ _ h1, by simpa using h0, fun j hj => ?_⟩
  rw [Array.getElem?_setIfInBounds]
  by_cases e : k = j
  · subst e
    simp [h0, hk]
  · rw [if_neg e, h2 j hj]
    have : ¬ ((j : Int) = (k : Int)) := by omega
    simp [this]
theorem Had.new (w : World) (t : TypeId) : Had (w.alloc (.cells (Array.replicate 64 (.bool false)) t)) w.heap.size [] :=
  ⟨t, _, heap_alloc_new w _, by simp, fun k hk => by simp [hk]⟩
theorem Had.tr {S : List Nat} {w w' : World} {p : Nat} {seen : List Int} (h : Had w p seen) (g : Chg S w w') (hp : p ∉ S) : Had w' p seen := by
  obtain ⟨t, H, h1, h0, h2⟩ := h
  exact ⟨t, H, g.heap h1 hp, h0, h2⟩

set_option maxHeartbeats 4000000 in
set_option maxRecDepth 100000 in
theorem may_ok (w : World) (v : Value) (l : List Int) (lo hi : Int) (hs : Sl w v l.length (ics .i64 l)) (hb : l.length ≤ maxLen) :
    Calls Try.prog 33 #[qv v lo hi] w fun e w' => e = .returned (.bool (fitsV l lo hi 64 65536)) ∧ Chg [] w w' := by
  obtain ⟨a0, c0, rfl⟩ := hs.shape
  unfold maxLen at hb
  unfold qv
  go_enter Try.func33, Try.ntmps33
  go_wp2_with (refine wpList_alloc_z rfl 93 rfl (.agg (Array.replicate 64 (.bool false))) (by kernel_rfl) ?_)
  have h0 := (hs.tr0 (Chg.alloc [] w (.cells #[.slice a0 l.length c0, .int .i64 lo, .int .i64 hi] 24))).tr0 (Chg.alloc [] _ (.cells (Array.replicate 64 (.bool false)) 93))
  have g0 := (Chg.alloc [] w (.cells #[.slice a0 l.length c0, .int .i64 lo, .int .i64 hi] 24)).t0 (Chg.alloc [] _ (.cells (Array.replicate 64 (.bool false)) 93))
  have hh := Had.new (w.alloc (.cells #[.slice a0 l.length c0, .int .i64 lo, .int .i64 hi] 24)) 93
  have hq := (Chg.alloc [] _ (.cells (Array.replicate 64 (.bool false)) 93)).heap (heap_alloc_new w (.cells #[.slice a0 l.length c0, .int .i64 lo, .int .i64 hi] 24)) (by simp)
  have hsz : (w.alloc (.cells #[.slice a0 l.length c0, .int .i64 lo, .int .i64 hi] 24)).heap.size = w.heap.size + 1 := by simp
  rw [hsz] at hh
  generalize (w.alloc (.cells #[.slice a0 l.length c0, .int .i64 lo, .int .i64 hi] 24)).alloc (.cells (Array.replicate 64 (.bool false)) 93) = w2 at *
  clear hsz
  generalize hp : w.heap.size + 1 = p at *
  replace hp := Lib.hid hp
  go_loopw [9] (fun iv wr => ∃ (k : Nat), k ≤ l.length ∧ iv = .int .i64 k ∧ colsOk 64 l [] = colsOk 64 (l.drop k) (l.take k) ∧ Had wr p (l.take k) ∧ Chg [p] w2 wr) (fun iv _ => l.length - (intOf iv).toNat)
  case atStart => exact ⟨0, Nat.zero_le _, rfl, rfl, hh, Chg.refl _ _⟩
  case round =>
    obtain ⟨k, hk, rfl, hgo, hhad, hch⟩ := hrel
    have hqr := hch.heap hq (by rw [← hp.out]; simp)
    have q1 : wr.cell? ⟨w.heap.size, 1, none⟩ = some (.int .i64 lo) := by rw [cell_of_row _ _ _ _ _ _ hqr]; rfl
    have q2 : wr.cell? ⟨w.heap.size, 2, none⟩ = some (.int .i64 hi) := by rw [cell_of_row _ _ _ _ _ _ hqr]; rfl
    have gg : Chg [] w wr := g0.tn hch (by rw [← hp.out]; omega)
    have hsr := h0.tr hch (fun k hk => by
      have h1 := hs.lt k (by simpa using hk)
      have := hp.out
      simp; omega)
    clear hqr
    by_cases hlt : k < l.length
    · obtain ⟨b, off, c, e, hbl, hc1⟩ := int_cells hsr k hlt
      cases e
      rw [List.drop_eq_getElem_cons hlt, colsOk] at hgo
      have htk : l.take (k + 1) = l.take k ++ [l[k]] := List.take_succ_eq_append_getElem hlt
      replace hgo := Lib.hid hgo
      replace htk := Lib.hid htk
      clear hh hq hs h0 hsr
      generalize l[k] = x at *
      by_cases hx0 : x < 0
      · have hV : fitsV l lo hi 64 65536 = false := by rw [fitsV_eq, hgo.out, if_pos (.inl hx0)]; rfl
        replace hV := Lib.hid hV
        go_wp2
        go_ret
        exact ⟨by rw [hV.out]; rfl, gg⟩
      by_cases hx1 : 64 ≤ x
      · have hV : fitsV l lo hi 64 65536 = false := by rw [fitsV_eq, hgo.out, if_pos (.inr (.inl hx1))]; rfl
        replace hV := Lib.hid hV
        go_wp2
        go_ret
        exact ⟨by rw [hV.out]; rfl, gg⟩
      obtain ⟨X, rfl⟩ : ∃ X : Nat, x = (X : Int) := ⟨x.toNat, by omega⟩
      have hX : X < 64 := by omega
      obtain ⟨d1, d2⟩ := hhad.cell X hX
      have hput := hhad.put X hX
      rw [← htk.out] at hput
      have gput : Chg [p] wr (wr.setCell ⟨p, X, none⟩ (.bool true)) := Chg.setCell wr ⟨p, X, none⟩ (.bool true)
      by_cases hm : (X : Int) ∈ l.take k
      · have hV : fitsV l lo hi 64 65536 = false := by rw [fitsV_eq, hgo.out, if_pos (.inr (.inr hm))]; rfl
        replace hV := Lib.hid hV
        rw [decide_eq_true hm] at d1
        clear hm htk hgo hput
        go_wp2
        go_ret
        exact ⟨by rw [hV.out]; rfl, gg⟩
      · have hgo2 := hgo.out
        rw [if_neg (by simp only [not_or]; exact ⟨hx0, hx1, hm⟩), ← htk.out] at hgo2
        rw [decide_eq_false hm] at d1
        have hX2 : (X : Int) < 64 := by omega
        have hX3 : (0 : Int) ≤ X := by omega
        clear hm htk hgo hx0 hx1
        go_wp2
        go_roundw
        case rel => exact ⟨k + 1, by omega, by go_num, hgo2, hput, hch.t1 gput⟩
        case measure => simp [intOf]; omega
    · obtain rfl : k = l.length := by omega
      rw [List.drop_length, colsOk] at hgo
      have hV : fitsV l lo hi 64 65536 = (decide (0 ≤ lo) && decide (lo ≤ hi) && decide (hi ≤ 65536)) := by rw [fitsV_eq, hgo, Bool.true_and]
      replace hV := Lib.hid hV
      clear hgo hs hh h0 hsr hq hhad
      by_cases h0 : 0 ≤ lo
      · by_cases h1 : lo ≤ hi
        · have hV2 : Hid (fitsV l lo hi 64 65536 = decide (hi ≤ 65536)) := by rw [Hid, hV.out, decide_eq_true h0, decide_eq_true h1]; rfl
          go_wp2
          go_ret
          exact ⟨by rw [hV2.out]; rfl, gg⟩
        · have hV2 : Hid (fitsV l lo hi 64 65536 = false) := by rw [Hid, hV.out, decide_eq_false h1, Bool.and_false]; rfl
          go_wp2
          go_ret
          exact ⟨by rw [hV2.out]; rfl, gg⟩
      · have hV2 : Hid (fitsV l lo hi 64 65536 = false) := by rw [Hid, hV.out, decide_eq_false h0]; rfl
        go_wp2
        go_ret
        exact ⟨by rw [hV2.out]; rfl, gg⟩
end Go.Proofs.Ytfnfcioofkeanaa
