/-
  Tables: what they are in memory; the closures of cell.Check.
-/
import Derived.Test.YtfnfcioofkeanaaCell2
import Derived.Test.YtfnfcioofkeanaaOpenC
namespace Go.Proofs.Ytfnfcioofkeanaa
set_option linter.unusedSimpArgs false
set_option linter.unusedVariables false
open Go.RowKit

structure Tab where
  cols : List Col
  rows : Int
  data : List (List Cell)
deriving DecidableEq
/-- A row of rows of cells, the inner slices with their values. -/
abbrev Rows2 := List (Value × List Cell)
def Sl2 (w : World) (v : Value) (D : Rows2) : Prop := Sl w v D.length (D.map (·.1)) ∧ ∀ x ∈ D, Sl w x.1 x.2.length (x.2.flatMap cellc)
theorem Sl2.tr0 {w w' : World} {v : Value} {D : Rows2} (h : Sl2 w v D) (g : Chg [] w w') : Sl2 w' v D := ⟨h.1.tr0 g, fun x hx => (h.2 x hx).tr0 g⟩
theorem Sl2.cell {w : World} {v : Value} {D : Rows2} (h : Sl2 w v D) (k : Nat) (hk : k < D.length) : ∃ b off c, v = .slice (some ⟨b, off, none⟩) D.length c ∧ b < w.heap.size ∧ w.cell? ⟨b, off + k, none⟩ = some D[k].1 ∧ Sl w D[k].1 D[k].2.length (D[k].2.flatMap cellc) := by
  obtain ⟨b, off, c, rfl, _, _, hb, hc⟩ := h.1.at (by simp; omega)
  exact ⟨b, off, c, rfl, hb, hc k _ (by simp [hk]), h.2 _ (List.getElem_mem hk)⟩
theorem cell_cells {w : World} {v : Value} {L : List Cell} (h : Sl w v L.length (L.flatMap cellc)) (k : Nat) (hk : k < L.length) :
    ∃ b off c, v = .slice (some ⟨b, off, none⟩) L.length c ∧ b < w.heap.size ∧ w.rangeAt b (off + k * 5) (cellc L[k]) := by
  have hf : ∀ a ∈ L, (cellc a).length = 5 := fun _ _ => rfl
  obtain ⟨b, off, c, rfl, _, _, hb, hc⟩ := h.at (by rw [flat_length cellc 5 L hf]; omega)
  refine ⟨b, off, c, rfl, hb, fun j u hj => ?_⟩
  have hj5 : j < 5 := by
    rcases Nat.lt_or_ge j 5 with h | h
    · exact h
    · rw [List.getElem?_eq_none (by simpa [cellc] using h)] at hj; cases hj
  have := hc (k * 5 + j) u (by rw [flat_at cellc 5 L hf k j hk hj5]; exact hj)
  rw [Nat.add_assoc]; exact this

/-- The first place at which a test holds, or -1. -/
def badRows (rows : Int) (l : List Cell) : Bool := decide ((l.length : Int) ≠ rows)
def badCell (col : Col) (c : Cell) : Bool := !rightC c col.typ col.null

set_option maxHeartbeats 2000000 in
set_option maxRecDepth 100000 in
theorem check1_ok (w : World) (B : Nat) (a : Option Addr) (n c : Nat) (rows : Int) (hc : w.cell? ⟨B, 1, none⟩ = some (.int .i64 rows)) :
    Calls Try.prog 48 #[.slice a n c, .pointer (some ⟨B, 0, none⟩)] w fun e w' => e = .returned (.bool ((n : Int) != rows)) ∧ w' = w := by
  go_enter Try.func48, Try.ntmps48
  go_wp2
  go_ret
  exact ⟨rfl, rfl⟩
def check1F (B : Nat) : Value := .func (.func 48) #[] #[.pointer (some ⟨B, 0, none⟩)]
set_option maxHeartbeats 2000000 in
set_option maxRecDepth 100000 in
theorem index_c1 (w : World) (v : Value) (D : Rows2) (B : Nat) (rows : Int) (hc : w.cell? ⟨B, 1, none⟩ = some (.int .i64 rows)) (hs : Sl2 w v D) (hb : D.length ≤ maxLen) :
    Calls Try.prog 70 #[v, check1F B] w fun e w' => ∃ r : Int, e = .returned (.int .i64 r) ∧ (0 ≤ r ↔ ∃ x ∈ D, (x.2.length : Int) ≠ rows) ∧ w' = w := by
  obtain ⟨a0, c0, rfl⟩ := hs.1.shape
  unfold maxLen at hb
  unfold check1F
  go_enter Try.func70, Try.ntmps70
  go_wp2_with fail
  go_loop [8] (fun iv => ∃ (k : Nat), k ≤ D.length ∧ iv = .int .i64 k ∧ ∀ x ∈ D.take k, (x.2.length : Int) = rows) (fun iv => D.length - (intOf iv).toNat)
  case atStart => exact ⟨0, Nat.zero_le _, rfl, by simp⟩
  case round =>
    obtain ⟨k, hk, rfl, hno⟩ := hrel
    by_cases hlt : k < D.length
    · obtain ⟨b, off, c', e, hbl, hc1, hs1⟩ := hs.cell k hlt
      cases e
      obtain ⟨a1, c1, e1⟩ := hs1.shape
      rw [e1] at hc1
      have htk : D.take (k + 1) = D.take k ++ [D[k]] := List.take_succ_eq_append_getElem hlt
      have hmem : D[k] ∈ D := List.getElem_mem hlt
      replace htk := Lib.hid htk
      clear hs hs1 e1
      generalize D[k] = x at *
      obtain ⟨xv, xl⟩ := x
      dsimp only at *
      go_wp2_with fail
      refine (check1_ok w B a1 xl.length c1 rows hc).mono ?_
      rintro e w2 ⟨rfl, rfl⟩
      by_cases hx : (xl.length : Int) = rows
      · have hx' : ((xl.length : Int) != rows) = false := by simpa using hx
        replace hx := Lib.hid hx
        go_wp2
        go_round
        case rel => exact ⟨k + 1, by omega, by go_num, by rw [htk.out]; intro y hy; rcases List.mem_append.1 hy with hy | hy; exact hno y hy; rw [List.mem_singleton.1 hy]; exact hx.out⟩
        case measure => simp [intOf]; omega
      · have hx' : ((xl.length : Int) != rows) = true := by simpa using hx
        go_wp2
        go_ret
        exact ⟨k, rfl, ⟨fun _ => ⟨_, hmem, hx⟩, fun _ => by omega⟩, rfl⟩
    · obtain rfl : k = D.length := by omega
      rw [List.take_length] at hno
      go_wp2
      go_ret
      exact ⟨-1, rfl, ⟨fun h => by omega, fun h => by obtain ⟨a, b, hx, hm⟩ := h; exact absurd (hno (a, b) hx) hm⟩, rfl⟩
set_option maxHeartbeats 2000000 in
set_option maxRecDepth 100000 in
theorem contains_c1 (w : World) (v : Value) (D : Rows2) (B : Nat) (rows : Int) (hc : w.cell? ⟨B, 1, none⟩ = some (.int .i64 rows)) (hs : Sl2 w v D) (hb : D.length ≤ maxLen) :
    Calls Try.prog 47 #[v, check1F B] w fun e w' => e = .returned (.bool (decide (∃ x ∈ D, (x.2.length : Int) ≠ rows))) ∧ w' = w := by
  go_enter Try.func47, Try.ntmps47
  go_wp2_with fail
  refine (index_c1 w v D B rows hc hs hb).mono ?_
  rintro e w2 ⟨r, rfl, hr, rfl⟩
  have hd : decide (0 ≤ r) = decide (∃ x ∈ D, (x.2.length : Int) ≠ rows) := by rw [decide_eq_decide]; exact hr
  replace hd := Lib.hid hd
  clear hr
  go_wp2
  go_ret
  exact ⟨by rw [← hd.out]; rfl, rfl⟩

set_option maxHeartbeats 4000000 in
set_option maxRecDepth 100000 in
theorem check2_ok (w : World) (B K : Nat) (vc : Value) (L : List Col) (k : Nat) (c : Cell) (hk : k < L.length) (hc : w.cell? ⟨B, 0, none⟩ = some vc) (hK : w.cell? ⟨K, 0, none⟩ = some (.int .i64 k)) (hs : Sl w vc L.length (L.flatMap colc)) :
    Calls Try.prog 50 #[.agg (cellc c).toArray, .pointer (some ⟨B, 0, none⟩), .pointer (some ⟨K, 0, none⟩)] w fun e w' => e = .returned (.bool (badCell L[k] c)) ∧ Chg [] w w' := by
  obtain ⟨b, off, cc, rfl, hbl, x1, x2, x3⟩ := cols_cells hs k hk
  have r1 : w.rangeAt b (off + k * 3) (colc L[k]) := ra3 x1 x2 x3
  have kR := fun w => cright_ok w c L[k]
  have hkl : (k : Int) < L.length := by omega
  have hk0 : (0 : Int) ≤ k := by omega
  unfold badCell
  generalize rightC c L[k].typ L[k].null = R at *
  obtain ⟨n, i, t, x, y⟩ := c
  unfold cellc at *
  have hB := World.block_lt_of_cell? _ _ hc
  have hKl := World.block_lt_of_cell? _ _ hK
  go_enter Try.func50, Try.ntmps50
  have gA := Chg.alloc [] w (.cells #[.bool n, .int .i64 i, .string (bstr t), .int .i64 x, .int .i64 y] 54)
  have ra := ra_block (heap_alloc_new w (.cells #[.bool n, .int .i64 i, .string (bstr t), .int .i64 x, .int .i64 y] 54))
  have hc2 := gA.cellv hc (by simp)
  have hK2 := gA.cellv hK (by simp)
  have r2 := gA.range r1 (by simp)
  clear hc hK r1 x1 x2 x3 hs hB hKl
  go_wp2_with fail
  generalize w.alloc (.cells #[.bool n, .int .i64 i, .string (bstr t), .int .i64 x, .int .i64 y] 54) = w2 at *
  refine region_quietC (by kernel_rfl) (by kernel_rfl) ?_
  repeat (first
    | (refine quiet_loadC rfl _ _ rfl _ _ rfl _ _ ra Try.underlying54 rfl (by kernel_rfl) ?_)
    | (refine quiet_loadC rfl _ _ rfl _ _ rfl _ _ r2 Try.underlying58 rfl (by kernel_rfl) ?_)
    | (refine quiet_cellC rfl _ _ rfl _ rfl _ _ hc2 Try.underlying25 rfl ?_)
    | (refine quiet_cellC rfl _ _ rfl _ rfl _ _ hK2 Try.underlying3 rfl ?_)
    | quiet_step ((intro hx; first | rfl | with_reducible exact Calls.quietC hx (kR _))))
  refine wpQuiet_nil ?_
  intro w' g
  go_wp2
  go_ret
  exact ⟨rfl, gA.t0 g⟩
def check2F (B K : Nat) : Value := .func (.func 50) #[] #[.pointer (some ⟨B, 0, none⟩), .pointer (some ⟨K, 0, none⟩)]
set_option maxHeartbeats 4000000 in
set_option maxRecDepth 100000 in
theorem index_c2 (w : World) (v : Value) (C : List Cell) (B K : Nat) (vc : Value) (L : List Col) (k : Nat) (hk : k < L.length) (hc : w.cell? ⟨B, 0, none⟩ = some vc) (hK : w.cell? ⟨K, 0, none⟩ = some (.int .i64 k)) (hL : Sl w vc L.length (L.flatMap colc)) (hs : Sl w v C.length (C.flatMap cellc)) (hb : C.length ≤ maxLen) :
    Calls Try.prog 71 #[v, check2F B K] w fun e w' => ∃ r : Int, e = .returned (.int .i64 r) ∧ (0 ≤ r ↔ ∃ c ∈ C, badCell L[k] c = true) ∧ Chg [] w w' := by
  obtain ⟨a0, c0, rfl⟩ := hs.shape
  unfold maxLen at hb
  unfold check2F
  go_enter Try.func71, Try.ntmps71
  go_wp2_with fail
  go_loopw [8] (fun iv wr => ∃ (j : Nat), j ≤ C.length ∧ iv = .int .i64 j ∧ (∀ c ∈ C.take j, badCell L[k] c = false) ∧ Chg [] w wr) (fun iv _ => C.length - (intOf iv).toNat)
  case atStart => exact ⟨0, Nat.zero_le _, rfl, by simp, Chg.refl _ _⟩
  case round =>
    obtain ⟨j, hj, rfl, hno, hch⟩ := hrel
    by_cases hlt : j < C.length
    · obtain ⟨b, off, c', e, hbl, r1⟩ := cell_cells (hs.tr0 hch) j hlt
      cases e
      have htk : C.take (j + 1) = C.take j ++ [C[j]] := List.take_succ_eq_append_getElem hlt
      have hmem : C[j] ∈ C := List.getElem_mem hlt
      have kC := fun c => check2_ok wr B K vc L k c hk (hch.cellv hc (by simp)) (hch.cellv hK (by simp)) (hL.tr0 hch)
      generalize hbc : badCell L[k] = BC at *
      replace hbc := Lib.hid hbc
      replace htk := Lib.hid htk
      clear hs hL
      generalize C[j] = c at *
      have kC := kC c
      obtain ⟨n, i, t, x, y⟩ := c
      unfold cellc at r1 kC
      obtain ⟨x0, x1, x2, x3, x4⟩ : wr.cell? ⟨b, off + j * 5, none⟩ = _ ∧ wr.cell? ⟨b, off + j * 5 + 1, none⟩ = _ ∧ wr.cell? ⟨b, off + j * 5 + 2, none⟩ = _ ∧ wr.cell? ⟨b, off + j * 5 + 3, none⟩ = _ ∧ wr.cell? ⟨b, off + j * 5 + 4, none⟩ = _ := ⟨r1 0 _ rfl, r1 1 _ rfl, r1 2 _ rfl, r1 3 _ rfl, r1 4 _ rfl⟩
      clear r1
      go_wp2_with fail
      refine kC.mono ?_
      rintro e w2 ⟨rfl, g2⟩
      cases hx : BC ⟨n, i, t, x, y⟩
      · go_wp2
        go_roundw
        case rel => exact ⟨j + 1, by omega, by go_num, by rw [htk.out]; intro z hz; rcases List.mem_append.1 hz with hz | hz; exact hno z hz; rw [List.mem_singleton.1 hz]; first | exact hx | (rw [hbc.out]; exact hx), hch.t0 g2⟩
        case measure => simp [intOf]; omega
      · go_wp2
        go_ret
        exact ⟨j, rfl, ⟨fun _ => ⟨_, hmem, by rw [hbc.out]; exact hx⟩, fun _ => by omega⟩, hch.t0 g2⟩
    · obtain rfl : j = C.length := by omega
      rw [List.take_length] at hno
      go_wp2
      go_ret
      exact ⟨-1, rfl, ⟨fun h => by omega, fun h => by obtain ⟨x, hx, hm⟩ := h; rw [hno x hx] at hm; cases hm⟩, hch⟩
set_option maxHeartbeats 2000000 in
set_option maxRecDepth 100000 in
theorem contains_c2 (w : World) (v : Value) (C : List Cell) (B K : Nat) (vc : Value) (L : List Col) (k : Nat) (hk : k < L.length) (hc : w.cell? ⟨B, 0, none⟩ = some vc) (hK : w.cell? ⟨K, 0, none⟩ = some (.int .i64 k)) (hL : Sl w vc L.length (L.flatMap colc)) (hs : Sl w v C.length (C.flatMap cellc)) (hb : C.length ≤ maxLen) :
    Calls Try.prog 49 #[v, check2F B K] w fun e w' => e = .returned (.bool (decide (∃ c ∈ C, badCell L[k] c = true))) ∧ Chg [] w w' := by
  go_enter Try.func49, Try.ntmps49
  go_wp2_with fail
  refine (index_c2 w v C B K vc L k hk hc hK hL hs hb).mono ?_
  rintro e w2 ⟨r, rfl, hr, g⟩
  have hd : decide (0 ≤ r) = decide (∃ c ∈ C, badCell L[k] c = true) := by rw [decide_eq_decide]; exact hr
  replace hd := Lib.hid hd
  clear hr
  go_wp2
  go_ret
  exact ⟨by rw [← hd.out]; rfl, g⟩
end Go.Proofs.Ytfnfcioofkeanaa
