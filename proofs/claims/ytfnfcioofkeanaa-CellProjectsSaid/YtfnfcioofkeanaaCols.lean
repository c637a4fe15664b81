/-
  Columns: what they are in memory, and the contracts of cell.Cols and of the document's own (hypostyleref07).
-/
import Derived.Test.YtfnfcioofkeanaaCursor
import Derived.Test.YtfnfcioofkeanaaOpen
import Derived.Maps.Own
import Derived.Maps.OwnOps
import Derived.Maps.Views
import Derived.Lib.Hide
namespace Go.Proofs.Ytfnfcioofkeanaa
set_option linter.unusedSimpArgs false
set_option linter.unusedVariables false
open Go.RowKit Go.WideMaps Go.Maps

structure Col where
  name : List UInt8
  typ : Int
  null : Bool

def colc (c : Col) : List Value := [.string (bstr c.name), .int .i64 c.typ, .bool c.null]
/-- What is wrong of columns, those seen ahead of them having these names. -/
def colsGo : List Col → List (List UInt8) → Int
  | [], _ => 0
  | c :: r, seen => if c.name.length = 0 ∨ 100 < c.name.length ∨ c.name ∈ seen then 1 else if c.typ < 0 ∨ 4 ≤ c.typ then 3 else colsGo r (seen ++ [c.name])
def colsV (l : List Col) : Int := if 64 < l.length then 4 else colsGo l []

theorem cols_cells {w : World} {v : Value} {L : List Col} (h : Sl w v L.length (L.flatMap colc)) (k : Nat) (hk : k < L.length) :
    ∃ b off c, v = .slice (some ⟨b, off, none⟩) L.length c ∧ b < w.heap.size ∧ w.cell? ⟨b, off + k * 3, none⟩ = some (.string (bstr L[k].name)) ∧ w.cell? ⟨b, off + k * 3 + 1, none⟩ = some (.int .i64 L[k].typ) ∧ w.cell? ⟨b, off + k * 3 + 2, none⟩ = some (.bool L[k].null) := by
  have hf : ∀ a ∈ L, (colc a).length = 3 := fun _ _ => rfl
  obtain ⟨b, off, c, rfl, _, _, hb, hc⟩ := h.at (by rw [flat_length colc 3 L hf]; omega)
  refine ⟨b, off, c, rfl, hb, hc (k * 3) _ ?_, hc (k * 3 + 1) _ ?_, hc (k * 3 + 2) _ ?_⟩
  · rw [show k * 3 = k * 3 + 0 by omega, flat_at colc 3 L hf k 0 hk (by decide)]; rfl
  · rw [flat_at colc 3 L hf k 1 hk (by decide)]; rfl
  · rw [flat_at colc 3 L hf k 2 hk (by decide)]; rfl

theorem law : Keyed Try.prog 9 := string_keyed Try.underlying9
theorem zeroI (w : World) : (zeroValue 3).run Try.prog w = .ok (.int .i64 0) w := by kernel_rfl

/-- How often a name has come. -/
def Counts (D : DataW Unit) (seen : List (List UInt8)) : Prop := ∀ s : List UInt8, D.atKey (.string s) (.lit (.int .i64 0)) = .lit (.int .i64 (if s ∈ seen then 1 else 0))

set_option maxHeartbeats 2000000 in
set_option maxRecDepth 100000 in
theorem cols_ok (w : World) (v : Value) (L : List Col) (hL : ∀ c ∈ L, c.name.length ≤ maxLen ∧ -9223372036854775808 ≤ c.typ ∧ c.typ ≤ 9223372036854775807) (hs : Sl w v L.length (L.flatMap colc)) (hb : L.length ≤ maxLen) :
    Calls Try.prog 26 #[v] w fun e w' => e = .returned (.int .i64 (colsV L)) ∧ Chg [] w w' := by
  obtain ⟨a0, c0, rfl⟩ := hs.shape
  have hmm := @run_makeMap Try.prog
  unfold maxLen at hb
  go_enter Try.func26, Try.ntmps26
  by_cases h64 : 64 < L.length
  · go_wp2
    go_ret
    refine ⟨?_, Chg.refl _ _⟩
    rw [colsV, if_pos h64]
    rfl
  go_wp2_with fail
  have hcv : colsV L = colsGo L [] := by rw [colsV, if_neg h64]
  go_loopw [12] (fun iv wr => ∃ (k : Nat) (D : DataW Unit), k ≤ L.length ∧ iv = .int .i64 k ∧ wr.ownsMap Try.prog 9 (plainElem Try.prog 3) w.heap.size k D ∧ Counts D ((L.take k).map (·.name)) ∧ colsV L = colsGo (L.drop k) ((L.take k).map (·.name)) ∧ Chg [] w wr) (fun iv _ => L.length - (intOf iv).toNat)
  case atStart => exact ⟨0, .map [], Nat.zero_le _, rfl, World.ownsMap_made _ _ _ _, fun s => by simp; rfl, by simpa using hcv, Chg.alloc [] w _⟩
  case round =>
    obtain ⟨k, D, hk, rfl, hown, hD, hgo, hch⟩ := hrel
    clear hcv
    by_cases hlt : k < L.length
    · obtain ⟨b, off, c, e, hbl, hc1, hc2, hc3⟩ := cols_cells (hs.tr0 hch) k hlt
      cases e
      have hr := hL _ (List.getElem_mem hlt)
      have htk : (L.take (k + 1)).map (·.name) = (L.take k).map (·.name) ++ [L[k].name] := by
        rw [List.take_succ_eq_append_getElem hlt, List.map_append]; rfl
      have hdr := List.drop_eq_getElem_cons hlt
      rw [hdr, colsGo] at hgo
      replace hgo := Lib.hid hgo
      replace htk := Lib.hid htk
      clear hdr
      generalize hx : L[k] = x at *
      obtain ⟨nm, ty, nu⟩ := x
      dsimp only at *
      obtain ⟨hr0, hr1, hr2⟩ := hr
      have hkey : keyOf Try.prog 9 (.string (bstr nm)) = some (.string nm) := keyOf_string_mk Try.underlying9 (by simpa using hr0)
      have hD1 := hD nm
      have hmap : IsMap D := by obtain ⟨_, _, _, _, _, e⟩ := id hown; exact ⟨_, e⟩
      have hbne : wr.heap.size ≠ w.heap.size := by have := hown.lt; omega
      have hcnt : nm ∉ (L.take k).map (·.name) → Counts (D.put (.string nm) (.lit (.int .i64 1))) ((L.take (k + 1)).map (·.name)) := by
        intro hn s
        rw [htk.out]
        by_cases e : s = nm
        · subst e
          rw [atKey_put_same hmap (by trivial)]
          simp
        · rw [atKey_put_other (by simpa using e), hD s]
          simp [e]
      generalize hse : (L.take k).map (·.name) = seen at *
      have hst : (colsV L = 1 ∧ nm.isEmpty = true) ∨ (colsV L = 1 ∧ nm.isEmpty = false ∧ 100 < nm.length) ∨ (colsV L = 1 ∧ nm.isEmpty = false ∧ nm.length ≤ 100 ∧ nm ∈ seen) ∨
          (colsV L = 3 ∧ nm.isEmpty = false ∧ nm.length ≤ 100 ∧ nm ∉ seen ∧ ty < 0) ∨ (colsV L = 3 ∧ nm.isEmpty = false ∧ nm.length ≤ 100 ∧ nm ∉ seen ∧ 0 ≤ ty ∧ 4 ≤ ty) ∨
          (colsV L = colsGo (L.drop (k + 1)) (seen ++ [nm]) ∧ nm.isEmpty = false ∧ nm.length ≤ 100 ∧ nm ∉ seen ∧ 0 ≤ ty ∧ ty < 4) := by
        have hgo := hgo.out
        by_cases e1 : nm = []
        · subst e1; left; rw [if_pos (by simp)] at hgo; exact ⟨hgo, rfl⟩
        · have e1' : nm.isEmpty = false := by simpa using e1
          have e1'' : nm.length ≠ 0 := by simpa using e1
          right
          by_cases e2 : 100 < nm.length
          · left; rw [if_pos (by simp [e2])] at hgo; exact ⟨hgo, e1', e2⟩
          · right
            by_cases e3 : nm ∈ seen
            · left; rw [if_pos (by simp [e3])] at hgo; exact ⟨hgo, e1', by omega, e3⟩
            · right
              rw [if_neg (by simp [e1, e2, e3])] at hgo
              by_cases e4 : ty < 0
              · left; rw [if_pos (by simp [e4])] at hgo; exact ⟨hgo, e1', by omega, e3, e4⟩
              · right
                by_cases e5 : 4 ≤ ty
                · left; rw [if_pos (by simp [e5])] at hgo; exact ⟨hgo, e1', by omega, e3, by omega, e5⟩
                · right; rw [if_neg (by omega)] at hgo; exact ⟨hgo, e1', by omega, e3, by omega, by omega⟩
      clear hgo hs hL hD hse
      rcases hst with ⟨hV, z1⟩ | ⟨hV, z1, z2⟩ | ⟨hV, z1, z2, z3⟩ | ⟨hV, z1, z2, z3, z4⟩ | ⟨hV, z1, z2, z3, z4, z5⟩ | ⟨hV, z1, z2, z3, z4, z5⟩
      all_goals replace hV := Lib.hid hV
      all_goals
        go_wp2_with (first
          | (at_lookup; refine wpList_lookup_own_int _ rfl _ _ 83 rfl 9 3 .i64 law Try.underlying83 Try.underlying3 (zeroI _) w.heap.size k D rfl (hown.alloc _) _ _ rfl hkey ?_; intro c hat hwc; rw [hD1] at hat)
          | (at_mapUpdate; refine wpList_mapUpdate_own _ rfl _ _ _ 83 rfl 9 3 law Try.underlying83 _ w.heap.size k D rfl (hown.alloc _) (by unfold maxLen; omega) _ _ _ rfl rfl hkey _ [] (plainElem_int Try.underlying3 (wrap64_wf _)) ?_
             intro w1 hown1 hgrow1
             obtain ⟨q0, q1⟩ : w1.cell? ⟨wr.heap.size, 0, none⟩ = some (.string (bstr nm)) ∧ w1.cell? ⟨wr.heap.size, 1, none⟩ = some (.int .i64 ty) := by
               have hbk := (Chg.grown hgrow1).heap (heap_alloc_new wr _) (by simpa using hbne)
               exact ⟨by rw [cell_of_row _ _ _ _ _ _ hbk]; rfl, by rw [cell_of_row _ _ _ _ _ _ hbk]; rfl⟩
             have hch1 : Chg [] w w1 := (hch.t0 (Chg.alloc [] wr _)).tn (Chg.grown hgrow1) (Nat.le_refl _)
             obtain ⟨c2, hrun2, hat2, _⟩ := hown1.lookup_int law Try.underlying83 Try.underlying3 (zeroI _) hkey
             rw [atKey_put_same hmap (by trivial)] at hat2
             simp only [DataW.lit.injEq, Lit.int.injEq, true_and] at hat hat2
             have hcv : c2 = if nm ∈ seen then 2 else 1 := by
               rw [← hat2, ← hat]; split <;> (unfold wrap64; omega)
             rw [hat2] at hown1
             clear hat hat2
             first
               | (rw [if_pos z3] at hcv; subst hcv)
               | (rw [if_neg z3] at hcv; subst hcv)
               | clear hcv))
      all_goals first
        | (go_ret; exact ⟨by rw [hV.out]; rfl, hch1⟩)
        | skip
      go_roundw
      case rel => exact ⟨k + 1, _, by omega, by go_num, hown1, hcnt z3, by rw [htk.out]; exact hV.out, hch1⟩
      case measure => simp [intOf]; omega
    · have hkl : k = L.length := by omega
      subst hkl
      rw [List.drop_length] at hgo
      have hV : colsV L = 0 := hgo
      replace hV := Lib.hid hV
      clear hgo hown hD hs
      go_wp2
      go_ret
      exact ⟨by rw [hV.out]; rfl, hch⟩
end Go.Proofs.Ytfnfcioofkeanaa
