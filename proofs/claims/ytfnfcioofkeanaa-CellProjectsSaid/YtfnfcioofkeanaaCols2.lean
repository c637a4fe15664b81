/-
  The contracts of the document's Cols and Schema (hypostyleref07).
-/
import Derived.Test.YtfnfcioofkeanaaCols
import Derived.Test.YtfnfcioofkeanaaSoft
namespace Go.Proofs.Ytfnfcioofkeanaa
set_option linter.unusedSimpArgs false
set_option linter.unusedVariables false
open Go.RowKit
deriving instance DecidableEq for Col

theorem rcols_split {V X ty : Int} {nm : List UInt8} {seen : List (List UInt8)} (h : V = if nm.length = 0 ∨ 100 < nm.length ∨ nm ∈ seen then 1 else if ty < 0 ∨ 4 ≤ ty then 3 else X) :
    (((nm.isEmpty || decide (100 < (nm.length : Int))) || decide (nm ∈ seen)) = true ∧ V = 1) ∨ (((nm.isEmpty || decide (100 < (nm.length : Int))) || decide (nm ∈ seen)) = false ∧ V = 3 ∧ ty < 0) ∨
    (((nm.isEmpty || decide (100 < (nm.length : Int))) || decide (nm ∈ seen)) = false ∧ V = 3 ∧ 0 ≤ ty ∧ 3 < ty) ∨ (((nm.isEmpty || decide (100 < (nm.length : Int))) || decide (nm ∈ seen)) = false ∧ V = X ∧ 0 ≤ ty ∧ ty ≤ 3) := by
  by_cases hb : nm.length = 0 ∨ 100 < nm.length ∨ nm ∈ seen
  · left
    rw [if_pos hb] at h
    refine ⟨?_, h⟩
    rcases hb with hb | hb | hb
    · have : nm = [] := by simpa using hb
      subst this; rfl
    · have : (100 : Int) < nm.length := by omega
      simp [this]
    · simp [hb]
  · rw [if_neg hb] at h
    right
    have hf : ((nm.isEmpty || decide (100 < (nm.length : Int))) || decide (nm ∈ seen)) = false := by
      simp only [not_or] at hb
      obtain ⟨b1, b2, b3⟩ := hb
      have b1' : nm.isEmpty = false := by simpa using b1
      have b2' : ¬ ((100 : Int) < nm.length) := by omega
      simp [b1', b2', b3]
    rw [hf]
    by_cases h1 : ty < 0
    · left; rw [if_pos (.inl h1)] at h; exact ⟨rfl, h, h1⟩
    · right
      by_cases h2 : 4 ≤ ty
      · left; rw [if_pos (.inr h2)] at h; exact ⟨rfl, h, by omega, by omega⟩
      · right; rw [if_neg (by omega)] at h; exact ⟨rfl, h, by omega, by omega⟩

set_option maxHeartbeats 2000000 in
set_option maxRecDepth 100000 in
theorem rcols_ok (w : World) (v : Value) (L : List Col) (hL : ∀ c ∈ L, c.name.length ≤ maxLen ∧ -9223372036854775808 ≤ c.typ ∧ c.typ ≤ 9223372036854775807) (hs : Sl w v L.length (L.flatMap colc)) (hb : L.length ≤ maxLen) :
    Calls Try.prog 27 #[v] w fun e w' => e = .returned (.int .i64 (colsV L)) ∧ Chg [] w w' := by
  obtain ⟨a0, c0, rfl⟩ := hs.shape
  unfold maxLen at hb
  go_enter Try.func27, Try.ntmps27
  by_cases h64 : 64 < L.length
  · go_wp2
    go_ret
    refine ⟨?_, Chg.refl _ _⟩
    rw [colsV, if_pos h64]
    rfl
  go_wp2_with fail
  have hcv : colsV L = colsGo L [] := by rw [colsV, if_neg h64]
  go_loopw [3] (fun iv wr => ∃ (k : Nat), k ≤ L.length ∧ iv = .int .i64 k ∧ colsV L = colsGo (L.drop k) ((L.take k).map (·.name)) ∧ Chg [] w wr) (fun iv _ => L.length - (intOf iv).toNat)
  case atStart => exact ⟨0, Nat.zero_le _, rfl, by simpa using hcv, Chg.refl _ _⟩
  case round =>
    obtain ⟨k, hk, rfl, hgo, hch⟩ := hrel
    clear hcv
    by_cases hlt : k < L.length
    · obtain ⟨b, off, c, e, hbl, hc1, hc2, hc3⟩ := cols_cells (hs.tr0 hch) k hlt
      cases e
      have hr := hL _ (List.getElem_mem hlt)
      have htk : (L.take (k + 1)).map (·.name) = (L.take k).map (·.name) ++ [L[k].name] := by
        rw [List.take_succ_eq_append_getElem hlt, List.map_append]; rfl
      rw [List.drop_eq_getElem_cons hlt, colsGo] at hgo
      have hel : ∀ j, (hj : j < k) → ((L.take (j + 1)).map (·.name)) = ((L.take j).map (·.name)) ++ [L[j].name] := fun j hj => by
        rw [List.take_succ_eq_append_getElem (by omega), List.map_append]; rfl
      replace hgo := Lib.hid hgo
      replace htk := Lib.hid htk
      replace hel := Lib.hid hel
      generalize hx : L[k] = x at *
      obtain ⟨nm, ty, nu⟩ := x
      dsimp only at *
      obtain ⟨hr0, hr1, hr2⟩ := hr
      obtain ⟨B0, hB0⟩ : ∃ B0 : Bool, B0 = (nm.isEmpty || decide (100 < (nm.length : Int))) := ⟨_, rfl⟩
      replace hB0 := Lib.hid hB0
      cases hem : nm.isEmpty
      all_goals
        go_wp2_with fail
        go_loopw [4, 5] (fun bv jv wq => ∃ j : Nat, j ≤ k ∧ jv = .int .i64 j ∧ bv = .bool (B0 || decide (nm ∈ (L.take j).map (·.name))) ∧ Chg [] w wq) (fun _ jv _ => k - (intOf jv).toNat)
        case atStart => exact ⟨0, Nat.zero_le _, rfl, by rw [hB0.out, hem]; simp, hch⟩
        case round =>
          clear hch
          rename_i wq
          obtain ⟨j, hj, rfl, rfl, hch⟩ := hrel
          by_cases hjt : j < k
          · obtain ⟨b', off', c', e, hbl', d1, d2, d3⟩ := cols_cells (hs.tr0 hch) j (by omega)
            cases e
            obtain ⟨b', off', c', e, hbl', e1, e2, e3⟩ := cols_cells (hs.tr0 hch) k hlt
            cases e
            rw [hx] at e1
            dsimp only at e1
            have hel' := hel.out j hjt
            have hjl : j < L.length := by omega
            have hjl' : (j : Int) < L.length := by omega
            have hkl' : (k : Int) < L.length := by omega
            have hj0 : (0 : Int) ≤ j := by omega
            have hk0 : (0 : Int) ≤ k := by omega
            have hnext : (B0 || decide (nm ∈ (L.take (j + 1)).map (·.name))) = ((B0 || decide (nm ∈ (L.take j).map (·.name))) || decide (L[j].name = nm)) := by
              rw [hel']
              simp [Bool.or_assoc, eq_comm]
            replace hnext := Lib.hid hnext
            generalize hSj : (B0 || decide (nm ∈ (L.take j).map (·.name))) = Bj at *
            clear hSj hel'
            cases Bj
            · go_wp2_with fail
              refine region_quiet_tailC 14 (by kernel_rfl) (by kernel_rfl) ?_
              simp only [List.take_succ_cons, List.take_zero, List.drop_succ_cons, List.drop_zero]
              repeat (first
                | (refine quiet_cellC rfl _ _ rfl _ rfl _ _ d1 Try.underlying9 rfl ?_)
                | (refine quiet_cellC rfl _ _ rfl _ rfl _ _ e1 Try.underlying9 rfl ?_)
                | quiet_step ((intro hx; first | rfl)))
              refine wpQuiet_nil ?_
              intro w' g
              go_wp2
              go_roundw
              case rel => exact ⟨j + 1, by omega, by go_num, by rw [hnext.out]; congr 1; by_cases h : L[j].name = nm <;> simp [h], hch.t0 g⟩
              case measure => simp [intOf]; omega
            · go_wp2_with fail
              go_quiet (fail)
              go_wp2
              go_roundw
              case rel => exact ⟨j + 1, by omega, by go_num, by rw [hnext.out]; simp, hch.t0 (Chg.drewN [] _ _)⟩
              case measure => simp [intOf]; omega
          · obtain rfl : j = k := by omega
            obtain ⟨b', off', c', e, hbl', e1, e2, e3⟩ := cols_cells (hs.tr0 hch) j hlt
            cases e
            rw [hx] at e2
            dsimp only at e2
            have hsp := rcols_split hgo.out
            rw [← hB0.out] at hsp
            have htk' := htk.out
            generalize hSj : (L.take j).map (·.name) = seen at *
            generalize hBB : (B0 || decide (nm ∈ seen)) = BB at *
            clear hSj hBB hB0 hel hgo htk hc1 hc2 hc3 hs
            rcases hsp with ⟨rfl, hV⟩ | ⟨rfl, hV, z1⟩ | ⟨rfl, hV, z1, z2⟩ | ⟨rfl, hV, z1, z2⟩
            all_goals replace hV := Lib.hid hV
            all_goals go_wp2
            all_goals first
              | (go_ret; exact ⟨by rw [hV.out]; rfl, hch⟩)
              | skip
            go_roundw
            case rel => exact ⟨j + 1, by omega, by go_num, by rw [htk']; exact hV.out, hch⟩
            case measure => simp [intOf]; omega
    · have hkl : k = L.length := by omega
      subst hkl
      rw [List.drop_length] at hgo
      have hV : colsV L = 0 := hgo
      replace hV := Lib.hid hV
      clear hgo hs
      go_wp2
      go_ret
      exact ⟨by rw [hV.out]; rfl, hch⟩

def total (L : List Col) : Nat := (L.map (·.name.length)).sum
def fewV (L : List Col) : Bool := decide (L.length ≤ 70) && decide ((total L : Int) ≤ 2000)
theorem total_take (L : List Col) (k : Nat) (h : k < L.length) : total (L.take (k + 1)) = total (L.take k) + L[k].name.length := by
  unfold total
  rw [List.take_succ_eq_append_getElem h, List.map_append, List.sum_append]; simp
theorem total_le (L : List Col) (M : Nat) (h : ∀ c ∈ L, c.name.length ≤ M) : total L ≤ L.length * M := by
  unfold total
  induction L with
  | nil => simp
  | cons c r ih =>
    have h1 := ih (fun x hx => h x (List.mem_cons_of_mem _ hx))
    have h2 := h c (List.mem_cons_self ..)
    simp only [List.map_cons, List.sum_cons, List.length_cons, Nat.add_mul, Nat.one_mul]
    omega

theorem ra3 {w : World} {p off : Nat} {x y z : Value} (h0 : w.cell? ⟨p, off, none⟩ = some x) (h1 : w.cell? ⟨p, off + 1, none⟩ = some y) (h2 : w.cell? ⟨p, off + 2, none⟩ = some z) : w.rangeAt p off [x, y, z] := by
  intro i v hi
  match i with
  | 0 => simpa using h0.trans (by simpa using hi)
  | 1 => simpa using h1.trans (by simpa using hi)
  | 2 => simpa using h2.trans (by simpa using hi)
  | _ + 3 => simp at hi

theorem neq_col (w : World) (c d : Col) : (binOp .neq 58 (.agg (colc c).toArray) (.agg (colc d).toArray)).run Try.prog w = .ok (.bool (decide (c ≠ d))) w := by
  obtain ⟨n, t, b⟩ := c
  obtain ⟨m, s, e⟩ := d
  unfold colc
  by_cases hn : n = m
  · subst hn
    by_cases ht : t = s
    · subst ht
      by_cases hb : b = e
      · subst hb; go_simp
      · go_simp
    · go_simp
  · go_simp
set_option maxHeartbeats 2000000 in
set_option maxRecDepth 100000 in
theorem rschema_ok (w : World) (v1 v2 : Value) (L M : List Col) (h1 : Sl w v1 L.length (L.flatMap colc)) (h2 : Sl w v2 M.length (M.flatMap colc)) (hb : L.length ≤ maxLen) :
    Calls Try.prog 53 #[v1, v2] w fun e w' => e = .returned (.bool (decide (L = M))) ∧ Chg [] w w' := by
  obtain ⟨a1, c1, rfl⟩ := h1.shape
  obtain ⟨a2, c2, rfl⟩ := h2.shape
  unfold maxLen at hb
  go_enter Try.func53, Try.ntmps53
  by_cases hlen : L.length = M.length
  · rw [← hlen]
    replace hlen := Lib.hid hlen
    go_wp2_with fail
    go_loopw [5] (fun iv wr => ∃ (k : Nat), k ≤ L.length ∧ iv = .int .i64 k ∧ L.take k = M.take k ∧ Chg [] w wr) (fun iv _ => L.length - (intOf iv).toNat)
    case atStart => exact ⟨0, Nat.zero_le _, rfl, rfl, Chg.refl _ _⟩
    case round =>
      obtain ⟨k, hk, rfl, htk, hch⟩ := hrel
      by_cases hlt : k < L.length
      · obtain ⟨b, off, c, e, hbl, x1, x2, x3⟩ := cols_cells (h1.tr0 hch) k hlt
        cases e
        have hkM : k < M.length := by have := hlen.out; omega
        obtain ⟨b2, off2, c, e, hbl2, y1, y2, y3⟩ := cols_cells (h2.tr0 hch) k hkM
        cases e
        have hkl : (k : Int) < L.length := by omega
        have hk0 : (0 : Int) ≤ k := by omega
        have r1 : wr.rangeAt b (off + k * 3) (colc L[k]) := ra3 x1 x2 x3
        have r2 : wr.rangeAt b2 (off2 + k * 3) (colc (M[k]'hkM)) := ra3 y1 y2 y3
        have EQ := fun w => neq_col w L[k] (M[k]'hkM)
        generalize hB : decide (L[k] ≠ M[k]'hkM) = B at EQ
        replace hB := Lib.hid hB
        have EG := fun w x y => run_eqGuard_agg (P := Try.prog) w .neq 58 x y (colc L[k]).toArray (colc (M[k]'hkM)).toArray (by kernel_rfl)
        go_wp2_with fail
        refine region_quietC (by kernel_rfl) (by kernel_rfl) ?_
        repeat (first
          | (refine quiet_loadC rfl _ _ rfl _ _ rfl _ _ r1 Try.underlying58 rfl (by kernel_rfl) ?_)
          | (refine quiet_loadC rfl _ _ rfl _ _ rfl _ _ r2 Try.underlying58 rfl (by kernel_rfl) ?_)
          | quiet_step ((intro hx; first | rfl)))
        refine wpQuiet_nil ?_
        intro w' g
        cases B
        · have he : L[k] = M[k]'hkM := by have := hB.out; simpa using this
          have ht2 : L.take (k + 1) = M.take (k + 1) := by
            rw [List.take_succ_eq_append_getElem hlt, List.take_succ_eq_append_getElem hkM, htk, he]
          clear he
          go_wp2
          go_roundw
          case rel => exact ⟨k + 1, by omega, by go_num, ht2, hch.t0 g⟩
          case measure => simp [intOf]; omega
        · have he : ¬ L[k] = M[k]'hkM := by have := hB.out; simpa using this
          have hne : decide (L = M) = false := by
            refine decide_eq_false fun e => he ?_
            subst e; rfl
          replace hne := Lib.hid hne
          clear he
          go_wp2
          go_ret
          exact ⟨by rw [hne.out]; rfl, hch.t0 g⟩
      · have hkl : k = L.length := by omega
        have he : L = M := by
          rw [hkl, List.take_length] at htk
          rw [htk, hlen.out, List.take_length]
        have hne : decide (L = M) = true := decide_eq_true he
        replace hne := Lib.hid hne
        clear he h1 h2 htk
        go_wp2
        go_ret
        exact ⟨by rw [hne.out]; rfl, hch⟩
  · have hne : decide (L = M) = false := decide_eq_false fun e => hlen (by rw [e])
    replace hne := Lib.hid hne
    have hl2 : ¬ (L.length : Int) = M.length := by omega
    go_wp2
    go_ret
    exact ⟨by rw [hne.out]; rfl, Chg.refl _ _⟩
end Go.Proofs.Ytfnfcioofkeanaa
