/-
  What stands behind a message.
-/
import Derived.Test.YtgepfmofignmfaaProg
import Derived.Test.YtgepfmofignmfaaSha7
namespace Go.Proofs.Ytgepfmofignmfaa
set_option linter.unusedSimpArgs false
set_option linter.unusedVariables false
open Go.RowKit

theorem el_u8 : ElemT Try.prog 22 5 1 1 := by
  obtain ⟨i, hi, hz, h1, h2⟩ := info_parts (P := Try.prog) (e := 5) (z := .int .u8 0) (size := 1) (bytes := 1) (by kernel_rfl)
  exact ⟨Try.underlying22, ⟨i, _, hi, hz, h1, h2, rfl⟩, by decide, by decide⟩

def be (x k : Nat) : UInt8 := UInt8.ofNat (x / 2 ^ (8 * k))
def padZ (n : Nat) : Nat := (119 - n % 64) % 64
theorem padZ_lt (n : Nat) : padZ n < 64 := Nat.mod_lt _ (by omega)
/-- The j-th byte of what stands behind, of which the last k are laid. -/
def padF (n k j : Nat) : UInt8 := if j = 0 then 128 else if j < 9 + padZ n - k then 0 else be (8 * n) (8 + padZ n - j)
def padK (n k : Nat) : List UInt8 := (List.range (9 + padZ n)).map (padF n k)
def padL (n : Nat) : List UInt8 := padK n 8
theorem padK_length (n k : Nat) : (padK n k).length = 9 + padZ n := by simp [padK]
theorem padK_zero (n : Nat) : (List.replicate (9 + padZ n) (0 : UInt8)).set 0 128 = padK n 0 := by
  apply List.ext_getElem (by simp [padK])
  intro j h1 h2
  have hj : j < 9 + padZ n := by simpa [padK] using h2
  simp only [padK, List.getElem_set, List.getElem_map, List.getElem_range, List.getElem_replicate, padF]
  by_cases h : j = 0
  · subst h; simp
  · have h' : ¬ 0 = j := fun e => h e.symm
    have h3 : j < 9 + padZ n - 0 := by omega
    rw [if_neg h', if_neg h, if_pos h3]
theorem padK_set (n k : Nat) (hk : k < 8) : (padK n k).set (8 + padZ n - k) (be (8 * n) k) = padK n (k + 1) := by
  apply List.ext_getElem (by simp [padK])
  intro j h1 h2
  have hj : j < 9 + padZ n := by simpa [padK] using h2
  simp only [padK, List.getElem_set, List.getElem_map, List.getElem_range, padF]
  by_cases h : 8 + padZ n - k = j
  · subst h
    have h3 : ¬ (8 + padZ n - k = 0) := by omega
    have h4 : ¬ (8 + padZ n - k < 9 + padZ n - (k + 1)) := by omega
    have h5 : 8 + padZ n - (8 + padZ n - k) = k := by omega
    simp [h3, h4, h5]
  · by_cases h0 : j = 0
    · subst h0
      have : ¬ (8 + padZ n - k = 0) := by omega
      simp [this]
    · by_cases h3 : j < 9 + padZ n - k
      · have h4 : j < 9 + padZ n - (k + 1) := by omega
        simp [h, h0, h3, h4]
      · have h4 : ¬ j < 9 + padZ n - (k + 1) := by omega
        simp [h, h0, h3, h4]
theorem be_val (x k : Nat) : ((be x k).toNat : Int) = ((x / 2 ^ (8 * k) % 256 : Nat) : Int) := by
  unfold be
  rw [UInt8.toNat_ofNat']

theorem Bat.own {w : World} {p n : Nat} {l : List UInt8} {t base : Nat} (hp : w.heap[p]? = some (.cells (bcs l).toArray t (0, 0))) (hl : l.length = n) (hb : base ≤ p) (hn : n ≤ maxLen) :
    w.ownsRow base t 1 (.slice (some ⟨p, 0, none⟩) n n) n (bcs l) :=
  ⟨by simp [bcs, hl], .inr ⟨p, n, _, rfl, hb, hp, Nat.le_refl _, hn, by simp [bcs, hl], by rw [List.take_of_length_le (by simp [bcs, hl])]⟩⟩
theorem bytes_set {w : World} {p : Nat} {l : List UInt8} {t : Nat} (hp : w.heap[p]? = some (.cells (bcs l).toArray t (0, 0))) (j : Nat) (x : UInt8) :
    (w.setCell ⟨p, j, none⟩ (.int .u8 (x.toNat : Int))).heap[p]? = some (.cells (bcs (l.set j x)).toArray t (0, 0)) := by
  rw [heap_setCell_same w p j _ _ _ hp]
  simp [bcs, List.map_set]
theorem bytes_cell {w : World} {p : Nat} {l : List UInt8} {t : Nat} (hp : w.heap[p]? = some (.cells (bcs l).toArray t (0, 0))) (j : Nat) (hj : j < l.length) :
    w.cell? ⟨p, j, none⟩ = some (.int .u8 ((l.getD j 0).toNat : Int)) := by
  rw [cell_of_row w p j _ _ _ hp, List.getElem?_toArray, bcs_get l j hj]
  simp [List.getD, hj]

theorem own_heap {w : World} {base e n g : Nat} {xs : List Value} (h : w.ownsRow base e 1 (.slice (some ⟨g, 0, none⟩) n n) n xs) : w.heap[g]? = some (.cells xs.toArray e (0, 0)) := by
  obtain ⟨_, ⟨e1, _⟩ | ⟨g', cap, cur, e1, _, hg, _, _, hcs, ht⟩⟩ := h
  · cases e1
  · cases e1
    rw [hg, ← ht, List.take_of_length_le (by simp [hcs])]
theorem bcs_replicate (n : Nat) : bcs (List.replicate n 0) = List.replicate n (.int .u8 0) := by simp [bcs]

theorem pad_ok (w : World) (n : Nat) (hn : n ≤ 2147483647) :
    Calls Try.prog 43 #[.int .i64 (n : Int)] w fun e w' => ∃ v, e = .returned v ∧ w'.ownsRow w.heap.size 5 1 v (padL n).length (bcs (padL n)) ∧ Chg [] w w' := by
  have z0 : (n : Int).tmod 64 = ((n % 64 : Nat) : Int) := by rw [Int.tmod_eq_emod_of_nonneg (by omega)]; omega
  obtain ⟨r, hr, hr'⟩ : ∃ r, r < 64 ∧ r = n % 64 := ⟨_, Nat.mod_lt _ (by omega), rfl⟩
  rw [← hr'] at z0
  have hr2 : Hid (r = n % 64) := hr'
  clear hr'
  have z1 : IntKind.i64.wrap ((119 : Int) - r) = ((119 - r : Nat) : Int) := by rw [IntWalk.i64_in _ (by omega)]; omega
  have z1' : (119 : Int) - r = ((119 - r : Nat) : Int) := by omega
  have z2 : ((119 - r : Nat) : Int).tmod 64 = (padZ n : Int) := by
    rw [Int.tmod_eq_emod_of_nonneg (by omega)]; unfold padZ; rw [← hr2.out]; omega
  have hz := padZ_lt n
  obtain ⟨L, hL, hL2⟩ : ∃ L, Hid (L = 9 + padZ n) ∧ (1 : Int) + (padZ n : Int) + 8 = (L : Int) := ⟨_, rfl, by omega⟩
  go_enter Try.func43, Try.ntmps43
  go_wp2_with (at_make; refine wpList_make_lc _ rfl _ _ 22 5 1 rfl el_u8 (.int .u8 0) (by kernel_rfl) rfl _ _ L L rfl rfl (Nat.le_refl _) (by have := hL.out; omega) (by have := hL.out; omega) w.heap.size (Nat.le_refl _) ?_)
  intro w2 o2 g2 hz2
  replace hz2 : Hid _ := hz2
  rw [← bcs_replicate] at o2
  have h2 := own_heap o2
  have hset : (w2.setCell ⟨w.heap.size, 0, none⟩ (.int .u8 128)).heap[w.heap.size]? = _ := bytes_set h2 0 128
  rw [hL.out, padK_zero] at hset
  have c0 := bytes_cell h2 0 (by have := hL.out; simp; omega)
  have f0 := frozen_of_row w2 w.heap.size 0 _ _ h2
  have hL0 : (0 : Int) < (L : Int) := by have := hL.out; omega
  go_wp2_with fail
  have g3 := g2.tn (Chg.setCell w2 ⟨w.heap.size, 0, none⟩ (.int .u8 128)) (Nat.le_refl _)
  obtain ⟨p, hp, ep⟩ : ∃ p, w.heap.size ≤ p ∧ w.heap.size = p := ⟨_, Nat.le_refl _, rfl⟩
  have hR : Hid (w.heap.size = p) := ep
  rw [ep] at hset g3 ⊢
  generalize w2.setCell ⟨p, 0, none⟩ (.int .u8 128) = w3 at *
  clear o2 g2 hz2 h2 c0 f0 ep
  go_loopw [22] (fun iv wr => ∃ k : Nat, k ≤ 8 ∧ iv = .int .i64 k ∧ wr.heap[p]? = some (.cells (bcs (padK n k)).toArray 5 (0, 0)) ∧ Chg [] w wr) (fun iv _ => 8 - (intOf iv).toNat)
  case atStart => exact ⟨0, by omega, rfl, hset, g3⟩
  case round =>
    clear hset g3
    obtain ⟨k, hk, rfl, h, hG⟩ := hrel
    by_cases hlt : k < 8
    · have hLo := hL.out
      have hset := bytes_set h (8 + padZ n - k) (be (8 * n) k)
      rw [padK_set n k hlt] at hset
      have c0 := bytes_cell h (8 + padZ n - k) (by rw [padK_length]; omega)
      have f0 := frozen_of_row wr p (8 + padZ n - k) _ _ h
      have e1 : (L : Int) - 1 - (k : Int) = ((8 + padZ n - k : Nat) : Int) := by omega
      have e1L : ((8 + padZ n - k : Nat) : Int) < (L : Int) := by omega
      obtain ⟨s8, hs8, e2, e2'⟩ : ∃ s8 : Nat, Hid (s8 = 8 * k) ∧ (8 : Int) * (k : Int) = (s8 : Int) ∧ s8 < 64 := ⟨8 * k, rfl, by omega, by omega⟩
      obtain ⟨n8, hn8, e3, e3'⟩ : ∃ n8 : Nat, Hid (n8 = 8 * n) ∧ (n : Int) * 8 = (n8 : Int) ∧ n8 < 17179869184 := ⟨8 * n, rfl, by omega, by omega⟩
      have e4 : (n8 : Int) / 2 ^ s8 % 256 = ((be (8 * n) k).toNat : Int) := by
        rw [be_val, hs8.out, hn8.out]
        simp only [Int.natCast_emod, Int.natCast_ediv, Int.natCast_pow]
        rfl
      have hL3 : Hid (L = 9 + padZ n) := hLo
      clear hLo
      generalize 8 + padZ n - k = j at *
      generalize be (8 * n) k = x at *
      go_wp2_with fail
      go_roundw
      case rel => exact ⟨k + 1, by omega, by go_num, hset, hG.tn (Chg.setCell _ ⟨p, j, none⟩ _) hp⟩
      case measure => simp [intOf]; omega
    · have h8 : k = 8 := by omega
      rw [h8] at h
      clear h8
      go_wp2_with fail
      go_ret
      have e : (padL n).length = L := by rw [hL.out]; exact padK_length n 8
      refine ⟨_, rfl, ?_, hG⟩
      rw [e, hR.out]
      exact Bat.own h (by rw [hL.out]; exact padK_length n 8) (Nat.le_refl _) (by have := hL.out; unfold maxLen; omega)

theorem pad_none (w : World) (n : Int) (h : n < 0 ∨ 2147483647 < n) :
    Calls Try.prog 43 #[.int .i64 n] w fun e w' => e = .returned (.slice none 0 0) ∧ w' = w := by
  go_enter Try.func43, Try.ntmps43
  go_wp2_with fail
  all_goals first
    | (go_ret; exact ⟨rfl, rfl⟩)
    | (exfalso; omega)
theorem ref01_pad_none (w : World) (n : Int) (h : n < 0 ∨ 2147483647 < n) :
    Calls Try.prog 72 #[.int .i64 n] w fun e w' => e = .returned (.slice none 0 0) ∧ w' = w := by
  go_enter Try.func72, Try.ntmps72
  go_wp2_with fail
  all_goals first
    | (go_ret; exact ⟨rfl, rfl⟩)
    | (exfalso; omega)

theorem padL_length (n : Nat) : (padL n).length = 9 + padZ n := padK_length n 8
theorem padL_take1 (n : Nat) : (padL n).take 1 = [128] := by
  have h := padL_length n
  match hq : padL n, h with
  | [], h => simp at h; omega
  | x :: l, _ =>
    have h0 : (padL n)[0]? = some 128 := by
      rw [List.getElem?_eq_getElem (by omega)]
      simp only [padL, padK, List.getElem_map, List.getElem_range, padF]
      rfl
    rw [hq] at h0
    simp at h0
    simp [h0]
theorem padL_zero (n m : Nat) (h0 : 0 < m) (h : m < 1 + padZ n) : (padL n).take (m + 1) = (padL n).take m ++ [0] := by
  have hl := padL_length n
  rw [List.take_add_one]
  congr 1
  rw [List.getElem?_eq_getElem (by omega)]
  simp only [padL, padK, List.getElem_map, List.getElem_range, padF]
  rw [if_neg (by omega), if_pos (by omega)]; rfl
theorem padL_byte (n i : Nat) (h : i < 8) : (padL n).take (1 + padZ n + i + 1) = (padL n).take (1 + padZ n + i) ++ [be (8 * n) (7 - i)] := by
  have hl := padL_length n
  rw [List.take_add_one]
  congr 1
  rw [List.getElem?_eq_getElem (by omega)]
  simp only [padL, padK, List.getElem_map, List.getElem_range, padF]
  rw [if_neg (by omega), if_neg (by omega), show 8 + padZ n - (1 + padZ n + i) = 7 - i by omega]; rfl

/-- The length that a slice value tells. -/
def vlen : Value → Nat
  | .slice _ n _ => n
  | _ => 0

theorem ref01_pad_ok (w : World) (n : Nat) (hn : n ≤ 2147483647) :
    Calls Try.prog 72 #[.int .i64 (n : Int)] w fun e w' => ∃ v, e = .returned v ∧ w'.ownsRow w.heap.size 5 1 v (padL n).length (bcs (padL n)) ∧ Chg [] w w' := by
  have hz := padZ_lt n
  have hlen := padL_length n
  have hl : Hid ((padL n).length = 9 + padZ n) := hlen
  clear hlen
  have o0 : (w.alloc (.cells (bcs [128]).toArray 5)).ownsRow w.heap.size 5 1 (.slice (some ⟨w.heap.size, 0, none⟩) 1 1) 1 (bcs ((padL n).take 1)) := by
    rw [padL_take1]; exact own_lit w _ 5 1 1 _ (Nat.le_refl _) (by decide) rfl
  go_enter Try.func72, Try.ntmps72
  go_wp2_with fail
  have g0 : Chg [] w (w.alloc (.cells (bcs [128]).toArray 5)) := Chg.alloc ..
  have e128 : Hid ((bcs [128]).toArray = #[Value.int .u8 128]) := rfl
  rw [e128.out] at o0 g0
  generalize w.alloc (.cells #[Value.int .u8 128] 5) = w1 at *
  go_loopw [3] (fun sv wr => ∃ m : Nat, 1 ≤ m ∧ m ≤ 1 + padZ n ∧ wr.ownsRow w.heap.size 5 1 sv m (bcs ((padL n).take m)) ∧ Chg [] w wr) (fun sv _ => 1 + padZ n - vlen sv)
  case atStart => exact ⟨1, by omega, by omega, o0, g0⟩
  case round =>
    clear o0 g0
    obtain ⟨m, hm, hm', hown, hG⟩ := hrel
    obtain ⟨a, c, rfl⟩ := own_shape hown
    have hvl : Hid (vlen (.slice a m c) = m) := rfl
    obtain ⟨r, hr, er⟩ : ∃ r : Nat, Hid (r = (n + m + 8) % 64) ∧ ((n : Int) + m + 8).tmod 64 = (r : Int) := ⟨_, rfl, by rw [Int.tmod_eq_emod_of_nonneg (by omega)]; omega⟩
    have hzn : Hid (padZ n = (119 - n % 64) % 64) := rfl
    by_cases hlt : m < 1 + padZ n
    · have hr0 : r ≠ 0 := by have := hr.out; have := hzn.out; omega
      go_wp2_with (at_builtin; refine wpList_append_sl _ rfl (.tmp 20) (.tmp 21) 22 5 1 1 rfl el_u8 w.heap.size _ _ _ rfl (hown.alloc _) _ 1 (bcs [0]) rfl (Sl.lit _ _ _ 1 (by decide)) (by simp [bcs]) (bcs_one _) (by unfold big; omega) (by have := hG.size; simp; omega) ?_)
      intro v' w' hown' hg'
      have hc' : Chg [] w w' := (hG.t0 (Chg.alloc [] wr _)).grownOwn hg' (hown.alloc _) (Nat.le_refl _)
      have hown2 : w'.ownsRow w.heap.size 5 1 v' (m + 1) (bcs ((padL n).take (m + 1))) := by
        rw [padL_zero n m hm hlt, bcs_append]; exact hown'
      clear hown' hg' hG hown
      go_wp2_with fail
      go_roundw
      case rel => exact ⟨m + 1, by omega, by omega, hown2, hc'⟩
      case measure =>
        obtain ⟨a', c', rfl⟩ := own_shape hown2
        simp [vlen]; omega
    · have hmz : m = 1 + padZ n := by omega
      have hr0 : r = 0 := by have := hr.out; have := hzn.out; omega
      obtain ⟨n8, hn8, e3, e3'⟩ : ∃ n8 : Nat, Hid (n8 = 8 * n) ∧ (8 : Int) * (n : Int) = (n8 : Int) ∧ n8 < 17179869184 := ⟨8 * n, rfl, by omega, by omega⟩
      have wn : IntKind.u64.wrap (n8 : Int) = n8 := IntWalk.u64_in _ (by omega)
      have hmz' : Hid (m = 1 + padZ n) := hmz
      have hown0 : wr.ownsRow w.heap.size 5 1 (.slice a m c) (1 + padZ n) (bcs ((padL n).take (1 + padZ n))) := by rw [hmz] at hown ⊢; exact hown
      have hmb : m ≤ 64 := by omega
      clear hown hr hmz hlt hm hm'
      go_wp2_with fail
      obtain ⟨wo, rfl⟩ : ∃ wo : World, wo = wr := ⟨_, rfl⟩
      go_loopw [3, 5] (fun sv iv wr => ∃ i : Nat, i ≤ 8 ∧ iv = .int .i64 (56 - 8 * (i : Int)) ∧ wr.ownsRow w.heap.size 5 1 sv (1 + padZ n + i) (bcs ((padL n).take (1 + padZ n + i))) ∧ Chg [] w wr) (fun _ iv _ => (intOf iv + 8).toNat)
      case atStart => exact ⟨0, by omega, rfl, hown0, hG⟩
      case round =>
        clear hown0 hG
        obtain ⟨i, hi, rfl, hown, hG⟩ := hrel
        by_cases hit : i < 8
        · obtain ⟨s8, hs8, e2, e2'⟩ : ∃ s8 : Nat, Hid (s8 = 8 * (7 - i)) ∧ (56 : Int) - 8 * (i : Int) = (s8 : Int) ∧ s8 < 64 := ⟨8 * (7 - i), rfl, by omega, by omega⟩
          have e4 : (n8 : Int) / 2 ^ s8 % 256 = ((be (8 * n) (7 - i)).toNat : Int) := by
            rw [be_val, hs8.out, hn8.out]
            simp only [Int.natCast_emod, Int.natCast_ediv, Int.natCast_pow]
            rfl
          have hq : Hid (be (8 * n) (7 - i) = be (8 * n) (7 - i)) := rfl
          generalize hx : be (8 * n) (7 - i) = x at e4
          have hx' : Hid _ := hx
          clear hx hq
          have ws : IntKind.u64.wrap (s8 : Int) = s8 := IntWalk.u64_in _ (by omega)
          have he2 : Hid _ := e2
          rw [e2]
          clear e2
          go_wp2_with (at_builtin; refine wpList_append_sl _ rfl (.tmp 30) (.tmp 36) 22 5 1 1 rfl el_u8 w.heap.size _ _ _ rfl (hown.alloc _) _ 1 (bcs [x]) rfl (Sl.lit _ _ _ 1 (by decide)) (by simp [bcs]) (bcs_one _) (by unfold big; omega) (by have := hG.size; simp; omega) ?_)
          intro v' w' hown' hg'
          have hc' : Chg [] w w' := (hG.t0 (Chg.alloc [] wr _)).grownOwn hg' (hown.alloc _) (Nat.le_refl _)
          have hown2 : w'.ownsRow w.heap.size 5 1 v' (1 + padZ n + (i + 1)) (bcs ((padL n).take (1 + padZ n + (i + 1)))) := by
            rw [← Nat.add_assoc, padL_byte n i hit, hx'.out, bcs_append]; exact hown'
          clear hown' hg' hG hown
          go_wp2_with fail
          go_roundw
          case rel => exact ⟨i + 1, by omega, by congr 1; have := he2.out; omega, hown2, hc'⟩
          case measure => simp [intOf]; omega
        · have hi8 : i = 8 := by omega
          rw [hi8] at hown
          have hlast : ¬ (0 : Int) ≤ 56 - 8 * (i : Int) := by omega
          clear hi8
          go_wp2_with fail
          go_ret
          have e : (padL n).length = 1 + padZ n + 8 := by rw [hl.out]; omega
          refine ⟨_, rfl, ?_, hG⟩
          rw [← e, List.take_length] at hown
          exact hown
end Go.Proofs.Ytgepfmofignmfaa
