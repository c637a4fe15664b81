/-
  The contracts of slices.Concat at []int, query.Encode and of the document's Encode.
-/
import Derived.Test.YtfnfcioofkeanaaQuery
import Derived.Lib.AppendZerosOnto
import Derived.Lib.Walk
import Derived.Lib.SliceRun
namespace Go.Proofs.Ytfnfcioofkeanaa
set_option linter.unusedSimpArgs false
set_option linter.unusedVariables false
open Go.RowKit

theorem el_int : ElemT Try.prog 22 3 1 8 := by
  obtain ⟨i, hi, hz, h1, h2⟩ := info_parts (P := Try.prog) (e := 3) (z := .int .i64 0) (size := 1) (bytes := 8) (by kernel_rfl)
  exact ⟨Try.underlying22, ⟨i, _, hi, hz, h1, h2, rfl⟩, by decide, by decide⟩
theorem ics_append (k : IntKind) (l m : List Int) : ics k (l ++ m) = ics k l ++ ics k m := by simp [ics]
theorem ics_one (k : IntKind) (l : List Int) : ∀ u ∈ ics k l, u.oneCell' = true := by
  intro u hu
  obtain ⟨_, _, rfl⟩ := List.mem_map.1 hu
  rfl

set_option maxHeartbeats 4000000 in
/-- slices.Grow of nothing. -/
theorem growi_nil (w : World) (n : Nat) (hn : n * 8 ≤ 140737488355328) :
    Calls Try.prog 63 #[.slice none 0 0, .int .i64 n] w fun e w' => ∃ v', e = .returned v' ∧ w'.ownsRow w.heap.size 3 1 v' 0 [] ∧ Chg [] w w' := by
  obtain ⟨i0, hi0, hz0, hs0, hb0⟩ := info_parts (P := Try.prog) (e := 3) (z := .int .i64 0) (size := 1) (bytes := 8) (by kernel_rfl)
  have h1 : ¬ ((n : Int) < 0) := by omega
  by_cases h0 : n = 0
  · subst h0
    go_enter Try.func63, Try.ntmps63
    go_wp2
    go_ret
    exact ⟨_, rfl, World.ownsRow_nil _ _ _ _, Chg.refl _ _⟩
  · have h3 : wrap64 (n : Int) = (n : Int) := by unfold wrap64; omega
    have h4 : (n : Int) > 0 := by omega
    have hold : (Builtin.firstCells i0.size 0 (.slice none 0 0)).run Try.prog w.drew = .ok #[] w.drew := by
      rw [hs0]; exact run_firstCells_none w.drew 1 0 0 0
    have hrz : ∀ ty, (Builtin.append_ #[22, 3] ty #[.slice none 0 0, .int .i64 (n : Int)]).run Try.prog w =
        .ok (.slice (some ⟨w.heap.size, 0, none⟩) n (grownCap w n 0 3)) (w.drew.alloc (.cells (#[] ++ Builtin.zeroCells #[.int .i64 0] n ++ Builtin.zeroCells #[.int .i64 0] (grownCap w n 0 3 - n)) 3)) := fun ty => by
      have h := Lib.run_append_grow_zeros (P := Try.prog) w 22 3 ty 3 i0 (.int .i64 0) .i64 .i64 Try.underlying22 Try.underlying3 hi0 hz0 none 0 0 [] hold n (by omega) (by omega) (by omega) (by omega)
        (by rw [hb0]; omega)
        (by rw [Nat.zero_add]; exact growslice_fits (by omega) (by rw [hb0]; omega))
      rw [Nat.zero_add] at h
      exact h
    have hGn : n ≤ grownCap w n 0 3 := grownCap_ge w _ _ _
    have hG2 : grownCap w n 0 3 ≤ maxLen := grownCap_le_maxLen w n 0 3 (by unfold maxLen; omega)
    obtain ⟨G, hG⟩ : ∃ G, G = grownCap w n 0 3 := ⟨_, rfl⟩
    rw [← hG] at hrz hGn hG2
    have hG63 : G ≤ 9223372036854775807 := by unfold maxLen at hG2; omega
    clear hold hG hi0 hz0 hs0 hb0
    go_enter Try.func63, Try.ntmps63
    go_wp2_with (at_builtin; refine Lib.wpList_append_run _ rfl _ _ _ _ rfl _ _ rfl rfl _ _ (hrz _) ?_)
    all_goals
      go_ret
      exact ⟨_, rfl, ⟨rfl, .inr ⟨_, _, _, rfl, by simp, heap_alloc_new _ _, Nat.zero_le _, hG2, by simp [Builtin.zeroCells]; omega, by simp⟩⟩, (Chg.drew [] w).t0 (Chg.alloc [] _ _)⟩

theorem cells3' {w : World} {p : Nat} {x y z : Value} {e : TypeId} (h : w.heap[p]? = some (.cells #[x, y, z] e (0, 0))) :
    w.cell? ⟨p, 0, none⟩ = some x ∧ w.cell? ⟨p, 1, none⟩ = some y ∧ w.cell? ⟨p, 2, none⟩ = some z ∧ w.frozen? ⟨p, 0, none⟩ = false ∧ w.frozen? ⟨p, 1, none⟩ = false ∧ w.frozen? ⟨p, 2, none⟩ = false :=
  ⟨by rw [cell_of_row w p 0 _ _ _ h]; rfl, by rw [cell_of_row w p 1 _ _ _ h]; rfl, by rw [cell_of_row w p 2 _ _ _ h]; rfl, frozen_of_row w p 0 _ _ h, frozen_of_row w p 1 _ _ h, frozen_of_row w p 2 _ _ h⟩
def vals (L : List (Value × List Int)) : List Value := L.map (·.1)
def flat (L : List (Value × List Int)) : List Int := L.flatMap (·.2)
theorem flat_take (L : List (Value × List Int)) (k : Nat) (h : k < L.length) : flat (L.take (k + 1)) = flat (L.take k) ++ L[k].2 := by
  unfold flat
  rw [List.take_succ_eq_append_getElem h, List.flatMap_append]; simp
theorem flat_le (L : List (Value × List Int)) (k : Nat) : (flat (L.take k)).length ≤ (flat L).length := by
  have : flat L = flat (L.take k) ++ flat (L.drop k) := by unfold flat; rw [← List.flatMap_append, List.take_append_drop]
  rw [this]; simp
set_option maxHeartbeats 4000000 in
set_option maxRecDepth 100000 in
theorem concat_ok (w : World) (v : Value) (L : List (Value × List Int)) (hs : Sl w v L.length (vals L)) (hL : ∀ x ∈ L, Sl w x.1 x.2.length (ics .i64 x.2)) (hb : L.length ≤ 1000) (ht : (flat L).length ≤ 1000000) :
    Calls Try.prog 35 #[v] w fun e w' => ∃ v', e = .returned v' ∧ w'.ownsRow w.heap.size 3 1 v' (flat L).length (ics .i64 (flat L)) ∧ Chg [] w w' := by
  obtain ⟨a0, c0, rfl⟩ := hs.shape
  have cell : ∀ (wr : World), Chg [] w wr → ∀ k (hk : k < L.length), ∃ b off c, Value.slice a0 L.length c0 = .slice (some ⟨b, off, none⟩) L.length c ∧ b < wr.heap.size ∧ wr.cell? ⟨b, off + k, none⟩ = some L[k].1 ∧ Sl wr L[k].1 L[k].2.length (ics .i64 L[k].2) := by
    intro wr g k hk
    obtain ⟨b, off, c, e, _, _, hbl, hc⟩ := (hs.tr0 g).at (by simp [vals]; omega)
    exact ⟨b, off, c, e, hbl, hc k _ (by simp [vals, hk]), (hL _ (List.getElem_mem hk)).tr0 g⟩
  go_enter Try.func35, Try.ntmps35
  go_wp2_with fail
  go_loopw [3, 11] (fun nv iv wr => ∃ (k : Nat), k ≤ L.length ∧ iv = .int .i64 k ∧ nv = .int .i64 ((flat (L.take k)).length : Nat) ∧ Chg [] w wr) (fun _ iv _ => L.length - (intOf iv).toNat)
  case atStart => exact ⟨0, Nat.zero_le _, rfl, rfl, Chg.refl _ _⟩
  case round =>
    obtain ⟨k, hk, rfl, rfl, hch⟩ := hrel
    by_cases hlt : k < L.length
    · obtain ⟨b, off, c, e, hbl, hc1, hs1⟩ := cell wr hch k hlt
      cases e
      obtain ⟨a1, c1, e1⟩ := hs1.shape
      rw [e1] at hc1
      have htk := flat_take L k hlt
      have hle := flat_le L (k + 1)
      have hl2 : (flat (L.take (k + 1))).length = (flat (L.take k)).length + L[k].2.length := by rw [htk, List.length_append]
      have hw1 : wrap64 (((flat (L.take k)).length : Int) + (L[k].2.length : Int)) = ((flat (L.take (k + 1))).length : Int) := by unfold wrap64; omega
      have hw2 : ¬ (((flat (L.take (k + 1))).length : Int) < 0) := by omega
      clear htk hs hL cell
      go_wp2
      go_roundw
      case rel => exact ⟨k + 1, by omega, by go_num, by congr 1; omega, hch⟩
      case measure => simp [intOf]; omega
    · obtain rfl : k = L.length := by omega
      rw [List.take_length]
      go_wp2_with fail
      refine (growi_nil wr _ (by omega)).mono ?_
      rintro e w2 ⟨v2, rfl, o2, g2⟩
      have g02 := hch.t0 g2
      replace o2 := own_lower o2 hch.size
      clear g2 hch
      go_wp2_with fail
      go_loopw [6, 27] (fun out iv wr => ∃ (k : Nat), k ≤ L.length ∧ iv = .int .i64 k ∧ wr.ownsRow w.heap.size 3 1 out (flat (L.take k)).length (ics .i64 (flat (L.take k))) ∧ Chg [] w wr) (fun _ iv _ => L.length - (intOf iv).toNat)
      case atStart => exact ⟨0, Nat.zero_le _, rfl, o2, g02⟩
      case round =>
        clear o2 g02
        obtain ⟨k, hk, rfl, hown, hch⟩ := hrel
        by_cases hlt : k < L.length
        · obtain ⟨b, off, c, e, hbl, hc1, hs1⟩ := cell wr hch k hlt
          cases e
          have htk := flat_take L k hlt
          have hle := flat_le L (k + 1)
          have hl2 : (flat (L.take (k + 1))).length = (flat (L.take k)).length + L[k].2.length := by rw [htk, List.length_append]
          have hii : ics .i64 (flat (L.take (k + 1))) = ics .i64 (flat (L.take k)) ++ ics .i64 L[k].2 := by rw [htk, ics_append]
          replace hl2 := Lib.hid hl2
          replace hii := Lib.hid hii
          clear htk hs hL cell
          obtain ⟨a1, c1, e1⟩ := hs1.shape
          rw [e1] at hc1 hs1
          clear e1
          generalize L[k].2 = m at *
          have hbig : ((flat (L.take k)).length + m.length) * 8 ≤ big := by have := hl2.out; unfold big; omega
          go_wp2_with (at_builtin; refine wpList_append_sl _ rfl (.tmp 31) (.tmp 32) 22 3 1 8 rfl el_int w.heap.size _ _ _ rfl hown _ m.length (ics .i64 m) rfl hs1 (by simp [ics]) (ics_one _ _) hbig hch.size ?_)
          intro v3 w3 o3 hg3
          have hch3 : Chg [] w w3 := hch.grownOwn hg3 hown (Nat.le_refl _)
          clear hown hch hg3 hs1 hc1
          go_wp2
          go_roundw
          case rel => exact ⟨k + 1, by omega, by go_num, by rw [hl2.out, hii.out]; exact o3, hch3⟩
          case measure => simp [intOf]; omega
        · obtain rfl : k = L.length := by omega
          rw [List.take_length] at hown
          clear cell hs hL
          go_wp2
          go_ret
          exact ⟨_, rfl, hown, hch⟩

/-- A query as bytes. -/
def nput (n : Int) : List UInt8 := vput n.toNat
def encB (q : Qu) : List UInt8 := vput q.cols.length ++ (q.cols ++ [q.lo, q.hi]).flatMap nput
def mayQ (q : Qu) : Bool := fitsV q.cols q.lo q.hi 64 65536
def encR (q : Qu) : List UInt8 := if mayQ q = true then encB q else []
theorem mayQ_bounds {q : Qu} (h : mayQ q = true) : q.cols.length ≤ 64 ∧ (∀ c ∈ q.cols, 0 ≤ c ∧ c < 64) ∧ 0 ≤ q.lo ∧ q.lo ≤ q.hi ∧ q.hi ≤ 65536 := by
  have hl : q.cols.length ≤ 64 := by
    rcases fits_len h with h' | h'
    · omega
    · rw [h']; simp
  obtain ⟨_, h2, h3, h4, h5⟩ := of_decide_eq_true h
  exact ⟨hl, h2, h3, h4, h5⟩
theorem nput_len {n : Int} (h : n ≤ 65536) : (nput n).length ≤ 10 := vsize_ten (by omega)
theorem nputs_len : ∀ (l : List Int), (∀ n ∈ l, n ≤ 65536) → (l.flatMap nput).length ≤ 10 * l.length
  | [], _ => by simp
  | n :: r, h => by
    have h1 := nput_len (h n (List.mem_cons_self ..))
    have h2 := nputs_len r (fun x hx => h x (List.mem_cons_of_mem _ hx))
    simp only [List.flatMap_cons, List.length_append, List.length_cons]
    omega
theorem nputs_take (l : List Int) (k : Nat) (h : k < l.length) : (l.take (k + 1)).flatMap nput = (l.take k).flatMap nput ++ nput l[k] := by
  rw [List.take_succ_eq_append_getElem h, List.flatMap_append]; simp
theorem all_small {q : Qu} (h : mayQ q = true) : ∀ n ∈ q.cols ++ [q.lo, q.hi], 0 ≤ n ∧ n ≤ 65536 := by
  obtain ⟨h1, h2, h3, h4, h5⟩ := mayQ_bounds h
  intro n hn
  rcases List.mem_append.1 hn with hn | hn
  · have := h2 n hn; omega
  · simp at hn; omega

set_option maxHeartbeats 4000000 in
set_option maxRecDepth 100000 in
theorem enc_ok (w : World) (v : Value) (q : Qu) (hs : Sl w v q.cols.length (ics .i64 q.cols)) (hb : q.cols.length ≤ maxLen) :
    Calls Try.prog 15 #[qv v q.lo q.hi] w fun e w' => ∃ v', e = .returned (.tuple #[v', .bool (mayQ q)]) ∧ w'.ownsRow w.heap.size 5 1 v' (encR q).length (bcs (encR q)) ∧ Chg [] w w' := by
  obtain ⟨a0, c0, rfl⟩ := hs.shape
  have hmb := @mayQ_bounds q
  have hall := @all_small q
  obtain ⟨R, hR⟩ : ∃ R, R = encR q := ⟨_, rfl⟩
  rw [← hR]
  unfold encR encB at hR
  obtain ⟨B, hB⟩ : ∃ B, B = mayQ q := ⟨_, rfl⟩
  rw [← hB] at hR hmb hall ⊢
  have hB2 : fitsV q.cols q.lo q.hi 64 65536 = B := hB.symm
  obtain ⟨l, lo, hi⟩ := q
  dsimp only at *
  replace hR := Lib.hid hR
  replace hB2 := Lib.hid hB2
  clear hB
  unfold qv
  go_enter Try.func15, Try.ntmps15
  go_wp2_with fail
  refine (may_ok _ _ l lo hi (hs.tr0 (Chg.alloc [] w _)) hb).mono ?_
  rw [hB2.out]
  rintro e w2 ⟨rfl, g2⟩
  have hbk := g2.heap (heap_alloc_new w (.cells #[.slice a0 l.length c0, .int .i64 lo, .int .i64 hi] 24)) (by simp)
  have g02 := (Chg.alloc [] w (.cells #[.slice a0 l.length c0, .int .i64 lo, .int .i64 hi] 24)).t0 g2
  clear g2 hB2
  cases B with
  | false =>
    replace hR := hR.out
    rw [if_neg (by simp)] at hR
    subst hR
    go_wp2
    go_ret2
    exact ⟨_, rfl, World.ownsRow_nil _ _ _ _, g02⟩
  | true =>
    obtain ⟨hl64, hcols, hlo, hlh, hhi⟩ := hmb rfl
    have hsm := hall rfl
    clear hmb hall hcols hb
    replace hR := hR.out
    rw [if_pos (by trivial)] at hR
    replace hR := Lib.hid hR
    have hcv : IntKind.u64.wrap (l.length : Int) = (l.length : Int) := wraps_u64 _ (by omega) (by omega)
    obtain ⟨q0, q1, q2, _, _, _⟩ := cells3' hbk
    go_wp2_with fail
    refine (vput_ok w2 _ [] l.length (by omega) (Sl.nil w2) (by simp [big])).mono ?_
    rintro e w3 ⟨v3, rfl, o3, g3⟩
    have hv0 : ([] : List UInt8).length + vsize l.length = (vput l.length).length := by simp [vsize]
    rw [hv0, List.nil_append] at o3
    have hbk3 := g3.heap hbk (by simp)
    have g03 := g02.t0 g3
    have hs3 := hs.tr0 g03
    replace o3 := own_lower o3 g02.size
    clear q0 q1 q2 g3 g02 hbk hs hcv hv0
    obtain ⟨q0, q1, q2, _, _, _⟩ := cells3' hbk3
    have hvl : (vput l.length).length ≤ 10 := vsize_ten (by omega)
    go_wp2_with fail
    have sA := Sl.lit w3 #[.int .i64 lo, .int .i64 hi] 3 2 (by decide)
    have sB := Sl.lit (w3.alloc (.cells #[.int .i64 lo, .int .i64 hi] 3)) #[.slice a0 l.length c0, .slice (some ⟨w3.heap.size, 0, none⟩) 2 2] 22 2 (by decide)
    have gA := Chg.alloc [] w3 (.cells #[.int .i64 lo, .int .i64 hi] 3)
    have gB := Chg.alloc [] (w3.alloc (.cells #[.int .i64 lo, .int .i64 hi] 3)) (.cells #[.slice a0 l.length c0, .slice (some ⟨w3.heap.size, 0, none⟩) 2 2] 22)
    have hsz : (w3.alloc (.cells #[.int .i64 lo, .int .i64 hi] 3)).heap.size = w3.heap.size + 1 := by simp
    rw [hsz] at sB
    replace sA := sA.tr0 gB
    have hs4 := (hs3.tr0 gA).tr0 gB
    have g04 := (g03.t0 gA).t0 gB
    have o4 := own_tr (own_tr o3 gA (by simp)) gB (by simp)
    clear gA gB hsz o3 g03 hs3 q0 q1 q2 hbk3
    refine (concat_ok _ _ [(.slice a0 l.length c0, l), (.slice (some ⟨w3.heap.size, 0, none⟩) 2 2, [lo, hi])] sB (by
      intro x hx
      simp only [List.mem_cons, List.not_mem_nil, or_false] at hx
      rcases hx with rfl | rfl
      · exact hs4
      · exact sA) (by simp) (by simp [flat]; omega)).mono ?_
    have hfl : flat [(Value.slice a0 l.length c0, l), (.slice (some ⟨w3.heap.size, 0, none⟩) 2 2, [lo, hi])] = l ++ [lo, hi] := by simp [flat]
    rw [hfl]
    rintro e w5 ⟨v5, rfl, o5, g5⟩
    have s5 := Sl.ofOwns o5
    have g05 := g04.t0 g5
    have ob := own_tr o4 g5 (by simp)
    have hMl : (l ++ [lo, hi]).length ≤ 66 := by simp; omega
    have hbs := nputs_len (l ++ [lo, hi]) (fun n hn => (hsm n hn).2)
    clear o4 g5 g04 o5 hfl sA sB hs4
    generalize l ++ [lo, hi] = M at *
    obtain ⟨a5, c5, rfl⟩ := s5.shape
    have hpre : ∀ k, ((M.take k).flatMap nput).length ≤ 660 := by
      intro k
      have h : M.flatMap nput = (M.take k).flatMap nput ++ (M.drop k).flatMap nput := by rw [← List.flatMap_append, List.take_append_drop]
      have h2 := congrArg List.length h
      rw [List.length_append] at h2
      omega
    go_wp2_with fail
    go_loopw [4, 25] (fun out iv wr => ∃ (k : Nat), k ≤ M.length ∧ iv = .int .i64 k ∧ wr.ownsRow w.heap.size 5 1 out (vput l.length ++ (M.take k).flatMap nput).length (bcs (vput l.length ++ (M.take k).flatMap nput)) ∧ Chg [] w5 wr) (fun _ iv _ => M.length - (intOf iv).toNat)
    case atStart => exact ⟨0, Nat.zero_le _, rfl, by simpa using ob, Chg.refl _ _⟩
    case round =>
      clear ob
      obtain ⟨k, hk, rfl, hown, hch⟩ := hrel
      have gg := g05.t0 hch
      by_cases hlt : k < M.length
      · obtain ⟨b, off, c, e, hbl, hc1⟩ := int_cells (s5.tr0 hch) k hlt
        cases e
        obtain ⟨hx0, hx1⟩ := hsm _ (List.getElem_mem hlt)
        have htk := nputs_take M k hlt
        have hpk := hpre k
        unfold nput at htk
        replace htk := Lib.hid htk
        have hX : (vput l.length ++ (M.take k).flatMap nput).length ≤ 700 := by rw [List.length_append]; omega
        generalize M[k] = x at *
        obtain ⟨X, rfl⟩ : ∃ X : Nat, x = (X : Int) := ⟨x.toNat, by omega⟩
        have hcv : IntKind.u64.wrap (X : Int) = (X : Int) := wraps_u64 _ (by omega) (by omega)
        clear s5 hbs hpre
        go_wp2_with fail
        refine (vput_ok wr _ _ X (by omega) (Sl.ofOwns hown) (by unfold big; omega)).mono ?_
        rintro e w6 ⟨v6, rfl, o6, g6⟩
        replace o6 := own_lower o6 gg.size
        have hst : (vput l.length ++ (M.take (k + 1)).flatMap nput) = (vput l.length ++ (M.take k).flatMap nput) ++ vput X := by
          have := htk.out
          simp only [Int.toNat_natCast] at this
          have h2 : (M.take (k + 1)).flatMap nput = (M.take k).flatMap nput ++ vput X := this
          rw [h2, List.append_assoc]
        have hln : (vput l.length ++ (M.take k).flatMap nput).length + vsize X = ((vput l.length ++ (M.take k).flatMap nput) ++ vput X).length := by simp only [List.length_append, vsize]
        rw [hln, ← hst] at o6
        clear hown hln hst htk hc1 hcv
        go_wp2
        go_roundw
        case rel => exact ⟨k + 1, by omega, by go_num, o6, hch.t0 g6⟩
        case measure => simp [intOf]; omega
      · obtain rfl : k = M.length := by omega
        rw [List.take_length, ← hR.out] at hown
        clear s5 hR
        go_wp2
        go_ret2
        exact ⟨_, rfl, hown, gg⟩
end Go.Proofs.Ytfnfcioofkeanaa
