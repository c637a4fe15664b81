/-
  The contracts of the document's Encode (hypostyleref24) and of its Same.
-/
import Derived.Test.YtfnfcioofkeanaaQuery2
namespace Go.Proofs.Ytfnfcioofkeanaa
set_option linter.unusedSimpArgs false
set_option linter.unusedVariables false
open Go.RowKit

theorem nput_nat (X : Nat) : nput (X : Int) = vput X := by unfold nput; simp
set_option maxHeartbeats 4000000 in
set_option maxRecDepth 100000 in
theorem renc_ok (w : World) (v : Value) (q : Qu) (hs : Sl w v q.cols.length (ics .i64 q.cols)) (hb : q.cols.length ≤ maxLen) :
    Calls Try.prog 16 #[qv v q.lo q.hi] w fun e w' => ∃ v', e = .returned (.tuple #[v', .bool (mayQ q)]) ∧ w'.ownsRow w.heap.size 5 1 v' (encR q).length (bcs (encR q)) ∧ Chg [] w w' := by
  obtain ⟨a0, c0, rfl⟩ := hs.shape
  have hmb := @mayQ_bounds q
  obtain ⟨R, hR⟩ : ∃ R, R = encR q := ⟨_, rfl⟩
  rw [← hR]
  unfold encR encB at hR
  obtain ⟨B, hB⟩ : ∃ B, B = mayQ q := ⟨_, rfl⟩
  rw [← hB] at hR hmb ⊢
  have hB2 : fitsV q.cols q.lo q.hi 64 65536 = B := hB.symm
  obtain ⟨l, lo, hi⟩ := q
  dsimp only at *
  replace hR := Lib.hid hR
  replace hB2 := Lib.hid hB2
  clear hB
  unfold qv
  go_enter Try.func16, Try.ntmps16
  go_wp2_with fail
  refine (rmay_ok _ _ l lo hi (hs.tr0 (Chg.alloc [] w _)) hb).mono ?_
  rw [hB2.out]
  rintro e w2 ⟨rfl, g2⟩
  have hbk := g2.heap (heap_alloc_new w (.cells #[.slice a0 l.length c0, .int .i64 lo, .int .i64 hi] 24)) (by simp)
  have g02 := (Chg.alloc [] w (.cells #[.slice a0 l.length c0, .int .i64 lo, .int .i64 hi] 24)).t0 g2
  clear g2 hB2
  cases B with
  | false =>
    replace hR := hR.out
    rw [if_neg (by simp)] at hR
    subst hR
    go_wp2
    go_ret2
    exact ⟨_, rfl, World.ownsRow_nil _ _ _ _, g02⟩
  | true =>
    obtain ⟨hl64, hcols, hlo, hlh, hhi⟩ := hmb rfl
    clear hmb hb
    replace hR := hR.out
    rw [if_pos (by trivial), List.flatMap_append] at hR
    obtain ⟨LO, rfl⟩ : ∃ X : Nat, lo = (X : Int) := ⟨lo.toNat, by omega⟩
    obtain ⟨HI, rfl⟩ : ∃ X : Nat, hi = (X : Int) := ⟨hi.toNat, by omega⟩
    simp only [List.flatMap_cons, List.flatMap_nil, nput_nat, List.append_nil] at hR
    replace hR := Lib.hid hR
    have hcv : IntKind.u64.wrap (l.length : Int) = (l.length : Int) := wraps_u64 _ (by omega) (by omega)
    obtain ⟨q0, q1, q2, _, _, _⟩ := cells3' hbk
    go_wp2_with fail
    refine (rput_ok w2 _ [] l.length (by omega) (Sl.nil w2) (by simp [big])).mono ?_
    rintro e w3 ⟨v3, rfl, o3, g3⟩
    have hv0 : ([] : List UInt8).length + vsize l.length = (vput l.length).length := by simp [vsize]
    rw [hv0, List.nil_append] at o3
    have g03 := g02.t0 g3
    replace o3 := own_lower o3 g02.size
    have hbk3 := g3.heap hbk (by simp)
    clear q0 q1 q2 g3 g02 hbk hcv hv0
    have hvl : (vput l.length).length ≤ 10 := vsize_ten (by omega)
    have hcs : ∀ n ∈ l, n ≤ 65536 := fun n hn => by have := hcols n hn; omega
    have hbs := nputs_len l hcs
    have hpre : ∀ k, ((l.take k).flatMap nput).length ≤ 640 := by
      intro k
      have h : l.flatMap nput = (l.take k).flatMap nput ++ (l.drop k).flatMap nput := by rw [← List.flatMap_append, List.take_append_drop]
      have h2 := congrArg List.length h
      rw [List.length_append] at h2
      omega
    have qc : ∀ wr, Chg [] w3 wr → wr.cell? ⟨w.heap.size, 0, none⟩ = some (.slice a0 l.length c0) ∧ wr.cell? ⟨w.heap.size, 1, none⟩ = some (.int .i64 LO) ∧ wr.cell? ⟨w.heap.size, 2, none⟩ = some (.int .i64 HI) := fun wr g => by
      obtain ⟨q0, q1, q2, _, _, _⟩ := cells3' (g.heap hbk3 (by simp))
      exact ⟨q0, q1, q2⟩
    clear hbk3
    go_wp2_with fail
    go_loopw [5, 6] (fun out iv wr => ∃ (k : Nat), k ≤ l.length ∧ iv = .int .i64 k ∧ wr.ownsRow w.heap.size 5 1 out (vput l.length ++ (l.take k).flatMap nput).length (bcs (vput l.length ++ (l.take k).flatMap nput)) ∧ Chg [] w3 wr) (fun _ iv _ => l.length - (intOf iv).toNat)
    case atStart => exact ⟨0, Nat.zero_le _, rfl, by simpa using o3, Chg.refl _ _⟩
    case round =>
      clear o3
      obtain ⟨k, hk, rfl, hown, hch⟩ := hrel
      have gg := g03.t0 hch
      obtain ⟨q0, q1, q2⟩ := qc _ hch
      have hpk := hpre k
      have hX : (vput l.length ++ (l.take k).flatMap nput).length ≤ 700 := by rw [List.length_append]; omega
      by_cases hlt : k < l.length
      · obtain ⟨b, off, c, e, hbl, hc1⟩ := int_cells (hs.tr0 gg) k hlt
        cases e
        obtain ⟨hx0, hx1⟩ := hcols _ (List.getElem_mem hlt)
        have htk := nputs_take l k hlt
        replace htk := Lib.hid htk
        generalize l[k] = x at *
        obtain ⟨X, rfl⟩ : ∃ X : Nat, x = (X : Int) := ⟨x.toNat, by omega⟩
        have hcv : IntKind.u64.wrap (X : Int) = (X : Int) := wraps_u64 _ (by omega) (by omega)
        clear hs hbs hpre hcols hcs qc
        go_wp2_with fail
        refine (rput_ok wr _ _ X (by omega) (Sl.ofOwns hown) (by unfold big; omega)).mono ?_
        rintro e w6 ⟨v6, rfl, o6, g6⟩
        replace o6 := own_lower o6 gg.size
        have hst : (vput l.length ++ (l.take (k + 1)).flatMap nput) = (vput l.length ++ (l.take k).flatMap nput) ++ vput X := by
          rw [htk.out, nput_nat, List.append_assoc]
        have hln : (vput l.length ++ (l.take k).flatMap nput).length + vsize X = ((vput l.length ++ (l.take k).flatMap nput) ++ vput X).length := by simp only [List.length_append, vsize]
        rw [hln, ← hst] at o6
        clear hown hln hst htk hc1 hcv
        go_wp2
        go_roundw
        case rel => exact ⟨k + 1, by omega, by go_num, o6, hch.t0 g6⟩
        case measure => simp [intOf]; omega
      · obtain rfl : k = l.length := by omega
        rw [List.take_length] at hown hX
        have hcv : IntKind.u64.wrap (LO : Int) = (LO : Int) := wraps_u64 _ (by omega) (by omega)
        have hcv2 : IntKind.u64.wrap (HI : Int) = (HI : Int) := wraps_u64 _ (by omega) (by omega)
        clear hs hbs hpre hcols hcs
        generalize hP : vput l.length ++ l.flatMap nput = P at *
        have hR2 : R = (P ++ vput LO) ++ vput HI := by rw [hR.out, ← hP]; simp
        replace hR2 := Lib.hid hR2
        have hp1 : (vput LO).length ≤ 10 := vsize_ten (by omega)
        clear hP hR
        go_wp2_with fail
        refine (rput_ok wr _ _ LO (by omega) (Sl.ofOwns hown) (by unfold big; omega)).mono ?_
        rintro e w6 ⟨v6, rfl, o6, g6⟩
        have hln : P.length + vsize LO = (P ++ vput LO).length := by rw [List.length_append]; rfl
        rw [hln] at o6
        obtain ⟨q0', q1', q2'⟩ := qc _ (hch.t0 g6)
        have hX2 : (P ++ vput LO).length ≤ 800 := by rw [List.length_append]; omega
        have gg6 := gg.t0 g6
        generalize P ++ vput LO = P2 at *
        clear hown hln q0 q1 q2 qc hch g6 gg
        go_wp2_with fail
        refine (rput_ok w6 _ _ HI (by omega) (Sl.ofOwns o6) (by unfold big; omega)).mono ?_
        rintro e w7 ⟨v7, rfl, o7, g7⟩
        have hln : P2.length + vsize HI = (P2 ++ vput HI).length := by rw [List.length_append]; rfl
        rw [hln, ← hR2.out] at o7
        replace o7 := own_lower o7 gg6.size
        clear o6 hln hR2 q0' q1' q2'
        go_wp2
        go_ret2
        exact ⟨_, rfl, o7, gg6.t0 g7⟩

set_option maxHeartbeats 2000000 in
set_option maxRecDepth 100000 in
theorem rsame12_ok (w : World) (v1 v2 : Value) (L M : List Int) (h1 : Sl w v1 L.length (ics .i64 L)) (h2 : Sl w v2 M.length (ics .i64 M)) (hb : L.length ≤ maxLen) :
    Calls Try.prog 46 #[v1, v2] w fun e w' => e = .returned (.bool (decide (L = M))) ∧ Chg [] w w' := by
  obtain ⟨a1, c1, rfl⟩ := h1.shape
  obtain ⟨a2, c2, rfl⟩ := h2.shape
  unfold maxLen at hb
  go_enter Try.func46, Try.ntmps46
  by_cases hlen : L.length = M.length
  · rw [← hlen]
    replace hlen := Lib.hid hlen
    go_wp2_with fail
    go_loopw [5] (fun iv wr => ∃ (k : Nat), k ≤ L.length ∧ iv = .int .i64 k ∧ L.take k = M.take k ∧ Chg [] w wr) (fun iv _ => L.length - (intOf iv).toNat)
    case atStart => exact ⟨0, Nat.zero_le _, rfl, rfl, Chg.refl _ _⟩
    case round =>
      obtain ⟨k, hk, rfl, htk, hch⟩ := hrel
      by_cases hlt : k < L.length
      · obtain ⟨b, off, c, e, hbl, x1⟩ := int_cells (h1.tr0 hch) k hlt
        cases e
        have hkM : k < M.length := by have := hlen.out; omega
        obtain ⟨b2, off2, c, e, hbl2, y1⟩ := int_cells (h2.tr0 hch) k hkM
        cases e
        have hkl : (k : Int) < L.length := by omega
        have hk0 : (0 : Int) ≤ k := by omega
        by_cases he : L[k] = M[k]'hkM
        · have ht2 : L.take (k + 1) = M.take (k + 1) := by
            rw [List.take_succ_eq_append_getElem hlt, List.take_succ_eq_append_getElem hkM, htk, he]
          rw [← he] at y1
          clear he htk
          go_wp2_with fail
          refine region_quietC (by kernel_rfl) (by kernel_rfl) ?_
          repeat (first
            | (refine quiet_cellC rfl _ _ rfl _ rfl _ _ x1 Try.underlying3 rfl ?_)
            | (refine quiet_cellC rfl _ _ rfl _ rfl _ _ y1 Try.underlying3 rfl ?_)
            | quiet_step ((intro hx; first | rfl)))
          refine wpQuiet_nil ?_
          intro w' g
          go_wp2
          go_roundw
          case rel => exact ⟨k + 1, by omega, by go_num, ht2, hch.t0 g⟩
          case measure => simp [intOf]; omega
        · have hne : decide (L = M) = false := by
            refine decide_eq_false fun e => he ?_
            subst e; rfl
          have he2 : (L[k] != M[k]'hkM) = true := by simpa using he
          replace hne := Lib.hid hne
          clear he
          go_wp2_with fail
          refine region_quietC (by kernel_rfl) (by kernel_rfl) ?_
          repeat (first
            | (refine quiet_cellC rfl _ _ rfl _ rfl _ _ x1 Try.underlying3 rfl ?_)
            | (refine quiet_cellC rfl _ _ rfl _ rfl _ _ y1 Try.underlying3 rfl ?_)
            | quiet_step ((intro hx; first | rfl)))
          refine wpQuiet_nil ?_
          intro w' g
          go_wp2
          go_ret
          exact ⟨by rw [hne.out]; rfl, hch.t0 g⟩
      · have hkl : k = L.length := by omega
        have he : L = M := by
          rw [hkl, List.take_length] at htk
          rw [htk, hlen.out, List.take_length]
        have hne : decide (L = M) = true := decide_eq_true he
        replace hne := Lib.hid hne
        clear he h1 h2 htk
        go_wp2
        go_ret
        exact ⟨by rw [hne.out]; rfl, hch⟩
  · have hne : decide (L = M) = false := decide_eq_false fun e => hlen (by rw [e])
    replace hne := Lib.hid hne
    have hl2 : ¬ (L.length : Int) = M.length := by omega
    have hl3 : ((L.length : Int) != M.length) = true := by simpa using hl2
    go_wp2
    go_ret
    exact ⟨by rw [hne.out]; rfl, Chg.refl _ _⟩

set_option maxHeartbeats 2000000 in
set_option maxRecDepth 100000 in
theorem rsame_ok (w : World) (v1 v2 : Value) (p q : Qu) (h1 : Sl w v1 p.cols.length (ics .i64 p.cols)) (h2 : Sl w v2 q.cols.length (ics .i64 q.cols)) (hb : p.cols.length ≤ maxLen) :
    Calls Try.prog 21 #[qv v1 p.lo p.hi, qv v2 q.lo q.hi] w fun e w' => e = .returned (.bool (decide (p = q))) ∧ Chg [] w w' := by
  obtain ⟨a1, c1, rfl⟩ := h1.shape
  obtain ⟨a2, c2, rfl⟩ := h2.shape
  obtain ⟨l, lo, hi⟩ := p
  obtain ⟨m, lo2, hi2⟩ := q
  dsimp only at *
  obtain ⟨B, hB⟩ : ∃ B, B = decide ((⟨l, lo, hi⟩ : Qu) = ⟨m, lo2, hi2⟩) := ⟨_, rfl⟩
  rw [← hB]
  simp only [Qu.mk.injEq] at hB
  replace hB := Lib.hid hB
  unfold qv
  go_enter Try.func21, Try.ntmps21
  have g2 : Chg [] w ((w.alloc (.cells #[.slice a1 l.length c1, .int .i64 lo, .int .i64 hi] 24)).alloc (.cells #[.slice a2 m.length c2, .int .i64 lo2, .int .i64 hi2] 24)) := (Chg.alloc _ _ _).t0 (Chg.alloc _ _ _)
  by_cases e1 : lo = lo2
  · subst e1
    by_cases e2 : hi = hi2
    · subst e2
      have hB2 : Hid (B = decide (l = m)) := by rw [Hid, hB.out]; simp
      clear hB
      go_wp2_with fail
      refine (rsame12_ok _ _ _ l m (h1.tr0 g2) (h2.tr0 g2) hb).mono ?_
      rw [← hB2.out]
      rintro e w3 ⟨rfl, g3⟩
      go_wp2
      go_ret
      exact ⟨rfl, g2.t0 g3⟩
    · have hB2 : B = false := by rw [hB.out]; simp [e2]
      subst hB2
      have e2' : (hi == hi2) = false := by simpa using e2
      clear hB
      go_wp2
      go_ret
      exact ⟨rfl, g2⟩
  · have hB2 : B = false := by rw [hB.out]; simp [e1]
    subst hB2
    have e2' : (lo == lo2) = false := by simpa using e1
    clear hB
    go_wp2
    go_ret
    exact ⟨rfl, g2⟩
end Go.Proofs.Ytfnfcioofkeanaa
