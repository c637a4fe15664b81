/-
  The contract of tag.Extract.
-/
import Derived.Test.YtgepfmofignmfaaDigMap
namespace Go.Proofs.Ytgepfmofignmfaa
set_option linter.unusedSimpArgs false
set_option linter.unusedVariables false
open Go.RowKit Go.Maps Go.ChangeShapes

theorem groups_lt {H : Type} {w : World} {P : Program} {k : TypeId} {base : Nat} {e : TypeId} {q : IntKind} {b n : Nat} {D : DataW H} (h : w.ownsGroups P k base e q b n D) : b < w.heap.size := by
  obtain ⟨_, _, hb, _⟩ := h; exact (Array.getElem?_eq_some_iff.1 hb).1
theorem grown0_of {w w' : World} (g : Chg [] w w') (row : Option Nat) : w.grownBy w' row := ⟨g.os, g.tape, g.output, g.size, fun i hi _ => g.block i hi (by simp)⟩

def idxN (B : List Bytes) (d : Bytes) : List Nat := (List.range B.length).filter fun k : Nat => decide (sumB (B.getD k []) = d)
theorem idxs_N (B : List Bytes) (d : Bytes) : idxs B B.length d = (idxN B d).map fun k : Nat => (k : Int) := rfl
theorem idxN_mem {B : List Bytes} {d : Bytes} {k : Nat} (h : k ∈ idxN B d) : k < B.length ∧ sumB (B.getD k []) = d := by
  obtain ⟨h1, h2⟩ := List.mem_filter.1 h
  exact ⟨List.mem_range.1 h1, of_decide_eq_true h2⟩
theorem find_idx (B : List Bytes) (x : Bytes) : (B.find? fun y => decide (sumB y = sumB x) && decide (y ≠ x)) = ((idxN B (sumB x)).find? fun k => decide (B.getD k [] ≠ x)).map fun k => B.getD k [] := by
  have e : B = (List.range B.length).map fun k => B.getD k [] := by
    apply List.ext_getElem (by simp)
    intro i h1 h2
    simp [List.getD, h1]
  conv => lhs; rw [e]
  rw [List.find?_map, idxN, List.find?_filter]
  congr 1
  congr 1
  funext k
  simp
theorem extT_cons_yes {A B : List Bytes} {x : Bytes} {i : Nat} (hi : i < (idxN B (sumB x)).length) (hb : ∀ j (h : j < i), B.getD ((idxN B (sumB x))[j]'(by omega)) [] = x) (hy : B.getD (idxN B (sumB x))[i] [] ≠ x) :
    extT (x :: A) B = (x, B.getD (idxN B (sumB x))[i] [], true) := by
  have h1 : (idxN B (sumB x)).find? (fun k => decide (B.getD k [] ≠ x)) = some (idxN B (sumB x))[i] := by
    rw [List.find?_eq_some_iff_getElem]
    exact ⟨decide_eq_true hy, i, hi, rfl, fun j hj => by simp only [Bool.not_eq_true']; exact decide_eq_false (fun h => h (hb j hj))⟩
  unfold extT extractV
  rw [List.findSome?_cons, find_idx, h1]
  rfl
theorem extT_cons_no {A B : List Bytes} {x : Bytes} (hb : ∀ j (h : j < (idxN B (sumB x)).length), B.getD (idxN B (sumB x))[j] [] = x) : extT (x :: A) B = extT A B := by
  have h1 : (idxN B (sumB x)).find? (fun k => decide (B.getD k [] ≠ x)) = none := by
    rw [List.find?_eq_none]
    intro k hk
    obtain ⟨j, hj, rfl⟩ := List.getElem_of_mem hk
    simp only [decide_eq_true_eq, ne_eq, Decidable.not_not]
    exact hb j hj
  unfold extT extractV
  rw [List.findSome?_cons, find_idx, h1]
  rfl

theorem extT_cons_yes' {A B : List Bytes} {x : Bytes} {I : List Nat} (hI : I = idxN B (sumB x)) {i : Nat} (hi : i < I.length) (hb : ∀ j (h : j < i), B.getD (I[j]'(by omega)) [] = x) (hy : B.getD I[i] [] ≠ x) : extT (x :: A) B = (x, B.getD I[i] [], true) := by
  subst hI; exact extT_cons_yes hi hb hy
theorem extT_cons_no' {A B : List Bytes} {x : Bytes} {I : List Nat} (hI : I = idxN B (sumB x)) (hb : ∀ j (h : j < I.length), B.getD I[j] [] = x) : extT (x :: A) B = extT A B := by
  subst hI; exact extT_cons_no hb
theorem idxN_mem' {B : List Bytes} {d : Bytes} {I : List Nat} (hI : I = idxN B d) {k : Nat} (h : k ∈ I) : k < B.length ∧ sumB (B.getD k []) = d := by
  subst hI; exact idxN_mem h
set_option maxHeartbeats 8000000 in
set_option maxRecDepth 100000 in
theorem extract_ok (w : World) (pa pb ba bb : Nat) (va vb : Value) (A B : RowsB) (hA : LogAt w pa ba va A) (hB : LogAt w pb bb vb B) (hal : A.length ≤ 1000000) (hbl : B.length ≤ 1000000) (hxa : ∀ x ∈ A, x.2.length ≤ 2147483647) (hxb : ∀ x ∈ B, x.2.length ≤ 2147483647) :
    Calls Try.prog 27 #[.pointer (some ⟨pa, 0, none⟩), .pointer (some ⟨pb, 0, none⟩)] w fun e w' => ∃ v1 v2, e = .returned (.tuple #[v1, v2, .bool (extT (A.map (·.2)) (B.map (·.2))).2.2]) ∧
      w'.ownsRow w.heap.size 5 1 v1 (extT (A.map (·.2)) (B.map (·.2))).1.length (bcs (extT (A.map (·.2)) (B.map (·.2))).1) ∧ w'.ownsRow w.heap.size 5 1 v2 (extT (A.map (·.2)) (B.map (·.2))).2.1.length (bcs (extT (A.map (·.2)) (B.map (·.2))).2.1) ∧ Chg [] w w' := by
  obtain ⟨R, hR⟩ : ∃ R, R = extT (A.map (·.2)) (B.map (·.2)) := ⟨_, rfl⟩
  rw [← hR]
  replace hR := Lib.hid hR
  have hno : ∀ w' : World, w'.ownsRow w.heap.size 5 1 (.slice none 0 0) ([] : Bytes).length (bcs []) := fun w' => World.ownsRow_nil _ _ _ _
  have hSA := hA.rows.sl
  have hSB := hB.rows.sl
  obtain ⟨aa, ca, rfl⟩ := hSA.1.shape
  obtain ⟨ab, cb, rfl⟩ := hSB.1.shape
  obtain ⟨i0, z0, hi, hz, hz1, hz2, hz3⟩ := el_ix.info
  obtain ⟨b0, hb0⟩ : ∃ b, b = w.heap.size := ⟨_, rfl⟩
  go_enter Try.func27, Try.ntmps27
  have gm := Chg.alloc [] w (.map #[] 0)
  have hm0 := World.ownsGroups_made (H := Unit) w Try.prog 32 3 .i64
  have hmm := @run_makeMap Try.prog
  obtain ⟨kB, _⟩ := cells1 (gm.heap hB.cell (by simp))
  go_wp2_with fail
  clear kB
  rw [← hb0] at hm0 ⊢
  replace hb0 := Lib.hid hb0
  generalize w.alloc (.map #[] 0) = w1 at *
  go_loopw [21] (fun iv wr => ∃ (k : Nat) (D : DataW Unit), k ≤ B.length ∧ iv = .int .i64 k ∧ wr.ownsGroups Try.prog 32 (b0 + 1) 3 .i64 b0 k D ∧ Grp (B.map (·.2)) k D ∧ Chg [] w wr) (fun iv _ => B.length - (intOf iv).toNat)
  case atStart => exact ⟨0, _, Nat.zero_le _, rfl, hm0, Grp.nil _, gm⟩
  case round =>
    clear hm0 gm
    obtain ⟨k, D, hk, rfl, hown, hgr, hc⟩ := hrel
    by_cases hlt : k < B.length
    · obtain ⟨b, off, c, e, hbl2, x1, sx⟩ := (hSB.tr0 hc).cell k hlt
      cases e
      have hkd : (k : Int) < B.length := by omega
      have hfl := hxb _ (List.getElem_mem hlt)
      have hBk : (B.map (·.2)).getD k [] = B[k].2 := by simp [List.getD, hlt]
      obtain ⟨ax, cx, ex⟩ := sx.shape
      rw [ex] at x1 sx
      generalize B[k].2 = f at *
      replace hBk := Lib.hid hBk
      go_wp2_with fail
      refine (sum_ok wr _ f sx hfl).mono ?_
      rintro e w2 ⟨rfl, g2⟩
      have sx2 := sx.tr0 g2
      go_wp2_with fail
      refine (sum_ok w2 _ f sx2 hfl).mono ?_
      rintro e w3 ⟨rfl, g3⟩
      have hown3 := groups_tr0 hown (g2.t0 g3)
      have hc3 := hc.t0 (g2.t0 g3)
      have hkey := key_digest (sumB f) (sumB_len f)
      have hmapD := groups_isMap hown
      clear hown hc g2 g3 sx sx2 x1
      go_wp2_with (at_lookup; go_must (refine wpList_lookup_groups _ rfl _ _ 69 rfl 32 70 3 .i64 lawDig Try.underlying69 (zeroIx _) (b0 + 1) b0 k D rfl hown3 (by unfold maxLen; omega) _ _ rfl hkey ?_))
      intro v zs hat hoi hzl hback
      have hzs : zs = idxs (B.map (·.2)) k (sumB ((B.map (·.2)).getD k [])) := by
        rw [hBk.out]
        exact lits_inj ((items_row hoi).symm.trans (by rw [← hat]; exact hgr _ (sumB_len f)))
      replace hzs := Lib.hid hzs
      have ga := Chg.alloc [] w3 (.cells #[.int .i64 (k : Int)] 3)
      have hoA := hoi.alloc (.cells #[.int .i64 (k : Int)] 3)
      obtain ⟨av, cv, rfl⟩ := own_shape hoi.1
      clear hat
      go_wp2_with (at_builtin; go_must (refine wpList_append_own_at _ rfl (.tmp 32) (.tmp 34) 70 rfl (b0 + 1) 3 i0 z0 1 8 el_ix.und hi hz hz1 hz2 hz3 (by decide) _ zs.length (zs.map (Value.int .i64)) rfl hoA.1 _ 1 1 [.int .i64 (k : Int)] rfl rfl (cell_one_new _ _ _) (by intro u hu; rw [List.mem_singleton.1 hu]; rfl) (by unfold maxLen; omega) (by omega) (by have := groups_lt hown3; simp; omega) ?_))
      intro v4 w4 o4 gr4 _ at4
      have hap := hoA.appended (x := (k : Int)) (by simpa using o4) (by simp [Lit.wf, IntKind.min, IntKind.max, IntKind.bits, IntKind.signed]; omega)
      have gr34 : w3.grownBy w4 (Value.slice av zs.length cv).ownBlock := (grown0_of ga _).trans gr4
      have hc4 : Chg [] w w4 := (hc3.t0 ga).trans (Chg.grown gr4) (fun x hx => .inr (by
        have := (hoi.1.lt x (by simpa [Act.eval] using hx)).1; have := hb0.out; omega))
      go_wp2_with (at_mapUpdate; go_must (refine wpList_mapUpdate_back _ rfl _ _ _ 69 rfl hback rfl rfl rfl gr34 hap (by simp; omega) (by rcases at4 with h | h; exact .inl h; exact .inr ⟨_, h, by simp⟩) ?_))
      intro w5 hown5 gr5
      have hc5 : Chg [] w w5 := hc4.trans (Chg.grown gr5) (fun x hx => .inr (by
        have : x = b0 := by simpa using hx
        have := hb0.out; omega))
      have hgr5 := hgr.put hmapD hzs.out hap
      rw [hBk.out] at hgr5
      clear hown3 hback o4 gr4 at4 gr34 gr5 hap hoA hoi ga hc4 hc3 hgr
      go_wp2
      go_roundw
      case rel => exact ⟨k + 1, _, by omega, by go_num, hown5, hgr5, hc5⟩
      case measure => simp [intOf]; omega
    · obtain rfl : k = B.length := by omega
      have hgr' : ∀ d : Bytes, d.length = 32 → itemsD (D.atKey (kl d) .nil) = lits .i64 (idxs (B.map (·.2)) (B.map (·.2)).length d) := by rw [List.length_map]; exact hgr
      obtain ⟨kA, _⟩ := cells1 (hc.heap hA.cell (by simp))
      clear hgr hmm
      go_wp2_with fail
      go_loopw [42] (fun iv wq => ∃ j : Nat, j ≤ A.length ∧ iv = .int .i64 j ∧ wq.ownsGroups Try.prog 32 (b0 + 1) 3 .i64 b0 B.length D ∧ R = extT ((A.map (·.2)).drop j) (B.map (·.2)) ∧ Chg [] w wq) (fun iv _ => A.length - (intOf iv).toNat)
      case atStart => exact ⟨0, Nat.zero_le _, rfl, hown, by rw [List.drop_zero]; exact hR.out, hc⟩
      case round =>
        clear hown kA hc
        obtain ⟨j, hj, rfl, hown, hRj, hc⟩ := hrel
        by_cases hlj : j < A.length
        · obtain ⟨b, off, c, e, hbl2, x1, sx⟩ := (hSA.tr0 hc).cell j hlj
          cases e
          have hjd : (j : Int) < A.length := by omega
          have hfl := hxa _ (List.getElem_mem hlj)
          rw [show (A.map (·.2)).drop j = A[j].2 :: (A.map (·.2)).drop (j + 1) by
            rw [List.drop_eq_getElem_cons (by simpa using hlj), List.getElem_map]] at hRj
          obtain ⟨ax, cx, ex⟩ := sx.shape
          rw [ex] at x1 sx
          generalize A[j].2 = f at *
          replace hRj := Lib.hid hRj
          go_wp2_with fail
          refine (sum_ok _ _ f sx hfl).mono ?_
          rintro e w3 ⟨rfl, g3⟩
          have hown3 := groups_tr0 hown g3
          have hc3 := hc.t0 g3
          have sx3 := sx.tr0 g3
          have hkey := key_digest (sumB f) (sumB_len f)
          clear hown hc g3 sx x1
          go_wp2_with (at_lookup; go_must (refine wpList_lookup_groups _ rfl _ _ 69 rfl 32 70 3 .i64 lawDig Try.underlying69 (zeroIx _) (b0 + 1) b0 B.length D rfl hown3 (by unfold maxLen; omega) _ _ rfl hkey ?_))
          intro v zs hat hoi hzl hback
          have hzs : zs = (idxN (B.map (·.2)) (sumB f)).map fun k : Nat => (k : Int) := by
            rw [← idxs_N]
            exact lits_inj ((items_row hoi).symm.trans (by rw [← hat]; exact hgr' _ (sumB_len f)))
          obtain ⟨I, hI⟩ : ∃ I, I = idxN (B.map (·.2)) (sumB f) := ⟨_, rfl⟩
          have hyes : ∀ (i : Nat) (hi : i < I.length), (∀ j (h : j < i), (B.map (·.2)).getD (I[j]'(by omega)) [] = f) → (B.map (·.2)).getD I[i] [] ≠ f → extT (f :: (A.map (·.2)).drop (j + 1)) (B.map (·.2)) = (f, (B.map (·.2)).getD I[i] [], true) := fun i hi hb hy => extT_cons_yes' hI hi hb hy
          have hnot : (∀ j (h : j < I.length), (B.map (·.2)).getD I[j] [] = f) → extT (f :: (A.map (·.2)).drop (j + 1)) (B.map (·.2)) = extT ((A.map (·.2)).drop (j + 1)) (B.map (·.2)) := fun hb => extT_cons_no' hI hb
          have hmem : ∀ k, k ∈ I → k < (B.map (·.2)).length ∧ sumB ((B.map (·.2)).getD k []) = sumB f := fun k hk => idxN_mem' hI hk
          rw [← hI] at hzs
          clear hI
          subst hzs
          rw [List.length_map] at hzl
          have hsv := Sl.ofOwns hoi.1
          rw [List.length_map] at hsv
          obtain ⟨av, cv, rfl⟩ := hsv.shape
          clear hat hback hoi
          obtain ⟨kB, _⟩ := cells1 (hc3.heap hB.cell (by simp))
          have hil : I.length ≤ 1000000 := by omega
          go_wp2_with fail
          go_loop [51] (fun iv => ∃ i : Nat, i ≤ I.length ∧ iv = .int .i64 i ∧ ∀ m (h : m < I.length), m < i → (B.map (·.2)).getD I[m] [] = f) (fun iv => I.length - (intOf iv).toNat)
          case atStart => exact ⟨0, Nat.zero_le _, rfl, fun m h h0 => absurd h0 (by omega)⟩
          case round =>
            obtain ⟨i, hi', rfl, hall⟩ := hrel
            by_cases hli : i < I.length
            · have hli2 : (i : Int) < I.length := by omega
              obtain ⟨bv, ov, cv', e, _, _, _, hcell⟩ := hsv.at (by simp; omega)
              cases e
              have y1 := hcell i (.int .i64 (I[i] : Int)) (by simp [hli])
              clear hcell
              have hmi := hmem _ (List.getElem_mem hli)
              have hyi := hyes i hli (fun j hj => hall j (by omega) hj)
              rw [List.length_map] at hmi
              obtain ⟨hmi, _⟩ := hmi
              have hBm : (B.map (·.2)).getD I[i] [] = B[I[i]].2 := by simp [List.getD, hmi]
              rw [hBm] at hyi
              obtain ⟨b4, off4, c4, e, hbl4, x4, s4⟩ := (hSB.tr0 hc3).cell I[i] hmi
              cases e
              have hf4 := hxb _ (List.getElem_mem hmi)
              obtain ⟨a4, c4', e4⟩ := s4.shape
              rw [e4] at x4 s4
              have hext : B[I[i]].2 = f → ∀ m (h : m < I.length), m < i + 1 → (B.map (·.2)).getD I[m] [] = f := fun he m h hm => by
                by_cases e : m = i
                · subst e; rw [hBm, he]
                · exact hall m h (by omega)
              replace hyi := Lib.hid hyi
              replace hext := Lib.hid hext
              clear e4
              have hmd : (I[i] : Int) < B.length := by omega
              generalize B[I[i]].2 = y at *
              generalize I[i] = M at *
              have hm0 : (0 : Int) ≤ M := by omega
              clear hall hBm hmem hyes hnot
              have hcy := run_str (P := Try.prog) Try.underlying22 Try.underlying5 Try.underlying9 s4 rfl
              have hcx := run_str (P := Try.prog) Try.underlying22 Try.underlying5 Try.underlying9 sx3 rfl
              by_cases hyf : y = f
              · subst hyf
                have hext' := hext.out rfl
                replace hext' := Lib.hid hext'
                go_wp2
                go_round
                case rel => exact ⟨i + 1, by omega, by go_num, hext'.out⟩
                case measure => simp [intOf]; omega
              · have hne : (y == f) = false := by simpa using hyf
                have hRR := hRj.out
                rw [hyi.out hyf] at hRR
                subst hRR
                go_wp2_with fail
                clear hyi hext hcx hcy
                refine (cloneb_ok _ _ f sx3 (by unfold big; omega)).mono ?_
                rintro e w5 ⟨u5, rfl, o5, g5⟩
                have s5 := s4.tr0 g5
                go_wp2_with fail
                refine (cloneb_ok _ _ y s5 (by unfold big; omega)).mono ?_
                rintro e w6 ⟨u6, rfl, o6, g6⟩
                go_wp2
                go_ret3
                exact ⟨_, _, rfl, own_lower (own_tr o5 g6 (by simp)) hc3.size, own_lower o6 (Nat.le_trans hc3.size g5.size), (hc3.t0 g5).t0 g6⟩
            · obtain rfl : i = I.length := by omega
              have hnx := hnot (fun j h => hall j h h)
              have hRn := hRj.out
              rw [hnx] at hRn
              replace hRn := Lib.hid hRn
              clear hall hnx hnot hyes hmem hRj
              go_wp2
              go_roundw
              case rel => exact ⟨j + 1, by omega, by go_num, hown3, hRn.out, hc3⟩
              case measure => simp [intOf]; omega
        · obtain rfl : j = A.length := by omega
          rw [List.drop_of_length_le (by simp)] at hRj
          subst hRj
          go_wp2
          go_ret3
          exact ⟨_, _, rfl, hno _, hno _, hc⟩
end Go.Proofs.Ytgepfmofignmfaa
