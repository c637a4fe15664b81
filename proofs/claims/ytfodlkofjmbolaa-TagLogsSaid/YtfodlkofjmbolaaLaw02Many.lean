/-
  TagMany: the walk.
-/
import Derived.Test.YtfodlkofjmbolaaRowsR
import Derived.Test.YtfodlkofjmbolaaLaw02Frames
import Derived.Test.YtfodlkofjmbolaaLaw02Back
import Derived.Test.YtfodlkofjmbolaaSoftW
namespace Go.Proofs.Ytfodlkofjmbolaa
set_option linter.unusedSimpArgs false
set_option linter.unusedVariables false
open Go.RowKit

/-- Those rows that have a frame. -/
def okRow (r : RowR) : Bool := frameOk r.1 (partsR r)
def ownR (L : List RowR) : List RowR := L.filter okRow
theorem ownR_take (L : List RowR) (k : Nat) (h : k < L.length) : ownR (L.take (k + 1)) = ownR (L.take k) ++ if okRow L[k] = true then [L[k]] else [] := by
  unfold ownR
  rw [List.take_succ_eq_append_getElem h, List.filter_append]
  congr 1
  by_cases e : okRow L[k] = true
  · rw [if_pos e, List.filter_cons_of_pos e]; rfl
  · rw [if_neg e, List.filter_cons_of_neg e]; rfl
theorem logsB_own (L : List RowR) : logsB L = (ownR L).map fun r => frameB r.1 (partsR r) := by
  induction L with
  | nil => rfl
  | cons r L ih =>
    have e : logsB (r :: L) = logB r.1 (partsR r) ++ logsB L := by simp [logsB]
    rw [e, ih]
    unfold ownR logB okRow
    by_cases h : frameOk r.1 (partsR r) = true
    · rw [if_pos h, List.filter_cons_of_pos (by exact h)]; rfl
    · rw [if_neg h, List.filter_cons_of_neg (by exact h)]; rfl
theorem el_rowR : ElemT Try.prog 49 53 2 40 := by
  obtain ⟨i, hi, hz, h1, h2⟩ := info_parts (P := Try.prog) (e := 53) (z := .agg #[.string { data := #[] }, .slice none 0 0]) (size := 2) (bytes := 40) (by kernel_rfl)
  exact ⟨Try.underlying49, ⟨i, _, hi, hz, h1, h2, rfl⟩, by decide, by decide⟩
theorem own_log {w w' : World} {q base bq e size n : Nat} {v u : Value} {xs : List Value} {G : RowsB} (h : w.ownsRow base e size v n xs) (k : LogAt w q bq u G) (g : Chg (q :: u.ownBlock.toList) w w') (h1 : e ≠ 74) (h2 : e ≠ 22) : w'.ownsRow base e size v n xs := by
  refine ownB_trD h g fun j hj => ?_
  rcases List.mem_cons.1 hj with rfl | hj
  · exact ownB_not h k.cell h1
  · exact ownB_apart k.rows.1 h (fun e => h2 e.symm) j hj
theorem LogAt.row {w w' : World} {p bp base e size n : Nat} {v u : Value} {F : RowsB} {xs : List Value} (h : LogAt w p bp v F) (o : w.ownsRow base e size u n xs) (g : Chg u.ownBlock.toList w w') (h1 : e ≠ 74) (h2 : e ≠ 22) (h3 : e ≠ 5) : LogAt w' p bp v F := by
  refine ⟨g.heap h.cell fun hm => ownB_not o h.cell h1 (by simpa using hm), ?_, fun x hx => ?_⟩
  · exact ownB_trD h.rows.1 g fun j hj => ownB_apart o h.rows.1 h2 j hj
  · exact ownB_trD (h.rows.2 x hx) g fun j hj => ownB_apart o (h.rows.2 x hx) h3 j hj
theorem mem_sumL {p : Bytes} : ∀ {ps : List Bytes}, p ∈ ps → p.length ≤ sumL ps
  | q :: ps, h => by
    have e : sumL (q :: ps) = q.length + sumL ps := by simp [sumL]
    rw [e]
    rcases List.mem_cons.1 h with rfl | h
    · omega
    · have := mem_sumL h; omega
theorem parseT_frame {s : Bytes} {ps : List Bytes} (h : frameOk s ps = true) (hl : (frameB s ps).length ≤ 10000) : parseT (frameB s ps) = (s, ps, true) := by
  unfold parseT
  rw [parse_frame h]
  intro p hp
  have h1 := mem_sumL hp
  rw [frame_len, flatB_len] at hl
  omega
set_option maxHeartbeats 8000000 in
set_option maxRecDepth 100000 in
theorem many2_run (w : World) (va : Value) (A : List RowR) (hA : Sl w va A.length (A.flatMap rowc)) (okA : ∀ x ∈ A, okR w x) :
    Calls Try.prog 13 #[va] w fun e w' => e = .returned (.bool true) ∧ Chg [] w w' := by
  obtain ⟨aa, ca, rfl⟩ := hA.shape
  have hal := hA.le
  unfold maxLen at hal
  go_enter Try.func13, Try.ntmps13
  go_wp2_with fail
  refine (small02_ok w).mono ?_
  rintro e w1 ⟨rfl, g1⟩
  go_wp2_with fail
  refine (lognew_ok w1 w1.heap.size).mono ?_
  rintro e w2 ⟨rfl, lx, g2⟩
  have zx : w1.heap.size < w2.heap.size := lx.lt
  have zw := g1.size
  have hc := g1.t0 g2
  clear g1 g2
  generalize w1.heap.size = px at *
  by_cases h12 : 20 < A.length
  · go_wp2
    go_ret
    exact ⟨rfl, hc⟩
  go_wp2_with fail
  go_loopw [5, 6] (fun ov iv wr => ∃ (k : Nat) (vx : Value) (F : RowsB), k ≤ A.length ∧ iv = .int .i64 k ∧ LogAt wr px px vx F ∧ F.map (·.2) = logsB (A.take k) ∧ ShortB (F.map (·.2)) ∧ wr.ownsRow px 53 2 ov (ownR (A.take k)).length ((ownR (A.take k)).flatMap rowc) ∧ w2.heap.size ≤ wr.heap.size ∧ Chg [] w wr) (fun _ iv _ => A.length - (intOf iv).toNat)
  case atStart => exact ⟨0, _, [], Nat.zero_le _, rfl, lx, rfl, by unfold ShortB; simp, World.ownsRow_nil _ _ _ _, Nat.le_refl _, hc⟩
  case round =>
    clear lx hc
    obtain ⟨k, vx, F, hk, rfl, lx, hF, hSh, oo, hsz, hc⟩ := hrel
    obtain ⟨ao, co, rfl⟩ := own_shape oo
    by_cases hlt : k < A.length
    · skip
      obtain ⟨b, off, c, e, hbl, y0, y1⟩ := row_cells hA k hlt
      cases e
      replace y0 := hc.cellv y0 (by simp)
      replace y1 := hc.cellv y1 (by simp)
      obtain ⟨ot, oD, oD2, oD3⟩ := okA _ (List.getElem_mem hlt)
      have hkd : (k : Int) < A.length := by omega
      have hk0 : (0 : Int) ≤ k := by omega
      have hnx := logsB_take A k hlt
      have hox := ownR_take A k hlt
      obtain ⟨ap, cp, ep⟩ := oD.1.shape
      rw [ep] at y1 oD
      have hDl : A[k].2.2.length ≤ maxLen := by unfold maxLen; omega
      unfold partsR at hnx
      have hAk : A[k] = (A[k].1, A[k].2.1, A[k].2.2) := rfl
      rw [show okRow A[k] = frameOk A[k].1 (A[k].2.2.map (·.2)) from rfl, hAk] at hox
      rw [ep] at hox
      clear hAk
      generalize A[k].1 = s at *
      generalize A[k].2.2 = D at *
      clear ep
      replace hnx := Lib.hid hnx
      replace hox := Lib.hid hox
      go_wp2_with fail
      refine (fewB_ok _ _ D (oD.tr0 hc) hDl (fun x h => Nat.le_trans (oD2 x h) (by decide))).mono ?_
      rintro e wf ⟨rfl, g3⟩
      replace hc := hc.t0 g3
      replace lx := lx.tr0 g3
      replace oo := own_tr oo g3 (by simp)
      have z0 := g3.cellv y0 (by simp)
      have z1 := g3.cellv y1 (by simp)
      have zsz := g3.size
      clear y0 y1 g3
      cases hf : fewB (D.map (·.2))
      · go_wp2
        go_ret
        exact ⟨rfl, hc⟩
      obtain ⟨hf1, hf2⟩ := fewB_sum hf
      clear hf
      by_cases h3 : 300 < s.length
      · go_wp2
        go_ret
        exact ⟨rfl, hc⟩
      have kF := fun w' (g : Chg [] wf w') => frame_ok w' s _ D (oD.tr0 (hc.t0 g)) (by unfold maxLen; omega) hDl (by omega)
      go_wp2_with fail
      generalize hok : frameOk s (D.map (·.2)) = FO at *
      refine' region_soft 16 [cst (.slice (some ⟨b, off, none⟩) A.length ca), cst (.int .i64 k), cst _, cst _, cst (.string (bstr s)), cst (.slice (some ⟨b, off, none⟩) A.length ca), cst (.int .i64 k), cst _, cst _, cst (.slice ap D.length cp), fun v _ => ∃ u, v = .tuple #[u, .bool FO], fun v _ => ∃ u, v = .tuple #[u, .bool FO], fun _ _ => True, cst (.bool FO), fun _ _ => True, cst (.bool FO)] rfl (by kernel_rfl) (by kernel_rfl) (stays_cons (Stays.cst _) (stays_cons (Stays.cst _) (stays_cons (Stays.cst _) (stays_cons (Stays.cst _) (stays_cons (Stays.cst _) (stays_cons (Stays.cst _) (stays_cons (Stays.cst _) (stays_cons (Stays.cst _) (stays_cons (Stays.cst _) (stays_cons (Stays.cst _) (stays_cons (fun _ _ _ h _ => h) (stays_cons (fun _ _ _ h _ => h) (stays_cons (fun _ _ _ h _ => h) (stays_cons (Stays.cst _) (stays_cons (fun _ _ _ h _ => h) (stays_cons (Stays.cst _) stays_nil)))))))))))))))) _ (fun V => by simp only [putAll, Act.put, List.take_succ_cons, List.take_zero, List.setIfInBounds_toArray, List.set_cons_zero, List.set_cons_succ, Nat.reduceAdd]; exact rfl) ?hs1 ?ht1
      case hs1 =>
        simp only [List.take_succ_cons, List.take_zero, softs]
        refine ⟨?_, ?_, ?_, ?_, ?_, ?_, ?_, ?_, ?_, ?_, ?_, ?_, ?_, ?_, ?_, ?_, trivial⟩
        · intro V w hw hd
          simp [phi, Region.binds, cst] at hd
          try simp only [hd]
          first
            | (refine soft_const rfl ?_; go_simp; done)
            | (refine soft_const rfl ?_; go_simp; exact rfl)
            | (exact soft_cell rfl hw _ _ rfl _ rfl _ _ z0 Try.underlying9 rfl)
            | (exact soft_cell rfl hw _ _ rfl _ rfl _ _ z1 Try.underlying38 rfl)
            | (exact soft_skip rfl)
        · intro V w hw hd
          simp [phi, Region.binds, cst] at hd
          try simp only [hd]
          first
            | (refine soft_const rfl ?_; go_simp; done)
            | (refine soft_const rfl ?_; go_simp; exact rfl)
            | (exact soft_cell rfl hw _ _ rfl _ rfl _ _ z0 Try.underlying9 rfl)
            | (exact soft_cell rfl hw _ _ rfl _ rfl _ _ z1 Try.underlying38 rfl)
            | (exact soft_skip rfl)
        · intro V w hw hd
          simp [phi, Region.binds, cst] at hd
          try simp only [hd]
          first
            | (refine soft_const rfl ?_; go_simp; done)
            | (refine soft_const rfl ?_; go_simp; exact rfl)
            | (exact soft_cell rfl hw _ _ rfl _ rfl _ _ z0 Try.underlying9 rfl)
            | (exact soft_cell rfl hw _ _ rfl _ rfl _ _ z1 Try.underlying38 rfl)
            | (exact soft_skip rfl)
        · intro V w hw hd
          simp [phi, Region.binds, cst] at hd
          try simp only [hd]
          first
            | (refine soft_const rfl ?_; go_simp; done)
            | (refine soft_const rfl ?_; go_simp; exact rfl)
            | (exact soft_cell rfl hw _ _ rfl _ rfl _ _ z0 Try.underlying9 rfl)
            | (exact soft_cell rfl hw _ _ rfl _ rfl _ _ z1 Try.underlying38 rfl)
            | (exact soft_skip rfl)
        · intro V w hw hd
          simp [phi, Region.binds, cst] at hd
          try simp only [hd]
          first
            | (refine soft_const rfl ?_; go_simp; done)
            | (refine soft_const rfl ?_; go_simp; exact rfl)
            | (exact soft_cell rfl hw _ _ rfl _ rfl _ _ z0 Try.underlying9 rfl)
            | (exact soft_cell rfl hw _ _ rfl _ rfl _ _ z1 Try.underlying38 rfl)
            | (exact soft_skip rfl)
        · intro V w hw hd
          simp [phi, Region.binds, cst] at hd
          try simp only [hd]
          first
            | (refine soft_const rfl ?_; go_simp; done)
            | (refine soft_const rfl ?_; go_simp; exact rfl)
            | (exact soft_cell rfl hw _ _ rfl _ rfl _ _ z0 Try.underlying9 rfl)
            | (exact soft_cell rfl hw _ _ rfl _ rfl _ _ z1 Try.underlying38 rfl)
            | (exact soft_skip rfl)
        · intro V w hw hd
          simp [phi, Region.binds, cst] at hd
          try simp only [hd]
          first
            | (refine soft_const rfl ?_; go_simp; done)
            | (refine soft_const rfl ?_; go_simp; exact rfl)
            | (exact soft_cell rfl hw _ _ rfl _ rfl _ _ z0 Try.underlying9 rfl)
            | (exact soft_cell rfl hw _ _ rfl _ rfl _ _ z1 Try.underlying38 rfl)
            | (exact soft_skip rfl)
        · intro V w hw hd
          simp [phi, Region.binds, cst] at hd
          try simp only [hd]
          first
            | (refine soft_const rfl ?_; go_simp; done)
            | (refine soft_const rfl ?_; go_simp; exact rfl)
            | (exact soft_cell rfl hw _ _ rfl _ rfl _ _ z0 Try.underlying9 rfl)
            | (exact soft_cell rfl hw _ _ rfl _ rfl _ _ z1 Try.underlying38 rfl)
            | (exact soft_skip rfl)
        · intro V w hw hd
          simp [phi, Region.binds, cst] at hd
          try simp only [hd]
          first
            | (refine soft_const rfl ?_; go_simp; done)
            | (refine soft_const rfl ?_; go_simp; exact rfl)
            | (exact soft_cell rfl hw _ _ rfl _ rfl _ _ z0 Try.underlying9 rfl)
            | (exact soft_cell rfl hw _ _ rfl _ rfl _ _ z1 Try.underlying38 rfl)
            | (exact soft_skip rfl)
        · intro V w hw hd
          simp [phi, Region.binds, cst] at hd
          try simp only [hd]
          first
            | (refine soft_const rfl ?_; go_simp; done)
            | (refine soft_const rfl ?_; go_simp; exact rfl)
            | (exact soft_cell rfl hw _ _ rfl _ rfl _ _ z0 Try.underlying9 rfl)
            | (exact soft_cell rfl hw _ _ rfl _ rfl _ _ z1 Try.underlying38 rfl)
            | (exact soft_skip rfl)
        · intro V w hw hd
          simp [phi, Region.binds, cst] at hd
          try simp only [hd]
          refine soft_call rfl _ _ (by go_simp; try exact ⟨rfl, rfl⟩) ((kF _ hw).mono fun e w' ⟨v, he, _, g⟩ => ⟨_, he, g, v, rfl⟩)
        · intro V w hw hd
          simp [phi, Region.binds, cst] at hd
          try simp only [hd]
          obtain ⟨u, hu⟩ := hd
          simp only [hu]
          refine soft_made (v := .tuple #[u, .bool FO]) rfl (by go_simp; done) (Chg.refl _ _) ⟨u, rfl⟩
        · intro V w hw hd
          simp [phi, Region.binds, cst] at hd
          try simp only [hd]
          obtain ⟨u, hu⟩ := hd
          simp only [hu]
          refine soft_made (v := u) rfl (by go_simp; done) (Chg.refl _ _) trivial
        · intro V w hw hd
          simp [phi, Region.binds, cst] at hd
          try simp only [hd]
          obtain ⟨u, hu⟩ := hd
          simp only [hu]
          refine soft_made (v := .bool FO) rfl (by go_simp; done) (Chg.refl _ _) rfl
        · intro V w hw hd
          simp [phi, Region.binds, cst] at hd
          try simp only [hd]
          refine soft_made rfl (by go_simp; exact rfl) (Chg.refl _ _) trivial
        · intro V w hw hd
          simp [phi, Region.binds, cst] at hd
          try simp only [hd]
          first
            | (refine soft_const rfl ?_; go_simp; done)
            | (refine soft_const rfl ?_; go_simp; exact rfl)
            | (exact soft_cell rfl hw _ _ rfl _ rfl _ _ z0 Try.underlying9 rfl)
            | (exact soft_cell rfl hw _ _ rfl _ rfl _ _ z1 Try.underlying38 rfl)
            | (exact soft_skip rfl)
      intro V wg g3 hk3
      have h15 := hk3 15 (by decide)
      simp [phi, cst] at h15
      simp only [h15, List.drop_succ_cons, List.drop_zero]
      generalize V 14 = q14
      clear hk3 h15
      replace hc := hc.t0 g3
      replace lx := lx.tr0 g3
      replace oo := own_tr oo g3 (by simp)
      replace z0 := g3.cellv z0 (by simp)
      replace z1 := g3.cellv z1 (by simp)
      replace zsz := Nat.le_trans zsz g3.size
      clear g3 kF
      have hFl : F.length ≤ 20 := by
        have h := congrArg List.length hF
        rw [List.length_map] at h
        have h2 := logsB_len (A.take k)
        rw [List.length_take] at h2
        omega
      have kX := fun w' (l : LogAt w' px px vx F) (g : Chg [] w w') => loghash_ok w' px px vx F l (Nat.le_of_lt l.lt) (by omega) s _ D (oD.tr0 g) (by unfold maxLen; omega) hDl (by omega)
      have kH := fun w' (g : Chg [] w w') => taghash_ok w' s _ D (oD.tr0 g) (by unfold maxLen; omega) hDl (by omega)
      have hOl : (ownR (A.take k)).length ≤ 20 := Nat.le_trans (List.length_filter_le _ _) (by rw [List.length_take]; omega)
      have hSh2 := hSh.add (s := s) hf2
      have hl32 : (hashV s (D.map (·.2))).length = 32 := hashV_len _ _
      have hvx := own_from lx.rows.1
      generalize hashV s (D.map (·.2)) = HV at *
      generalize logB s (D.map (·.2)) = LB at *
      generalize ownR (A.take k) = O at *
      have EN := fun w => neq_dv (P := Try.prog) w 25 5 32 Try.underlying25 Try.underlying5 (fun w => by go_simp) HV HV hl32 hl32
      have GN := fun w x y => eqg_dv (P := Try.prog) w .neq 25 x y HV HV (by kernel_rfl)
      unfold dv at EN GN
      simp only [bne_self_eq_false] at EN
      replace hF := Lib.hid hF
      replace hok := Lib.hid hok
      go_wp2_with fail
      refine' region_softW (fun m => match m with | 0 => px :: vx.ownBlock.toList | _ => []) (fun m wx => Chg [] w wx ∧ wx.cell? ⟨b, off + k * 2, none⟩ = some (.string (bstr s)) ∧ wx.cell? ⟨b, off + k * 2 + 1, none⟩ = some (.slice ap D.length cp) ∧ wx.ownsRow px 53 2 (.slice ao O.length co) O.length (O.flatMap rowc) ∧ w2.heap.size ≤ wx.heap.size ∧ ∃ v' F', LogAt wx px px v' F' ∧ F'.map (·.2) = (if m = 0 then F.map (·.2) else F.map (·.2) ++ LB) ∧ (m = 0 → v' = vx ∧ F' = F)) 24 [cst (.pointer (some ⟨px, 0, none⟩)), cst (.slice (some ⟨b, off, none⟩) A.length ca), cst (.int .i64 k), cst _, cst _, cst (.string (bstr s)), cst (.slice (some ⟨b, off, none⟩) A.length ca), cst (.int .i64 k), cst _, cst _, cst (.slice ap D.length cp), cst (.agg (bcs HV).toArray), cst (.slice (some ⟨b, off, none⟩) A.length ca), cst (.int .i64 k), cst _, cst _, cst (.string (bstr s)), cst (.slice (some ⟨b, off, none⟩) A.length ca), cst (.int .i64 k), cst _, cst _, cst (.slice ap D.length cp), cst (.agg (bcs HV).toArray), cst (.bool false)] [false, false, false, false, false, false, false, false, false, false, false, true, false, false, false, false, false, false, false, false, false, false, false, false] [99, 99, 99, 99, 99, 99, 99, 99, 99, 99, 99, 99, 99, 99, 99, 99, 99, 99, 99, 99, 99, 99, 99, 99] rfl rfl rfl (by kernel_rfl) (by kernel_rfl) (by kernel_rfl) (by kernel_rfl) (by intro j w w' ⟨h1, h2, h3, h4, h7, v', F', h5, h6⟩ g; exact ⟨h1.t0 g, g.cellv h2 (by simp), g.cellv h3 (by simp), own_tr h4 g (by simp), Nat.le_trans h7 g.size, v', F', h5.tr0 g, h6⟩) (⟨hc, z0, z1, oo, by omega, vx, F, lx, rfl, fun _ => ⟨rfl, rfl⟩⟩) ⟨staysW_cst _ _, ⟨staysW_cst _ _, ⟨staysW_cst _ _, ⟨staysW_cst _ _, ⟨staysW_cst _ _, ⟨staysW_cst _ _, ⟨staysW_cst _ _, ⟨staysW_cst _ _, ⟨staysW_cst _ _, ⟨staysW_cst _ _, ⟨staysW_cst _ _, ⟨staysW_cstW _ _ _, ⟨staysW_cst _ _, ⟨staysW_cst _ _, ⟨staysW_cst _ _, ⟨staysW_cst _ _, ⟨staysW_cst _ _, ⟨staysW_cst _ _, ⟨staysW_cst _ _, ⟨staysW_cst _ _, ⟨staysW_cst _ _, ⟨staysW_cst _ _, ⟨staysW_cst _ _, ⟨staysW_cst _ _, trivial⟩⟩⟩⟩⟩⟩⟩⟩⟩⟩⟩⟩⟩⟩⟩⟩⟩⟩⟩⟩⟩⟩⟩⟩ _ (fun V => by simp only [putAll, Act.put, List.take_succ_cons, List.take_zero, List.setIfInBounds_toArray, List.set_cons_zero, List.set_cons_succ, Nat.reduceAdd]; exact rfl) ?hs2 ?ht2
      case hs2 =>
        simp only [List.take_succ_cons, List.take_zero, softsW]
        refine ⟨?_, ?_, ?_, ?_, ?_, ?_, ?_, ?_, ?_, ?_, ?_, ?_, ?_, ?_, ?_, ?_, ?_, ?_, ?_, ?_, ?_, ?_, ?_, ?_, trivial⟩
        · intro V wx hi hd
          simp [phi, Region.binds, cst] at hd
          try simp only [hd]
          first
            | (refine soft_const rfl ?_; go_simp; done)
            | (refine soft_const rfl ?_; go_simp; exact rfl)
            | (exact soft_cellN rfl _ _ rfl _ rfl _ _ ((by obtain ⟨j, _, hi⟩ := hi; exact hi.2.1)) Try.underlying9 rfl)
            | (exact soft_cellN rfl _ _ rfl _ rfl _ _ ((by obtain ⟨j, _, hi⟩ := hi; exact hi.2.2.1)) Try.underlying38 rfl)
            | (exact soft_skip rfl)
        · intro V wx hi hd
          simp [phi, Region.binds, cst] at hd
          try simp only [hd]
          first
            | (refine soft_const rfl ?_; go_simp; done)
            | (refine soft_const rfl ?_; go_simp; exact rfl)
            | (exact soft_cellN rfl _ _ rfl _ rfl _ _ ((by obtain ⟨j, _, hi⟩ := hi; exact hi.2.1)) Try.underlying9 rfl)
            | (exact soft_cellN rfl _ _ rfl _ rfl _ _ ((by obtain ⟨j, _, hi⟩ := hi; exact hi.2.2.1)) Try.underlying38 rfl)
            | (exact soft_skip rfl)
        · intro V wx hi hd
          simp [phi, Region.binds, cst] at hd
          try simp only [hd]
          first
            | (refine soft_const rfl ?_; go_simp; done)
            | (refine soft_const rfl ?_; go_simp; exact rfl)
            | (exact soft_cellN rfl _ _ rfl _ rfl _ _ ((by obtain ⟨j, _, hi⟩ := hi; exact hi.2.1)) Try.underlying9 rfl)
            | (exact soft_cellN rfl _ _ rfl _ rfl _ _ ((by obtain ⟨j, _, hi⟩ := hi; exact hi.2.2.1)) Try.underlying38 rfl)
            | (exact soft_skip rfl)
        · intro V wx hi hd
          simp [phi, Region.binds, cst] at hd
          try simp only [hd]
          first
            | (refine soft_const rfl ?_; go_simp; done)
            | (refine soft_const rfl ?_; go_simp; exact rfl)
            | (exact soft_cellN rfl _ _ rfl _ rfl _ _ ((by obtain ⟨j, _, hi⟩ := hi; exact hi.2.1)) Try.underlying9 rfl)
            | (exact soft_cellN rfl _ _ rfl _ rfl _ _ ((by obtain ⟨j, _, hi⟩ := hi; exact hi.2.2.1)) Try.underlying38 rfl)
            | (exact soft_skip rfl)
        · intro V wx hi hd
          simp [phi, Region.binds, cst] at hd
          try simp only [hd]
          first
            | (refine soft_const rfl ?_; go_simp; done)
            | (refine soft_const rfl ?_; go_simp; exact rfl)
            | (exact soft_cellN rfl _ _ rfl _ rfl _ _ ((by obtain ⟨j, _, hi⟩ := hi; exact hi.2.1)) Try.underlying9 rfl)
            | (exact soft_cellN rfl _ _ rfl _ rfl _ _ ((by obtain ⟨j, _, hi⟩ := hi; exact hi.2.2.1)) Try.underlying38 rfl)
            | (exact soft_skip rfl)
        · intro V wx hi hd
          simp [phi, Region.binds, cst] at hd
          try simp only [hd]
          first
            | (refine soft_const rfl ?_; go_simp; done)
            | (refine soft_const rfl ?_; go_simp; exact rfl)
            | (exact soft_cellN rfl _ _ rfl _ rfl _ _ ((by obtain ⟨j, _, hi⟩ := hi; exact hi.2.1)) Try.underlying9 rfl)
            | (exact soft_cellN rfl _ _ rfl _ rfl _ _ ((by obtain ⟨j, _, hi⟩ := hi; exact hi.2.2.1)) Try.underlying38 rfl)
            | (exact soft_skip rfl)
        · intro V wx hi hd
          simp [phi, Region.binds, cst] at hd
          try simp only [hd]
          first
            | (refine soft_const rfl ?_; go_simp; done)
            | (refine soft_const rfl ?_; go_simp; exact rfl)
            | (exact soft_cellN rfl _ _ rfl _ rfl _ _ ((by obtain ⟨j, _, hi⟩ := hi; exact hi.2.1)) Try.underlying9 rfl)
            | (exact soft_cellN rfl _ _ rfl _ rfl _ _ ((by obtain ⟨j, _, hi⟩ := hi; exact hi.2.2.1)) Try.underlying38 rfl)
            | (exact soft_skip rfl)
        · intro V wx hi hd
          simp [phi, Region.binds, cst] at hd
          try simp only [hd]
          first
            | (refine soft_const rfl ?_; go_simp; done)
            | (refine soft_const rfl ?_; go_simp; exact rfl)
            | (exact soft_cellN rfl _ _ rfl _ rfl _ _ ((by obtain ⟨j, _, hi⟩ := hi; exact hi.2.1)) Try.underlying9 rfl)
            | (exact soft_cellN rfl _ _ rfl _ rfl _ _ ((by obtain ⟨j, _, hi⟩ := hi; exact hi.2.2.1)) Try.underlying38 rfl)
            | (exact soft_skip rfl)
        · intro V wx hi hd
          simp [phi, Region.binds, cst] at hd
          try simp only [hd]
          first
            | (refine soft_const rfl ?_; go_simp; done)
            | (refine soft_const rfl ?_; go_simp; exact rfl)
            | (exact soft_cellN rfl _ _ rfl _ rfl _ _ ((by obtain ⟨j, _, hi⟩ := hi; exact hi.2.1)) Try.underlying9 rfl)
            | (exact soft_cellN rfl _ _ rfl _ rfl _ _ ((by obtain ⟨j, _, hi⟩ := hi; exact hi.2.2.1)) Try.underlying38 rfl)
            | (exact soft_skip rfl)
        · intro V wx hi hd
          simp [phi, Region.binds, cst] at hd
          try simp only [hd]
          first
            | (refine soft_const rfl ?_; go_simp; done)
            | (refine soft_const rfl ?_; go_simp; exact rfl)
            | (exact soft_cellN rfl _ _ rfl _ rfl _ _ ((by obtain ⟨j, _, hi⟩ := hi; exact hi.2.1)) Try.underlying9 rfl)
            | (exact soft_cellN rfl _ _ rfl _ rfl _ _ ((by obtain ⟨j, _, hi⟩ := hi; exact hi.2.2.1)) Try.underlying38 rfl)
            | (exact soft_skip rfl)
        · intro V wx hi hd
          simp [phi, Region.binds, cst] at hd
          try simp only [hd]
          first
            | (refine soft_const rfl ?_; go_simp; done)
            | (refine soft_const rfl ?_; go_simp; exact rfl)
            | (exact soft_cellN rfl _ _ rfl _ rfl _ _ ((by obtain ⟨j, _, hi⟩ := hi; exact hi.2.1)) Try.underlying9 rfl)
            | (exact soft_cellN rfl _ _ rfl _ rfl _ _ ((by obtain ⟨j, _, hi⟩ := hi; exact hi.2.2.1)) Try.underlying38 rfl)
            | (exact soft_skip rfl)
        · intro V wx hi hd
          simp [phi, Region.binds, cst] at hd
          try simp only [hd]
          obtain ⟨i1, i2, i3, i4, i8, v3, F3, i5, i6, i7⟩ := hi
          obtain ⟨rfl, rfl⟩ := i7 (by first | rfl | trivial)
          refine wstep_call rfl _ _ (by go_simp; try exact ⟨rfl, rfl⟩) ((kX _ i5 i1).mono ?_)
          rintro e w' ⟨rfl, v4, F4, l4, hF4, g4, _⟩
          have hS : ∀ j ∈ px :: v3.ownBlock.toList, w.heap.size ≤ j := by
            intro j hj
            rcases List.mem_cons.1 hj with rfl | hj
            · exact zw
            · exact Nat.le_trans zw (hvx j (by simpa using hj))
          have hb' : b ∉ px :: v3.ownBlock.toList := fun hm => by have := hS _ hm; omega
          exact ⟨_, rfl, g4, ⟨i1.trans g4 fun j hj => .inr (hS j hj), g4.cellv i2 hb', g4.cellv i3 hb', own_log i4 i5 g4 (by decide) (by decide), Nat.le_trans i8 g4.size, v4, F4, l4, by rw [hF4]; rfl, fun h => absurd h (by decide)⟩, rfl⟩
        · intro V wx hi hd
          simp [phi, Region.binds, cst] at hd
          try simp only [hd]
          first
            | (refine soft_const rfl ?_; go_simp; done)
            | (refine soft_const rfl ?_; go_simp; exact rfl)
            | (exact soft_cellN rfl _ _ rfl _ rfl _ _ ((by obtain ⟨j, _, hi⟩ := hi; exact hi.2.1)) Try.underlying9 rfl)
            | (exact soft_cellN rfl _ _ rfl _ rfl _ _ ((by obtain ⟨j, _, hi⟩ := hi; exact hi.2.2.1)) Try.underlying38 rfl)
            | (exact soft_skip rfl)
        · intro V wx hi hd
          simp [phi, Region.binds, cst] at hd
          try simp only [hd]
          first
            | (refine soft_const rfl ?_; go_simp; done)
            | (refine soft_const rfl ?_; go_simp; exact rfl)
            | (exact soft_cellN rfl _ _ rfl _ rfl _ _ ((by obtain ⟨j, _, hi⟩ := hi; exact hi.2.1)) Try.underlying9 rfl)
            | (exact soft_cellN rfl _ _ rfl _ rfl _ _ ((by obtain ⟨j, _, hi⟩ := hi; exact hi.2.2.1)) Try.underlying38 rfl)
            | (exact soft_skip rfl)
        · intro V wx hi hd
          simp [phi, Region.binds, cst] at hd
          try simp only [hd]
          first
            | (refine soft_const rfl ?_; go_simp; done)
            | (refine soft_const rfl ?_; go_simp; exact rfl)
            | (exact soft_cellN rfl _ _ rfl _ rfl _ _ ((by obtain ⟨j, _, hi⟩ := hi; exact hi.2.1)) Try.underlying9 rfl)
            | (exact soft_cellN rfl _ _ rfl _ rfl _ _ ((by obtain ⟨j, _, hi⟩ := hi; exact hi.2.2.1)) Try.underlying38 rfl)
            | (exact soft_skip rfl)
        · intro V wx hi hd
          simp [phi, Region.binds, cst] at hd
          try simp only [hd]
          first
            | (refine soft_const rfl ?_; go_simp; done)
            | (refine soft_const rfl ?_; go_simp; exact rfl)
            | (exact soft_cellN rfl _ _ rfl _ rfl _ _ ((by obtain ⟨j, _, hi⟩ := hi; exact hi.2.1)) Try.underlying9 rfl)
            | (exact soft_cellN rfl _ _ rfl _ rfl _ _ ((by obtain ⟨j, _, hi⟩ := hi; exact hi.2.2.1)) Try.underlying38 rfl)
            | (exact soft_skip rfl)
        · intro V wx hi hd
          simp [phi, Region.binds, cst] at hd
          try simp only [hd]
          first
            | (refine soft_const rfl ?_; go_simp; done)
            | (refine soft_const rfl ?_; go_simp; exact rfl)
            | (exact soft_cellN rfl _ _ rfl _ rfl _ _ ((by obtain ⟨j, _, hi⟩ := hi; exact hi.2.1)) Try.underlying9 rfl)
            | (exact soft_cellN rfl _ _ rfl _ rfl _ _ ((by obtain ⟨j, _, hi⟩ := hi; exact hi.2.2.1)) Try.underlying38 rfl)
            | (exact soft_skip rfl)
        · intro V wx hi hd
          simp [phi, Region.binds, cst] at hd
          try simp only [hd]
          first
            | (refine soft_const rfl ?_; go_simp; done)
            | (refine soft_const rfl ?_; go_simp; exact rfl)
            | (exact soft_cellN rfl _ _ rfl _ rfl _ _ ((by obtain ⟨j, _, hi⟩ := hi; exact hi.2.1)) Try.underlying9 rfl)
            | (exact soft_cellN rfl _ _ rfl _ rfl _ _ ((by obtain ⟨j, _, hi⟩ := hi; exact hi.2.2.1)) Try.underlying38 rfl)
            | (exact soft_skip rfl)
        · intro V wx hi hd
          simp [phi, Region.binds, cst] at hd
          try simp only [hd]
          first
            | (refine soft_const rfl ?_; go_simp; done)
            | (refine soft_const rfl ?_; go_simp; exact rfl)
            | (exact soft_cellN rfl _ _ rfl _ rfl _ _ ((by obtain ⟨j, _, hi⟩ := hi; exact hi.2.1)) Try.underlying9 rfl)
            | (exact soft_cellN rfl _ _ rfl _ rfl _ _ ((by obtain ⟨j, _, hi⟩ := hi; exact hi.2.2.1)) Try.underlying38 rfl)
            | (exact soft_skip rfl)
        · intro V wx hi hd
          simp [phi, Region.binds, cst] at hd
          try simp only [hd]
          first
            | (refine soft_const rfl ?_; go_simp; done)
            | (refine soft_const rfl ?_; go_simp; exact rfl)
            | (exact soft_cellN rfl _ _ rfl _ rfl _ _ ((by obtain ⟨j, _, hi⟩ := hi; exact hi.2.1)) Try.underlying9 rfl)
            | (exact soft_cellN rfl _ _ rfl _ rfl _ _ ((by obtain ⟨j, _, hi⟩ := hi; exact hi.2.2.1)) Try.underlying38 rfl)
            | (exact soft_skip rfl)
        · intro V wx hi hd
          simp [phi, Region.binds, cst] at hd
          try simp only [hd]
          first
            | (refine soft_const rfl ?_; go_simp; done)
            | (refine soft_const rfl ?_; go_simp; exact rfl)
            | (exact soft_cellN rfl _ _ rfl _ rfl _ _ ((by obtain ⟨j, _, hi⟩ := hi; exact hi.2.1)) Try.underlying9 rfl)
            | (exact soft_cellN rfl _ _ rfl _ rfl _ _ ((by obtain ⟨j, _, hi⟩ := hi; exact hi.2.2.1)) Try.underlying38 rfl)
            | (exact soft_skip rfl)
        · intro V wx hi hd
          simp [phi, Region.binds, cst] at hd
          try simp only [hd]
          first
            | (refine soft_const rfl ?_; go_simp; done)
            | (refine soft_const rfl ?_; go_simp; exact rfl)
            | (exact soft_cellN rfl _ _ rfl _ rfl _ _ ((by obtain ⟨j, _, hi⟩ := hi; exact hi.2.1)) Try.underlying9 rfl)
            | (exact soft_cellN rfl _ _ rfl _ rfl _ _ ((by obtain ⟨j, _, hi⟩ := hi; exact hi.2.2.1)) Try.underlying38 rfl)
            | (exact soft_skip rfl)
        · intro V wx hi hd
          simp [phi, Region.binds, cst] at hd
          try simp only [hd]
          refine soft_callC rfl _ _ (by go_simp; try exact ⟨rfl, rfl⟩) (kH _ (by obtain ⟨j, _, hi⟩ := hi; exact hi.1))
        · intro V wx hi hd
          simp [phi, Region.binds, cst] at hd
          try simp only [hd]
          first
            | (refine soft_const rfl ?_; go_simp; done)
            | (refine soft_const rfl ?_; go_simp; exact rfl)
            | (exact soft_cellN rfl _ _ rfl _ rfl _ _ ((by obtain ⟨j, _, hi⟩ := hi; exact hi.2.1)) Try.underlying9 rfl)
            | (exact soft_cellN rfl _ _ rfl _ rfl _ _ ((by obtain ⟨j, _, hi⟩ := hi; exact hi.2.2.1)) Try.underlying38 rfl)
            | (exact soft_skip rfl)
      intro V wh hi hk4
      replace hi : Chg [] w wh ∧ wh.cell? ⟨b, off + k * 2, none⟩ = some (.string (bstr s)) ∧ wh.cell? ⟨b, off + k * 2 + 1, none⟩ = some (.slice ap D.length cp) ∧ wh.ownsRow px 53 2 (.slice ao O.length co) O.length (O.flatMap rowc) ∧ w2.heap.size ≤ wh.heap.size ∧ ∃ v' F', LogAt wh px px v' F' ∧ F'.map (·.2) = F.map (·.2) ++ LB ∧ _ := hi
      clear z0 z1 oo lx hc
      obtain ⟨hc, z0, z1, oo, hw4, v4, F4, lx, hF4, _⟩ := hi
      have h23 := hk4 23 (by decide)
      simp [phi, cst] at h23
      simp only [h23, List.drop_succ_cons, List.drop_zero]
      generalize V 0 = p0
      generalize V 1 = p1
      generalize V 2 = p2
      generalize V 3 = p3
      generalize V 4 = p4
      generalize V 5 = p5
      generalize V 6 = p6
      generalize V 7 = p7
      generalize V 8 = p8
      generalize V 9 = p9
      generalize V 10 = p10
      generalize V 11 = p11
      generalize V 12 = p12
      generalize V 13 = p13
      generalize V 14 = p14
      generalize V 15 = p15
      generalize V 16 = p16
      generalize V 17 = p17
      generalize V 18 = p18
      generalize V 19 = p19
      generalize V 20 = p20
      generalize V 21 = p21
      generalize V 22 = p22
      clear hk4 h23 V kX kH EN GN
      have hSh4 : ShortB (F4.map (·.2)) := by rw [hF4]; exact hSh2
      replace hF4 : F4.map (·.2) = logsB (A.take (k + 1)) := by rw [hF4, hF.out, hnx.out]
      cases FO
      · go_wp2
        go_roundw
        case rel => exact ⟨k + 1, v4, F4, by omega, by go_num, lx, hF4, hSh4, by rw [hox.out]; simpa using oo, hw4, hc⟩
        case measure => simp [intOf]; omega
      · go_wp2_with (at_builtin; go_must (refine wpList_append_sl _ rfl (.tmp 92) (.tmp 97) 49 53 2 40 rfl el_rowR px _ _ _ rfl (own_tr oo (Chg.alloc [] wh _) (by simp)) _ 1 [.string (bstr s), .slice ap D.length cp] rfl (Sl.lit wh #[.string (bstr s), .slice ap D.length cp] _ 1 (by decide)) rfl (by intro u hu; rcases List.mem_cons.1 hu with rfl | hu; rfl; rw [List.mem_singleton.1 hu]; rfl) (by unfold big; omega) (by simp; omega) ?_))
        intro v6 w6 o6 g6
        have ga := Chg.alloc [] wh (.cells #[.string (bstr s), .slice ap D.length cp] 53)
        have oa := own_tr oo ga (by simp)
        have lx6 := (lx.tr0 ga).row oa (Chg.grown g6) (by decide) (by decide) (by decide)
        have hc6 := (hc.t0 ga).grownOwn g6 oa zw
        have hz6 := Nat.le_trans ga.size (Chg.grown g6).size
        clear lx oo hc z0 z1
        go_wp2
        go_roundw
        case rel => exact ⟨k + 1, v4, F4, by omega, by go_num, lx6, hF4, hSh4, by rw [hox.out]; simpa [rowc] using o6, by omega, hc6⟩
        case measure => simp [intOf]; omega

    · skip
      have hkl : k = A.length := by omega
      rw [hkl, List.take_of_length_le (Nat.le_refl _)] at hF oo
      rw [hkl, List.take_of_length_le (Nat.le_refl _)]
      have hOl : (ownR A).length ≤ 20 := Nat.le_trans (List.length_filter_le _ _) (by omega)
      have hmem : ∀ r ∈ ownR A, okR w r ∧ frameOk r.1 (partsR r) = true := fun r hr => ⟨okA r (List.mem_filter.1 hr).1, (List.mem_filter.1 hr).2⟩
      rw [logsB_own] at hF
      have hFl : F.length = (ownR A).length := by have h := congrArg List.length hF; simpa using h
      have hlen : ∀ r ∈ ownR A, (frameB r.1 (partsR r)).length ≤ 10000 := fun r hr => hSh _ (by rw [hF]; exact List.mem_map.2 ⟨r, hr, rfl⟩)
      have kF := frames_ok wr px px _ F lx (by omega) hSh.rows
      have sO := Sl.ofOwns oo
      clear oo hSh lx okA
      generalize ownR A = O at *
      replace hF := Lib.hid hF
      clear hkl
      go_wp2_with fail
      refine kF.mono ?_
      rintro e wf ⟨v', rfl, D, oD, hDF, gF⟩
      have hF2 := hDF.trans hF.out
      have hDl : D.length = O.length := by simpa using congrArg List.length hF2
      obtain ⟨aD, cD, rfl⟩ := oD.shape
      replace hc := hc.t0 gF
      replace sO := sO.tr0 gF
      have sD := oD.sl
      replace hF2 := Lib.hid hF2
      have hOD : (O.length : Int) = (D.length : Int) := by omega
      rw [← hDl] at hOl
      clear oD hF hDF kF hsz hFl
      rw [← hDl] at sO
      rw [← hDl]
      replace hDl := Lib.hid hDl
      clear hOD
      go_wp2_with fail
      go_loopw [11] (fun iv wq => ∃ i : Nat, i ≤ D.length ∧ iv = .int .i64 i ∧ Chg [] wf wq) (fun iv _ => D.length - (intOf iv).toNat)
      case atStart => exact ⟨0, Nat.zero_le _, rfl, Chg.refl _ _⟩
      case round =>
        obtain ⟨i, hi, rfl, hq⟩ := hrel
        by_cases hli : i < D.length
        · have hli' : i < O.length := by rw [← hDl.out]; exact hli
          have hid : (i : Int) < D.length := by omega
          have hi0 : (0 : Int) ≤ i := by omega
          obtain ⟨b1, o1, c1, e, hb1, x1, s1⟩ := sD.cell i hli
          cases e
          rw [hDl.out] at sO
          obtain ⟨b2, o2, c2, e2, hb2, y0, y1⟩ := row_cells sO i hli'
          cases e2
          have hfi : D[i].2 = frameB O[i].1 (partsR O[i]) := by
            have h := List.getElem_of_eq hF2.out (i := i) (by simpa using hli)
            simpa using h
          obtain ⟨⟨or1, or2, or3, or4⟩, hok⟩ := hmem _ (List.getElem_mem hli')
          have hle := hlen _ (List.getElem_mem hli')
          have hps := parseT_frame hok hle
          have hh : hashV O[i].1 (partsR O[i]) = sumB D[i].2 := by unfold hashV; rw [if_pos hok, hfi]
          rw [← hfi] at hle hps
          have hsm : O[i].1.length ≤ 10000 ∧ (partsR O[i]).length ≤ 10000 ∧ sumL (partsR O[i]) ≤ 10000 := by
            rw [hfi, frame_len, flatB_len] at hle
            omega
          unfold partsR at hps hh hsm
          clear hok hfi
          obtain ⟨ax, cx, ex⟩ := s1.shape
          rw [ex] at x1 s1
          obtain ⟨ap, cp, ep⟩ := or2.1.shape
          rw [ep] at y1 or2
          generalize D[i].2 = fr at *
          generalize O[i].1 = s at *
          generalize O[i].2.2 = E at *
          clear ex ep
          have kP := parse_ok wr _ fr (s1.tr0 hq) (by omega)
          rw [hps] at kP
          dsimp only at kP
          have hd32 : (sumB fr).length = 32 := sumB_len fr
          have EN := fun w => neq_dv (P := Try.prog) w 25 5 32 Try.underlying25 Try.underlying5 (fun w => by go_simp) (sumB fr) (sumB fr) hd32 hd32
          have GN := fun w x y => eqg_dv (P := Try.prog) w .neq 25 x y (sumB fr) (sumB fr) (by kernel_rfl)
          unfold dv at EN GN
          simp only [bne_self_eq_false] at EN
          have z1 := hq.cellv x1 (by simp)
          go_wp2_with fail
          refine kP.mono ?_
          rintro e w1 ⟨v1, rfl, D1, oD1, hD1, g1⟩
          obtain ⟨a1, c1', rfl⟩ := oD1.shape
          have sD1 := oD1.sl
          have hD1l : D1.length ≤ 10000 := by
            have h := congrArg List.length hD1
            simp only [List.length_map] at h hsm
            omega
          have kS := fun wx (g : Chg [] w1 wx) => rsameB_ok wx _ _ D1 E (sD1.tr0 g) (or2.tr0 (((hc.t0 hq).t0 g1).t0 g)) (by unfold maxLen; omega)
          have kM := fun wx (g : Chg [] w1 wx) => sum_ok wx _ fr (s1.tr0 ((hq.t0 g1).t0 g)) (by omega)
          have kT := fun wx (g : Chg [] w1 wx) => taghash_ok wx s _ D1 (sD1.tr0 g) (by unfold maxLen; omega) (by unfold maxLen; omega) (by rw [hD1]; omega)
          rw [hD1] at kS kT
          rw [hh] at kT
          simp only [sameB, decide_true] at kS
          generalize sumB fr = H at *
          clear hps hh hD1 kP oD1
          have t0 := (hq.t0 g1).cellv y0 (by simp)
          have t1 := (hq.t0 g1).cellv y1 (by simp)
          have t2 := g1.cellv z1 (by simp)
          go_wp2_with fail
          refine (kS w1 (Chg.refl _ _)).mono ?_
          rintro e w3 ⟨rfl, g3⟩
          have u2 := g3.cellv t2 (by simp)
          go_wp2_with fail
          refine (kM w3 g3).mono ?_
          rintro e w4 ⟨rfl, g4⟩
          go_wp2_with fail
          refine (kT w4 (g3.t0 g4)).mono ?_
          rintro e w5 ⟨rfl, g5⟩
          go_wp2
          go_roundw
          case rel => exact ⟨i + 1, by omega, by go_num, (((hq.t0 g1).t0 g3).t0 g4).t0 g5⟩
          case measure => simp [intOf]; omega
        · go_wp2
          go_ret
          exact ⟨rfl, hc.t0 hq⟩

theorem tagMany_run (w : World) (va : Value) (A : List RowR) (hA : Sl w va A.length (A.flatMap rowc)) (okA : ∀ x ∈ A, okR w x) (_ : A.length * 40 ≤ 140737488351232) :
    Calls Try.prog 13 #[va] w fun e w' => e = .returned (.bool true) ∧ Chg [] w w' := many2_run w va A hA okA
end Go.Proofs.Ytfodlkofjmbolaa
