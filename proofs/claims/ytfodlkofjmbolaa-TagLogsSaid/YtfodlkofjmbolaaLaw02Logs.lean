/-
  TagLogs: the walk.
-/
import Derived.Test.YtfodlkofjmbolaaLaw02Many
namespace Go.Proofs.Ytfodlkofjmbolaa
set_option linter.unusedSimpArgs false
set_option linter.unusedVariables false
open Go.RowKit

theorem exec_alloc_z {P : Program} {o : Oper} {a : Act} {w : World} (t : TypeId) (ho : o.op = .alloc t) (z : Value) (hz : (P.info? t).map (·.zero) = some (some z)) :
    (execOp a.eval o).run P w = .ok (.value (.pointer (some ⟨w.heap.size, 0, none⟩))) (w.alloc (.cells z.cells t)) := by
  cases hq : P.info? t with
  | none => simp [hq] at hz
  | some i =>
    have hi : i.zero = some z := by simpa [hq] using hz
    unfold execOp
    simp [ho, Sem.run_bind, Instr.alloc, newVar, newRow, run_newObj_alloc, Sem.run_pure, Result.andThen, zeroValue, typeInfo, hq, hi]
/-- A block of 32 bytes, newer than some size. -/
def New32 (B : Nat) (v : Value) (w : World) : Prop := ∃ q, v = .pointer (some ⟨q, 0, none⟩) ∧ B ≤ q ∧ w.heap[q]? = some (.cells (bcs (List.replicate 32 0)).toArray 25 (0, 0))
theorem New32.tr {B : Nat} {v : Value} {w w' : World} {S : List Nat} (h : New32 B v w) (g : Chg S w w') (hS : ∀ j ∈ S, j < B) : New32 B v w' := by
  obtain ⟨q, h1, h2, h3⟩ := h
  exact ⟨q, h1, h2, g.heap h3 fun hm => by have := hS _ hm; omega⟩
theorem soft_new32 {ops : Array Oper} {Q : Exit → Act → World → Prop} {o : Oper} {a : Act} {w : World} {B : Nat} (hw : Region.wanted o (yielded ops a.tmps) = true) (ho : o.op = .alloc 25) (hB : B ≤ w.heap.size) : softStep Try.prog ops Q o a w (New32 B) := by
  refine soft_made hw (exec_alloc_z 25 ho (.agg (Array.replicate 32 (.int .u8 0))) (by kernel_rfl)) (Chg.alloc [] w _) ⟨_, rfl, hB, ?_⟩
  rw [heap_alloc_new]
  have e : (bcs (List.replicate 32 0)).toArray = Array.replicate 32 (Value.int .u8 0) := by
    apply Array.ext'
    simp [bcs]
  rw [e]; rfl
theorem LogAt.trS {w w' : World} {p bp : Nat} {v : Value} {F : RowsB} {S : List Nat} (h : LogAt w p bp v F) (g : Chg S w w') (h1 : ∀ j ∈ S, j ≠ p ∧ v.ownBlock ≠ some j ∧ ∀ x ∈ F, x.1.ownBlock ≠ some j) : LogAt w' p bp v F :=
  ⟨g.heap h.cell fun hm => (h1 _ hm).1 rfl, ownB_trD h.rows.1 g fun j hj => (h1 j hj).2.1, fun x hx => ownB_trD (h.rows.2 x hx) g fun j hj => (h1 j hj).2.2 x hx⟩
/-- A block of another type is written. -/
theorem LogAt.trT {w w' : World} {p bp q t : Nat} {v : Value} {F : RowsB} {cs : Array Value} {f : Nat × Nat} (h : LogAt w p bp v F) (g : Chg [q] w w') (hq : w.heap[q]? = some (.cells cs t f)) (h1 : 74 ≠ t) (h2 : 22 ≠ t) (h3 : 5 ≠ t) : LogAt w' p bp v F := by
  refine h.trS g fun j hj => ?_
  rw [List.mem_singleton.1 hj]
  refine ⟨fun e => ?_, ownB_not h.rows.1 hq h2, fun x hx => ownB_not (h.rows.2 x hx) hq h3⟩
  subst e
  have hc := h.cell
  rw [hq] at hc
  simp at hc
  exact h1 hc.2.1.symm
/-- Rows of bytes apart from a log, while the log is written. -/
theorem OwnsB.log {w w' : World} {base q bq : Nat} {v u : Value} {D G : RowsB} (h : OwnsB w base v D) (k : LogAt w q bq u G) (g : Chg (q :: u.ownBlock.toList) w w') (hne : ∀ j, u.ownBlock = some j → v.ownBlock ≠ some j) : OwnsB w' base v D := by
  refine ⟨ownB_trD h.1 g fun j hj => ?_, fun x hx => own_log (h.2 x hx) k g (by decide) (by decide)⟩
  rcases List.mem_cons.1 hj with rfl | hj
  · exact ownB_not h.1 k.cell (by decide)
  · exact hne j (by simpa using hj)
/-- A row of bytes of the call's own: how long it is, not what it holds. -/
def Room (w : World) (base : Nat) (v : Value) (n : Nat) : Prop := ∃ a c, v = .slice a n c ∧ (0 < n → ∃ g cs, a = some ⟨g, 0, none⟩ ∧ base ≤ g ∧ w.heap[g]? = some (.cells cs 5 (0, 0)) ∧ n ≤ cs.size)
theorem Room.of {w : World} {base n : Nat} {v : Value} {xs : List Value} (h : w.ownsRow base 5 1 v n xs) : Room w base v n := by
  obtain ⟨_, ⟨rfl, rfl⟩ | ⟨g, cap, cur, rfl, hb, hg, hnc, _, hcs, _⟩⟩ := h
  · exact ⟨_, _, rfl, fun h => absurd h (by omega)⟩
  · exact ⟨_, _, rfl, fun _ => ⟨g, cur, rfl, hb, hg, by omega⟩⟩
theorem Room.set {w : World} {base n g m : Nat} {v u : Value} {cs : Array Value} (h : Room w base v n) (hg : w.heap[g]? = some (.cells cs 5 (0, 0))) : Room (w.setCell ⟨g, m, none⟩ u) base v n := by
  obtain ⟨a, c, rfl, h⟩ := h
  refine ⟨a, c, rfl, fun hn => ?_⟩
  obtain ⟨g', cs', ha, hb, hg', hl⟩ := h hn
  by_cases e : g' = g
  · subst e
    rw [hg] at hg'
    cases hg'
    exact ⟨g', _, ha, hb, heap_setCell_same w g' m cs _ u hg, by simpa using hl⟩
  · exact ⟨g', cs', ha, hb, (Chg.setCell w ⟨g, m, none⟩ u).heap hg' (by simpa using e), hl⟩
theorem Room.tr {w w' : World} {base n : Nat} {v : Value} (h : Room w base v n) (g : Chg [] w w') : Room w' base v n := by
  obtain ⟨a, c, rfl, h⟩ := h
  refine ⟨a, c, rfl, fun hn => ?_⟩
  obtain ⟨k, cs, ha, hb, hg, hl⟩ := h hn
  exact ⟨k, cs, ha, hb, g.heap hg (by simp), hl⟩
theorem cell_of {w : World} {g m : Nat} {cs : Array Value} {t : TypeId} (hg : w.heap[g]? = some (.cells cs t (0, 0))) (hm : m < cs.size) : w.cell? ⟨g, m, none⟩ = some cs[m] := by
  rw [cell_of_row w g m _ _ _ hg]
  simp [hm]
set_option maxHeartbeats 8000000 in
set_option maxRecDepth 100000 in
theorem logs2_run (w : World) (va : Value) (A : List RowR) (hA : Sl w va A.length (A.flatMap rowc)) (okA : ∀ x ∈ A, okR w x) :
    Calls Try.prog 10 #[va] w fun e w' => e = .returned (.bool true) ∧ Chg [] w w' := by
  obtain ⟨aa, ca, rfl⟩ := hA.shape
  have hal := hA.le
  unfold maxLen at hal
  go_enter Try.func10, Try.ntmps10
  go_wp2_with fail
  refine (small02_ok w).mono ?_
  rintro e w1 ⟨rfl, g1⟩
  go_wp2_with fail
  refine (lognew_ok w1 w1.heap.size).mono ?_
  rintro e w2 ⟨rfl, lx, g2⟩
  have zx : w1.heap.size < w2.heap.size := lx.lt
  have zw := g1.size
  have hc := g1.t0 g2
  clear g1 g2
  generalize w1.heap.size = px at *
  by_cases h12 : 20 < A.length
  · go_wp2
    go_ret
    exact ⟨rfl, hc⟩
  go_wp2_with fail
  go_loopw [5, 6] (fun ov iv wr => ∃ (k : Nat) (vx : Value) (F G : RowsB), k ≤ A.length ∧ iv = .int .i64 k ∧ LogAt wr px px vx F ∧ F.map (·.2) = logsB (A.take k) ∧ ShortB (F.map (·.2)) ∧ OwnsB wr px ov G ∧ G.map (·.2) = F.map (·.2) ∧ (∀ j, vx.ownBlock = some j → ov.ownBlock ≠ some j) ∧ w2.heap.size ≤ wr.heap.size ∧ Chg [] w wr) (fun _ iv _ => A.length - (intOf iv).toNat)
  case atStart => exact ⟨0, _, [], [], Nat.zero_le _, rfl, lx, rfl, by unfold ShortB; simp, OwnsB.nil _ _, rfl, by simp [Value.ownBlock], Nat.le_refl _, hc⟩
  case round =>
    clear lx hc
    obtain ⟨k, vx, F, G, hk, rfl, lx, hF, hSh, oG, hGF, hne, hsz, hc⟩ := hrel
    obtain ⟨ao, co, rfl⟩ := oG.shape
    by_cases hlt : k < A.length
    · skip
      obtain ⟨b, off, c, e, hbl, y0, y1⟩ := row_cells hA k hlt
      cases e
      replace y0 := hc.cellv y0 (by simp)
      replace y1 := hc.cellv y1 (by simp)
      obtain ⟨ot, oD, oD2, oD3⟩ := okA _ (List.getElem_mem hlt)
      have hkd : (k : Int) < A.length := by omega
      have hk0 : (0 : Int) ≤ k := by omega
      have hnx := logsB_take A k hlt
      obtain ⟨ap, cp, ep⟩ := oD.1.shape
      rw [ep] at y1 oD
      have hDl : A[k].2.2.length ≤ maxLen := by unfold maxLen; omega
      unfold partsR at hnx
      generalize A[k].1 = s at *
      generalize A[k].2.2 = D at *
      clear ep
      replace hnx := Lib.hid hnx
      go_wp2_with fail
      refine (fewB_ok _ _ D (oD.tr0 hc) hDl (fun x h => Nat.le_trans (oD2 x h) (by decide))).mono ?_
      rintro e wf ⟨rfl, g3⟩
      replace hc := hc.t0 g3
      replace lx := lx.tr0 g3
      replace oG := oG.tr0 g3
      have z0 := g3.cellv y0 (by simp)
      have z1 := g3.cellv y1 (by simp)
      have zsz := g3.size
      clear y0 y1 g3
      cases hf : fewB (D.map (·.2))
      · go_wp2
        go_ret
        exact ⟨rfl, hc⟩
      obtain ⟨hf1, hf2⟩ := fewB_sum hf
      clear hf
      by_cases h3 : 300 < s.length
      · go_wp2
        go_ret
        exact ⟨rfl, hc⟩
      have hFl : F.length ≤ 20 := by
        have h := congrArg List.length hF
        rw [List.length_map] at h
        have h2 := logsB_len (A.take k)
        rw [List.length_take] at h2
        omega
      have kX := fun w' (l : LogAt w' px px vx F) (g : Chg [] w w') => loghash_ok w' px px vx F l (Nat.le_of_lt l.lt) (by omega) s _ D (oD.tr0 g) (by unfold maxLen; omega) hDl (by omega)
      have kR := fun w' (g : Chg [] w w') => rframe_ok w' s _ D (oD.tr0 g) (by unfold maxLen; omega) hDl (by omega)
      have kH := fun w' (g : Chg [] w w') => rhash_ok w' s _ D (oD.tr0 g) (by unfold maxLen; omega) hDl (by omega)
      have hSh2 := hSh.add (s := s) hf2
      have hl32 : (hashV s (D.map (·.2))).length = 32 := hashV_len _ _
      have hvx := own_from lx.rows.1
      have hvl : ∀ j, vx.ownBlock = some j → j < wf.heap.size := fun j hj => (lx.rows.1.lt j hj).2
      have hLBd : logB s (D.map (·.2)) = if frameOk s (D.map (·.2)) = true then [frameV s (D.map (·.2))] else [] := by
        unfold logB frameV
        split <;> rfl
      generalize hashV s (D.map (·.2)) = HV at *
      generalize logB s (D.map (·.2)) = LB at *
      generalize frameOk s (D.map (·.2)) = FO at *
      generalize frameV s (D.map (·.2)) = fv at *
      have EN := fun w => neq_dv (P := Try.prog) w 25 5 32 Try.underlying25 Try.underlying5 (fun w => by go_simp) HV HV hl32 hl32
      have GN := fun w x y => eqg_dv (P := Try.prog) w .neq 25 x y HV HV (by kernel_rfl)
      unfold dv at EN GN
      simp only [bne_self_eq_false] at EN
      replace hF := Lib.hid hF
      replace hGF := Lib.hid hGF
      replace hLBd := Lib.hid hLBd
      have hpf : px < wf.heap.size := lx.lt
      go_wp2_with fail
      refine' region_softW (fun m => match m with | 0 => px :: vx.ownBlock.toList | _ => []) (fun m wx => Chg [] w wx ∧ wx.cell? ⟨b, off + k * 2, none⟩ = some (.string (bstr s)) ∧ wx.cell? ⟨b, off + k * 2 + 1, none⟩ = some (.slice ap D.length cp) ∧ OwnsB wx px (.slice ao G.length co) G ∧ wf.heap.size ≤ wx.heap.size ∧ ∃ v' F', LogAt wx px px v' F' ∧ F'.map (·.2) = (if m = 0 then F.map (·.2) else F.map (·.2) ++ LB) ∧ (∀ j, v'.ownBlock = some j → (Value.slice ao G.length co).ownBlock ≠ some j) ∧ (m = 0 → v' = vx ∧ F' = F)) 13 [cst (.pointer (some ⟨px, 0, none⟩)), cst (.slice (some ⟨b, off, none⟩) A.length ca), cst (.int .i64 k), cst _, cst _, cst (.string (bstr s)), cst (.slice (some ⟨b, off, none⟩) A.length ca), cst (.int .i64 k), cst _, cst _, cst (.slice ap D.length cp), cst (.agg (bcs HV).toArray), New32 wf.heap.size] [false, false, false, false, false, false, false, false, false, false, false, true, false] [99, 99, 99, 99, 99, 99, 99, 99, 99, 99, 99, 99, 99] rfl rfl rfl (by kernel_rfl) (by kernel_rfl) (by kernel_rfl) (by kernel_rfl) (by intro j w w' ⟨h1, h2, h3, h4, h7, v', F', h5, h6⟩ g; exact ⟨h1.t0 g, g.cellv h2 (by simp), g.cellv h3 (by simp), h4.tr0 g, Nat.le_trans h7 g.size, v', F', h5.tr0 g, h6⟩) (⟨hc, z0, z1, oG, Nat.le_refl _, vx, F, lx, rfl, hne, fun _ => ⟨rfl, rfl⟩⟩) ⟨staysW_cst _ _, ⟨staysW_cst _ _, ⟨staysW_cst _ _, ⟨staysW_cst _ _, ⟨staysW_cst _ _, ⟨staysW_cst _ _, ⟨staysW_cst _ _, ⟨staysW_cst _ _, ⟨staysW_cst _ _, ⟨staysW_cst _ _, ⟨staysW_cst _ _, ⟨staysW_cstW _ _ _, ⟨⟨fun _ _ _ h g => h.tr g (by simp), fun m v w w' h g => by match m, g with | 0, g => exact h.tr g (fun j hj => by rcases List.mem_cons.1 hj with rfl | hj; exact hpf; exact hvl j (by simpa using hj)) | m + 1, g => exact h.tr g (by simp)⟩, trivial⟩⟩⟩⟩⟩⟩⟩⟩⟩⟩⟩⟩⟩ _ (fun V => by simp only [putAll, Act.put, List.take_succ_cons, List.take_zero, List.setIfInBounds_toArray, List.set_cons_zero, List.set_cons_succ, Nat.reduceAdd]; exact rfl) ?hs1 ?ht1
      case hs1 =>
        simp only [List.take_succ_cons, List.take_zero, softsW]
        refine ⟨?_, ?_, ?_, ?_, ?_, ?_, ?_, ?_, ?_, ?_, ?_, ?_, ?_, trivial⟩
        · intro V wx hi hd
          simp [phi, Region.binds, cst] at hd
          try simp only [hd]
          first
            | (refine soft_const rfl ?_; go_simp; done)
            | (refine soft_const rfl ?_; go_simp; exact rfl)
            | (exact soft_cellN rfl _ _ rfl _ rfl _ _ ((by obtain ⟨j, _, hi⟩ := hi; exact hi.2.1)) Try.underlying9 rfl)
            | (exact soft_cellN rfl _ _ rfl _ rfl _ _ ((by obtain ⟨j, _, hi⟩ := hi; exact hi.2.2.1)) Try.underlying38 rfl)
            | (exact soft_skip rfl)
        · intro V wx hi hd
          simp [phi, Region.binds, cst] at hd
          try simp only [hd]
          first
            | (refine soft_const rfl ?_; go_simp; done)
            | (refine soft_const rfl ?_; go_simp; exact rfl)
            | (exact soft_cellN rfl _ _ rfl _ rfl _ _ ((by obtain ⟨j, _, hi⟩ := hi; exact hi.2.1)) Try.underlying9 rfl)
            | (exact soft_cellN rfl _ _ rfl _ rfl _ _ ((by obtain ⟨j, _, hi⟩ := hi; exact hi.2.2.1)) Try.underlying38 rfl)
            | (exact soft_skip rfl)
        · intro V wx hi hd
          simp [phi, Region.binds, cst] at hd
          try simp only [hd]
          first
            | (refine soft_const rfl ?_; go_simp; done)
            | (refine soft_const rfl ?_; go_simp; exact rfl)
            | (exact soft_cellN rfl _ _ rfl _ rfl _ _ ((by obtain ⟨j, _, hi⟩ := hi; exact hi.2.1)) Try.underlying9 rfl)
            | (exact soft_cellN rfl _ _ rfl _ rfl _ _ ((by obtain ⟨j, _, hi⟩ := hi; exact hi.2.2.1)) Try.underlying38 rfl)
            | (exact soft_skip rfl)
        · intro V wx hi hd
          simp [phi, Region.binds, cst] at hd
          try simp only [hd]
          first
            | (refine soft_const rfl ?_; go_simp; done)
            | (refine soft_const rfl ?_; go_simp; exact rfl)
            | (exact soft_cellN rfl _ _ rfl _ rfl _ _ ((by obtain ⟨j, _, hi⟩ := hi; exact hi.2.1)) Try.underlying9 rfl)
            | (exact soft_cellN rfl _ _ rfl _ rfl _ _ ((by obtain ⟨j, _, hi⟩ := hi; exact hi.2.2.1)) Try.underlying38 rfl)
            | (exact soft_skip rfl)
        · intro V wx hi hd
          simp [phi, Region.binds, cst] at hd
          try simp only [hd]
          first
            | (refine soft_const rfl ?_; go_simp; done)
            | (refine soft_const rfl ?_; go_simp; exact rfl)
            | (exact soft_cellN rfl _ _ rfl _ rfl _ _ ((by obtain ⟨j, _, hi⟩ := hi; exact hi.2.1)) Try.underlying9 rfl)
            | (exact soft_cellN rfl _ _ rfl _ rfl _ _ ((by obtain ⟨j, _, hi⟩ := hi; exact hi.2.2.1)) Try.underlying38 rfl)
            | (exact soft_skip rfl)
        · intro V wx hi hd
          simp [phi, Region.binds, cst] at hd
          try simp only [hd]
          first
            | (refine soft_const rfl ?_; go_simp; done)
            | (refine soft_const rfl ?_; go_simp; exact rfl)
            | (exact soft_cellN rfl _ _ rfl _ rfl _ _ ((by obtain ⟨j, _, hi⟩ := hi; exact hi.2.1)) Try.underlying9 rfl)
            | (exact soft_cellN rfl _ _ rfl _ rfl _ _ ((by obtain ⟨j, _, hi⟩ := hi; exact hi.2.2.1)) Try.underlying38 rfl)
            | (exact soft_skip rfl)
        · intro V wx hi hd
          simp [phi, Region.binds, cst] at hd
          try simp only [hd]
          first
            | (refine soft_const rfl ?_; go_simp; done)
            | (refine soft_const rfl ?_; go_simp; exact rfl)
            | (exact soft_cellN rfl _ _ rfl _ rfl _ _ ((by obtain ⟨j, _, hi⟩ := hi; exact hi.2.1)) Try.underlying9 rfl)
            | (exact soft_cellN rfl _ _ rfl _ rfl _ _ ((by obtain ⟨j, _, hi⟩ := hi; exact hi.2.2.1)) Try.underlying38 rfl)
            | (exact soft_skip rfl)
        · intro V wx hi hd
          simp [phi, Region.binds, cst] at hd
          try simp only [hd]
          first
            | (refine soft_const rfl ?_; go_simp; done)
            | (refine soft_const rfl ?_; go_simp; exact rfl)
            | (exact soft_cellN rfl _ _ rfl _ rfl _ _ ((by obtain ⟨j, _, hi⟩ := hi; exact hi.2.1)) Try.underlying9 rfl)
            | (exact soft_cellN rfl _ _ rfl _ rfl _ _ ((by obtain ⟨j, _, hi⟩ := hi; exact hi.2.2.1)) Try.underlying38 rfl)
            | (exact soft_skip rfl)
        · intro V wx hi hd
          simp [phi, Region.binds, cst] at hd
          try simp only [hd]
          first
            | (refine soft_const rfl ?_; go_simp; done)
            | (refine soft_const rfl ?_; go_simp; exact rfl)
            | (exact soft_cellN rfl _ _ rfl _ rfl _ _ ((by obtain ⟨j, _, hi⟩ := hi; exact hi.2.1)) Try.underlying9 rfl)
            | (exact soft_cellN rfl _ _ rfl _ rfl _ _ ((by obtain ⟨j, _, hi⟩ := hi; exact hi.2.2.1)) Try.underlying38 rfl)
            | (exact soft_skip rfl)
        · intro V wx hi hd
          simp [phi, Region.binds, cst] at hd
          try simp only [hd]
          first
            | (refine soft_const rfl ?_; go_simp; done)
            | (refine soft_const rfl ?_; go_simp; exact rfl)
            | (exact soft_cellN rfl _ _ rfl _ rfl _ _ ((by obtain ⟨j, _, hi⟩ := hi; exact hi.2.1)) Try.underlying9 rfl)
            | (exact soft_cellN rfl _ _ rfl _ rfl _ _ ((by obtain ⟨j, _, hi⟩ := hi; exact hi.2.2.1)) Try.underlying38 rfl)
            | (exact soft_skip rfl)
        · intro V wx hi hd
          simp [phi, Region.binds, cst] at hd
          try simp only [hd]
          first
            | (refine soft_const rfl ?_; go_simp; done)
            | (refine soft_const rfl ?_; go_simp; exact rfl)
            | (exact soft_cellN rfl _ _ rfl _ rfl _ _ ((by obtain ⟨j, _, hi⟩ := hi; exact hi.2.1)) Try.underlying9 rfl)
            | (exact soft_cellN rfl _ _ rfl _ rfl _ _ ((by obtain ⟨j, _, hi⟩ := hi; exact hi.2.2.1)) Try.underlying38 rfl)
            | (exact soft_skip rfl)
        · intro V wx hi hd
          simp [phi, Region.binds, cst] at hd
          try simp only [hd]
          obtain ⟨i1, i2, i3, i4, i8, v3, F3, i5, i6, i9, i7⟩ := hi
          obtain ⟨rfl, rfl⟩ := i7 (by first | rfl | trivial)
          refine wstep_call rfl _ _ (by go_simp; try exact ⟨rfl, rfl⟩) ((kX _ i5 i1).mono ?_)
          rintro e w' ⟨rfl, v4, F4, l4, hF4, g4, sn4⟩
          have hS : ∀ j ∈ px :: v3.ownBlock.toList, w.heap.size ≤ j := by
            intro j hj
            rcases List.mem_cons.1 hj with rfl | hj
            · exact zw
            · exact Nat.le_trans zw (hvx j (by simpa using hj))
          have hb' : b ∉ px :: v3.ownBlock.toList := fun hm => by have := hS _ hm; omega
          exact ⟨_, rfl, g4, ⟨i1.trans g4 fun j hj => .inr (hS j hj), g4.cellv i2 hb', g4.cellv i3 hb', i4.log i5 g4 i9, Nat.le_trans i8 g4.size, v4, F4, l4, by rw [hF4]; rfl, fun j hj ho => by
            rcases sn4 with h | h
            · exact i9 j (by rw [← h]; exact hj) ho
            · have h1 := h j hj
              have h2 := (i4.1.lt j ho).2
              omega, fun h => absurd h (by decide)⟩, rfl⟩
        · intro V wx hi hd
          simp [phi, Region.binds, cst] at hd
          try simp only [hd]
          obtain ⟨j, _, hi⟩ := hi
          exact soft_new32 rfl rfl hi.2.2.2.2.1
      intro V wh hi hk4
      replace hi : Chg [] w wh ∧ wh.cell? ⟨b, off + k * 2, none⟩ = some (.string (bstr s)) ∧ wh.cell? ⟨b, off + k * 2 + 1, none⟩ = some (.slice ap D.length cp) ∧ OwnsB wh px (.slice ao G.length co) G ∧ wf.heap.size ≤ wh.heap.size ∧ ∃ v' F', LogAt wh px px v' F' ∧ F'.map (·.2) = F.map (·.2) ++ LB ∧ (∀ j, v'.ownBlock = some j → (Value.slice ao G.length co).ownBlock ≠ some j) ∧ _ := hi
      clear z0 z1 oG lx hc hne
      obtain ⟨hc, z0, z1, oG, hwh, v4, F4, lx, hF4, hne, _⟩ := hi
      have h11 := hk4 11 (by decide)
      have h12' := hk4 12 (by decide)
      simp [phi, cst] at h11
      replace h12' : New32 wf.heap.size (V 12) wh := h12'
      simp only [h11, List.drop_succ_cons, List.drop_zero]
      obtain ⟨q, hq1, hq2, hq3⟩ := h12'
      simp only [hq1]
      generalize V 0 = p0
      generalize V 1 = p1
      generalize V 2 = p2
      generalize V 3 = p3
      generalize V 4 = p4
      generalize V 5 = p5
      generalize V 6 = p6
      generalize V 7 = p7
      generalize V 8 = p8
      generalize V 9 = p9
      generalize V 10 = p10
      clear hk4 h11 hq1 V kX
      go_wp2_with (refine store_bytes (by rfl) 25 _ _ (by rfl) q 32 _ rfl HV (by rfl) (List.replicate 32 0) hq3 (by kernel_rfl) hl32 (by simp) ?_; intro w7 h7 g7 s7; replace s7 : Hid _ := s7)
      replace z0 := g7.cellv z0 (by simp; omega)
      replace z1 := g7.cellv z1 (by simp; omega)
      replace lx := lx.trT g7 hq3 (by decide) (by decide) (by decide)
      replace oG := oG.trT g7 hq3 (by decide) (by decide)
      replace hc := hc.tn g7 (by omega)
      have hw7 := Nat.le_trans hwh g7.size
      have hp7 : px ≤ w7.heap.size := by omega
      clear g7 hq3 s7
      go_wp2_with fail
      refine' region_soft 16 [cst (.slice (some ⟨b, off, none⟩) A.length ca), cst (.int .i64 k), cst _, cst _, cst (.string (bstr s)), cst (.slice (some ⟨b, off, none⟩) A.length ca), cst (.int .i64 k), cst _, cst _, cst (.slice ap D.length cp), fun v w => ∃ u, v = .tuple #[u, .bool FO] ∧ w.ownsRow w7.heap.size 5 1 u fv.length (bcs fv), fun v w => ∃ u, v = .tuple #[u, .bool FO] ∧ w.ownsRow w7.heap.size 5 1 u fv.length (bcs fv), OwnF w7.heap.size 5 1 fv.length (bcs fv), cst (.bool FO), OwnF w7.heap.size 5 1 fv.length (bcs fv), cst (.bool FO)] rfl (by kernel_rfl) (by kernel_rfl) (stays_cons (Stays.cst _) (stays_cons (Stays.cst _) (stays_cons (Stays.cst _) (stays_cons (Stays.cst _) (stays_cons (Stays.cst _) (stays_cons (Stays.cst _) (stays_cons (Stays.cst _) (stays_cons (Stays.cst _) (stays_cons (Stays.cst _) (stays_cons (Stays.cst _) (stays_cons (fun _ _ _ ⟨u, h, o⟩ g => ⟨u, h, own_tr o g (by simp)⟩) (stays_cons (fun _ _ _ ⟨u, h, o⟩ g => ⟨u, h, own_tr o g (by simp)⟩) (stays_cons (OwnF.stays) (stays_cons (Stays.cst _) (stays_cons (OwnF.stays) (stays_cons (Stays.cst _) stays_nil)))))))))))))))) _ (fun V => by simp only [putAll, Act.put, List.take_succ_cons, List.take_zero, List.setIfInBounds_toArray, List.set_cons_zero, List.set_cons_succ, Nat.reduceAdd]; exact rfl) ?hs2 ?ht2
      case hs2 =>
        simp only [List.take_succ_cons, List.take_zero, softs]
        refine ⟨?_, ?_, ?_, ?_, ?_, ?_, ?_, ?_, ?_, ?_, ?_, ?_, ?_, ?_, ?_, ?_, trivial⟩
        · intro V w hw hd
          simp [phi, Region.binds, cst] at hd
          try simp only [hd]
          first
            | (refine soft_const rfl ?_; go_simp; done)
            | (refine soft_const rfl ?_; go_simp; exact rfl)
            | (exact soft_cell rfl hw _ _ rfl _ rfl _ _ z0 Try.underlying9 rfl)
            | (exact soft_cell rfl hw _ _ rfl _ rfl _ _ z1 Try.underlying38 rfl)
            | (exact soft_skip rfl)
        · intro V w hw hd
          simp [phi, Region.binds, cst] at hd
          try simp only [hd]
          first
            | (refine soft_const rfl ?_; go_simp; done)
            | (refine soft_const rfl ?_; go_simp; exact rfl)
            | (exact soft_cell rfl hw _ _ rfl _ rfl _ _ z0 Try.underlying9 rfl)
            | (exact soft_cell rfl hw _ _ rfl _ rfl _ _ z1 Try.underlying38 rfl)
            | (exact soft_skip rfl)
        · intro V w hw hd
          simp [phi, Region.binds, cst] at hd
          try simp only [hd]
          first
            | (refine soft_const rfl ?_; go_simp; done)
            | (refine soft_const rfl ?_; go_simp; exact rfl)
            | (exact soft_cell rfl hw _ _ rfl _ rfl _ _ z0 Try.underlying9 rfl)
            | (exact soft_cell rfl hw _ _ rfl _ rfl _ _ z1 Try.underlying38 rfl)
            | (exact soft_skip rfl)
        · intro V w hw hd
          simp [phi, Region.binds, cst] at hd
          try simp only [hd]
          first
            | (refine soft_const rfl ?_; go_simp; done)
            | (refine soft_const rfl ?_; go_simp; exact rfl)
            | (exact soft_cell rfl hw _ _ rfl _ rfl _ _ z0 Try.underlying9 rfl)
            | (exact soft_cell rfl hw _ _ rfl _ rfl _ _ z1 Try.underlying38 rfl)
            | (exact soft_skip rfl)
        · intro V w hw hd
          simp [phi, Region.binds, cst] at hd
          try simp only [hd]
          first
            | (refine soft_const rfl ?_; go_simp; done)
            | (refine soft_const rfl ?_; go_simp; exact rfl)
            | (exact soft_cell rfl hw _ _ rfl _ rfl _ _ z0 Try.underlying9 rfl)
            | (exact soft_cell rfl hw _ _ rfl _ rfl _ _ z1 Try.underlying38 rfl)
            | (exact soft_skip rfl)
        · intro V w hw hd
          simp [phi, Region.binds, cst] at hd
          try simp only [hd]
          first
            | (refine soft_const rfl ?_; go_simp; done)
            | (refine soft_const rfl ?_; go_simp; exact rfl)
            | (exact soft_cell rfl hw _ _ rfl _ rfl _ _ z0 Try.underlying9 rfl)
            | (exact soft_cell rfl hw _ _ rfl _ rfl _ _ z1 Try.underlying38 rfl)
            | (exact soft_skip rfl)
        · intro V w hw hd
          simp [phi, Region.binds, cst] at hd
          try simp only [hd]
          first
            | (refine soft_const rfl ?_; go_simp; done)
            | (refine soft_const rfl ?_; go_simp; exact rfl)
            | (exact soft_cell rfl hw _ _ rfl _ rfl _ _ z0 Try.underlying9 rfl)
            | (exact soft_cell rfl hw _ _ rfl _ rfl _ _ z1 Try.underlying38 rfl)
            | (exact soft_skip rfl)
        · intro V w hw hd
          simp [phi, Region.binds, cst] at hd
          try simp only [hd]
          first
            | (refine soft_const rfl ?_; go_simp; done)
            | (refine soft_const rfl ?_; go_simp; exact rfl)
            | (exact soft_cell rfl hw _ _ rfl _ rfl _ _ z0 Try.underlying9 rfl)
            | (exact soft_cell rfl hw _ _ rfl _ rfl _ _ z1 Try.underlying38 rfl)
            | (exact soft_skip rfl)
        · intro V w hw hd
          simp [phi, Region.binds, cst] at hd
          try simp only [hd]
          first
            | (refine soft_const rfl ?_; go_simp; done)
            | (refine soft_const rfl ?_; go_simp; exact rfl)
            | (exact soft_cell rfl hw _ _ rfl _ rfl _ _ z0 Try.underlying9 rfl)
            | (exact soft_cell rfl hw _ _ rfl _ rfl _ _ z1 Try.underlying38 rfl)
            | (exact soft_skip rfl)
        · intro V w hw hd
          simp [phi, Region.binds, cst] at hd
          try simp only [hd]
          first
            | (refine soft_const rfl ?_; go_simp; done)
            | (refine soft_const rfl ?_; go_simp; exact rfl)
            | (exact soft_cell rfl hw _ _ rfl _ rfl _ _ z0 Try.underlying9 rfl)
            | (exact soft_cell rfl hw _ _ rfl _ rfl _ _ z1 Try.underlying38 rfl)
            | (exact soft_skip rfl)
        · intro V w hw hd
          simp [phi, Region.binds, cst] at hd
          try simp only [hd]
          refine soft_call rfl _ _ (by go_simp; try exact ⟨rfl, rfl⟩) ((kR _ (hc.t0 hw)).mono fun e w' ⟨v, he, o, g⟩ => ⟨_, he, g, v, rfl, own_lower o hw.size⟩)
        · intro V w hw hd
          simp [phi, Region.binds, cst] at hd
          try simp only [hd]
          obtain ⟨u, hu, ou⟩ := hd
          simp only [hu]
          refine soft_made (v := .tuple #[u, .bool FO]) rfl (by go_simp; done) (Chg.refl _ _) ⟨u, rfl, ou⟩
        · intro V w hw hd
          simp [phi, Region.binds, cst] at hd
          try simp only [hd]
          obtain ⟨u, hu, ou⟩ := hd
          simp only [hu]
          refine soft_made (v := u) rfl (by go_simp; done) (Chg.refl _ _) ou
        · intro V w hw hd
          simp [phi, Region.binds, cst] at hd
          try simp only [hd]
          obtain ⟨u, hu, ou⟩ := hd
          simp only [hu]
          refine soft_made (v := .bool FO) rfl (by go_simp; done) (Chg.refl _ _) rfl
        · intro V w hw hd
          simp [phi, Region.binds, cst] at hd
          try simp only [hd]
          refine soft_made rfl (by go_simp; exact rfl) (Chg.refl _ _) (by first | exact hd | exact hd.1 | exact hd.2)
        · intro V w hw hd
          simp [phi, Region.binds, cst] at hd
          try simp only [hd]
          first
            | (refine soft_const rfl ?_; go_simp; done)
            | (refine soft_const rfl ?_; go_simp; exact rfl)
            | (exact soft_cell rfl hw _ _ rfl _ rfl _ _ z0 Try.underlying9 rfl)
            | (exact soft_cell rfl hw _ _ rfl _ rfl _ _ z1 Try.underlying38 rfl)
            | (exact soft_skip rfl)
      intro V wg g3 hk3
      have h14 : OwnF w7.heap.size 5 1 fv.length (bcs fv) (V 14) wg := hk3 14 (by decide)
      have h15 := hk3 15 (by decide)
      simp [phi, cst] at h15
      simp only [h15, List.drop_succ_cons, List.drop_zero]
      clear hk3 h15
      generalize V 14 = q14 at *
      unfold OwnF at h14
      obtain ⟨au, cu, rfl⟩ := own_shape h14
      replace hc := hc.t0 g3
      replace lx := lx.tr0 g3
      replace oG := oG.tr0 g3
      replace h7 := g3.heap h7 (by simp)
      replace z0 := g3.cellv z0 (by simp)
      replace z1 := g3.cellv z1 (by simp)
      replace hw7 := Nat.le_trans hw7 g3.size
      have hpw := lx.lt
      have hSh4 : ShortB (F4.map (·.2)) := by rw [hF4]; exact hSh2
      have hF5 : F4.map (·.2) = logsB (A.take (k + 1)) := by rw [hF4, hF.out, hnx.out]
      clear g3 kR
      have hGl : G.length ≤ 20 := by
        have h := congrArg List.length hGF.out
        simp only [List.length_map] at h
        omega
      have hG4 := hF4
      rw [← hGF.out, hLBd.out] at hG4
      clear hF4 hLBd hGF hnx hSh hSh2 hF
      have hF4l : F4.length ≤ 21 := by
        have h := congrArg List.length hF5
        rw [List.length_map] at h
        have h2 := logsB_len (A.take (k + 1))
        rw [List.length_take] at h2
        omega
      cases FO
      case false =>
        simp only [Bool.false_eq_true, if_false, List.append_nil] at hG4
        obtain ⟨wn, rfl⟩ : ∃ wn : World, wn = wg := ⟨_, rfl⟩
        obtain ⟨G1, rfl⟩ : ∃ G1 : RowsB, G1 = G := ⟨_, rfl⟩
        obtain ⟨an, rfl⟩ : ∃ x, x = ao := ⟨_, rfl⟩
        obtain ⟨cn, rfl⟩ : ∃ x, x = co := ⟨_, rfl⟩
        have hG6 := hG4.symm
        have hwn : w2.heap.size ≤ wn.heap.size := by omega
        clear hG4 h14 hpw hw7 hp7
        replace hG6 := Lib.hid hG6
        go_wp2_with fail
        have rq := ra_block h7
        refine' region_soft 13 [cst (.agg (bcs HV).toArray), cst (.slice (some ⟨b, off, none⟩) A.length ca), cst (.int .i64 k), cst _, cst _, cst (.string (bstr s)), cst (.slice (some ⟨b, off, none⟩) A.length ca), cst (.int .i64 k), cst _, cst _, cst (.slice ap D.length cp), cst (.agg (bcs HV).toArray), cst (.bool false)] rfl (by kernel_rfl) (by kernel_rfl) (stays_cons (Stays.cst _) (stays_cons (Stays.cst _) (stays_cons (Stays.cst _) (stays_cons (Stays.cst _) (stays_cons (Stays.cst _) (stays_cons (Stays.cst _) (stays_cons (Stays.cst _) (stays_cons (Stays.cst _) (stays_cons (Stays.cst _) (stays_cons (Stays.cst _) (stays_cons (Stays.cst _) (stays_cons (Stays.cst _) (stays_cons (Stays.cst _) stays_nil))))))))))))) _ (fun V => by simp only [putAll, Act.put, List.take_succ_cons, List.take_zero, List.setIfInBounds_toArray, List.set_cons_zero, List.set_cons_succ, Nat.reduceAdd]; exact rfl) ?hs3 ?ht3
        case hs3 =>
          simp only [List.take_succ_cons, List.take_zero, softs]
          refine ⟨?_, ?_, ?_, ?_, ?_, ?_, ?_, ?_, ?_, ?_, ?_, ?_, ?_, trivial⟩
          · intro V w hw hd
            simp [phi, Region.binds, cst] at hd
            try simp only [hd]
            first
              | (refine soft_const rfl ?_; go_simp; done)
              | (refine soft_const rfl ?_; go_simp; exact rfl)
              | (exact soft_load rfl hw _ _ rfl _ _ rfl _ _ rq Try.underlying25 rfl (by rw [bcs_length, hl32]; kernel_rfl))
              | (exact soft_cell rfl hw _ _ rfl _ rfl _ _ z0 Try.underlying9 rfl)
              | (exact soft_cell rfl hw _ _ rfl _ rfl _ _ z1 Try.underlying38 rfl)
              | (exact soft_skip rfl)
          · intro V w hw hd
            simp [phi, Region.binds, cst] at hd
            try simp only [hd]
            first
              | (refine soft_const rfl ?_; go_simp; done)
              | (refine soft_const rfl ?_; go_simp; exact rfl)
              | (exact soft_load rfl hw _ _ rfl _ _ rfl _ _ rq Try.underlying25 rfl (by rw [bcs_length, hl32]; kernel_rfl))
              | (exact soft_cell rfl hw _ _ rfl _ rfl _ _ z0 Try.underlying9 rfl)
              | (exact soft_cell rfl hw _ _ rfl _ rfl _ _ z1 Try.underlying38 rfl)
              | (exact soft_skip rfl)
          · intro V w hw hd
            simp [phi, Region.binds, cst] at hd
            try simp only [hd]
            first
              | (refine soft_const rfl ?_; go_simp; done)
              | (refine soft_const rfl ?_; go_simp; exact rfl)
              | (exact soft_load rfl hw _ _ rfl _ _ rfl _ _ rq Try.underlying25 rfl (by rw [bcs_length, hl32]; kernel_rfl))
              | (exact soft_cell rfl hw _ _ rfl _ rfl _ _ z0 Try.underlying9 rfl)
              | (exact soft_cell rfl hw _ _ rfl _ rfl _ _ z1 Try.underlying38 rfl)
              | (exact soft_skip rfl)
          · intro V w hw hd
            simp [phi, Region.binds, cst] at hd
            try simp only [hd]
            first
              | (refine soft_const rfl ?_; go_simp; done)
              | (refine soft_const rfl ?_; go_simp; exact rfl)
              | (exact soft_load rfl hw _ _ rfl _ _ rfl _ _ rq Try.underlying25 rfl (by rw [bcs_length, hl32]; kernel_rfl))
              | (exact soft_cell rfl hw _ _ rfl _ rfl _ _ z0 Try.underlying9 rfl)
              | (exact soft_cell rfl hw _ _ rfl _ rfl _ _ z1 Try.underlying38 rfl)
              | (exact soft_skip rfl)
          · intro V w hw hd
            simp [phi, Region.binds, cst] at hd
            try simp only [hd]
            first
              | (refine soft_const rfl ?_; go_simp; done)
              | (refine soft_const rfl ?_; go_simp; exact rfl)
              | (exact soft_load rfl hw _ _ rfl _ _ rfl _ _ rq Try.underlying25 rfl (by rw [bcs_length, hl32]; kernel_rfl))
              | (exact soft_cell rfl hw _ _ rfl _ rfl _ _ z0 Try.underlying9 rfl)
              | (exact soft_cell rfl hw _ _ rfl _ rfl _ _ z1 Try.underlying38 rfl)
              | (exact soft_skip rfl)
          · intro V w hw hd
            simp [phi, Region.binds, cst] at hd
            try simp only [hd]
            first
              | (refine soft_const rfl ?_; go_simp; done)
              | (refine soft_const rfl ?_; go_simp; exact rfl)
              | (exact soft_load rfl hw _ _ rfl _ _ rfl _ _ rq Try.underlying25 rfl (by rw [bcs_length, hl32]; kernel_rfl))
              | (exact soft_cell rfl hw _ _ rfl _ rfl _ _ z0 Try.underlying9 rfl)
              | (exact soft_cell rfl hw _ _ rfl _ rfl _ _ z1 Try.underlying38 rfl)
              | (exact soft_skip rfl)
          · intro V w hw hd
            simp [phi, Region.binds, cst] at hd
            try simp only [hd]
            first
              | (refine soft_const rfl ?_; go_simp; done)
              | (refine soft_const rfl ?_; go_simp; exact rfl)
              | (exact soft_load rfl hw _ _ rfl _ _ rfl _ _ rq Try.underlying25 rfl (by rw [bcs_length, hl32]; kernel_rfl))
              | (exact soft_cell rfl hw _ _ rfl _ rfl _ _ z0 Try.underlying9 rfl)
              | (exact soft_cell rfl hw _ _ rfl _ rfl _ _ z1 Try.underlying38 rfl)
              | (exact soft_skip rfl)
          · intro V w hw hd
            simp [phi, Region.binds, cst] at hd
            try simp only [hd]
            first
              | (refine soft_const rfl ?_; go_simp; done)
              | (refine soft_const rfl ?_; go_simp; exact rfl)
              | (exact soft_load rfl hw _ _ rfl _ _ rfl _ _ rq Try.underlying25 rfl (by rw [bcs_length, hl32]; kernel_rfl))
              | (exact soft_cell rfl hw _ _ rfl _ rfl _ _ z0 Try.underlying9 rfl)
              | (exact soft_cell rfl hw _ _ rfl _ rfl _ _ z1 Try.underlying38 rfl)
              | (exact soft_skip rfl)
          · intro V w hw hd
            simp [phi, Region.binds, cst] at hd
            try simp only [hd]
            first
              | (refine soft_const rfl ?_; go_simp; done)
              | (refine soft_const rfl ?_; go_simp; exact rfl)
              | (exact soft_load rfl hw _ _ rfl _ _ rfl _ _ rq Try.underlying25 rfl (by rw [bcs_length, hl32]; kernel_rfl))
              | (exact soft_cell rfl hw _ _ rfl _ rfl _ _ z0 Try.underlying9 rfl)
              | (exact soft_cell rfl hw _ _ rfl _ rfl _ _ z1 Try.underlying38 rfl)
              | (exact soft_skip rfl)
          · intro V w hw hd
            simp [phi, Region.binds, cst] at hd
            try simp only [hd]
            first
              | (refine soft_const rfl ?_; go_simp; done)
              | (refine soft_const rfl ?_; go_simp; exact rfl)
              | (exact soft_load rfl hw _ _ rfl _ _ rfl _ _ rq Try.underlying25 rfl (by rw [bcs_length, hl32]; kernel_rfl))
              | (exact soft_cell rfl hw _ _ rfl _ rfl _ _ z0 Try.underlying9 rfl)
              | (exact soft_cell rfl hw _ _ rfl _ rfl _ _ z1 Try.underlying38 rfl)
              | (exact soft_skip rfl)
          · intro V w hw hd
            simp [phi, Region.binds, cst] at hd
            try simp only [hd]
            first
              | (refine soft_const rfl ?_; go_simp; done)
              | (refine soft_const rfl ?_; go_simp; exact rfl)
              | (exact soft_load rfl hw _ _ rfl _ _ rfl _ _ rq Try.underlying25 rfl (by rw [bcs_length, hl32]; kernel_rfl))
              | (exact soft_cell rfl hw _ _ rfl _ rfl _ _ z0 Try.underlying9 rfl)
              | (exact soft_cell rfl hw _ _ rfl _ rfl _ _ z1 Try.underlying38 rfl)
              | (exact soft_skip rfl)
          · intro V w hw hd
            simp [phi, Region.binds, cst] at hd
            try simp only [hd]
            refine soft_callC rfl _ _ (by go_simp; try exact ⟨rfl, rfl⟩) (kH _ (hc.t0 hw))
          · intro V w hw hd
            simp [phi, Region.binds, cst] at hd
            try simp only [hd]
            first
              | (refine soft_const rfl ?_; go_simp; done)
              | (refine soft_const rfl ?_; go_simp; exact rfl)
              | (exact soft_load rfl hw _ _ rfl _ _ rfl _ _ rq Try.underlying25 rfl (by rw [bcs_length, hl32]; kernel_rfl))
              | (exact soft_cell rfl hw _ _ rfl _ rfl _ _ z0 Try.underlying9 rfl)
              | (exact soft_cell rfl hw _ _ rfl _ rfl _ _ z1 Try.underlying38 rfl)
              | (exact soft_skip rfl)
        intro V ws g hk
        have h12' := hk 12 (by decide)
        simp [phi, cst] at h12'
        simp only [h12', List.drop_succ_cons, List.drop_zero]
        generalize V 0 = r0
        generalize V 1 = r1
        generalize V 2 = r2
        generalize V 3 = r3
        generalize V 4 = r4
        generalize V 5 = r5
        generalize V 6 = r6
        generalize V 7 = r7
        generalize V 8 = r8
        generalize V 9 = r9
        generalize V 10 = r10
        generalize V 11 = r11
        clear hk h12' V
        replace hc := hc.t0 g
        replace lx := lx.tr0 g
        replace oG := oG.tr0 g
        replace hwn := Nat.le_trans hwn g.size
        clear g rq z0 z1 h7 kH EN GN hl32
        have kF := frames_ok ws px px _ F4 lx (by omega) hSh4.rows
        go_wp2_with fail
        refine kF.mono ?_
        rintro e wb ⟨v', rfl, D2, oD2, hD2, gb⟩
        obtain ⟨a2, c2, rfl⟩ := oD2.shape
        have hD2l : D2.length ≤ 21 := by
          have h := congrArg List.length hD2
          simp only [List.length_map] at h
          omega
        have kS := rsameB_ok wb _ _ D2 G1 oD2.sl (oG.tr0 gb).sl (by unfold maxLen; omega)
        rw [hD2, hG6.out] at kS
        simp only [sameB, decide_true] at kS
        have hxs : ∀ x ∈ D2, x.2.length ≤ 10000 := fun x hx => hSh4 _ (by rw [← hD2]; exact List.mem_map.2 ⟨x, hx, rfl⟩)
        clear hD2 kF
        go_wp2_with fail
        refine kS.mono ?_
        rintro e wc ⟨rfl, gc⟩
        have gbc : Chg [] ws wc := gb.t0 gc
        have oR := own_tr oD2.1 gc (by simp)
        have hRm : ∀ x ∈ D2, Room wc ws.heap.size x.1 x.2.length := fun x hx => (Room.of (oD2.2 x hx)).tr gc
        clear oD2 gb gc kS
        go_wp2_with fail
        go_loopw [12] (fun iv wq => ∃ i : Nat, i ≤ D2.length ∧ iv = .int .i64 i ∧ Chg [] ws wq ∧ wq.ownsRow ws.heap.size 22 1 (.slice a2 D2.length c2) D2.length (D2.map (·.1)) ∧ ∀ x ∈ D2, Room wq ws.heap.size x.1 x.2.length) (fun iv _ => D2.length - (intOf iv).toNat)
        case atStart => exact ⟨0, Nat.zero_le _, rfl, gbc, oR, hRm⟩
        case round =>
          clear gbc oR hRm
          obtain ⟨i, hi, rfl, hq2, oR, hRm⟩ := hrel
          by_cases hli : i < D2.length
          · have hid : (i : Int) < D2.length := by omega
            have hi0 : (0 : Int) ≤ i := by omega
            obtain ⟨g1, cap1, e, hb1, _, _, x1⟩ := own_some oR (by omega)
            cases e
            have y1 := x1 i D2[i].1 (by simp [hli])
            obtain ⟨a3, c3, e3, hR3⟩ := hRm _ (List.getElem_mem hli)
            have hmem := List.getElem_mem hli
            have hxl := hxs _ hmem
            generalize D2[i] = x at *
            obtain ⟨xv, xl⟩ := x
            dsimp only at *
            subst e3
            clear x1 hR3
            go_wp2_with fail
            go_loopw [13] (fun mv wz => ∃ m : Nat, m ≤ xl.length ∧ mv = .int .i64 m ∧ Chg [] ws wz ∧ wz.ownsRow ws.heap.size 22 1 (.slice (some ⟨g1, 0, none⟩) D2.length c2) D2.length (D2.map (·.1)) ∧ (∀ x ∈ D2, Room wz ws.heap.size x.1 x.2.length) ∧ wz.cell? ⟨g1, i, none⟩ = some (.slice a3 xl.length c3)) (fun mv _ => xl.length - (intOf mv).toNat)
            case atStart => exact ⟨0, Nat.zero_le _, rfl, hq2, oR, hRm, y1⟩
            case round =>
              clear hq2 oR hRm y1
              obtain ⟨m, hm, rfl, hq3, oR, hRm, y1⟩ := hrel
              by_cases hlm : m < xl.length
              · have hmd : (m : Int) < xl.length := by omega
                have hm0 : (0 : Int) ≤ m := by omega
                obtain ⟨a4, c4, e4, hR4⟩ := hRm _ hmem
                cases e4
                obtain ⟨g4, cs4, rfl, hb4, hg4, hl4⟩ := hR4 (by dsimp only; omega)
                dsimp only at hl4
                have t1 := cell_of hg4 (m := m) (by omega)
                have t2 := frozen_of_row wr g4 m _ _ hg4
                go_wp2
                go_roundw
                case rel => exact ⟨m + 1, by omega, by go_num, hq3.tn (Chg.setCell wr ⟨g4, m, none⟩ (.int .u8 7)) hb4, ownB_trD oR (Chg.setCell wr ⟨g4, m, none⟩ (.int .u8 7)) (by intro j hj; rw [List.mem_singleton.1 hj]; exact ownB_not oR hg4 (by decide)), fun x hx => (hRm x hx).set hg4, (Chg.setCell wr ⟨g4, m, none⟩ (.int .u8 7)).cellv y1 (by intro hm; have h1 := List.mem_singleton.1 hm; dsimp only at h1; subst h1; exact ownB_not oR hg4 (by decide) rfl)⟩
                case measure => simp [intOf]; omega
              · go_wp2
                go_roundw
                case rel => exact ⟨i + 1, by omega, by go_num, hq3, oR, hRm⟩
                case measure => simp [intOf]; omega
          · have gE := hq2
            clear hq2 oR hRm
            go_wp2
            go_roundw
            case rel => exact ⟨k + 1, v4, F4, G1, by omega, by go_num, lx.tr0 gE, hF5, hSh4, oG.tr0 gE, hG6.out, hne, Nat.le_trans hwn gE.size, hc.t0 gE⟩
            case measure => simp [intOf]; omega
      case true =>
        simp only [if_true] at hG4
        have ga := Chg.alloc [] wg (.cells #[.slice au fv.length cu] 22)
        have oGa := oG.tr0 ga
        have lxa := lx.tr0 ga
        have ou := own_lower (own_tr h14 ga (by simp)) hp7
        have h7a := ga.heap h7 (by simp)
        go_wp2_with (at_builtin; go_must (refine wpList_append_slF _ rfl (.tmp 79) (.tmp 81) 38 22 1 24 rfl el_row px _ _ _ rfl oGa.1 _ 1 [.slice au fv.length cu] rfl (Sl.lit wg #[.slice au fv.length cu] _ 1 (by decide)) rfl (by intro u hu; rw [List.mem_singleton.1 hu]; rfl) (by unfold big; omega) (by simp; omega) ?_))
        intro v6 wn o6 g6 sn6
        have oG6 := oGa.push ou o6 g6
        have gL := Chg.grown g6
        have lx6 := lxa.trS gL (fun j hj => ⟨fun e => ownB_not oGa.1 lxa.cell (by decide) (by rw [← e]; simpa using hj), fun e => hne j e (by simpa using hj), fun x hx => ownB_apart oGa.1 (lxa.rows.2 x hx) (by decide) j hj⟩)
        have hc6 := (hc.t0 ga).grownOwn g6 oGa.1 zw
        have hne6 : ∀ j, v4.ownBlock = some j → v6.ownBlock ≠ some j := fun j hj => sn6.ne (lxa.rows.1.lt j hj).2 (hne j hj)
        have hbn : b ∉ (Value.slice ao G.length co).ownBlock.toList := fun hm => by have := own_from oGa.1 b (by simpa using hm); omega
        replace z0 := gL.cellv (ga.cellv z0 (by simp)) hbn
        replace z1 := gL.cellv (ga.cellv z1 (by simp)) hbn
        replace h7 := gL.heap h7a (fun hm => ownB_not oGa.1 h7a (by decide) (by simpa using hm))
        have hwn : w2.heap.size ≤ wn.heap.size := by have := Nat.le_trans ga.size gL.size; omega
        obtain ⟨an, cn, rfl⟩ := oG6.shape
        have hG6 : (G ++ [(Value.slice au fv.length cu, fv)]).map (·.2) = F4.map (·.2) := by rw [List.map_append, hG4]; rfl
        clear oG lx hc hne ga oGa lxa ou h7a gL hbn hG4 h14 o6 g6 sn6 hpw hw7 hp7
        generalize G ++ [(Value.slice au fv.length cu, fv)] = G1 at *
        have oG := oG6
        have lx := lx6
        have hc := hc6
        have hne := hne6
        clear oG6 lx6 hc6 hne6
        replace hG6 := Lib.hid hG6
        go_wp2_with fail
        have rq := ra_block h7
        refine' region_soft 13 [cst (.agg (bcs HV).toArray), cst (.slice (some ⟨b, off, none⟩) A.length ca), cst (.int .i64 k), cst _, cst _, cst (.string (bstr s)), cst (.slice (some ⟨b, off, none⟩) A.length ca), cst (.int .i64 k), cst _, cst _, cst (.slice ap D.length cp), cst (.agg (bcs HV).toArray), cst (.bool false)] rfl (by kernel_rfl) (by kernel_rfl) (stays_cons (Stays.cst _) (stays_cons (Stays.cst _) (stays_cons (Stays.cst _) (stays_cons (Stays.cst _) (stays_cons (Stays.cst _) (stays_cons (Stays.cst _) (stays_cons (Stays.cst _) (stays_cons (Stays.cst _) (stays_cons (Stays.cst _) (stays_cons (Stays.cst _) (stays_cons (Stays.cst _) (stays_cons (Stays.cst _) (stays_cons (Stays.cst _) stays_nil))))))))))))) _ (fun V => by simp only [putAll, Act.put, List.take_succ_cons, List.take_zero, List.setIfInBounds_toArray, List.set_cons_zero, List.set_cons_succ, Nat.reduceAdd]; exact rfl) ?hs4 ?ht4
        case hs4 =>
          simp only [List.take_succ_cons, List.take_zero, softs]
          refine ⟨?_, ?_, ?_, ?_, ?_, ?_, ?_, ?_, ?_, ?_, ?_, ?_, ?_, trivial⟩
          · intro V w hw hd
            simp [phi, Region.binds, cst] at hd
            try simp only [hd]
            first
              | (refine soft_const rfl ?_; go_simp; done)
              | (refine soft_const rfl ?_; go_simp; exact rfl)
              | (exact soft_load rfl hw _ _ rfl _ _ rfl _ _ rq Try.underlying25 rfl (by rw [bcs_length, hl32]; kernel_rfl))
              | (exact soft_cell rfl hw _ _ rfl _ rfl _ _ z0 Try.underlying9 rfl)
              | (exact soft_cell rfl hw _ _ rfl _ rfl _ _ z1 Try.underlying38 rfl)
              | (exact soft_skip rfl)
          · intro V w hw hd
            simp [phi, Region.binds, cst] at hd
            try simp only [hd]
            first
              | (refine soft_const rfl ?_; go_simp; done)
              | (refine soft_const rfl ?_; go_simp; exact rfl)
              | (exact soft_load rfl hw _ _ rfl _ _ rfl _ _ rq Try.underlying25 rfl (by rw [bcs_length, hl32]; kernel_rfl))
              | (exact soft_cell rfl hw _ _ rfl _ rfl _ _ z0 Try.underlying9 rfl)
              | (exact soft_cell rfl hw _ _ rfl _ rfl _ _ z1 Try.underlying38 rfl)
              | (exact soft_skip rfl)
          · intro V w hw hd
            simp [phi, Region.binds, cst] at hd
            try simp only [hd]
            first
              | (refine soft_const rfl ?_; go_simp; done)
              | (refine soft_const rfl ?_; go_simp; exact rfl)
              | (exact soft_load rfl hw _ _ rfl _ _ rfl _ _ rq Try.underlying25 rfl (by rw [bcs_length, hl32]; kernel_rfl))
              | (exact soft_cell rfl hw _ _ rfl _ rfl _ _ z0 Try.underlying9 rfl)
              | (exact soft_cell rfl hw _ _ rfl _ rfl _ _ z1 Try.underlying38 rfl)
              | (exact soft_skip rfl)
          · intro V w hw hd
            simp [phi, Region.binds, cst] at hd
            try simp only [hd]
            first
              | (refine soft_const rfl ?_; go_simp; done)
              | (refine soft_const rfl ?_; go_simp; exact rfl)
              | (exact soft_load rfl hw _ _ rfl _ _ rfl _ _ rq Try.underlying25 rfl (by rw [bcs_length, hl32]; kernel_rfl))
              | (exact soft_cell rfl hw _ _ rfl _ rfl _ _ z0 Try.underlying9 rfl)
              | (exact soft_cell rfl hw _ _ rfl _ rfl _ _ z1 Try.underlying38 rfl)
              | (exact soft_skip rfl)
          · intro V w hw hd
            simp [phi, Region.binds, cst] at hd
            try simp only [hd]
            first
              | (refine soft_const rfl ?_; go_simp; done)
              | (refine soft_const rfl ?_; go_simp; exact rfl)
              | (exact soft_load rfl hw _ _ rfl _ _ rfl _ _ rq Try.underlying25 rfl (by rw [bcs_length, hl32]; kernel_rfl))
              | (exact soft_cell rfl hw _ _ rfl _ rfl _ _ z0 Try.underlying9 rfl)
              | (exact soft_cell rfl hw _ _ rfl _ rfl _ _ z1 Try.underlying38 rfl)
              | (exact soft_skip rfl)
          · intro V w hw hd
            simp [phi, Region.binds, cst] at hd
            try simp only [hd]
            first
              | (refine soft_const rfl ?_; go_simp; done)
              | (refine soft_const rfl ?_; go_simp; exact rfl)
              | (exact soft_load rfl hw _ _ rfl _ _ rfl _ _ rq Try.underlying25 rfl (by rw [bcs_length, hl32]; kernel_rfl))
              | (exact soft_cell rfl hw _ _ rfl _ rfl _ _ z0 Try.underlying9 rfl)
              | (exact soft_cell rfl hw _ _ rfl _ rfl _ _ z1 Try.underlying38 rfl)
              | (exact soft_skip rfl)
          · intro V w hw hd
            simp [phi, Region.binds, cst] at hd
            try simp only [hd]
            first
              | (refine soft_const rfl ?_; go_simp; done)
              | (refine soft_const rfl ?_; go_simp; exact rfl)
              | (exact soft_load rfl hw _ _ rfl _ _ rfl _ _ rq Try.underlying25 rfl (by rw [bcs_length, hl32]; kernel_rfl))
              | (exact soft_cell rfl hw _ _ rfl _ rfl _ _ z0 Try.underlying9 rfl)
              | (exact soft_cell rfl hw _ _ rfl _ rfl _ _ z1 Try.underlying38 rfl)
              | (exact soft_skip rfl)
          · intro V w hw hd
            simp [phi, Region.binds, cst] at hd
            try simp only [hd]
            first
              | (refine soft_const rfl ?_; go_simp; done)
              | (refine soft_const rfl ?_; go_simp; exact rfl)
              | (exact soft_load rfl hw _ _ rfl _ _ rfl _ _ rq Try.underlying25 rfl (by rw [bcs_length, hl32]; kernel_rfl))
              | (exact soft_cell rfl hw _ _ rfl _ rfl _ _ z0 Try.underlying9 rfl)
              | (exact soft_cell rfl hw _ _ rfl _ rfl _ _ z1 Try.underlying38 rfl)
              | (exact soft_skip rfl)
          · intro V w hw hd
            simp [phi, Region.binds, cst] at hd
            try simp only [hd]
            first
              | (refine soft_const rfl ?_; go_simp; done)
              | (refine soft_const rfl ?_; go_simp; exact rfl)
              | (exact soft_load rfl hw _ _ rfl _ _ rfl _ _ rq Try.underlying25 rfl (by rw [bcs_length, hl32]; kernel_rfl))
              | (exact soft_cell rfl hw _ _ rfl _ rfl _ _ z0 Try.underlying9 rfl)
              | (exact soft_cell rfl hw _ _ rfl _ rfl _ _ z1 Try.underlying38 rfl)
              | (exact soft_skip rfl)
          · intro V w hw hd
            simp [phi, Region.binds, cst] at hd
            try simp only [hd]
            first
              | (refine soft_const rfl ?_; go_simp; done)
              | (refine soft_const rfl ?_; go_simp; exact rfl)
              | (exact soft_load rfl hw _ _ rfl _ _ rfl _ _ rq Try.underlying25 rfl (by rw [bcs_length, hl32]; kernel_rfl))
              | (exact soft_cell rfl hw _ _ rfl _ rfl _ _ z0 Try.underlying9 rfl)
              | (exact soft_cell rfl hw _ _ rfl _ rfl _ _ z1 Try.underlying38 rfl)
              | (exact soft_skip rfl)
          · intro V w hw hd
            simp [phi, Region.binds, cst] at hd
            try simp only [hd]
            first
              | (refine soft_const rfl ?_; go_simp; done)
              | (refine soft_const rfl ?_; go_simp; exact rfl)
              | (exact soft_load rfl hw _ _ rfl _ _ rfl _ _ rq Try.underlying25 rfl (by rw [bcs_length, hl32]; kernel_rfl))
              | (exact soft_cell rfl hw _ _ rfl _ rfl _ _ z0 Try.underlying9 rfl)
              | (exact soft_cell rfl hw _ _ rfl _ rfl _ _ z1 Try.underlying38 rfl)
              | (exact soft_skip rfl)
          · intro V w hw hd
            simp [phi, Region.binds, cst] at hd
            try simp only [hd]
            refine soft_callC rfl _ _ (by go_simp; try exact ⟨rfl, rfl⟩) (kH _ (hc.t0 hw))
          · intro V w hw hd
            simp [phi, Region.binds, cst] at hd
            try simp only [hd]
            first
              | (refine soft_const rfl ?_; go_simp; done)
              | (refine soft_const rfl ?_; go_simp; exact rfl)
              | (exact soft_load rfl hw _ _ rfl _ _ rfl _ _ rq Try.underlying25 rfl (by rw [bcs_length, hl32]; kernel_rfl))
              | (exact soft_cell rfl hw _ _ rfl _ rfl _ _ z0 Try.underlying9 rfl)
              | (exact soft_cell rfl hw _ _ rfl _ rfl _ _ z1 Try.underlying38 rfl)
              | (exact soft_skip rfl)
        intro V ws g hk
        have h12' := hk 12 (by decide)
        simp [phi, cst] at h12'
        simp only [h12', List.drop_succ_cons, List.drop_zero]
        generalize V 0 = r0
        generalize V 1 = r1
        generalize V 2 = r2
        generalize V 3 = r3
        generalize V 4 = r4
        generalize V 5 = r5
        generalize V 6 = r6
        generalize V 7 = r7
        generalize V 8 = r8
        generalize V 9 = r9
        generalize V 10 = r10
        generalize V 11 = r11
        clear hk h12' V
        replace hc := hc.t0 g
        replace lx := lx.tr0 g
        replace oG := oG.tr0 g
        replace hwn := Nat.le_trans hwn g.size
        clear g rq z0 z1 h7 kH EN GN hl32
        have kF := frames_ok ws px px _ F4 lx (by omega) hSh4.rows
        go_wp2_with fail
        refine kF.mono ?_
        rintro e wb ⟨v', rfl, D2, oD2, hD2, gb⟩
        obtain ⟨a2, c2, rfl⟩ := oD2.shape
        have hD2l : D2.length ≤ 21 := by
          have h := congrArg List.length hD2
          simp only [List.length_map] at h
          omega
        have kS := rsameB_ok wb _ _ D2 G1 oD2.sl (oG.tr0 gb).sl (by unfold maxLen; omega)
        rw [hD2, hG6.out] at kS
        simp only [sameB, decide_true] at kS
        have hxs : ∀ x ∈ D2, x.2.length ≤ 10000 := fun x hx => hSh4 _ (by rw [← hD2]; exact List.mem_map.2 ⟨x, hx, rfl⟩)
        clear hD2 kF
        go_wp2_with fail
        refine kS.mono ?_
        rintro e wc ⟨rfl, gc⟩
        have gbc : Chg [] ws wc := gb.t0 gc
        have oR := own_tr oD2.1 gc (by simp)
        have hRm : ∀ x ∈ D2, Room wc ws.heap.size x.1 x.2.length := fun x hx => (Room.of (oD2.2 x hx)).tr gc
        clear oD2 gb gc kS
        go_wp2_with fail
        go_loopw [12] (fun iv wq => ∃ i : Nat, i ≤ D2.length ∧ iv = .int .i64 i ∧ Chg [] ws wq ∧ wq.ownsRow ws.heap.size 22 1 (.slice a2 D2.length c2) D2.length (D2.map (·.1)) ∧ ∀ x ∈ D2, Room wq ws.heap.size x.1 x.2.length) (fun iv _ => D2.length - (intOf iv).toNat)
        case atStart => exact ⟨0, Nat.zero_le _, rfl, gbc, oR, hRm⟩
        case round =>
          clear gbc oR hRm
          obtain ⟨i, hi, rfl, hq2, oR, hRm⟩ := hrel
          by_cases hli : i < D2.length
          · have hid : (i : Int) < D2.length := by omega
            have hi0 : (0 : Int) ≤ i := by omega
            obtain ⟨g1, cap1, e, hb1, _, _, x1⟩ := own_some oR (by omega)
            cases e
            have y1 := x1 i D2[i].1 (by simp [hli])
            obtain ⟨a3, c3, e3, hR3⟩ := hRm _ (List.getElem_mem hli)
            have hmem := List.getElem_mem hli
            have hxl := hxs _ hmem
            generalize D2[i] = x at *
            obtain ⟨xv, xl⟩ := x
            dsimp only at *
            subst e3
            clear x1 hR3
            go_wp2_with fail
            go_loopw [13] (fun mv wz => ∃ m : Nat, m ≤ xl.length ∧ mv = .int .i64 m ∧ Chg [] ws wz ∧ wz.ownsRow ws.heap.size 22 1 (.slice (some ⟨g1, 0, none⟩) D2.length c2) D2.length (D2.map (·.1)) ∧ (∀ x ∈ D2, Room wz ws.heap.size x.1 x.2.length) ∧ wz.cell? ⟨g1, i, none⟩ = some (.slice a3 xl.length c3)) (fun mv _ => xl.length - (intOf mv).toNat)
            case atStart => exact ⟨0, Nat.zero_le _, rfl, hq2, oR, hRm, y1⟩
            case round =>
              clear hq2 oR hRm y1
              obtain ⟨m, hm, rfl, hq3, oR, hRm, y1⟩ := hrel
              by_cases hlm : m < xl.length
              · have hmd : (m : Int) < xl.length := by omega
                have hm0 : (0 : Int) ≤ m := by omega
                obtain ⟨a4, c4, e4, hR4⟩ := hRm _ hmem
                cases e4
                obtain ⟨g4, cs4, rfl, hb4, hg4, hl4⟩ := hR4 (by dsimp only; omega)
                dsimp only at hl4
                have t1 := cell_of hg4 (m := m) (by omega)
                have t2 := frozen_of_row wr g4 m _ _ hg4
                go_wp2
                go_roundw
                case rel => exact ⟨m + 1, by omega, by go_num, hq3.tn (Chg.setCell wr ⟨g4, m, none⟩ (.int .u8 7)) hb4, ownB_trD oR (Chg.setCell wr ⟨g4, m, none⟩ (.int .u8 7)) (by intro j hj; rw [List.mem_singleton.1 hj]; exact ownB_not oR hg4 (by decide)), fun x hx => (hRm x hx).set hg4, (Chg.setCell wr ⟨g4, m, none⟩ (.int .u8 7)).cellv y1 (by intro hm; have h1 := List.mem_singleton.1 hm; dsimp only at h1; subst h1; exact ownB_not oR hg4 (by decide) rfl)⟩
                case measure => simp [intOf]; omega
              · go_wp2
                go_roundw
                case rel => exact ⟨i + 1, by omega, by go_num, hq3, oR, hRm⟩
                case measure => simp [intOf]; omega
          · have gE := hq2
            clear hq2 oR hRm
            go_wp2
            go_roundw
            case rel => exact ⟨k + 1, v4, F4, G1, by omega, by go_num, lx.tr0 gE, hF5, hSh4, oG.tr0 gE, hG6.out, hne, Nat.le_trans hwn gE.size, hc.t0 gE⟩
            case measure => simp [intOf]; omega
    · go_wp2
      go_ret
      exact ⟨rfl, hc⟩
theorem tagLogs_run (w : World) (va : Value) (A : List RowR) (hA : Sl w va A.length (A.flatMap rowc)) (okA : ∀ x ∈ A, okR w x) (_ : A.length * 40 ≤ 140737488351232) :
    Calls Try.prog 10 #[va] w fun e w' => e = .returned (.bool true) ∧ Chg [] w w' := logs2_run w va A hA okA
end Go.Proofs.Ytfodlkofjmbolaa
