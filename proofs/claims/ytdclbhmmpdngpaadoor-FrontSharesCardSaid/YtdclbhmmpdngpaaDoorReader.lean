/-
  The contract of (*front.reader).text.
-/
import Derived.Test.YtdclbhmmpdngpaaDoorTexts
import Derived.Test.YtdclbhmmpdngpaaDoorSoftW
import Derived.Test.YtdclbhmmpdngpaaDoorCurMore
namespace Go.Proofs.YtdclbhmmpdngpaaDoor
set_option linter.unusedSimpArgs false
set_option linter.unusedVariables false
open Go.RowKit

theorem CS.vlen_leF (s : CS) (most : Nat) : (s.vlen most).1 ≤ most := by
  by_cases h : (most : Int) < 0 ∨ (most : Int) < (s.vget.1 : Int)
  · rw [CS.vlen_off h]; exact Nat.zero_le _
  · rw [CS.vlen_on h]; omega
theorem bstr_take (l : List UInt8) (k : Nat) : (bstr l).extract 0 k = bstr (l.take k) := by
  unfold bstr
  apply ByteArray.ext
  simp [ByteArray.data_extract]
theorem cellsR {w : World} {p : Nat} {x y z : Value} {e : TypeId} (h : w.heap[p]? = some (.cells #[x, y, z] e (0, 0))) :
    w.cell? ⟨p, 0, none⟩ = some x ∧ w.cell? ⟨p, 1, none⟩ = some y ∧ w.cell? ⟨p, 2, none⟩ = some z ∧ w.frozen? ⟨p, 0, none⟩ = false ∧ w.frozen? ⟨p, 1, none⟩ = false ∧ w.frozen? ⟨p, 2, none⟩ = false :=
  ⟨by rw [cell_of_row w p 0 _ _ _ h]; rfl, by rw [cell_of_row w p 1 _ _ _ h]; rfl, by rw [cell_of_row w p 2 _ _ _ h]; rfl, frozen_of_row w p 0 _ _ h, frozen_of_row w p 1 _ _ h, frozen_of_row w p 2 _ _ h⟩
/-- A reader of texts at block q, over the cursor at p. -/
def Rdr (w : World) (q p : Nat) (was : List UInt8) (all : Int) : Prop := w.heap[q]? = some (.cells #[.pointer (some ⟨p, 0, none⟩), .string (bstr was), .int .i64 all] 51 (0, 0))
theorem Rdr.lt {w : World} {q p : Nat} {was : List UInt8} {all : Int} (h : Rdr w q p was all) : q < w.heap.size := lt_of_heap h
theorem Rdr.tr0 {w w' : World} {q p : Nat} {was : List UInt8} {all : Int} (h : Rdr w q p was all) (g : Chg [] w w') : Rdr w' q p was all := g.heap h (by simp)
theorem Rdr.trp {w w' : World} {q p : Nat} {was : List UInt8} {all : Int} (h : Rdr w q p was all) (g : Chg [p] w w') (hn : p ≠ q) : Rdr w' q p was all := g.heap h (by simpa using fun e => hn e.symm)
theorem Cur.ne_rdr {w : World} {q p : Nat} {s : CS} {was : List UInt8} {all : Int} (h : Cur w p s) (k : Rdr w q p was all) : p ≠ q := by
  rintro rfl
  obtain ⟨cs, hh⟩ := h.block
  unfold Rdr at k
  rw [hh] at k
  simp at k <;> exact absurd k.2 (by decide)

set_option maxHeartbeats 16000000 in
set_option maxRecDepth 100000 in
theorem text_ok (w : World) (q p : Nat) (s : CS) (was : List UInt8) (all : Nat) (hr : Rdr w q p was all) (hc : Cur w p s) (hw : was.length ≤ 20000000) (ha : all ≤ 20000000) :
    Calls Tryd.prog 24 #[.pointer (some ⟨q, 0, none⟩)] w fun e w' => ∃ t' s' all', e = .returned (.string (bstr t')) ∧ Rdr w' q p t' all' ∧ Cur w' p s' ∧ Chg [p, q] w w' ∧
      ((((textT s was).2.bad = true ∨ 16777216 < all + (textT s was).1.length) ∧ s' = CS.fail ∧ t' = was) ∨ (¬ ((textT s was).2.bad = true ∨ 16777216 < all + (textT s was).1.length) ∧ t' = (textT s was).1 ∧ s' = (textT s was).2 ∧ all' = ((all + (textT s was).1.length : Nat) : Int))) := by
  have hne := hc.ne_rdr hr
  have hle1 := CS.vlen_leF s was.length
  obtain ⟨T, hT⟩ : ∃ T, T = textT s was := ⟨_, rfl⟩
  rw [← hT]
  unfold textT at hT
  have kV := fun (w' : World) (h : Cur w' p s) => vlen_ok w' p s was.length (by omega) (by omega) h
  obtain ⟨K, hK⟩ : ∃ K, K = (s.vlen was.length).1 := ⟨_, rfl⟩
  obtain ⟨s1, hs1⟩ : ∃ s1, s1 = (s.vlen was.length).2 := ⟨_, rfl⟩
  simp only [← hK, ← hs1] at hT kV hle1
  clear hK hs1
  have hle2 := CS.vlen_leF s1 65536
  have kM := fun (w' : World) (h : Cur w' p s1) => vlen_ok w' p s1 65536 (by omega) (by omega) h
  obtain ⟨M, hM⟩ : ∃ M, M = (s1.vlen 65536).1 := ⟨_, rfl⟩
  obtain ⟨s2, hs2⟩ : ∃ s2, s2 = (s1.vlen 65536).2 := ⟨_, rfl⟩
  simp only [← hM, ← hs2] at hT kM
  replace hle2 : M ≤ 65536 := by rw [hM]; exact hle2
  clear hM hs2
  have kT := fun (w' : World) (h : Cur w' p s2) => take_ok w' p s2 M h
  have hle3 := CS.took_length s2 M
  obtain ⟨rest, hrest⟩ : ∃ r, r = s2.took M := ⟨_, rfl⟩
  obtain ⟨s3, hs3⟩ : ∃ s3, s3 = s2.then M := ⟨_, rfl⟩
  simp only [← hrest, ← hs3] at hT kT hle3
  clear hrest hs3
  subst hT
  dsimp only
  have hTl : (was.take K ++ rest).length = K + rest.length := by rw [List.length_append, List.length_take]; omega
  have hq := hr.lt
  have hp := hc.lt
  go_enter Tryd.func24, Tryd.ntmps24
  go_wp2_with fail
  refine' region_softW (fun m => match m with | 0 => [p] | _ => []) (fun m wx => Cur wx p (if m = 0 then s else s1) ∧ Rdr wx q p was all ∧ Chg [p] w wx) 10 [cst _, cst _, cst _, cst (.pointer (some ⟨p, 0, none⟩)), cst _, cst _, cst _, cst (.string (bstr was)), cst _, cst (.int .i64 (K : Int))] [false, false, false, false, false, false, false, false, false, true] [99, 99, 99, 99, 99, 99, 99, 99, 99, 99] rfl rfl rfl (by kernel_rfl) (by kernel_rfl) (by kernel_rfl) (by kernel_rfl) (by intro j wx wy ⟨h1, h2, h3⟩ g; exact ⟨h1.tr0 g, h2.tr0 g, h3.t0 g⟩) (⟨hc, hr, Chg.refl _ _⟩) ⟨staysW_cst _ _, ⟨staysW_cst _ _, ⟨staysW_cst _ _, ⟨staysW_cst _ _, ⟨staysW_cst _ _, ⟨staysW_cst _ _, ⟨staysW_cst _ _, ⟨staysW_cst _ _, ⟨staysW_cst _ _, ⟨staysW_cstW _ _ _, trivial⟩⟩⟩⟩⟩⟩⟩⟩⟩⟩ _ (fun V => by simp only [putAll, Act.put, List.take_succ_cons, List.take_zero, List.setIfInBounds_toArray, List.set_cons_zero, List.set_cons_succ, Nat.reduceAdd]; exact rfl) ?hs1 ?ht1
  case hs1 =>
    simp only [List.take_succ_cons, List.take_zero, softsW]
    refine ⟨?_, ?_, ?_, ?_, ?_, ?_, ?_, ?_, ?_, ?_, trivial⟩
    · intro V wx hi hd
      simp [phi, Region.binds, cst] at hd
      try simp only [hd]
      first
        | (refine soft_const rfl ?_; go_simp; done)
        | (refine soft_const rfl ?_; go_simp; exact rfl)
        | (exact soft_cellN rfl _ _ rfl _ rfl _ _ ((by obtain ⟨j, _, hi⟩ := hi; exact (cellsR hi.2.1).1)) Tryd.underlying48 rfl)
        | (exact soft_cellN rfl _ _ rfl _ rfl _ _ ((by obtain ⟨j, _, hi⟩ := hi; exact (cellsR hi.2.1).2.1)) Tryd.underlying9 rfl)
        | (exact soft_skip rfl)
    · intro V wx hi hd
      simp [phi, Region.binds, cst] at hd
      try simp only [hd]
      first
        | (refine soft_const rfl ?_; go_simp; done)
        | (refine soft_const rfl ?_; go_simp; exact rfl)
        | (exact soft_cellN rfl _ _ rfl _ rfl _ _ ((by obtain ⟨j, _, hi⟩ := hi; exact (cellsR hi.2.1).1)) Tryd.underlying48 rfl)
        | (exact soft_cellN rfl _ _ rfl _ rfl _ _ ((by obtain ⟨j, _, hi⟩ := hi; exact (cellsR hi.2.1).2.1)) Tryd.underlying9 rfl)
        | (exact soft_skip rfl)
    · intro V wx hi hd
      simp [phi, Region.binds, cst] at hd
      try simp only [hd]
      first
        | (refine soft_const rfl ?_; go_simp; done)
        | (refine soft_const rfl ?_; go_simp; exact rfl)
        | (exact soft_cellN rfl _ _ rfl _ rfl _ _ ((by obtain ⟨j, _, hi⟩ := hi; exact (cellsR hi.2.1).1)) Tryd.underlying48 rfl)
        | (exact soft_cellN rfl _ _ rfl _ rfl _ _ ((by obtain ⟨j, _, hi⟩ := hi; exact (cellsR hi.2.1).2.1)) Tryd.underlying9 rfl)
        | (exact soft_skip rfl)
    · intro V wx hi hd
      simp [phi, Region.binds, cst] at hd
      try simp only [hd]
      first
        | (refine soft_const rfl ?_; go_simp; done)
        | (refine soft_const rfl ?_; go_simp; exact rfl)
        | (exact soft_cellN rfl _ _ rfl _ rfl _ _ ((by obtain ⟨j, _, hi⟩ := hi; exact (cellsR hi.2.1).1)) Tryd.underlying48 rfl)
        | (exact soft_cellN rfl _ _ rfl _ rfl _ _ ((by obtain ⟨j, _, hi⟩ := hi; exact (cellsR hi.2.1).2.1)) Tryd.underlying9 rfl)
        | (exact soft_skip rfl)
    · intro V wx hi hd
      simp [phi, Region.binds, cst] at hd
      try simp only [hd]
      first
        | (refine soft_const rfl ?_; go_simp; done)
        | (refine soft_const rfl ?_; go_simp; exact rfl)
        | (exact soft_cellN rfl _ _ rfl _ rfl _ _ ((by obtain ⟨j, _, hi⟩ := hi; exact (cellsR hi.2.1).1)) Tryd.underlying48 rfl)
        | (exact soft_cellN rfl _ _ rfl _ rfl _ _ ((by obtain ⟨j, _, hi⟩ := hi; exact (cellsR hi.2.1).2.1)) Tryd.underlying9 rfl)
        | (exact soft_skip rfl)
    · intro V wx hi hd
      simp [phi, Region.binds, cst] at hd
      try simp only [hd]
      first
        | (refine soft_const rfl ?_; go_simp; done)
        | (refine soft_const rfl ?_; go_simp; exact rfl)
        | (exact soft_cellN rfl _ _ rfl _ rfl _ _ ((by obtain ⟨j, _, hi⟩ := hi; exact (cellsR hi.2.1).1)) Tryd.underlying48 rfl)
        | (exact soft_cellN rfl _ _ rfl _ rfl _ _ ((by obtain ⟨j, _, hi⟩ := hi; exact (cellsR hi.2.1).2.1)) Tryd.underlying9 rfl)
        | (exact soft_skip rfl)
    · intro V wx hi hd
      simp [phi, Region.binds, cst] at hd
      try simp only [hd]
      first
        | (refine soft_const rfl ?_; go_simp; done)
        | (refine soft_const rfl ?_; go_simp; exact rfl)
        | (exact soft_cellN rfl _ _ rfl _ rfl _ _ ((by obtain ⟨j, _, hi⟩ := hi; exact (cellsR hi.2.1).1)) Tryd.underlying48 rfl)
        | (exact soft_cellN rfl _ _ rfl _ rfl _ _ ((by obtain ⟨j, _, hi⟩ := hi; exact (cellsR hi.2.1).2.1)) Tryd.underlying9 rfl)
        | (exact soft_skip rfl)
    · intro V wx hi hd
      simp [phi, Region.binds, cst] at hd
      try simp only [hd]
      first
        | (refine soft_const rfl ?_; go_simp; done)
        | (refine soft_const rfl ?_; go_simp; exact rfl)
        | (exact soft_cellN rfl _ _ rfl _ rfl _ _ ((by obtain ⟨j, _, hi⟩ := hi; exact (cellsR hi.2.1).1)) Tryd.underlying48 rfl)
        | (exact soft_cellN rfl _ _ rfl _ rfl _ _ ((by obtain ⟨j, _, hi⟩ := hi; exact (cellsR hi.2.1).2.1)) Tryd.underlying9 rfl)
        | (exact soft_skip rfl)
    · intro V wx hi hd
      simp [phi, Region.binds, cst] at hd
      try simp only [hd]
      first
        | (refine soft_const rfl ?_; go_simp; done)
        | (refine soft_const rfl ?_; go_simp; exact rfl)
        | (exact soft_cellN rfl _ _ rfl _ rfl _ _ ((by obtain ⟨j, _, hi⟩ := hi; exact (cellsR hi.2.1).1)) Tryd.underlying48 rfl)
        | (exact soft_cellN rfl _ _ rfl _ rfl _ _ ((by obtain ⟨j, _, hi⟩ := hi; exact (cellsR hi.2.1).2.1)) Tryd.underlying9 rfl)
        | (exact soft_skip rfl)
    · intro V wx hi hd
      simp [phi, Region.binds, cst] at hd
      try simp only [hd]
      refine wstep_call rfl _ _ (by go_simp; try exact ⟨rfl, rfl⟩) ((kV wx hi.1).mono ?_)
      rintro e w' ⟨he, c, g⟩
      exact ⟨_, he, g, ⟨c, hi.2.1.trp g hne, hi.2.2.t1 g⟩, rfl⟩
  intro V w1 hi hk
  obtain ⟨c1, r1, g1⟩ : Cur w1 p s1 ∧ _ := hi
  have h9 := hk 9 (by decide)
  simp [phi, cst] at h9
  simp only [h9, List.drop_succ_cons, List.drop_zero]
  clear hk h9
  generalize V 0 = q0
  generalize V 1 = q1
  generalize V 2 = q2
  generalize V 3 = q3
  generalize V 4 = q4
  generalize V 5 = q5
  generalize V 6 = q6
  generalize V 7 = q7
  generalize V 8 = q8
  clear V kV hc hr
  go_wp2_with fail
  refine' region_softW (fun m => match m with | 0 => [p] | 1 => [p] | _ => []) (fun m wx => Cur wx p (if m = 0 then s1 else if m = 1 then s2 else s3) ∧ Rdr wx q p was all ∧ Chg [p] w1 wx) 10 [cst _, cst _, cst _, cst (.pointer (some ⟨p, 0, none⟩)), cst _, cst _, cst _, cst (.pointer (some ⟨p, 0, none⟩)), cst (.int .i64 (M : Int)), fun v w' => w'.ownsRow w1.heap.size 5 1 v rest.length (bcs rest)] [false, false, false, false, false, false, false, false, true, true] [99, 99, 99, 99, 99, 99, 99, 99, 99, 99] rfl rfl rfl (by kernel_rfl) (by kernel_rfl) (by kernel_rfl) (by kernel_rfl) (by intro j wx wy ⟨h1, h2, h3⟩ g; exact ⟨h1.tr0 g, h2.tr0 g, h3.t0 g⟩) (⟨c1, r1, Chg.refl _ _⟩) ⟨staysW_cst _ _, ⟨staysW_cst _ _, ⟨staysW_cst _ _, ⟨staysW_cst _ _, ⟨staysW_cst _ _, ⟨staysW_cst _ _, ⟨staysW_cst _ _, ⟨staysW_cst _ _, ⟨staysW_cstW _ _ _, ⟨⟨fun _ _ _ h g => own_tr h g (by simp), fun m hm v w w' h g => by match m, hm, g with | m + 2, _, g => exact own_tr h g (by simp)⟩, trivial⟩⟩⟩⟩⟩⟩⟩⟩⟩⟩ _ (fun V => by simp only [putAll, Act.put, List.take_succ_cons, List.take_zero, List.setIfInBounds_toArray, List.set_cons_zero, List.set_cons_succ, Nat.reduceAdd]; exact rfl) ?hs2 ?ht2
  case hs2 =>
    simp only [List.take_succ_cons, List.take_zero, softsW]
    refine ⟨?_, ?_, ?_, ?_, ?_, ?_, ?_, ?_, ?_, ?_, trivial⟩
    · intro V wx hi hd
      simp [phi, Region.binds, cst] at hd
      try simp only [hd]
      first
        | (refine soft_const rfl ?_; go_simp; done)
        | (refine soft_const rfl ?_; go_simp; exact rfl)
        | (exact soft_cellN rfl _ _ rfl _ rfl _ _ ((by obtain ⟨j, _, hi⟩ := hi; exact (cellsR hi.2.1).1)) Tryd.underlying48 rfl)
        | (exact soft_skip rfl)
    · intro V wx hi hd
      simp [phi, Region.binds, cst] at hd
      try simp only [hd]
      first
        | (refine soft_const rfl ?_; go_simp; done)
        | (refine soft_const rfl ?_; go_simp; exact rfl)
        | (exact soft_cellN rfl _ _ rfl _ rfl _ _ ((by obtain ⟨j, _, hi⟩ := hi; exact (cellsR hi.2.1).1)) Tryd.underlying48 rfl)
        | (exact soft_skip rfl)
    · intro V wx hi hd
      simp [phi, Region.binds, cst] at hd
      try simp only [hd]
      first
        | (refine soft_const rfl ?_; go_simp; done)
        | (refine soft_const rfl ?_; go_simp; exact rfl)
        | (exact soft_cellN rfl _ _ rfl _ rfl _ _ ((by obtain ⟨j, _, hi⟩ := hi; exact (cellsR hi.2.1).1)) Tryd.underlying48 rfl)
        | (exact soft_skip rfl)
    · intro V wx hi hd
      simp [phi, Region.binds, cst] at hd
      try simp only [hd]
      first
        | (refine soft_const rfl ?_; go_simp; done)
        | (refine soft_const rfl ?_; go_simp; exact rfl)
        | (exact soft_cellN rfl _ _ rfl _ rfl _ _ ((by obtain ⟨j, _, hi⟩ := hi; exact (cellsR hi.2.1).1)) Tryd.underlying48 rfl)
        | (exact soft_skip rfl)
    · intro V wx hi hd
      simp [phi, Region.binds, cst] at hd
      try simp only [hd]
      first
        | (refine soft_const rfl ?_; go_simp; done)
        | (refine soft_const rfl ?_; go_simp; exact rfl)
        | (exact soft_cellN rfl _ _ rfl _ rfl _ _ ((by obtain ⟨j, _, hi⟩ := hi; exact (cellsR hi.2.1).1)) Tryd.underlying48 rfl)
        | (exact soft_skip rfl)
    · intro V wx hi hd
      simp [phi, Region.binds, cst] at hd
      try simp only [hd]
      first
        | (refine soft_const rfl ?_; go_simp; done)
        | (refine soft_const rfl ?_; go_simp; exact rfl)
        | (exact soft_cellN rfl _ _ rfl _ rfl _ _ ((by obtain ⟨j, _, hi⟩ := hi; exact (cellsR hi.2.1).1)) Tryd.underlying48 rfl)
        | (exact soft_skip rfl)
    · intro V wx hi hd
      simp [phi, Region.binds, cst] at hd
      try simp only [hd]
      first
        | (refine soft_const rfl ?_; go_simp; done)
        | (refine soft_const rfl ?_; go_simp; exact rfl)
        | (exact soft_cellN rfl _ _ rfl _ rfl _ _ ((by obtain ⟨j, _, hi⟩ := hi; exact (cellsR hi.2.1).1)) Tryd.underlying48 rfl)
        | (exact soft_skip rfl)
    · intro V wx hi hd
      simp [phi, Region.binds, cst] at hd
      try simp only [hd]
      first
        | (refine soft_const rfl ?_; go_simp; done)
        | (refine soft_const rfl ?_; go_simp; exact rfl)
        | (exact soft_cellN rfl _ _ rfl _ rfl _ _ ((by obtain ⟨j, _, hi⟩ := hi; exact (cellsR hi.2.1).1)) Tryd.underlying48 rfl)
        | (exact soft_skip rfl)
    · intro V wx hi hd
      simp [phi, Region.binds, cst] at hd
      try simp only [hd]
      refine wstep_call rfl _ _ (by go_simp; try exact ⟨rfl, rfl⟩) ((kM wx hi.1).mono ?_)
      rintro e w' ⟨he, c, g⟩
      exact ⟨_, he, g, ⟨c, hi.2.1.trp g hne, hi.2.2.t1 g⟩, rfl⟩
    · intro V wx hi hd
      simp [phi, Region.binds, cst] at hd
      try simp only [hd]
      refine wstep_call rfl _ _ (by go_simp; try exact ⟨rfl, rfl⟩) ((kT wx hi.1).mono ?_)
      rintro e w' ⟨v', he, ho, c, g⟩
      exact ⟨v', he, g, ⟨c, hi.2.1.trp g hne, hi.2.2.t1 g⟩, own_lower ho hi.2.2.size⟩
  intro V w2 hi hk
  obtain ⟨c2, r2, g2⟩ : Cur w2 p s3 ∧ _ := hi
  have o2 : w2.ownsRow w1.heap.size 5 1 (V 9) rest.length (bcs rest) := hk 9 (by decide)
  clear hk
  simp only [List.drop_succ_cons, List.drop_zero]
  generalize V 0 = q0
  generalize V 1 = q1
  generalize V 2 = q2
  generalize V 3 = q3
  generalize V 4 = q4
  generalize V 5 = q5
  generalize V 6 = q6
  generalize V 7 = q7
  generalize V 8 = q8
  generalize V 9 = vr at *
  clear V kM kT c1 r1
  have g12 : Chg [p, q] w w2 := (g1.t1 g2).mono (by simp)
  obtain ⟨ar, cr, rfl⟩ := own_shape o2
  have hsR := Sl.ofOwns o2
  obtain ⟨x0, x1, x2, f0, f1, f2⟩ := cellsR r2
  have gS : Chg [q] w2 (w2.setCell ⟨q, 2, none⟩ (.int .i64 ((all : Int) + ((K : Int) + (rest.length : Int))))) := Chg.setCell w2 ⟨q, 2, none⟩ _
  have r3 : Rdr (w2.setCell ⟨q, 2, none⟩ (.int .i64 ((all : Int) + ((K : Int) + (rest.length : Int))))) q p was ((all : Int) + ((K : Int) + (rest.length : Int))) := by
    unfold Rdr at r2 ⊢
    rw [heap_setCell_same _ q 2 _ _ _ r2]; rfl
  have c3 := c2.tr1 gS hne r2 (by decide)
  have hsR3 := hsR.tr gS (fun k hk hm => by
    obtain ⟨cs, f, hh⟩ := own_block o2 k (vblk_own hk)
    rw [List.mem_singleton.1 hm] at hh
    unfold Rdr at r2
    rw [r2] at hh
    simp at hh <;> exact absurd hh.2.1 (by decide))
  have g3 : Chg [p, q] w (w2.setCell ⟨q, 2, none⟩ (.int .i64 ((all : Int) + ((K : Int) + (rest.length : Int))))) := g12.t1 (gS.mono (by simp))
  clear c2 g12 g1 g2 gS hsR o2
  by_cases hbig : 16777216 < all + (K + rest.length)
  · have hbi : (16777216 : Int) < (all : Int) + ((K : Int) + (rest.length : Int)) := by omega
    go_wp2_with fail
    generalize w2.setCell ⟨q, 2, none⟩ (.int .i64 ((all : Int) + ((K : Int) + (rest.length : Int)))) = w3 at *
    clear x0 x1 x2 f0 f1 f2
    refine (fail_ok w3 p s3 c3).mono ?_
    rintro e w4 ⟨rfl, c4, g4⟩
    have r4 := r3.trp g4 hne
    have g04 : Chg [p, q] w w4 := g3.t1 (g4.mono (by simp))
    obtain ⟨x0, x1, x2, f0, f1, f2⟩ := cellsR r4
    go_wp2_with fail
    refine (bad_ok w4 p CS.fail c4).mono ?_
    rintro e w5 ⟨rfl, rfl⟩
    have hbf : CS.fail.bad = true := rfl
    go_wp2
    go_ret
    exact ⟨was, CS.fail, _, rfl, r4, c4, g04, .inl ⟨.inr (by rw [hTl]; exact hbig), rfl, rfl⟩⟩
  · have hbi : ¬ (16777216 : Int) < (all : Int) + ((K : Int) + (rest.length : Int)) := by omega
    go_wp2_with fail
    generalize w2.setCell ⟨q, 2, none⟩ (.int .i64 ((all : Int) + ((K : Int) + (rest.length : Int)))) = w3 at *
    clear x0 x1 x2 f0 f1 f2
    refine (bad_ok w3 p s3 c3).mono ?_
    rintro e w5 ⟨rfl, rfl⟩
    obtain ⟨x0, x1, x2, f0, f1, f2⟩ := cellsR r3
    cases hb3 : s3.bad
    · have hKt := bstr_take was K
      have hKi : (K : Int) ≤ was.length := by omega
      go_wp2_with fail
      refine' region_soft 12 [cst _, cst _, cst _, cst _, cst (.string (bstr was)), cst _, cst (.string (bstr (was.take K))), cst _, cst (.string (bstr rest)), cst (.string (bstr (was.take K ++ rest))), cst _, cst _] rfl (by kernel_rfl) (by kernel_rfl) (stays_cons (Stays.cst _) (stays_cons (Stays.cst _) (stays_cons (Stays.cst _) (stays_cons (Stays.cst _) (stays_cons (Stays.cst _) (stays_cons (Stays.cst _) (stays_cons (Stays.cst _) (stays_cons (Stays.cst _) (stays_cons (Stays.cst _) (stays_cons (Stays.cst _) (stays_cons (Stays.cst _) (stays_cons (Stays.cst _) stays_nil)))))))))))) _ (fun V => by simp only [putAll, Act.put, List.take_succ_cons, List.take_zero, List.setIfInBounds_toArray, List.set_cons_zero, List.set_cons_succ, Nat.reduceAdd]; exact rfl) ?hs3 ?ht3
      case hs3 =>
        simp only [List.take_succ_cons, List.take_zero, softs]
        refine ⟨?_, ?_, ?_, ?_, ?_, ?_, ?_, ?_, ?_, ?_, ?_, ?_, trivial⟩
        · intro V w hw hd
          simp [phi, Region.binds, cst] at hd
          try simp only [hd]
          first
            | (refine soft_const rfl ?_; go_simp; done)
            | (refine soft_const rfl ?_; go_simp; exact rfl)
            | (exact soft_cell rfl hw _ _ rfl _ rfl _ _ x1 Tryd.underlying9 rfl)
            | (refine soft_str rfl _ _ _ rfl _ rfl _ Tryd.underlying25 Tryd.underlying5 Tryd.underlying9 _ _ ?_ rfl; exact (hsR3.tr0 hw))
            | (refine soft_const rfl ?_; go_simp; simp [bstr_append, hKt, hKi]; done)
            | (exact soft_skip rfl)
        · intro V w hw hd
          simp [phi, Region.binds, cst] at hd
          try simp only [hd]
          first
            | (refine soft_const rfl ?_; go_simp; done)
            | (refine soft_const rfl ?_; go_simp; exact rfl)
            | (exact soft_cell rfl hw _ _ rfl _ rfl _ _ x1 Tryd.underlying9 rfl)
            | (refine soft_str rfl _ _ _ rfl _ rfl _ Tryd.underlying25 Tryd.underlying5 Tryd.underlying9 _ _ ?_ rfl; exact (hsR3.tr0 hw))
            | (refine soft_const rfl ?_; go_simp; simp [bstr_append, hKt, hKi]; done)
            | (exact soft_skip rfl)
        · intro V w hw hd
          simp [phi, Region.binds, cst] at hd
          try simp only [hd]
          first
            | (refine soft_const rfl ?_; go_simp; done)
            | (refine soft_const rfl ?_; go_simp; exact rfl)
            | (exact soft_cell rfl hw _ _ rfl _ rfl _ _ x1 Tryd.underlying9 rfl)
            | (refine soft_str rfl _ _ _ rfl _ rfl _ Tryd.underlying25 Tryd.underlying5 Tryd.underlying9 _ _ ?_ rfl; exact (hsR3.tr0 hw))
            | (refine soft_const rfl ?_; go_simp; simp [bstr_append, hKt, hKi]; done)
            | (exact soft_skip rfl)
        · intro V w hw hd
          simp [phi, Region.binds, cst] at hd
          try simp only [hd]
          first
            | (refine soft_const rfl ?_; go_simp; done)
            | (refine soft_const rfl ?_; go_simp; exact rfl)
            | (exact soft_cell rfl hw _ _ rfl _ rfl _ _ x1 Tryd.underlying9 rfl)
            | (refine soft_str rfl _ _ _ rfl _ rfl _ Tryd.underlying25 Tryd.underlying5 Tryd.underlying9 _ _ ?_ rfl; exact (hsR3.tr0 hw))
            | (refine soft_const rfl ?_; go_simp; simp [bstr_append, hKt, hKi]; done)
            | (exact soft_skip rfl)
        · intro V w hw hd
          simp [phi, Region.binds, cst] at hd
          try simp only [hd]
          first
            | (refine soft_const rfl ?_; go_simp; done)
            | (refine soft_const rfl ?_; go_simp; exact rfl)
            | (exact soft_cell rfl hw _ _ rfl _ rfl _ _ x1 Tryd.underlying9 rfl)
            | (refine soft_str rfl _ _ _ rfl _ rfl _ Tryd.underlying25 Tryd.underlying5 Tryd.underlying9 _ _ ?_ rfl; exact (hsR3.tr0 hw))
            | (refine soft_const rfl ?_; go_simp; simp [bstr_append, hKt, hKi]; done)
            | (exact soft_skip rfl)
        · intro V w hw hd
          simp [phi, Region.binds, cst] at hd
          try simp only [hd]
          first
            | (refine soft_const rfl ?_; go_simp; done)
            | (refine soft_const rfl ?_; go_simp; exact rfl)
            | (exact soft_cell rfl hw _ _ rfl _ rfl _ _ x1 Tryd.underlying9 rfl)
            | (refine soft_str rfl _ _ _ rfl _ rfl _ Tryd.underlying25 Tryd.underlying5 Tryd.underlying9 _ _ ?_ rfl; exact (hsR3.tr0 hw))
            | (refine soft_const rfl ?_; go_simp; simp [bstr_append, hKt, hKi]; done)
            | (exact soft_skip rfl)
        · intro V w hw hd
          simp [phi, Region.binds, cst] at hd
          try simp only [hd]
          first
            | (refine soft_const rfl ?_; go_simp; done)
            | (refine soft_const rfl ?_; go_simp; exact rfl)
            | (exact soft_cell rfl hw _ _ rfl _ rfl _ _ x1 Tryd.underlying9 rfl)
            | (refine soft_str rfl _ _ _ rfl _ rfl _ Tryd.underlying25 Tryd.underlying5 Tryd.underlying9 _ _ ?_ rfl; exact (hsR3.tr0 hw))
            | (refine soft_const rfl ?_; go_simp; simp [bstr_append, hKt, hKi]; done)
            | (exact soft_skip rfl)
        · intro V w hw hd
          simp [phi, Region.binds, cst] at hd
          try simp only [hd]
          first
            | (refine soft_const rfl ?_; go_simp; done)
            | (refine soft_const rfl ?_; go_simp; exact rfl)
            | (exact soft_cell rfl hw _ _ rfl _ rfl _ _ x1 Tryd.underlying9 rfl)
            | (refine soft_str rfl _ _ _ rfl _ rfl _ Tryd.underlying25 Tryd.underlying5 Tryd.underlying9 _ _ ?_ rfl; exact (hsR3.tr0 hw))
            | (refine soft_const rfl ?_; go_simp; simp [bstr_append, hKt, hKi]; done)
            | (exact soft_skip rfl)
        · intro V w hw hd
          simp [phi, Region.binds, cst] at hd
          try simp only [hd]
          first
            | (refine soft_const rfl ?_; go_simp; done)
            | (refine soft_const rfl ?_; go_simp; exact rfl)
            | (exact soft_cell rfl hw _ _ rfl _ rfl _ _ x1 Tryd.underlying9 rfl)
            | (refine soft_str rfl _ _ _ rfl _ rfl _ Tryd.underlying25 Tryd.underlying5 Tryd.underlying9 _ _ ?_ rfl; exact (hsR3.tr0 hw))
            | (refine soft_const rfl ?_; go_simp; simp [bstr_append, hKt, hKi]; done)
            | (exact soft_skip rfl)
        · intro V w hw hd
          simp [phi, Region.binds, cst] at hd
          try simp only [hd]
          refine soft_const rfl ?_
          go_simp
          rw [if_neg (by omega), bstr_append]
        · intro V w hw hd
          simp [phi, Region.binds, cst] at hd
          try simp only [hd]
          first
            | (refine soft_const rfl ?_; go_simp; done)
            | (refine soft_const rfl ?_; go_simp; exact rfl)
            | (exact soft_cell rfl hw _ _ rfl _ rfl _ _ x1 Tryd.underlying9 rfl)
            | (refine soft_str rfl _ _ _ rfl _ rfl _ Tryd.underlying25 Tryd.underlying5 Tryd.underlying9 _ _ ?_ rfl; exact (hsR3.tr0 hw))
            | (refine soft_const rfl ?_; go_simp; simp [bstr_append, hKt, hKi]; done)
            | (exact soft_skip rfl)
        · intro V w hw hd
          simp [phi, Region.binds, cst] at hd
          try simp only [hd]
          first
            | (refine soft_const rfl ?_; go_simp; done)
            | (refine soft_const rfl ?_; go_simp; exact rfl)
            | (exact soft_cell rfl hw _ _ rfl _ rfl _ _ x1 Tryd.underlying9 rfl)
            | (refine soft_str rfl _ _ _ rfl _ rfl _ Tryd.underlying25 Tryd.underlying5 Tryd.underlying9 _ _ ?_ rfl; exact (hsR3.tr0 hw))
            | (refine soft_const rfl ?_; go_simp; simp [bstr_append, hKt, hKi]; done)
            | (exact soft_skip rfl)
      intro V w6 g6 hk
      have h9 := hk 9 (by decide)
      have h10 := hk 10 (by decide)
      have h11 := hk 11 (by decide)
      simp [phi, cst] at h9 h10 h11
      simp only [h9, h10, h11, List.drop_succ_cons, List.drop_zero]
      clear hk h9 h10 h11
      generalize V 0 = z0
      generalize V 1 = z1
      generalize V 2 = z2
      generalize V 3 = z3
      generalize V 4 = z4
      generalize V 5 = z5
      generalize V 6 = z6
      generalize V 7 = z7
      generalize V 8 = z8
      clear V x0 x1 x2 f0 f1 f2
      have r6 := r3.tr0 g6
      have c6 := c3.tr0 g6
      have g06 := g3.t0 g6
      obtain ⟨x0, x1, x2, f0, f1, f2⟩ := cellsR r6
      have gS := Chg.setCell w6 ⟨q, 1, none⟩ (.string (bstr (was.take K ++ rest)))
      have r7 : Rdr (w6.setCell ⟨q, 1, none⟩ (.string (bstr (was.take K ++ rest)))) q p (was.take K ++ rest) ((all : Int) + ((K : Int) + (rest.length : Int))) := by
        unfold Rdr at r6 ⊢
        rw [heap_setCell_same _ q 1 _ _ _ r6]; rfl
      have c7 := c6.tr1 gS hne r6 (by decide)
      have g7 : Chg [p, q] w (w6.setCell ⟨q, 1, none⟩ (.string (bstr (was.take K ++ rest)))) := g06.t1 (gS.mono (by simp))
      go_wp2
      go_ret
      exact ⟨was.take K ++ rest, rfl, s3, _, r7, c7, g7, rfl, rfl, rfl⟩
    · have hfl : s3 = CS.fail := by
        have := c3.nil hb3
        obtain ⟨l3, b3⟩ := s3
        dsimp only at *
        subst this hb3
        rfl
      subst hfl
      have hbf : CS.fail.bad = true := rfl
      go_wp2
      go_ret
      exact ⟨was, CS.fail, _, rfl, r3, c3, g3, .inl ⟨.inl rfl, rfl, rfl⟩⟩
end Go.Proofs.YtdclbhmmpdngpaaDoor
