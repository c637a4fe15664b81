/-
  Bytes as columns: the contracts of schema.one, schema.Get and of the document's own Get (hypostyleref16).
-/
import Derived.Test.YtllidfhdklfkmaaSchema
import Derived.RegionCalls
import Derived.Deep.RegionWith
import Derived.Deep.DeepCutAuto
namespace Go.Proofs.Ytllidfhdklfkmaa
open Go.RowKit

theorem col_stored {W w3 : World} {p B : Nat} {s : CS} {x0 y0 z0 : Value} (nb : w3.heap[B]? = some (.cells #[x0, y0, z0] 52 (0, 0))) (d : Cur w3 p s) (G : Chg [p] W w3) (hB : W.heap.size ≤ B) (hp : p < B) (x y z : Value) :
    (((w3.setCell ⟨B, 0, none⟩ x).setCell ⟨B, 1, none⟩ y).setCell ⟨B, 2, none⟩ z).heap[B]? = some (.cells #[x, y, z] 52 (0, 0)) ∧ Cur (((w3.setCell ⟨B, 0, none⟩ x).setCell ⟨B, 1, none⟩ y).setCell ⟨B, 2, none⟩ z) p s ∧ Chg [p] W (((w3.setCell ⟨B, 0, none⟩ x).setCell ⟨B, 1, none⟩ y).setCell ⟨B, 2, none⟩ z) := by
  have c : Chg [B] w3 (((w3.setCell ⟨B, 0, none⟩ x).setCell ⟨B, 1, none⟩ y).setCell ⟨B, 2, none⟩ z) := ((Chg.setCell w3 ⟨B, 0, none⟩ x).t1 (Chg.setCell _ ⟨B, 1, none⟩ y)).t1 (Chg.setCell _ ⟨B, 2, none⟩ z)
  refine ⟨?_, d.tr1 c (by omega) nb (by decide), G.tn c hB⟩
  rw [heap_setCell_same _ B 2 _ _ _ (heap_setCell_same _ B 1 _ _ _ (heap_setCell_same _ B 0 _ _ _ nb))]
  rfl

/-- One column is read. -/
def CS.c1 (s : CS) : CS := (s.vlen 100).2
def CS.nm (s : CS) : List UInt8 := s.c1.took (s.vlen 100).1
def CS.c2 (s : CS) : CS := s.c1.then (s.vlen 100).1
def CS.c3 (s : CS) : CS := s.c2.then 1
def CS.c4 (s : CS) : CS := s.c3.then 1
def CS.oneC (s : CS) : Col := ⟨s.nm, s.c2.num 1, decide (s.c3.num 1 = 1)⟩
def CS.oneS (s : CS) : CS := if s.c3.num 1 ≤ 1 then s.c4 else CS.fail

theorem cells3 {w : World} {p : Nat} {x y z : Value} {e : TypeId} (h : w.heap[p]? = some (.cells #[x, y, z] e (0, 0))) :
    w.cell? ⟨p, 0, none⟩ = some x ∧ w.cell? ⟨p, 1, none⟩ = some y ∧ w.cell? ⟨p, 2, none⟩ = some z ∧ w.frozen? ⟨p, 0, none⟩ = false ∧ w.frozen? ⟨p, 1, none⟩ = false ∧ w.frozen? ⟨p, 2, none⟩ = false :=
  ⟨by rw [cell_of_row w p 0 _ _ _ h]; rfl, by rw [cell_of_row w p 1 _ _ _ h]; rfl, by rw [cell_of_row w p 2 _ _ _ h]; rfl, frozen_of_row w p 0 _ _ h, frozen_of_row w p 1 _ _ h, frozen_of_row w p 2 _ _ h⟩

set_option maxHeartbeats 4000000 in
set_option maxRecDepth 100000 in
theorem one_ok (w : World) (p : Nat) (s : CS) (hc : Cur w p s) :
    Calls Try.prog 47 #[.pointer (some ⟨p, 0, none⟩)] w fun e w' => e = .returned (.agg (colc s.oneC).toArray) ∧ Cur w' p s.oneS ∧ Chg [p] w w' := by
  have hp := hc.lt
  go_enter Try.func47, Try.ntmps47
  go_wp2_with fail
  have hbk : (w.alloc (.cells #[.string { data := #[] }, .int .i64 0, .bool false] 52)).heap[w.heap.size]? = some (.cells #[.string { data := #[] }, .int .i64 0, .bool false] 52 (0, 0)) := heap_alloc_new w _
  have hg0 : Chg [] w (w.alloc (.cells #[.string { data := #[] }, .int .i64 0, .bool false] 52)) := Chg.alloc [] w _
  generalize w.alloc (.cells #[.string { data := #[] }, .int .i64 0, .bool false] 52) = W at *
  have hc' : Cur W.drew p s := (hc.tr0 hg0).drew
  have hgd : Chg [] w W.drew := hg0.t0 (Chg.drew [] W)
  have hs1 : s.c2 = s.c1.then (s.vlen 100).1 := rfl
  have hnm : s.nm = s.c1.took (s.vlen 100).1 := rfl
  replace hs1 := Lib.hid hs1
  replace hnm := Lib.hid hnm
  have hw2 : IntKind.i64.wrap ((s.c2.num 1 : Nat) : Int) = ((s.c2.num 1 : Nat) : Int) := by
    have hlt : s.c2.num 1 < 256 := CS.num_lt s.c2 1
    generalize s.c2.num 1 = m at *
    simp [IntKind.wrap, IntKind.bits, IntKind.signed]
    omega
  have hW : p < W.heap.size := by have := hg0.size; omega
  go_cut [3] (fun s3 wx => ∃ B, s3 = .pointer (some ⟨B, 0, none⟩) ∧ W.heap.size ≤ B ∧ wx.heap[B]? = some (.cells #[.string (bstr s.nm), .int .i64 (s.c2.num 1 : Nat), .bool false] 52 (0, 0)) ∧ Cur wx p s.c3 ∧ Chg [p] W wx)
  case first =>
    go_region_with (first
      | (go_at_call 27
         refine (vlen_ok _ p s 100 (by decide) (by decide) (by first | with_reducible exact hc' | exact hc'.tr0 (Chg.alloc [] _ _))).mono ?_
         rintro e w1 ⟨rfl, d1, g1⟩
         replace d1 : Cur w1 p s.c1 := d1
         have G1 : Chg [p] W w1 := by first | exact (Chg.drew [p] W).t1 g1 | exact ((Chg.drew [p] W).t0 (Chg.alloc [] _ _)).t1 g1
         try
           have nb : w1.heap[W.heap.size]? = some (.cells #[.string { data := #[] }, .int .i64 0, .bool false] 52 (0, 0)) := g1.heap (heap_alloc_new W.drew _) (by simp; omega)
           obtain ⟨n0, n1, n2, f0, f1, f2⟩ := cells3 nb)
      | (go_at_call 50
         refine (take_ok _ p s.c1 (s.vlen 100).1 (by first | with_reducible exact d1 | exact d1.tr0 (Chg.alloc [] _ _))).mono ?_
         rintro e w2 ⟨v2, rfl, o2, d2, g2⟩
         rw [← hs1.out] at d2; rw [← hnm.out] at o2
         have G2 : Chg [p] W w2 := by first | exact G1.t1 g2 | exact (G1.t0 (Chg.alloc [] _ _)).t1 g2
         have st2 := run_str (dst := 9) Try.underlying22 Try.underlying5 Try.underlying9 (Sl.ofOwns o2) rfl
         have st2a := fun o => run_str (dst := 9) Try.underlying22 Try.underlying5 Try.underlying9 ((Sl.ofOwns o2).tr0 (Chg.alloc [] _ o)) rfl
         first
           | (replace nb := g2.heap nb (by have := d1.lt; simp; omega)
              clear n0 n1 n2 f0 f1 f2
              obtain ⟨n0, n1, n2, f0, f1, f2⟩ := cells3 nb)
           | (have nb : w2.heap[w1.heap.size]? = some (.cells #[.string { data := #[] }, .int .i64 0, .bool false] 52 (0, 0)) := g2.heap (heap_alloc_new w1 _) (by have := d1.lt; simp; omega)
              obtain ⟨n0, n1, n2, f0, f1, f2⟩ := cells3 nb)
           | skip)
      | (go_at_call 42
         refine (byte_ok _ p s.c2 (by first | with_reducible exact d2 | exact d2.tr0 (Chg.alloc [] _ _))).mono ?_
         rintro e w3 ⟨rfl, d3, g3⟩
         have G3 : Chg [p] W w3 := by first | exact G2.t1 g3 | exact (G2.t0 (Chg.alloc [] _ _)).t1 g3
         have st3 := run_str (dst := 9) Try.underlying22 Try.underlying5 Try.underlying9 (by first | exact (Sl.ofOwns o2).tr1 g3 (own_ne o2 (by have := d1.lt; first | exact this | (simp; omega))) | exact ((Sl.ofOwns o2).tr0 (Chg.alloc [] _ _)).tr1 g3 (own_ne o2 (by have := d1.lt; first | exact this | (simp; omega)))) rfl
         have st3a := fun o => run_str (dst := 9) Try.underlying22 Try.underlying5 Try.underlying9 (by first | exact ((Sl.ofOwns o2).tr1 g3 (own_ne o2 (by have := d1.lt; first | exact this | (simp; omega)))).tr0 (Chg.alloc [] _ o) | exact (((Sl.ofOwns o2).tr0 (Chg.alloc [] _ _)).tr1 g3 (own_ne o2 (by have := d1.lt; first | exact this | (simp; omega)))).tr0 (Chg.alloc [] _ o)) rfl
         first
           | (replace nb := g3.heap nb (by have := d1.lt; simp; omega)
              clear n0 n1 n2 f0 f1 f2
              obtain ⟨n0, n1, n2, f0, f1, f2⟩ := cells3 nb)
           | (have nb : w3.heap[w2.heap.size]? = some (.cells #[.string { data := #[] }, .int .i64 0, .bool false] 52 (0, 0)) := g3.heap (heap_alloc_new w2 _) (by have := d2.lt; simp; omega)
              obtain ⟨n0, n1, n2, f0, f1, f2⟩ := cells3 nb)
           | skip))
    all_goals
      go_wp2_with fail
      go_meet
      first
        | exact ⟨_, rfl, G3.size, heap_alloc_new w3 _, d3.tr0 (Chg.alloc [] _ _), G3.t0 (Chg.alloc [] _ _)⟩
        | (obtain ⟨t1, t2, t3⟩ := col_stored nb d3 G3 (by first | exact Nat.le_refl _ | exact G1.size | exact G2.size) (by first | exact hW | exact d1.lt | exact d2.lt) (.string (bstr s.nm)) (.int .i64 (s.c2.num 1 : Nat)) (.bool false)
           exact ⟨_, rfl, by first | exact Nat.le_refl _ | exact G1.size | exact G2.size, t1, t2, t3⟩)
  case rest =>
    obtain ⟨B, rfl, hB, hb, hcur, G⟩ := hcut
    have hpB : p ≠ B := by omega
    have hwp : w.heap.size ≠ p := by omega
    have hwB : w.heap.size < W.heap.size := by have := lt_of_heap hbk; omega
    have hbw := G.heap hbk (by simpa using hwp)
    have hz : s.c3.num 1 < 256 := CS.num_lt s.c3 1
    clear hs1 hnm hw2 hc' hgd hbk hc
    go_wp2_with fail
    refine (byte_ok wc p s.c3 hcur).mono ?_
    rintro e w4 ⟨rfl, d4, g4⟩
    have hb4 := g4.heap hb (by simpa using hpB.symm)
    have hw4 := g4.heap hbw (by simpa using hwp)
    have G4 : Chg [p] w w4 := (hg0.of0 (S := [p])).t1 (G.t1 g4)
    obtain ⟨n0, n1, n2, f0, f1, f2⟩ := cells3 hb4
    have hone : s.oneC = ⟨s.nm, s.c2.num 1, decide (s.c3.num 1 = 1)⟩ := rfl
    have hsone : s.oneS = if s.c3.num 1 ≤ 1 then s.c4 else CS.fail := rfl
    have hd4 : s.c4 = s.c3.then 1 := rfl
    rw [← hd4] at d4
    replace hone := Lib.hid hone
    replace hsone := Lib.hid hsone
    clear hd4 g4 hcur hb hbw
    have r4 : w4.rangeAt B 0 [.string (bstr s.nm), .int .i64 (s.c2.num 1 : Nat), .bool false] := ra_block hb4
    generalize s.c3.num 1 = z at *
    by_cases h0 : z = 0
    · subst h0
      go_wp2_with (refine store_rowC rfl _ _ _ rfl w.heap.size _ rfl (colc ⟨s.nm, s.c2.num 1, false⟩) rfl _ hw4 (by kernel_rfl) rfl rfl ?_)
      intro w5 t5 g5 z5
      go_wp2
      have hgo : Chg [p] w w5 := G4.tn g5 (Nat.le_refl _)
      have hcf : Cur w5 p s.oneS := by rw [hsone.out]; exact d4.tr1 g5 (by omega) hw4 (by decide)
      refine ret_row 2 52 rfl _ Try.underlying52 rfl (colc ⟨s.nm, s.c2.num 1, false⟩) (by kernel_rfl) rfl _ rfl (ra_block t5) ⟨by rw [hone.out]; rfl, hcf, hgo⟩
    · by_cases h1 : z = 1
      · subst h1
        have hb5 : (w4.setCell ⟨B, 2, none⟩ (.bool true)).heap[B]? = some (.cells #[.string (bstr s.nm), .int .i64 (s.c2.num 1 : Nat), .bool true] 52 (0, 0)) := by
          rw [heap_setCell_same _ B 2 _ _ _ hb4]; rfl
        have gB : Chg [B] w4 (w4.setCell ⟨B, 2, none⟩ (.bool true)) := Chg.setCell w4 ⟨B, 2, none⟩ (.bool true)
        have hw5 := gB.heap hw4 (by simp; omega)
        have d5 : Cur (w4.setCell ⟨B, 2, none⟩ (.bool true)) p s.c4 := d4.tr1 gB hpB hb4 (by decide)
        have G5 : Chg [p] w (w4.setCell ⟨B, 2, none⟩ (.bool true)) := G4.tn gB (by omega)
        obtain ⟨m0, m1, m2, _, _, _⟩ := cells3 hb5
        go_wp2_with (refine store_rowC rfl _ _ _ rfl w.heap.size _ rfl (colc ⟨s.nm, s.c2.num 1, true⟩) rfl _ hw5 (by kernel_rfl) rfl rfl ?_)
        intro w6 t6 g6 z6
        go_wp2
        have hgo : Chg [p] w w6 := G5.tn g6 (Nat.le_refl _)
        have hcf : Cur w6 p s.oneS := by rw [hsone.out]; exact d5.tr1 g6 (by omega) hw5 (by decide)
        refine ret_row 2 52 rfl _ Try.underlying52 rfl (colc ⟨s.nm, s.c2.num 1, true⟩) (by kernel_rfl) rfl _ rfl (ra_block t6) ⟨by rw [hone.out]; rfl, hcf, hgo⟩
      · have hsf : s.oneS = CS.fail := by rw [hsone.out, if_neg (by omega)]
        have hof : s.oneC = ⟨s.nm, s.c2.num 1, false⟩ := by rw [hone.out]; simp [h1]
        replace hsf := Lib.hid hsf
        replace hof := Lib.hid hof
        clear hsone hone n0 n1 n2 f0 f1 f2
        go_wp2_with fail
        refine (fail_ok w4 p s.c4 d4).mono ?_
        rintro e w5 ⟨rfl, d5, g5⟩
        have hb5 := g5.heap hb4 (by simpa using hpB.symm)
        have hw5 := g5.heap hw4 (by simpa using hwp)
        have G5 := G4.t1 g5
        obtain ⟨n0, n1, n2, f0, f1, f2⟩ := cells3 hb5
        go_wp2_with (refine store_rowC rfl _ _ _ rfl w.heap.size _ rfl (colc ⟨s.nm, s.c2.num 1, false⟩) rfl _ hw5 (by kernel_rfl) rfl rfl ?_)
        intro w6 t6 g6 z6
        go_wp2
        have hgo : Chg [p] w w6 := G5.tn g6 (Nat.le_refl _)
        have hcf : Cur w6 p s.oneS := by rw [hsf.out]; exact d5.tr1 g6 (by omega) hw5 (by decide)
        refine ret_row 2 52 rfl _ Try.underlying52 rfl (colc ⟨s.nm, s.c2.num 1, false⟩) (by kernel_rfl) rfl _ rfl (ra_block t6) ⟨by rw [hof.out], hcf, hgo⟩
end Go.Proofs.Ytllidfhdklfkmaa
