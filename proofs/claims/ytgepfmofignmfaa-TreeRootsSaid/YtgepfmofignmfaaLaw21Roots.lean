/-
  TreeRoots: the walk.
-/
import Derived.Test.YtgepfmofignmfaaLaw21Places
import Derived.Test.YtgepfmofignmfaaTreeRootR
namespace Go.Proofs.Ytgepfmofignmfaa
set_option linter.unusedSimpArgs false
set_option linter.unusedVariables false
open Go.RowKit

/-- A log and one of the document's, apart. -/
structure Two (w : World) (p q : Nat) (v u : Value) (F G : RowsB) : Prop where
  l : LogAt w p p v F
  m : LogR w q q u G
  apt : ∀ j, v.ownBlock = some j → u.ownBlock ≠ some j
theorem Two.tr0 {w w' : World} {p q : Nat} {v u : Value} {F G : RowsB} (h : Two w p q v u F G) (g : Chg [] w w') : Two w' p q v u F G := ⟨h.l.tr0 g, h.m.tr0 g, h.apt⟩
theorem Two.ofL {w w' : World} {p q : Nat} {v u v' : Value} {F G F' : RowsB} (h : Two w p q v u F G) (hpq : p ≠ q) (g : Chg (p :: v.ownBlock.toList) w w') (l : LogAt w' p p v' F') (s : SameNew w v v') : Two w' p q v' u F' G := by
  have hS : ∀ j, j ∈ p :: v.ownBlock.toList → j = p ∨ v.ownBlock = some j := fun j hj => by
    rcases List.mem_cons.1 hj with e | e
    · exact .inl e
    · exact .inr (by simpa using e)
  refine ⟨l, ⟨g.heap h.m.cell fun hm => ?_, ownB_trD h.m.rows.1 g fun j hj => ?_, fun x hx => ownB_trD (h.m.rows.2 x hx) g fun j hj => ?_⟩, fun j hj hu => ?_⟩
  · rcases hS q hm with e | e
    · exact hpq e.symm
    · exact ownB_not h.l.rows.1 h.m.cell (by decide) e
  · rcases hS j hj with rfl | e
    · exact ownB_not h.m.rows.1 h.l.cell (by decide)
    · exact h.apt j e
  · rcases hS j hj with rfl | e
    · exact ownB_not (h.m.rows.2 x hx) h.l.cell (by decide)
    · exact ownB_apart h.l.rows.1 (h.m.rows.2 x hx) (by decide) j (by simpa using e)
  · exact s.ne (h.m.rows.1.lt j hu).2 (fun e => h.apt j e hu) hj
theorem Two.ofR {w w' : World} {p q : Nat} {v u u' : Value} {F G G' : RowsB} (h : Two w p q v u F G) (hpq : p ≠ q) (g : Chg (q :: u.ownBlock.toList) w w') (m : LogR w' q q u' G') (s : SameNew w u u') : Two w' p q v u' F G' := by
  have hS : ∀ j, j ∈ q :: u.ownBlock.toList → j = q ∨ u.ownBlock = some j := fun j hj => by
    rcases List.mem_cons.1 hj with e | e
    · exact .inl e
    · exact .inr (by simpa using e)
  refine ⟨⟨g.heap h.l.cell fun hm => ?_, ownB_trD h.l.rows.1 g fun j hj => ?_, fun x hx => ownB_trD (h.l.rows.2 x hx) g fun j hj => ?_⟩, m, fun j hj hu => ?_⟩
  · rcases hS p hm with e | e
    · exact hpq e
    · exact ownB_not h.m.rows.1 h.l.cell (by decide) e
  · rcases hS j hj with rfl | e
    · exact ownB_not h.l.rows.1 h.m.cell (by decide)
    · exact fun e2 => h.apt j e2 e
  · rcases hS j hj with rfl | e
    · exact ownB_not (h.l.rows.2 x hx) h.m.cell (by decide)
    · exact ownB_apart h.m.rows.1 (h.l.rows.2 x hx) (by decide) j (by simpa using e)
  · exact s.ne (h.l.rows.1.lt j hj).2 (h.apt j hj) hu
theorem LogR.dig {w w' : World} {p base q : Nat} {v : Value} {F : RowsB} {l : Bytes} (hL : LogR w p base v F) (g : Chg (p :: v.ownBlock.toList) w w') (hq : q ≠ p) (h : w.heap[q]? = some (.cells (bcs l).toArray 32 (0, 0))) : w'.heap[q]? = some (.cells (bcs l).toArray 32 (0, 0)) := by
  refine g.heap h fun hm => ?_
  rcases List.mem_cons.1 hm with e | e
  · exact hq e
  · exact ownB_not hL.rows.1 h (by decide) (by simpa using e)
theorem LogR.chg {W w w' : World} {p base : Nat} {v : Value} {F : RowsB} (hL : LogR w p base v F) (c : Chg [] W w) (hp : W.heap.size ≤ p) (hb : W.heap.size ≤ base) (g : Chg (p :: v.ownBlock.toList) w w') : Chg [] W w' := by
  refine c.trans g fun x hx => .inr ?_
  rcases List.mem_cons.1 hx with rfl | e
  · exact hp
  · exact Nat.le_trans hb (hL.rows.1.lt x (by simpa using e)).1
theorem LogR.apart {W w : World} {p base : Nat} {v u : Value} {F : RowsB} {n : Nat} {cs : List Value} (hL : LogR w p base v F) (hs : Sl W u n cs) (hp : W.heap.size ≤ p) (hb : W.heap.size ≤ base) : ∀ k, vblk u = some k → k ≠ p ∧ v.ownBlock ≠ some k := by
  intro k hk
  have h := hs.lt k hk
  exact ⟨by omega, fun e => by have := (hL.rows.1.lt k e).1; omega⟩

/-- What the walk keeps of both logs. -/
structure Both (W w : World) (p q : Nat) (v u : Value) (F G : RowsB) (L : List Bytes) (M : List Bytes) : Prop where
  two : Two w p q v u F G
  eF : F.map (·.2) = L
  eG : G.map (·.2) = M
  chg : Chg [] W w
  sh : Short L
theorem Both.tr0 {W w w' : World} {p q : Nat} {v u : Value} {F G : RowsB} {L M : List Bytes} (h : Both W w p q v u F G L M) (g : Chg [] w w') : Both W w' p q v u F G L M := ⟨h.two.tr0 g, h.eF, h.eG, h.chg.t0 g, h.sh⟩
theorem Both.lenF {W w : World} {p q : Nat} {v u : Value} {F G : RowsB} {L M : List Bytes} (h : Both W w p q v u F G L M) : F.length = L.length := by rw [← h.eF, List.length_map]
theorem Both.lenG {W w : World} {p q : Nat} {v u : Value} {F G : RowsB} {L M : List Bytes} (h : Both W w p q v u F G L M) : G.length = M.length := by rw [← h.eG, List.length_map]
section
variable {W w : World} {p q : Nat} {v u : Value} {F G : RowsB} {L M : List Bytes}
theorem Both.stepL (h : Both W w p q v u F G L M) (hp : W.heap.size ≤ p) (hpq : p ≠ q) {w' : World} {v' : Value} {F' : RowsB} {A : List Bytes} (l : LogAt w' p p v' F') (e : F'.map (·.2) = F.map (·.2) ++ A) (g : Chg (p :: v.ownBlock.toList) w w') (s : SameNew w v v') (hA : Short A) : Both W w' p q v' u F' G (L ++ A) M :=
  ⟨h.two.ofL hpq g l s, by rw [e, h.eF], h.eG, h.two.l.chg h.chg hp hp g, h.sh.app hA⟩
theorem Both.stepR (h : Both W w p q v u F G L M) (hq : W.heap.size ≤ q) (hpq : p ≠ q) {w' : World} {u' : Value} {G' : RowsB} {A : List Bytes} (m : LogR w' q q u' G') (e : G'.map (·.2) = G.map (·.2) ++ A) (g : Chg (q :: u.ownBlock.toList) w w') (s : SameNew w u u') : Both W w' p q v u' F G' L (M ++ A) :=
  ⟨h.two.ofR hpq g m s, h.eF, by rw [e, h.eG], h.two.m.chg h.chg hq hq g, h.sh⟩
end
set_option maxHeartbeats 16000000 in
set_option maxRecDepth 100000 in
theorem roots_walk (w : World) (s : Bytes) (k n : Int) (vd : Value) (d : Bytes) (vL : Value) (L : List Bytes) (hsl : s.length ≤ 140737488351232) (sd : Sl w vd d.length (bcs d)) (hv : Dg w vL L) :
    Calls Try.prog 3 #[.string (bstr s), .int .i64 k, .int .i64 n, vd, vL] w fun e w' => e = .returned (.bool true) ∧ Chg [] w w' := by
  have hdl := sd.le
  have hLl := hv.sl.le
  unfold maxLen at hdl hLl
  obtain ⟨ad, cd, rfl⟩ := sd.shape
  obtain ⟨aL, cL, rfl⟩ := hv.sl.shape
  go_enter Try.func3, Try.ntmps3
  go_wp2_with fail
  refine (small21_ok w).mono ?_
  rintro e w1 ⟨rfl, g1⟩
  go_wp2_with fail
  refine (lognew_ok w1 w1.heap.size).mono ?_
  rintro e w2 ⟨rfl, l2, g2⟩
  have c2 := g1.t0 g2
  have zp := g1.size
  have hpq : w1.heap.size < w2.heap.size := l2.lt
  generalize w1.heap.size = p at *
  clear g1 g2
  have hbs := bstr_size s
  by_cases b2 : 300 < s.length
  · have b2' : (300 : Int) < s.length := by omega
    go_wp2
    go_ret
    exact ⟨rfl, c2⟩
  have b2' : (s.length : Int) ≤ 300 := by omega
  by_cases b5 : 500 < d.length
  · have b5' : (500 : Int) < d.length := by omega
    go_wp2
    go_ret
    exact ⟨rfl, c2⟩
  have b5' : (d.length : Int) ≤ 500 := by omega
  by_cases b6 : 40 < L.length
  · have b6' : (40 : Int) < L.length := by omega
    go_wp2
    go_ret
    exact ⟨rfl, c2⟩
  have b6' : (L.length : Int) ≤ 40 := by omega
  have hSl : Short (logB s (leafP k n d)) := Short.leaf (by omega) (by omega)
  have hSt : Short (treeV L).2 := Short.tree hv.len
  have hNl := logB_len1 s (leafP k n d)
  have hNt : (treeV L).2.length ≤ 41 := by rw [treeV_count]; split <;> omega
  have tA := hashV_len s (leafP k n d)
  have tE := treeV_len hv.len
  have kA := fun w base vl F h1 h2 h3 h4 => leaf_run w p base vl F h1 h2 h3 s (by unfold maxLen; omega) k n (.slice ad d.length cd) d h4 (by omega)
  have kA' := fun w q base vl F h1 h2 h3 h4 h5 => rleaf_run w q base vl F h1 h2 h3 s (by unfold maxLen; omega) k n (.slice ad d.length cd) d h4 (by omega) h5
  have kE := fun w p base vl F h1 h2 h3 v h4 h5 => root_run L.length L rfl w p base vl F h1 h2 h3 v h4 h5
  have kE' := fun w p base vl F h1 h2 h3 v h4 h5 => rroot_run L.length L rfl w p base vl F h1 h2 h3 v h4 h5
  generalize hashV s (leafP k n d) = xA at *
  generalize logB s (leafP k n d) = fA at *
  have tC : (hashV nodeS [xA, xA]).length = 32 := hashV_len _ _
  have hSc : Short [frameB nodeS [xA, xA]] := Short.one (by rw [node_len tA tA]; decide)
  have kC := fun w p base vl F h1 h2 h3 => node_run w p base vl F h1 h2 h3 xA xA tA tA
  have kC' := fun w p base vl F h1 h2 h3 => rnode_run w p base vl F h1 h2 h3 xA xA tA tA
  generalize hashV nodeS [xA, xA] = xC at *
  generalize frameB nodeS [xA, xA] = fC at *
  generalize treeV L = R at *
  obtain ⟨xE, fE⟩ := R
  dsimp only at *
  replace hSl := Lib.hid hSl
  replace hSt := Lib.hid hSt
  replace hSc := Lib.hid hSc
  replace kA := Lib.hid kA
  replace kA' := Lib.hid kA'
  replace kE := Lib.hid kE
  replace kE' := Lib.hid kE'
  replace kC := Lib.hid kC
  replace kC' := Lib.hid kC'
  replace hbs := Lib.hid hbs
  go_wp2_with fail
  obtain ⟨w3, hw3⟩ : ∃ x, x = w2.alloc (.cells #[.slice none 0 0] 30) := ⟨_, rfl⟩
  rw [← hw3]
  have h3 : Both w w3 p w2.heap.size (.slice none 0 0) (.slice none 0 0) [] [] [] [] := by
    subst hw3
    exact ⟨⟨l2.tr0 (Chg.alloc _ _ _), ⟨heap_alloc_new _ _, OwnsB.nil _ _⟩, fun j h => by simp [Value.ownBlock] at h⟩, rfl, rfl, c2.t0 (Chg.alloc _ _ _), Short.nil⟩
  have hq3 : w2.heap.size < w3.heap.size := by subst hw3; simp
  have zq : w.heap.size ≤ w2.heap.size := by omega
  have hne : p ≠ w2.heap.size := by omega
  generalize w2.heap.size = q at *
  clear hw3 l2 c2
  refine (kA.out w3 p _ _ h3.two.l (Nat.le_of_lt h3.two.l.lt) (by simp) (sd.tr0 h3.chg)).mono ?_
  rintro e2 w4 ⟨rfl, v4, F4, l4, e4, g4, s4⟩
  have h4 := h3.stepL zp hne l4 e4 g4 s4 hSl.out
  simp only [List.nil_append] at h4
  clear h3 l4 e4 g4 s4
  go_wp2_with (first
    | (refine alloc_bytes (by rfl) 32 (by rfl) 32 (by kernel_rfl) ?_; intro wz hz gz zz; replace zz : Hid _ := zz)
    | (refine store_bytes (by rfl) 32 (.tmp 14) (.tmp 51) (by rfl) _ 32 _ (by rfl) xA (by rfl) _ hz (by kernel_rfl) tA (by rw [List.length_replicate]) ?_; intro w5 b14 gy zy; replace zy : Hid _ := zy; have gg : Chg [] w4 w5 := gz.tn gy (Nat.le_refl _)))
  have h5 := h4.tr0 gg
  have hr14 : q < w4.heap.size := h4.two.m.lt
  have hp14 : p < w4.heap.size := h4.two.l.lt
  generalize hgr : w4.heap.size = r14 at *
  clear h4 hz gz zz gy zy gg hgr
  refine (kA'.out w5 q q _ _ h5.two.m (Nat.le_of_lt h5.two.m.lt) (by simp) (sd.tr0 h5.chg) (h5.two.m.apart sd zq zq)).mono ?_
  rintro e2 w6 ⟨rfl, u6, G6, m6, e6, g6, s6⟩
  have h6 := h5.stepR zq hne m6 e6 g6 s6
  have c14 := h5.two.m.dig g6 (by omega) b14
  simp only [List.nil_append] at h6
  clear h5 m6 e6 g6 s6 b14
  have b14 := c14
  clear c14
  go_wp2_with (first
    | (refine alloc_bytes (by rfl) 32 (by rfl) 32 (by kernel_rfl) ?_; intro wz hz gz zz; replace zz : Hid _ := zz)
    | (refine store_bytes (by rfl) 32 (.tmp 15) (.tmp 57) (by rfl) _ 32 _ (by rfl) xA (by rfl) _ hz (by kernel_rfl) tA (by rw [List.length_replicate]) ?_; intro w7 b15 gy zy; replace zy : Hid _ := zy; have gg : Chg [] w6 w7 := gz.tn gy (Nat.le_refl _); have c14 := gg.heap b14 (by simp); replace b14 := Lib.hid b14; replace c14 := Lib.hid c14)
    | (refine load_ra (by rfl) 32 (.tmp 14) (by rfl) r14 0 (by rfl) (bcs xA) _ (by simpa using ra_block c14.out) Try.underlying32 (by rfl) (by rw [bcs_length, tA]; kernel_rfl) ?_)
    | (refine load_ra (by rfl) 32 (.tmp 15) (by rfl) _ 0 (by rfl) (bcs xA) _ (by simpa using ra_block b15) Try.underlying32 (by rfl) (by rw [bcs_length, tA]; kernel_rfl) ?_))
  have h7 := h6.tr0 gg
  have hr15 : q < w6.heap.size := h6.two.m.lt
  have hp15 : p < w6.heap.size := h6.two.l.lt
  have ne15_14 : r14 < w6.heap.size := lt_of_heap b14.out
  generalize hgr : w6.heap.size = r15 at *
  clear h6 hz gz zz gy zy gg hgr
  clear b14
  have b14 := c14.out
  clear c14
  refine (kC.out w7 p p _ _ h7.two.l (Nat.le_of_lt h7.two.l.lt) (by have := h7.lenF; omega)).mono ?_
  rintro e2 w8 ⟨rfl, v8, F8, l8, e8, g8, s8⟩
  have h8 := h7.stepL zp hne l8 e8 g8 s8 hSc.out
  have c14 := h7.two.l.dig g8 (by omega) b14
  have c15 := h7.two.l.dig g8 (by omega) b15
  clear h7 l8 e8 g8 s8 b14 b15
  have b14 := c14
  clear c14
  have b15 := c15
  clear c15
  go_wp2_with (first
    | (refine alloc_bytes (by rfl) 32 (by rfl) 32 (by kernel_rfl) ?_; intro wz hz gz zz; replace zz : Hid _ := zz)
    | (refine store_bytes (by rfl) 32 (.tmp 16) (.tmp 61) (by rfl) _ 32 _ (by rfl) xC (by rfl) _ hz (by kernel_rfl) tC (by rw [List.length_replicate]) ?_; intro w9 b16 gy zy; replace zy : Hid _ := zy; have gg : Chg [] w8 w9 := gz.tn gy (Nat.le_refl _); have c14 := gg.heap b14 (by simp); replace b14 := Lib.hid b14; replace c14 := Lib.hid c14; have c15 := gg.heap b15 (by simp); replace b15 := Lib.hid b15; replace c15 := Lib.hid c15)
    | (refine load_ra (by rfl) 32 (.tmp 14) (by rfl) r14 0 (by rfl) (bcs xA) _ (by simpa using ra_block c14.out) Try.underlying32 (by rfl) (by rw [bcs_length, tA]; kernel_rfl) ?_)
    | (refine load_ra (by rfl) 32 (.tmp 15) (by rfl) r15 0 (by rfl) (bcs xA) _ (by simpa using ra_block c15.out) Try.underlying32 (by rfl) (by rw [bcs_length, tA]; kernel_rfl) ?_))
  have h9 := h8.tr0 gg
  have hr16 : q < w8.heap.size := h8.two.m.lt
  have hp16 : p < w8.heap.size := h8.two.l.lt
  have ne16_14 : r14 < w8.heap.size := lt_of_heap b14.out
  have ne16_15 : r15 < w8.heap.size := lt_of_heap b15.out
  generalize hgr : w8.heap.size = r16 at *
  clear h8 hz gz zz gy zy gg hgr
  clear b14
  have b14 := c14.out
  clear c14
  clear b15
  have b15 := c15.out
  clear c15
  refine (kC'.out w9 q q _ _ h9.two.m (Nat.le_of_lt h9.two.m.lt) (by have := h9.lenG; omega)).mono ?_
  rintro e2 w10 ⟨rfl, u10, G10, m10, e10, g10, s10⟩
  have h10 := h9.stepR zq hne m10 e10 g10 s10
  have c14 := h9.two.m.dig g10 (by omega) b14
  have c15 := h9.two.m.dig g10 (by omega) b15
  have c16 := h9.two.m.dig g10 (by omega) b16
  clear h9 m10 e10 g10 s10 b14 b15 b16
  have b14 := c14
  clear c14
  have b15 := c15
  clear c15
  have b16 := c16
  clear c16
  go_wp2_with (first
    | (refine alloc_bytes (by rfl) 32 (by rfl) 32 (by kernel_rfl) ?_; intro wz hz gz zz; replace zz : Hid _ := zz)
    | (refine store_bytes (by rfl) 32 (.tmp 17) (.tmp 65) (by rfl) _ 32 _ (by rfl) xC (by rfl) _ hz (by kernel_rfl) tC (by rw [List.length_replicate]) ?_; intro w11 b17 gy zy; replace zy : Hid _ := zy; have gg : Chg [] w10 w11 := gz.tn gy (Nat.le_refl _); have c14 := gg.heap b14 (by simp); replace b14 := Lib.hid b14; replace c14 := Lib.hid c14; have c15 := gg.heap b15 (by simp); replace b15 := Lib.hid b15; replace c15 := Lib.hid c15; have c16 := gg.heap b16 (by simp); replace b16 := Lib.hid b16; replace c16 := Lib.hid c16))
  have h11 := h10.tr0 gg
  have hr17 : q < w10.heap.size := h10.two.m.lt
  have hp17 : p < w10.heap.size := h10.two.l.lt
  have ne17_14 : r14 < w10.heap.size := lt_of_heap b14.out
  have ne17_15 : r15 < w10.heap.size := lt_of_heap b15.out
  have ne17_16 : r16 < w10.heap.size := lt_of_heap b16.out
  generalize hgr : w10.heap.size = r17 at *
  clear h10 hz gz zz gy zy gg hgr
  clear b14
  have b14 := c14.out
  clear c14
  clear b15
  have b15 := c15.out
  clear c15
  clear b16
  have b16 := c16.out
  clear c16
  refine (kE.out w11 p p _ _ h11.two.l (Nat.le_of_lt h11.two.l.lt) (by have := h11.lenF; simp at this; omega) _ (hv.tr0 h11.chg) (h11.two.l.apart hv.sl zp zp)).mono ?_
  rintro e2 w12 ⟨rfl, v12, F12, l12, e12, g12, s12⟩
  have h12 := h11.stepL zp hne l12 e12 g12 s12 hSt.out
  have c14 := h11.two.l.dig g12 (by omega) b14
  have c15 := h11.two.l.dig g12 (by omega) b15
  have c16 := h11.two.l.dig g12 (by omega) b16
  have c17 := h11.two.l.dig g12 (by omega) b17
  clear h11 l12 e12 g12 s12 b14 b15 b16 b17
  have b14 := c14
  clear c14
  have b15 := c15
  clear c15
  have b16 := c16
  clear c16
  have b17 := c17
  clear c17
  go_wp2_with (first
    | (refine alloc_bytes (by rfl) 32 (by rfl) 32 (by kernel_rfl) ?_; intro wz hz gz zz; replace zz : Hid _ := zz)
    | (refine store_bytes (by rfl) 32 (.tmp 18) (.tmp 68) (by rfl) _ 32 _ (by rfl) xE (by rfl) _ hz (by kernel_rfl) tE (by rw [List.length_replicate]) ?_; intro w13 b18 gy zy; replace zy : Hid _ := zy; have gg : Chg [] w12 w13 := gz.tn gy (Nat.le_refl _); have c14 := gg.heap b14 (by simp); replace b14 := Lib.hid b14; replace c14 := Lib.hid c14; have c15 := gg.heap b15 (by simp); replace b15 := Lib.hid b15; replace c15 := Lib.hid c15; have c16 := gg.heap b16 (by simp); replace b16 := Lib.hid b16; replace c16 := Lib.hid c16; have c17 := gg.heap b17 (by simp); replace b17 := Lib.hid b17; replace c17 := Lib.hid c17))
  have h13 := h12.tr0 gg
  have hr18 : q < w12.heap.size := h12.two.m.lt
  have hp18 : p < w12.heap.size := h12.two.l.lt
  have ne18_14 : r14 < w12.heap.size := lt_of_heap b14.out
  have ne18_15 : r15 < w12.heap.size := lt_of_heap b15.out
  have ne18_16 : r16 < w12.heap.size := lt_of_heap b16.out
  have ne18_17 : r17 < w12.heap.size := lt_of_heap b17.out
  generalize hgr : w12.heap.size = r18 at *
  clear h12 hz gz zz gy zy gg hgr
  clear b14
  have b14 := c14.out
  clear c14
  clear b15
  have b15 := c15.out
  clear c15
  clear b16
  have b16 := c16.out
  clear c16
  clear b17
  have b17 := c17.out
  clear c17
  refine (kE'.out w13 q q _ _ h13.two.m (Nat.le_of_lt h13.two.m.lt) (by have := h13.lenG; simp at this; omega) _ (hv.tr0 h13.chg) (h13.two.m.apart hv.sl zq zq)).mono ?_
  rintro e2 w14 ⟨rfl, u14, G14, m14, e14, g14, s14⟩
  have h14 := h13.stepR zq hne m14 e14 g14 s14
  have c14 := h13.two.m.dig g14 (by omega) b14
  have c15 := h13.two.m.dig g14 (by omega) b15
  have c16 := h13.two.m.dig g14 (by omega) b16
  have c17 := h13.two.m.dig g14 (by omega) b17
  have c18 := h13.two.m.dig g14 (by omega) b18
  clear h13 m14 e14 g14 s14 b14 b15 b16 b17 b18
  have b14 := c14
  clear c14
  have b15 := c15
  clear c15
  have b16 := c16
  clear c16
  have b17 := c17
  clear c17
  have b18 := c18
  clear c18
  go_wp2_with (first
    | (refine alloc_bytes (by rfl) 32 (by rfl) 32 (by kernel_rfl) ?_; intro wz hz gz zz; replace zz : Hid _ := zz)
    | (refine store_bytes (by rfl) 32 (.tmp 19) (.tmp 71) (by rfl) _ 32 _ (by rfl) xE (by rfl) _ hz (by kernel_rfl) tE (by rw [List.length_replicate]) ?_; intro w15 b19 gy zy; replace zy : Hid _ := zy; have gg : Chg [] w14 w15 := gz.tn gy (Nat.le_refl _); have c14 := gg.heap b14 (by simp); replace b14 := Lib.hid b14; replace c14 := Lib.hid c14; have c15 := gg.heap b15 (by simp); replace b15 := Lib.hid b15; replace c15 := Lib.hid c15; have c16 := gg.heap b16 (by simp); replace b16 := Lib.hid b16; replace c16 := Lib.hid c16; have c17 := gg.heap b17 (by simp); replace b17 := Lib.hid b17; replace c17 := Lib.hid c17; have c18 := gg.heap b18 (by simp); replace b18 := Lib.hid b18; replace c18 := Lib.hid c18))
  have h15 := h14.tr0 gg
  have hr19 : q < w14.heap.size := h14.two.m.lt
  have hp19 : p < w14.heap.size := h14.two.l.lt
  have ne19_14 : r14 < w14.heap.size := lt_of_heap b14.out
  have ne19_15 : r15 < w14.heap.size := lt_of_heap b15.out
  have ne19_16 : r16 < w14.heap.size := lt_of_heap b16.out
  have ne19_17 : r17 < w14.heap.size := lt_of_heap b17.out
  have ne19_18 : r18 < w14.heap.size := lt_of_heap b18.out
  generalize hgr : w14.heap.size = r19 at *
  clear h14 hz gz zz gy zy gg hgr
  clear b14
  have b14 := c14.out
  clear c14
  clear b15
  have b15 := c15.out
  clear c15
  clear b16
  have b16 := c16.out
  clear c16
  clear b17
  have b17 := c17.out
  clear c17
  clear b18
  have b18 := c18.out
  clear c18
  obtain ⟨⟨l15, m15, _⟩, eF, eG, c15, S15⟩ := h15
  have hFl : F12.length ≤ 1000000 := by
    have h := congrArg List.length eF
    simp at h
    omega
  generalize fA ++ [fC] ++ fE = M at *
  have kF : ∀ wx, Chg [] w15 wx → Calls Try.prog 22 #[.pointer (some ⟨p, 0, none⟩)] wx fun e w' => ∃ v', e = .returned v' ∧ Chg [] wx w' ∧ ∃ D : RowsB, SlB w' v' D ∧ D.map (·.2) = M := fun wx g => by
    refine (frames_ok wx p p v12 F12 (l15.tr0 g) hFl (by rw [← eF] at S15; exact S15.rows)).mono ?_
    rintro e w' ⟨v', he, D, oD, hD, g'⟩
    exact ⟨v', he, g', D, oD.sl, by rw [hD, eF]⟩
  have kS : ∀ wx v, Chg [] w15 wx → (∃ D : RowsB, SlB wx v D ∧ D.map (·.2) = M) → Calls Try.prog 21 #[v, u14] wx fun e w' => e = .returned (.bool true) ∧ Chg [] wx w' := fun wx v g ⟨D, hs, hD⟩ => by
    have k := rsameB_ok wx v u14 D G14 hs (m15.rows.sl.tr0 g) (hs.1.le)
    rw [hD, eG] at k
    simpa [sameB] using k
  obtain ⟨aU, cU, rfl⟩ := m15.rows.shape
  have hcell : w15.cell? ⟨q, 0, none⟩ = some (.slice aU G14.length cU) := (cells1 m15.cell).1
  have r14' : w15.rangeAt r14 0 (bcs xA) := by simpa using ra_block b14
  have r15' : w15.rangeAt r15 0 (bcs xA) := by simpa using ra_block b15
  have r16' : w15.rangeAt r16 0 (bcs xC) := by simpa using ra_block b16
  have r17' : w15.rangeAt r17 0 (bcs xC) := by simpa using ra_block b17
  have r18' : w15.rangeAt r18 0 (bcs xE) := by simpa using ra_block b18
  have r19' : w15.rangeAt r19 0 (bcs xE) := by simpa using ra_block b19
  have EQ := fun (d : Bytes) (h : d.length = 32) w => eql_dv (P := Try.prog) w 32 5 32 Try.underlying32 Try.underlying5 (fun w => by go_simp) d d h h
  have GQ := fun (d : Bytes) w x y => eqg_dv (P := Try.prog) w .eql 32 x y d d (by kernel_rfl)
  have EA := EQ xA tA
  have EC := EQ xC tC
  have EE := EQ xE tE
  have GA := GQ xA
  have GC := GQ xC
  have GE := GQ xE
  unfold dv at EA EC EE GA GC GE
  simp only [beq_self_eq_true] at EA EC EE
  replace kF := Lib.hid kF
  replace kS := Lib.hid kS
  clear EQ GQ kA kA' kE kE' kC kC' b14 b15 b16 b17 b18 b19 l15 m15 eF eG S15
  go_wp2_with fail
  refine' region_soft 25 [cst (.bool true), cst (.bool true), cst (.agg (bcs xA).toArray), cst (.agg (bcs xA).toArray), cst (.bool true), cst (.bool true), cst (.bool true), cst (.agg (bcs xC).toArray), cst (.agg (bcs xC).toArray), cst (.bool true), cst (.bool true), cst (.bool true), cst (.agg (bcs xE).toArray), cst (.agg (bcs xE).toArray), cst (.bool true), cst (.bool true), cst (.bool true), cst (.pointer (some ⟨p, 0, none⟩)), fun v w => ∃ D : RowsB, SlB w v D ∧ D.map (·.2) = M, cst (.pointer (some ⟨q, 0, none⟩)), cst (.pointer (some ⟨q, 0, none⟩)), cst (.pointer (some ⟨q, 0, none⟩)), cst (.slice aU G14.length cU), cst (.bool true), cst (.bool true)] rfl (by kernel_rfl) (by kernel_rfl) (stays_cons (Stays.cst _) (stays_cons (Stays.cst _) (stays_cons (Stays.cst _) (stays_cons (Stays.cst _) (stays_cons (Stays.cst _) (stays_cons (Stays.cst _) (stays_cons (Stays.cst _) (stays_cons (Stays.cst _) (stays_cons (Stays.cst _) (stays_cons (Stays.cst _) (stays_cons (Stays.cst _) (stays_cons (Stays.cst _) (stays_cons (Stays.cst _) (stays_cons (Stays.cst _) (stays_cons (Stays.cst _) (stays_cons (Stays.cst _) (stays_cons (Stays.cst _) (stays_cons (Stays.cst _) (stays_cons (fun _ _ _ ⟨D, h, e⟩ g => ⟨D, h.tr0 g, e⟩) (stays_cons (Stays.cst _) (stays_cons (Stays.cst _) (stays_cons (Stays.cst _) (stays_cons (Stays.cst _) (stays_cons (Stays.cst _) (stays_cons (Stays.cst _) stays_nil))))))))))))))))))))))))) _ (fun V => by simp only [putAll, Act.put, List.take_succ_cons, List.take_zero, List.setIfInBounds_toArray, List.set_cons_zero, List.set_cons_succ, Nat.reduceAdd]; exact rfl) ?hs1 ?ht1
  case hs1 =>
    simp only [List.take_succ_cons, List.take_zero, softs]
    refine ⟨?_, ?_, ?_, ?_, ?_, ?_, ?_, ?_, ?_, ?_, ?_, ?_, ?_, ?_, ?_, ?_, ?_, ?_, ?_, ?_, ?_, ?_, ?_, ?_, ?_, trivial⟩
    · intro V wx hw hd
      simp [phi, Region.binds, cst] at hd
      try simp only [hd]
      first
        | (refine soft_const rfl ?_; go_simp; done)
        | (refine soft_const rfl ?_; go_simp; exact rfl)
        | (exact soft_load rfl hw _ _ rfl _ _ rfl _ _ r14' Try.underlying32 rfl (by rw [bcs_length, tA]; kernel_rfl))
        | (exact soft_load rfl hw _ _ rfl _ _ rfl _ _ r15' Try.underlying32 rfl (by rw [bcs_length, tA]; kernel_rfl))
        | (exact soft_load rfl hw _ _ rfl _ _ rfl _ _ r16' Try.underlying32 rfl (by rw [bcs_length, tC]; kernel_rfl))
        | (exact soft_load rfl hw _ _ rfl _ _ rfl _ _ r17' Try.underlying32 rfl (by rw [bcs_length, tC]; kernel_rfl))
        | (exact soft_load rfl hw _ _ rfl _ _ rfl _ _ r18' Try.underlying32 rfl (by rw [bcs_length, tE]; kernel_rfl))
        | (exact soft_load rfl hw _ _ rfl _ _ rfl _ _ r19' Try.underlying32 rfl (by rw [bcs_length, tE]; kernel_rfl))
        | (exact soft_cell rfl hw _ _ rfl _ rfl _ _ hcell Try.underlying28 rfl)
        | (exact soft_skip rfl)
    · intro V wx hw hd
      simp [phi, Region.binds, cst] at hd
      try simp only [hd]
      first
        | (refine soft_const rfl ?_; go_simp; done)
        | (refine soft_const rfl ?_; go_simp; exact rfl)
        | (exact soft_load rfl hw _ _ rfl _ _ rfl _ _ r14' Try.underlying32 rfl (by rw [bcs_length, tA]; kernel_rfl))
        | (exact soft_load rfl hw _ _ rfl _ _ rfl _ _ r15' Try.underlying32 rfl (by rw [bcs_length, tA]; kernel_rfl))
        | (exact soft_load rfl hw _ _ rfl _ _ rfl _ _ r16' Try.underlying32 rfl (by rw [bcs_length, tC]; kernel_rfl))
        | (exact soft_load rfl hw _ _ rfl _ _ rfl _ _ r17' Try.underlying32 rfl (by rw [bcs_length, tC]; kernel_rfl))
        | (exact soft_load rfl hw _ _ rfl _ _ rfl _ _ r18' Try.underlying32 rfl (by rw [bcs_length, tE]; kernel_rfl))
        | (exact soft_load rfl hw _ _ rfl _ _ rfl _ _ r19' Try.underlying32 rfl (by rw [bcs_length, tE]; kernel_rfl))
        | (exact soft_cell rfl hw _ _ rfl _ rfl _ _ hcell Try.underlying28 rfl)
        | (exact soft_skip rfl)
    · intro V wx hw hd
      simp [phi, Region.binds, cst] at hd
      try simp only [hd]
      first
        | (refine soft_const rfl ?_; go_simp; done)
        | (refine soft_const rfl ?_; go_simp; exact rfl)
        | (exact soft_load rfl hw _ _ rfl _ _ rfl _ _ r14' Try.underlying32 rfl (by rw [bcs_length, tA]; kernel_rfl))
        | (exact soft_load rfl hw _ _ rfl _ _ rfl _ _ r15' Try.underlying32 rfl (by rw [bcs_length, tA]; kernel_rfl))
        | (exact soft_load rfl hw _ _ rfl _ _ rfl _ _ r16' Try.underlying32 rfl (by rw [bcs_length, tC]; kernel_rfl))
        | (exact soft_load rfl hw _ _ rfl _ _ rfl _ _ r17' Try.underlying32 rfl (by rw [bcs_length, tC]; kernel_rfl))
        | (exact soft_load rfl hw _ _ rfl _ _ rfl _ _ r18' Try.underlying32 rfl (by rw [bcs_length, tE]; kernel_rfl))
        | (exact soft_load rfl hw _ _ rfl _ _ rfl _ _ r19' Try.underlying32 rfl (by rw [bcs_length, tE]; kernel_rfl))
        | (exact soft_cell rfl hw _ _ rfl _ rfl _ _ hcell Try.underlying28 rfl)
        | (exact soft_skip rfl)
    · intro V wx hw hd
      simp [phi, Region.binds, cst] at hd
      try simp only [hd]
      first
        | (refine soft_const rfl ?_; go_simp; done)
        | (refine soft_const rfl ?_; go_simp; exact rfl)
        | (exact soft_load rfl hw _ _ rfl _ _ rfl _ _ r14' Try.underlying32 rfl (by rw [bcs_length, tA]; kernel_rfl))
        | (exact soft_load rfl hw _ _ rfl _ _ rfl _ _ r15' Try.underlying32 rfl (by rw [bcs_length, tA]; kernel_rfl))
        | (exact soft_load rfl hw _ _ rfl _ _ rfl _ _ r16' Try.underlying32 rfl (by rw [bcs_length, tC]; kernel_rfl))
        | (exact soft_load rfl hw _ _ rfl _ _ rfl _ _ r17' Try.underlying32 rfl (by rw [bcs_length, tC]; kernel_rfl))
        | (exact soft_load rfl hw _ _ rfl _ _ rfl _ _ r18' Try.underlying32 rfl (by rw [bcs_length, tE]; kernel_rfl))
        | (exact soft_load rfl hw _ _ rfl _ _ rfl _ _ r19' Try.underlying32 rfl (by rw [bcs_length, tE]; kernel_rfl))
        | (exact soft_cell rfl hw _ _ rfl _ rfl _ _ hcell Try.underlying28 rfl)
        | (exact soft_skip rfl)
    · intro V wx hw hd
      simp [phi, Region.binds, cst] at hd
      try simp only [hd]
      first
        | (refine soft_const rfl ?_; go_simp; done)
        | (refine soft_const rfl ?_; go_simp; exact rfl)
        | (exact soft_load rfl hw _ _ rfl _ _ rfl _ _ r14' Try.underlying32 rfl (by rw [bcs_length, tA]; kernel_rfl))
        | (exact soft_load rfl hw _ _ rfl _ _ rfl _ _ r15' Try.underlying32 rfl (by rw [bcs_length, tA]; kernel_rfl))
        | (exact soft_load rfl hw _ _ rfl _ _ rfl _ _ r16' Try.underlying32 rfl (by rw [bcs_length, tC]; kernel_rfl))
        | (exact soft_load rfl hw _ _ rfl _ _ rfl _ _ r17' Try.underlying32 rfl (by rw [bcs_length, tC]; kernel_rfl))
        | (exact soft_load rfl hw _ _ rfl _ _ rfl _ _ r18' Try.underlying32 rfl (by rw [bcs_length, tE]; kernel_rfl))
        | (exact soft_load rfl hw _ _ rfl _ _ rfl _ _ r19' Try.underlying32 rfl (by rw [bcs_length, tE]; kernel_rfl))
        | (exact soft_cell rfl hw _ _ rfl _ rfl _ _ hcell Try.underlying28 rfl)
        | (exact soft_skip rfl)
    · intro V wx hw hd
      simp [phi, Region.binds, cst] at hd
      try simp only [hd]
      first
        | (refine soft_const rfl ?_; go_simp; done)
        | (refine soft_const rfl ?_; go_simp; exact rfl)
        | (exact soft_load rfl hw _ _ rfl _ _ rfl _ _ r14' Try.underlying32 rfl (by rw [bcs_length, tA]; kernel_rfl))
        | (exact soft_load rfl hw _ _ rfl _ _ rfl _ _ r15' Try.underlying32 rfl (by rw [bcs_length, tA]; kernel_rfl))
        | (exact soft_load rfl hw _ _ rfl _ _ rfl _ _ r16' Try.underlying32 rfl (by rw [bcs_length, tC]; kernel_rfl))
        | (exact soft_load rfl hw _ _ rfl _ _ rfl _ _ r17' Try.underlying32 rfl (by rw [bcs_length, tC]; kernel_rfl))
        | (exact soft_load rfl hw _ _ rfl _ _ rfl _ _ r18' Try.underlying32 rfl (by rw [bcs_length, tE]; kernel_rfl))
        | (exact soft_load rfl hw _ _ rfl _ _ rfl _ _ r19' Try.underlying32 rfl (by rw [bcs_length, tE]; kernel_rfl))
        | (exact soft_cell rfl hw _ _ rfl _ rfl _ _ hcell Try.underlying28 rfl)
        | (exact soft_skip rfl)
    · intro V wx hw hd
      simp [phi, Region.binds, cst] at hd
      try simp only [hd]
      first
        | (refine soft_const rfl ?_; go_simp; done)
        | (refine soft_const rfl ?_; go_simp; exact rfl)
        | (exact soft_load rfl hw _ _ rfl _ _ rfl _ _ r14' Try.underlying32 rfl (by rw [bcs_length, tA]; kernel_rfl))
        | (exact soft_load rfl hw _ _ rfl _ _ rfl _ _ r15' Try.underlying32 rfl (by rw [bcs_length, tA]; kernel_rfl))
        | (exact soft_load rfl hw _ _ rfl _ _ rfl _ _ r16' Try.underlying32 rfl (by rw [bcs_length, tC]; kernel_rfl))
        | (exact soft_load rfl hw _ _ rfl _ _ rfl _ _ r17' Try.underlying32 rfl (by rw [bcs_length, tC]; kernel_rfl))
        | (exact soft_load rfl hw _ _ rfl _ _ rfl _ _ r18' Try.underlying32 rfl (by rw [bcs_length, tE]; kernel_rfl))
        | (exact soft_load rfl hw _ _ rfl _ _ rfl _ _ r19' Try.underlying32 rfl (by rw [bcs_length, tE]; kernel_rfl))
        | (exact soft_cell rfl hw _ _ rfl _ rfl _ _ hcell Try.underlying28 rfl)
        | (exact soft_skip rfl)
    · intro V wx hw hd
      simp [phi, Region.binds, cst] at hd
      try simp only [hd]
      first
        | (refine soft_const rfl ?_; go_simp; done)
        | (refine soft_const rfl ?_; go_simp; exact rfl)
        | (exact soft_load rfl hw _ _ rfl _ _ rfl _ _ r14' Try.underlying32 rfl (by rw [bcs_length, tA]; kernel_rfl))
        | (exact soft_load rfl hw _ _ rfl _ _ rfl _ _ r15' Try.underlying32 rfl (by rw [bcs_length, tA]; kernel_rfl))
        | (exact soft_load rfl hw _ _ rfl _ _ rfl _ _ r16' Try.underlying32 rfl (by rw [bcs_length, tC]; kernel_rfl))
        | (exact soft_load rfl hw _ _ rfl _ _ rfl _ _ r17' Try.underlying32 rfl (by rw [bcs_length, tC]; kernel_rfl))
        | (exact soft_load rfl hw _ _ rfl _ _ rfl _ _ r18' Try.underlying32 rfl (by rw [bcs_length, tE]; kernel_rfl))
        | (exact soft_load rfl hw _ _ rfl _ _ rfl _ _ r19' Try.underlying32 rfl (by rw [bcs_length, tE]; kernel_rfl))
        | (exact soft_cell rfl hw _ _ rfl _ rfl _ _ hcell Try.underlying28 rfl)
        | (exact soft_skip rfl)
    · intro V wx hw hd
      simp [phi, Region.binds, cst] at hd
      try simp only [hd]
      first
        | (refine soft_const rfl ?_; go_simp; done)
        | (refine soft_const rfl ?_; go_simp; exact rfl)
        | (exact soft_load rfl hw _ _ rfl _ _ rfl _ _ r14' Try.underlying32 rfl (by rw [bcs_length, tA]; kernel_rfl))
        | (exact soft_load rfl hw _ _ rfl _ _ rfl _ _ r15' Try.underlying32 rfl (by rw [bcs_length, tA]; kernel_rfl))
        | (exact soft_load rfl hw _ _ rfl _ _ rfl _ _ r16' Try.underlying32 rfl (by rw [bcs_length, tC]; kernel_rfl))
        | (exact soft_load rfl hw _ _ rfl _ _ rfl _ _ r17' Try.underlying32 rfl (by rw [bcs_length, tC]; kernel_rfl))
        | (exact soft_load rfl hw _ _ rfl _ _ rfl _ _ r18' Try.underlying32 rfl (by rw [bcs_length, tE]; kernel_rfl))
        | (exact soft_load rfl hw _ _ rfl _ _ rfl _ _ r19' Try.underlying32 rfl (by rw [bcs_length, tE]; kernel_rfl))
        | (exact soft_cell rfl hw _ _ rfl _ rfl _ _ hcell Try.underlying28 rfl)
        | (exact soft_skip rfl)
    · intro V wx hw hd
      simp [phi, Region.binds, cst] at hd
      try simp only [hd]
      first
        | (refine soft_const rfl ?_; go_simp; done)
        | (refine soft_const rfl ?_; go_simp; exact rfl)
        | (exact soft_load rfl hw _ _ rfl _ _ rfl _ _ r14' Try.underlying32 rfl (by rw [bcs_length, tA]; kernel_rfl))
        | (exact soft_load rfl hw _ _ rfl _ _ rfl _ _ r15' Try.underlying32 rfl (by rw [bcs_length, tA]; kernel_rfl))
        | (exact soft_load rfl hw _ _ rfl _ _ rfl _ _ r16' Try.underlying32 rfl (by rw [bcs_length, tC]; kernel_rfl))
        | (exact soft_load rfl hw _ _ rfl _ _ rfl _ _ r17' Try.underlying32 rfl (by rw [bcs_length, tC]; kernel_rfl))
        | (exact soft_load rfl hw _ _ rfl _ _ rfl _ _ r18' Try.underlying32 rfl (by rw [bcs_length, tE]; kernel_rfl))
        | (exact soft_load rfl hw _ _ rfl _ _ rfl _ _ r19' Try.underlying32 rfl (by rw [bcs_length, tE]; kernel_rfl))
        | (exact soft_cell rfl hw _ _ rfl _ rfl _ _ hcell Try.underlying28 rfl)
        | (exact soft_skip rfl)
    · intro V wx hw hd
      simp [phi, Region.binds, cst] at hd
      try simp only [hd]
      first
        | (refine soft_const rfl ?_; go_simp; done)
        | (refine soft_const rfl ?_; go_simp; exact rfl)
        | (exact soft_load rfl hw _ _ rfl _ _ rfl _ _ r14' Try.underlying32 rfl (by rw [bcs_length, tA]; kernel_rfl))
        | (exact soft_load rfl hw _ _ rfl _ _ rfl _ _ r15' Try.underlying32 rfl (by rw [bcs_length, tA]; kernel_rfl))
        | (exact soft_load rfl hw _ _ rfl _ _ rfl _ _ r16' Try.underlying32 rfl (by rw [bcs_length, tC]; kernel_rfl))
        | (exact soft_load rfl hw _ _ rfl _ _ rfl _ _ r17' Try.underlying32 rfl (by rw [bcs_length, tC]; kernel_rfl))
        | (exact soft_load rfl hw _ _ rfl _ _ rfl _ _ r18' Try.underlying32 rfl (by rw [bcs_length, tE]; kernel_rfl))
        | (exact soft_load rfl hw _ _ rfl _ _ rfl _ _ r19' Try.underlying32 rfl (by rw [bcs_length, tE]; kernel_rfl))
        | (exact soft_cell rfl hw _ _ rfl _ rfl _ _ hcell Try.underlying28 rfl)
        | (exact soft_skip rfl)
    · intro V wx hw hd
      simp [phi, Region.binds, cst] at hd
      try simp only [hd]
      first
        | (refine soft_const rfl ?_; go_simp; done)
        | (refine soft_const rfl ?_; go_simp; exact rfl)
        | (exact soft_load rfl hw _ _ rfl _ _ rfl _ _ r14' Try.underlying32 rfl (by rw [bcs_length, tA]; kernel_rfl))
        | (exact soft_load rfl hw _ _ rfl _ _ rfl _ _ r15' Try.underlying32 rfl (by rw [bcs_length, tA]; kernel_rfl))
        | (exact soft_load rfl hw _ _ rfl _ _ rfl _ _ r16' Try.underlying32 rfl (by rw [bcs_length, tC]; kernel_rfl))
        | (exact soft_load rfl hw _ _ rfl _ _ rfl _ _ r17' Try.underlying32 rfl (by rw [bcs_length, tC]; kernel_rfl))
        | (exact soft_load rfl hw _ _ rfl _ _ rfl _ _ r18' Try.underlying32 rfl (by rw [bcs_length, tE]; kernel_rfl))
        | (exact soft_load rfl hw _ _ rfl _ _ rfl _ _ r19' Try.underlying32 rfl (by rw [bcs_length, tE]; kernel_rfl))
        | (exact soft_cell rfl hw _ _ rfl _ rfl _ _ hcell Try.underlying28 rfl)
        | (exact soft_skip rfl)
    · intro V wx hw hd
      simp [phi, Region.binds, cst] at hd
      try simp only [hd]
      first
        | (refine soft_const rfl ?_; go_simp; done)
        | (refine soft_const rfl ?_; go_simp; exact rfl)
        | (exact soft_load rfl hw _ _ rfl _ _ rfl _ _ r14' Try.underlying32 rfl (by rw [bcs_length, tA]; kernel_rfl))
        | (exact soft_load rfl hw _ _ rfl _ _ rfl _ _ r15' Try.underlying32 rfl (by rw [bcs_length, tA]; kernel_rfl))
        | (exact soft_load rfl hw _ _ rfl _ _ rfl _ _ r16' Try.underlying32 rfl (by rw [bcs_length, tC]; kernel_rfl))
        | (exact soft_load rfl hw _ _ rfl _ _ rfl _ _ r17' Try.underlying32 rfl (by rw [bcs_length, tC]; kernel_rfl))
        | (exact soft_load rfl hw _ _ rfl _ _ rfl _ _ r18' Try.underlying32 rfl (by rw [bcs_length, tE]; kernel_rfl))
        | (exact soft_load rfl hw _ _ rfl _ _ rfl _ _ r19' Try.underlying32 rfl (by rw [bcs_length, tE]; kernel_rfl))
        | (exact soft_cell rfl hw _ _ rfl _ rfl _ _ hcell Try.underlying28 rfl)
        | (exact soft_skip rfl)
    · intro V wx hw hd
      simp [phi, Region.binds, cst] at hd
      try simp only [hd]
      first
        | (refine soft_const rfl ?_; go_simp; done)
        | (refine soft_const rfl ?_; go_simp; exact rfl)
        | (exact soft_load rfl hw _ _ rfl _ _ rfl _ _ r14' Try.underlying32 rfl (by rw [bcs_length, tA]; kernel_rfl))
        | (exact soft_load rfl hw _ _ rfl _ _ rfl _ _ r15' Try.underlying32 rfl (by rw [bcs_length, tA]; kernel_rfl))
        | (exact soft_load rfl hw _ _ rfl _ _ rfl _ _ r16' Try.underlying32 rfl (by rw [bcs_length, tC]; kernel_rfl))
        | (exact soft_load rfl hw _ _ rfl _ _ rfl _ _ r17' Try.underlying32 rfl (by rw [bcs_length, tC]; kernel_rfl))
        | (exact soft_load rfl hw _ _ rfl _ _ rfl _ _ r18' Try.underlying32 rfl (by rw [bcs_length, tE]; kernel_rfl))
        | (exact soft_load rfl hw _ _ rfl _ _ rfl _ _ r19' Try.underlying32 rfl (by rw [bcs_length, tE]; kernel_rfl))
        | (exact soft_cell rfl hw _ _ rfl _ rfl _ _ hcell Try.underlying28 rfl)
        | (exact soft_skip rfl)
    · intro V wx hw hd
      simp [phi, Region.binds, cst] at hd
      try simp only [hd]
      first
        | (refine soft_const rfl ?_; go_simp; done)
        | (refine soft_const rfl ?_; go_simp; exact rfl)
        | (exact soft_load rfl hw _ _ rfl _ _ rfl _ _ r14' Try.underlying32 rfl (by rw [bcs_length, tA]; kernel_rfl))
        | (exact soft_load rfl hw _ _ rfl _ _ rfl _ _ r15' Try.underlying32 rfl (by rw [bcs_length, tA]; kernel_rfl))
        | (exact soft_load rfl hw _ _ rfl _ _ rfl _ _ r16' Try.underlying32 rfl (by rw [bcs_length, tC]; kernel_rfl))
        | (exact soft_load rfl hw _ _ rfl _ _ rfl _ _ r17' Try.underlying32 rfl (by rw [bcs_length, tC]; kernel_rfl))
        | (exact soft_load rfl hw _ _ rfl _ _ rfl _ _ r18' Try.underlying32 rfl (by rw [bcs_length, tE]; kernel_rfl))
        | (exact soft_load rfl hw _ _ rfl _ _ rfl _ _ r19' Try.underlying32 rfl (by rw [bcs_length, tE]; kernel_rfl))
        | (exact soft_cell rfl hw _ _ rfl _ rfl _ _ hcell Try.underlying28 rfl)
        | (exact soft_skip rfl)
    · intro V wx hw hd
      simp [phi, Region.binds, cst] at hd
      try simp only [hd]
      first
        | (refine soft_const rfl ?_; go_simp; done)
        | (refine soft_const rfl ?_; go_simp; exact rfl)
        | (exact soft_load rfl hw _ _ rfl _ _ rfl _ _ r14' Try.underlying32 rfl (by rw [bcs_length, tA]; kernel_rfl))
        | (exact soft_load rfl hw _ _ rfl _ _ rfl _ _ r15' Try.underlying32 rfl (by rw [bcs_length, tA]; kernel_rfl))
        | (exact soft_load rfl hw _ _ rfl _ _ rfl _ _ r16' Try.underlying32 rfl (by rw [bcs_length, tC]; kernel_rfl))
        | (exact soft_load rfl hw _ _ rfl _ _ rfl _ _ r17' Try.underlying32 rfl (by rw [bcs_length, tC]; kernel_rfl))
        | (exact soft_load rfl hw _ _ rfl _ _ rfl _ _ r18' Try.underlying32 rfl (by rw [bcs_length, tE]; kernel_rfl))
        | (exact soft_load rfl hw _ _ rfl _ _ rfl _ _ r19' Try.underlying32 rfl (by rw [bcs_length, tE]; kernel_rfl))
        | (exact soft_cell rfl hw _ _ rfl _ rfl _ _ hcell Try.underlying28 rfl)
        | (exact soft_skip rfl)
    · intro V wx hw hd
      simp [phi, Region.binds, cst] at hd
      try simp only [hd]
      first
        | (refine soft_const rfl ?_; go_simp; done)
        | (refine soft_const rfl ?_; go_simp; exact rfl)
        | (exact soft_load rfl hw _ _ rfl _ _ rfl _ _ r14' Try.underlying32 rfl (by rw [bcs_length, tA]; kernel_rfl))
        | (exact soft_load rfl hw _ _ rfl _ _ rfl _ _ r15' Try.underlying32 rfl (by rw [bcs_length, tA]; kernel_rfl))
        | (exact soft_load rfl hw _ _ rfl _ _ rfl _ _ r16' Try.underlying32 rfl (by rw [bcs_length, tC]; kernel_rfl))
        | (exact soft_load rfl hw _ _ rfl _ _ rfl _ _ r17' Try.underlying32 rfl (by rw [bcs_length, tC]; kernel_rfl))
        | (exact soft_load rfl hw _ _ rfl _ _ rfl _ _ r18' Try.underlying32 rfl (by rw [bcs_length, tE]; kernel_rfl))
        | (exact soft_load rfl hw _ _ rfl _ _ rfl _ _ r19' Try.underlying32 rfl (by rw [bcs_length, tE]; kernel_rfl))
        | (exact soft_cell rfl hw _ _ rfl _ rfl _ _ hcell Try.underlying28 rfl)
        | (exact soft_skip rfl)
    · intro V wx hw hd
      simp [phi, Region.binds, cst] at hd
      try simp only [hd]
      first
        | (refine soft_const rfl ?_; go_simp; done)
        | (refine soft_const rfl ?_; go_simp; exact rfl)
        | (exact soft_load rfl hw _ _ rfl _ _ rfl _ _ r14' Try.underlying32 rfl (by rw [bcs_length, tA]; kernel_rfl))
        | (exact soft_load rfl hw _ _ rfl _ _ rfl _ _ r15' Try.underlying32 rfl (by rw [bcs_length, tA]; kernel_rfl))
        | (exact soft_load rfl hw _ _ rfl _ _ rfl _ _ r16' Try.underlying32 rfl (by rw [bcs_length, tC]; kernel_rfl))
        | (exact soft_load rfl hw _ _ rfl _ _ rfl _ _ r17' Try.underlying32 rfl (by rw [bcs_length, tC]; kernel_rfl))
        | (exact soft_load rfl hw _ _ rfl _ _ rfl _ _ r18' Try.underlying32 rfl (by rw [bcs_length, tE]; kernel_rfl))
        | (exact soft_load rfl hw _ _ rfl _ _ rfl _ _ r19' Try.underlying32 rfl (by rw [bcs_length, tE]; kernel_rfl))
        | (exact soft_cell rfl hw _ _ rfl _ rfl _ _ hcell Try.underlying28 rfl)
        | (exact soft_skip rfl)
    · intro V wx hw hd
      simp [phi, Region.binds, cst] at hd
      try simp only [hd]
      refine soft_call rfl _ _ (by go_simp; try exact ⟨rfl, rfl⟩) (kF.out wx hw)
    · intro V wx hw hd
      simp [phi, Region.binds, cst] at hd
      try simp only [hd]
      first
        | (refine soft_const rfl ?_; go_simp; done)
        | (refine soft_const rfl ?_; go_simp; exact rfl)
        | (exact soft_load rfl hw _ _ rfl _ _ rfl _ _ r14' Try.underlying32 rfl (by rw [bcs_length, tA]; kernel_rfl))
        | (exact soft_load rfl hw _ _ rfl _ _ rfl _ _ r15' Try.underlying32 rfl (by rw [bcs_length, tA]; kernel_rfl))
        | (exact soft_load rfl hw _ _ rfl _ _ rfl _ _ r16' Try.underlying32 rfl (by rw [bcs_length, tC]; kernel_rfl))
        | (exact soft_load rfl hw _ _ rfl _ _ rfl _ _ r17' Try.underlying32 rfl (by rw [bcs_length, tC]; kernel_rfl))
        | (exact soft_load rfl hw _ _ rfl _ _ rfl _ _ r18' Try.underlying32 rfl (by rw [bcs_length, tE]; kernel_rfl))
        | (exact soft_load rfl hw _ _ rfl _ _ rfl _ _ r19' Try.underlying32 rfl (by rw [bcs_length, tE]; kernel_rfl))
        | (exact soft_cell rfl hw _ _ rfl _ rfl _ _ hcell Try.underlying28 rfl)
        | (exact soft_skip rfl)
    · intro V wx hw hd
      simp [phi, Region.binds, cst] at hd
      try simp only [hd]
      first
        | (refine soft_const rfl ?_; go_simp; done)
        | (refine soft_const rfl ?_; go_simp; exact rfl)
        | (exact soft_load rfl hw _ _ rfl _ _ rfl _ _ r14' Try.underlying32 rfl (by rw [bcs_length, tA]; kernel_rfl))
        | (exact soft_load rfl hw _ _ rfl _ _ rfl _ _ r15' Try.underlying32 rfl (by rw [bcs_length, tA]; kernel_rfl))
        | (exact soft_load rfl hw _ _ rfl _ _ rfl _ _ r16' Try.underlying32 rfl (by rw [bcs_length, tC]; kernel_rfl))
        | (exact soft_load rfl hw _ _ rfl _ _ rfl _ _ r17' Try.underlying32 rfl (by rw [bcs_length, tC]; kernel_rfl))
        | (exact soft_load rfl hw _ _ rfl _ _ rfl _ _ r18' Try.underlying32 rfl (by rw [bcs_length, tE]; kernel_rfl))
        | (exact soft_load rfl hw _ _ rfl _ _ rfl _ _ r19' Try.underlying32 rfl (by rw [bcs_length, tE]; kernel_rfl))
        | (exact soft_cell rfl hw _ _ rfl _ rfl _ _ hcell Try.underlying28 rfl)
        | (exact soft_skip rfl)
    · intro V wx hw hd
      simp [phi, Region.binds, cst] at hd
      try simp only [hd]
      first
        | (refine soft_const rfl ?_; go_simp; done)
        | (refine soft_const rfl ?_; go_simp; exact rfl)
        | (exact soft_load rfl hw _ _ rfl _ _ rfl _ _ r14' Try.underlying32 rfl (by rw [bcs_length, tA]; kernel_rfl))
        | (exact soft_load rfl hw _ _ rfl _ _ rfl _ _ r15' Try.underlying32 rfl (by rw [bcs_length, tA]; kernel_rfl))
        | (exact soft_load rfl hw _ _ rfl _ _ rfl _ _ r16' Try.underlying32 rfl (by rw [bcs_length, tC]; kernel_rfl))
        | (exact soft_load rfl hw _ _ rfl _ _ rfl _ _ r17' Try.underlying32 rfl (by rw [bcs_length, tC]; kernel_rfl))
        | (exact soft_load rfl hw _ _ rfl _ _ rfl _ _ r18' Try.underlying32 rfl (by rw [bcs_length, tE]; kernel_rfl))
        | (exact soft_load rfl hw _ _ rfl _ _ rfl _ _ r19' Try.underlying32 rfl (by rw [bcs_length, tE]; kernel_rfl))
        | (exact soft_cell rfl hw _ _ rfl _ rfl _ _ hcell Try.underlying28 rfl)
        | (exact soft_skip rfl)
    · intro V wx hw hd
      simp [phi, Region.binds, cst] at hd
      try simp only [hd]
      first
        | (refine soft_const rfl ?_; go_simp; done)
        | (refine soft_const rfl ?_; go_simp; exact rfl)
        | (exact soft_load rfl hw _ _ rfl _ _ rfl _ _ r14' Try.underlying32 rfl (by rw [bcs_length, tA]; kernel_rfl))
        | (exact soft_load rfl hw _ _ rfl _ _ rfl _ _ r15' Try.underlying32 rfl (by rw [bcs_length, tA]; kernel_rfl))
        | (exact soft_load rfl hw _ _ rfl _ _ rfl _ _ r16' Try.underlying32 rfl (by rw [bcs_length, tC]; kernel_rfl))
        | (exact soft_load rfl hw _ _ rfl _ _ rfl _ _ r17' Try.underlying32 rfl (by rw [bcs_length, tC]; kernel_rfl))
        | (exact soft_load rfl hw _ _ rfl _ _ rfl _ _ r18' Try.underlying32 rfl (by rw [bcs_length, tE]; kernel_rfl))
        | (exact soft_load rfl hw _ _ rfl _ _ rfl _ _ r19' Try.underlying32 rfl (by rw [bcs_length, tE]; kernel_rfl))
        | (exact soft_cell rfl hw _ _ rfl _ rfl _ _ hcell Try.underlying28 rfl)
        | (exact soft_skip rfl)
    · intro V wx hw hd
      simp [phi, Region.binds, cst] at hd
      try simp only [hd]
      refine soft_callC rfl _ _ (by go_simp; try exact ⟨rfl, rfl⟩) (kS.out wx _ hw hd.1)
    · intro V wx hw hd
      simp [phi, Region.binds, cst] at hd
      try simp only [hd]
      first
        | (refine soft_const rfl ?_; go_simp; done)
        | (refine soft_const rfl ?_; go_simp; exact rfl)
        | (exact soft_load rfl hw _ _ rfl _ _ rfl _ _ r14' Try.underlying32 rfl (by rw [bcs_length, tA]; kernel_rfl))
        | (exact soft_load rfl hw _ _ rfl _ _ rfl _ _ r15' Try.underlying32 rfl (by rw [bcs_length, tA]; kernel_rfl))
        | (exact soft_load rfl hw _ _ rfl _ _ rfl _ _ r16' Try.underlying32 rfl (by rw [bcs_length, tC]; kernel_rfl))
        | (exact soft_load rfl hw _ _ rfl _ _ rfl _ _ r17' Try.underlying32 rfl (by rw [bcs_length, tC]; kernel_rfl))
        | (exact soft_load rfl hw _ _ rfl _ _ rfl _ _ r18' Try.underlying32 rfl (by rw [bcs_length, tE]; kernel_rfl))
        | (exact soft_load rfl hw _ _ rfl _ _ rfl _ _ r19' Try.underlying32 rfl (by rw [bcs_length, tE]; kernel_rfl))
        | (exact soft_cell rfl hw _ _ rfl _ rfl _ _ hcell Try.underlying28 rfl)
        | (exact soft_skip rfl)
  intro V w' g hk
  have q24 := hk 24 (by decide)
  simp [phi, cst] at q24
  simp only [q24, List.drop_succ_cons, List.drop_zero]
  clear hk
  go_wp2
  go_ret
  exact ⟨rfl, c15.t0 g⟩
theorem treeRoots_run (w : World) (s : ByteArray) (k n : Int) (vd : Value) (d : Bytes) (vL : Value) (L : List Bytes) (hs : s.size ≤ 140737488351232) (_wk : (Lit.int .i64 k).wf = true) (_wn : (Lit.int .i64 n).wf = true) (sd : Sl w vd d.length (bcs d)) (_bd : d.length * 1 ≤ 140737488351232) (sL : Sl w vL L.length (L.flatMap bcs)) (ok : ∀ x ∈ L, x.length = 32) (_bL : L.length * 32 ≤ 140737488351232) :
    Calls Try.prog 3 #[.string s, .int .i64 k, .int .i64 n, vd, vL] w fun e w' => e = .returned (.bool true) ∧ Chg [] w w' := by
  have h := roots_walk w s.data.toList k n vd d vL L (by rw [Array.length_toList]; exact hs) sd ⟨sL, ok⟩
  rw [bstr_data] at h
  exact h
end Go.Proofs.Ytgepfmofignmfaa
