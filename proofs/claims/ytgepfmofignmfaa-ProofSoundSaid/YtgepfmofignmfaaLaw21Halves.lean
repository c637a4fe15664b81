/-
  TreeHalves: the walk.
-/
import Derived.Test.YtgepfmofignmfaaTreeHeld
import Derived.Test.YtgepfmofignmfaaOpenG
namespace Go.Proofs.Ytgepfmofignmfaa
set_option linter.unusedSimpArgs false
set_option linter.unusedVariables false
open Go.RowKit

/-- A root's contract in short: the log is new since W. -/
theorem root_new (W w : World) (p : Nat) (vl : Value) (F : RowsB) (hF : LogAt w p p vl F) (c : Chg [] W w) (hp : W.heap.size ≤ p) (hS : Short (F.map (·.2))) (L : List Bytes) (hfl : F.length + L.length ≤ 900000) (v : Value) (hv : Dg W v L) :
    Calls Try.prog 19 #[.pointer (some ⟨p, 0, none⟩), v] w fun e w' => e = .returned (.agg (bcs (treeV L).1).toArray) ∧
      ∃ v' F', LogAt w' p p v' F' ∧ F'.map (·.2) = F.map (·.2) ++ (treeV L).2 ∧ Chg (p :: vl.ownBlock.toList) w w' ∧ Chg [] W w' ∧ Short (F'.map (·.2)) := by
  refine (root_run L.length L rfl w p p vl F hF (Nat.le_of_lt hF.lt) hfl v (hv.tr0 c) (hF.apart hv.sl hp hp)).mono ?_
  rintro e w' ⟨he, v', F', h1, h2, h3, h4⟩
  exact ⟨he, v', F', h1, h2, h3, hF.chg c hp hp h3, by rw [h2]; exact hS.app (Short.tree hv.len)⟩
theorem len_log {F F' : RowsB} {A : List Bytes} (h : F'.map (·.2) = F.map (·.2) ++ A) : F'.length = F.length + A.length := by
  have := congrArg List.length h
  simpa using this
set_option maxHeartbeats 8000000 in
set_option maxRecDepth 100000 in
theorem treeHalves_run (w : World) (v : Value) (L : List Bytes) (hs : Sl w v L.length (L.flatMap bcs)) (ok : ∀ x ∈ L, x.length = 32) (_bd : L.length * 32 ≤ 140737488351232) :
    Calls Try.prog 5 #[v] w fun e w' => e = .returned (.bool true) ∧ Chg [] w w' := by
  have hv : Dg w v L := ⟨hs, ok⟩
  have hle := hs.le
  unfold maxLen at hle
  obtain ⟨a0, c0, rfl⟩ := hs.shape
  clear hs
  go_enter Try.func5, Try.ntmps5
  go_wp2_with fail
  refine (small21_ok w).mono ?_
  rintro e w1 ⟨rfl, g1⟩
  go_wp2_with fail
  refine (lognew_ok w1 w1.heap.size).mono ?_
  rintro e w2 ⟨rfl, l2, g2⟩
  have c2 := g1.t0 g2
  have zp := g1.size
  have hv2 := hv.tr0 c2
  generalize w1.heap.size = p at *
  clear g1 g2
  by_cases h2 : L.length < 2
  · have h2' : (L.length : Int) < 2 := by omega
    go_wp2
    go_ret
    exact ⟨rfl, c2⟩
  by_cases h60 : 60 < L.length
  · have h2' : ¬ (L.length : Int) < 2 := by omega
    have h3' : (60 : Int) < L.length := by omega
    go_wp2
    go_ret
    exact ⟨rfl, c2⟩
  have h2i : (2 : Int) ≤ L.length := by omega
  have h60i : (L.length : Int) ≤ 60 := by omega
  obtain ⟨b, off, c, e, hc1, hc2, hbl, _⟩ := hv.at (by omega)
  cases e
  have k1 := splitV_pos (n := L.length) (by omega)
  have k2 := splitV_lt (n := L.length) (by omega)
  have k3 := splitV_half (n := L.length) (by omega)
  have e := treeV_many (L := L) (by omega)
  have d1 := hv.take (k := splitV L.length) (by omega)
  have d2 := hv.drop (k := splitV L.length) (by omega) (by omega)
  have kS := fun w => split_ok w L.length ⟨by omega, by omega⟩
  have kD := fun w => depth_ok w L.length ⟨by omega, by omega⟩
  have kDk := fun w => depth_ok w (splitV L.length : Nat) ⟨by omega, by omega⟩
  have kDr := fun w => depth_ok w ((L.length : Int) - (splitV L.length : Nat)) ⟨by omega, by omega⟩
  have q1 := depthV_split (n := L.length) (by omega)
  have q2 : depthV (L.length - splitV L.length) ≤ depthV (splitV L.length) := depthV_mono (by omega)
  have q3 := splitV_depth (n := L.length) (by omega)
  have q4 : depthV (splitV L.length) ≤ 40 := depthV_lt (by omega)
  rw [show ((L.length : Int) - (splitV L.length : Nat)).toNat = L.length - splitV L.length by omega] at kDr
  simp only [Int.toNat_natCast] at kS kD kDk
  have t1 := treeV_len d1.len
  have t2 := treeV_len d2.len
  have t0 := treeV_len hv.len
  have n1 : (treeV (L.take (splitV L.length))).2.length ≤ 60 := by rw [treeV_count, List.length_take]; split <;> omega
  have n2 : (treeV (L.drop (splitV L.length))).2.length ≤ 60 := by rw [treeV_count, List.length_drop]; split <;> omega
  have n0 : (treeV L).2.length ≤ 60 := by rw [treeV_count]; split <;> omega
  have kR := fun w vl F h1 h2 h3 h4 => root_new _ w p vl F h1 h2 zp h3 L h4 _ hv
  have kA := fun w vl F h1 h2 h3 h4 => root_new _ w p vl F h1 h2 zp h3 _ h4 _ d1
  have kB := fun w vl F h1 h2 h3 h4 => root_new _ w p vl F h1 h2 zp h3 _ h4 _ d2
  have e1 := congrArg Prod.fst e
  dsimp only at e1
  have y1 : (L.take (splitV L.length)).length ≤ 60 := by rw [List.length_take]; omega
  have y2 : (L.drop (splitV L.length)).length ≤ 60 := by rw [List.length_drop]; omega
  clear e d1 d2 hv hv2 ok
  generalize L.take (splitV L.length) = L1 at *
  generalize L.drop (splitV L.length) = L2 at *
  generalize splitV L.length = s at *
  generalize depthV (L.length - s) = dr at *
  generalize depthV s = dk at *
  generalize depthV L.length = dn at *
  generalize treeV L1 = R1 at *
  generalize treeV L2 = R2 at *
  generalize treeV L = R0 at *
  obtain ⟨x1, f1⟩ := R1
  obtain ⟨x2, f2⟩ := R2
  obtain ⟨x0, f0⟩ := R0
  dsimp only at *
  subst e1
  subst q1
  have q3i : ((2 : Int) ^ dk) = (s : Int) := by rw [q3]; push_cast; rfl
  have hx0 : (hashV nodeS [x1, x2]).length = 32 := hashV_len _ _
  obtain ⟨x0, hx⟩ : ∃ x, x = hashV nodeS [x1, x2] := ⟨_, rfl⟩
  rw [← hx] at hx0 kR t0
  have k1i : (1 : Int) ≤ s := by omega
  have k2i : (s : Int) < L.length := by omega
  have k3i : (L.length : Int) - s ≤ s := by omega
  replace hx := Lib.hid hx
  replace q3 := Lib.hid q3
  replace q3i := Lib.hid q3i
  replace kR := Lib.hid kR
  replace kA := Lib.hid kA
  replace kB := Lib.hid kB
  go_wp2_with fail
  refine (kS w2).mono ?_
  rintro e w3 ⟨rfl, rfl⟩
  go_wp2_with fail
  refine (kR.out w3 _ _ l2 c2 Short.nil (by simp; omega)).mono ?_
  rintro e w4 ⟨rfl, v4, F4, l4, hF4, g4, c4, S4⟩
  have m4 := len_log hF4
  clear l2 c2 g4 hF4
  go_wp2_with (first
    | (refine alloc_bytes (by rfl) 32 (by rfl) 32 (by kernel_rfl) ?_; intro w5 h5 g5 z5; replace z5 : Hid _ := z5)
    | (refine store_bytes (by rfl) 32 (.tmp 7) (.tmp 46) (by rfl) _ 32 _ (by rfl) x0 (by rfl) _ h5 (by kernel_rfl) hx0 (by rw [List.length_replicate]) ?_; intro w6 h6 g6 z6; replace z6 : Hid _ := z6))
  have g46 : Chg [] w4 w6 := g5.tn g6 (Nat.le_refl _)
  have l6 := l4.tr0 g46
  have c6 := c4.t0 g46
  have hp4 := l4.lt
  generalize hq : w4.heap.size = q at *
  clear h5 g5 g6 z5 z6 g46 l4 c4 hq
  have kN := fun w vl F h1 h2 h3 => node_run w p p vl F h1 h2 h3 x1 x2 t1 t2
  rw [← hx.out] at kN
  replace kN := Lib.hid kN
  have hB := l6.lt
  have EQ := fun w => eql_dv (P := Try.prog) w 32 5 32 Try.underlying32 Try.underlying5 (fun w => by go_simp) x0 x0 hx0 hx0
  have GQ := fun w x y => eqg_dv (P := Try.prog) w .eql 32 x y x0 x0 (by kernel_rfl)
  unfold dv at EQ GQ
  simp only [beq_self_eq_true] at EQ
  have hq6 := lt_of_heap h6
  go_wp2_with fail
  refine' region_softR (fun _ => LogRel p) (fun m wx => wx.heap[q]? = some (.cells (bcs x0).toArray 32 (0, 0)) ∧ Chg [] w wx ∧ w6.heap.size ≤ wx.heap.size ∧ ∃ v' F', LogAt wx p p v' F' ∧ F'.length ≤ 60 + m * 61 ∧ Short (F'.map (·.2))) 13 [cst (.pointer (some ⟨p, 0, none⟩)), cst (.pointer (some ⟨p, 0, none⟩)), cst (.slice (some ⟨b, off, none⟩) L.length c0), cst (.int .i64 s), cst (.slice (some ⟨b, off, none⟩) s c0), cst (.agg (bcs x1).toArray), cst (.pointer (some ⟨p, 0, none⟩)), cst (.slice (some ⟨b, off, none⟩) L.length c0), cst (.int .i64 s), cst (.slice (some ⟨b, off + s * 32, none⟩) (L.length - s) (c0 - s)), cst (.agg (bcs x2).toArray), cst (.agg (bcs x0).toArray), New32 w6.heap.size] [false, false, false, false, false, true, false, false, false, false, true, true, false] [99, 99, 99, 99, 99, 99, 99, 99, 99, 99, 99, 99, 99] rfl rfl rfl (by kernel_rfl) (by kernel_rfl) (by kernel_rfl) (by kernel_rfl) (by intro j w w' ⟨i1, i2, iS, v', F', i3, i4, i5⟩ g; exact ⟨g.heap i1 (by simp), i2.t0 g, Nat.le_trans iS g.size, v', F', i3.tr0 g, i4, i5⟩) (⟨h6, c6, Nat.le_refl _, v4, F4, l6, by simp at m4 ⊢; omega, S4⟩) ⟨staysR_cst _ _, ⟨staysR_cst _ _, ⟨staysR_cst _ _, ⟨staysR_cst _ _, ⟨staysR_cst _ _, ⟨staysR_cstW _ _ _, ⟨staysR_cst _ _, ⟨staysR_cst _ _, ⟨staysR_cst _ _, ⟨staysR_cst _ _, ⟨staysR_cstW _ _ _, ⟨staysR_cstW _ _ _, ⟨New32.staysR hB, trivial⟩⟩⟩⟩⟩⟩⟩⟩⟩⟩⟩⟩⟩ _ (fun V => by simp only [putAll, Act.put, List.take_succ_cons, List.take_zero, List.setIfInBounds_toArray, List.set_cons_zero, List.set_cons_succ, Nat.reduceAdd]; exact rfl) ?hs1 ?ht1
  case hs1 =>
    simp only [List.take_succ_cons, List.take_zero, softsR]
    refine ⟨?_, ?_, ?_, ?_, ?_, ?_, ?_, ?_, ?_, ?_, ?_, ?_, ?_, trivial⟩
    · intro V wx hi hd
      simp [phi, Region.binds, cst] at hd
      try simp only [hd]
      first
        | (refine soft_const rfl ?_; go_simp; done)
        | (refine soft_const rfl ?_; go_simp; exact rfl)
        | (exact soft_skip rfl)
    · intro V wx hi hd
      simp [phi, Region.binds, cst] at hd
      try simp only [hd]
      first
        | (refine soft_const rfl ?_; go_simp; done)
        | (refine soft_const rfl ?_; go_simp; exact rfl)
        | (exact soft_skip rfl)
    · intro V wx hi hd
      simp [phi, Region.binds, cst] at hd
      try simp only [hd]
      first
        | (refine soft_const rfl ?_; go_simp; done)
        | (refine soft_const rfl ?_; go_simp; exact rfl)
        | (exact soft_skip rfl)
    · intro V wx hi hd
      simp [phi, Region.binds, cst] at hd
      try simp only [hd]
      first
        | (refine soft_const rfl ?_; go_simp; done)
        | (refine soft_const rfl ?_; go_simp; exact rfl)
        | (exact soft_skip rfl)
    · intro V wx hi hd
      simp [phi, Region.binds, cst] at hd
      try simp only [hd]
      refine soft_const rfl ?_
      go_simp
      intro hx
      omega
    · intro V wx hi hd
      simp [phi, Region.binds, cst] at hd
      try simp only [hd]
      obtain ⟨i1, i2, iS, v', F', i3, i4, i5⟩ := hi
      refine wstep_call rfl _ _ (by go_simp; try exact ⟨rfl, rfl⟩) ((kA.out wx v' F' i3 i2 i5 (by simp at i4; omega)).mono ?_)
      rintro e w' ⟨rfl, v8, F8, l8, hF8, g8, c8, S8⟩
      exact ⟨_, rfl, i3.rel g8, ⟨i3.dig g8 (by omega) i1, c8, Nat.le_trans iS g8.size, v8, F8, l8, by have := len_log hF8; simp at i4 ⊢; omega, S8⟩, rfl⟩
    · intro V wx hi hd
      simp [phi, Region.binds, cst] at hd
      try simp only [hd]
      first
        | (refine soft_const rfl ?_; go_simp; done)
        | (refine soft_const rfl ?_; go_simp; exact rfl)
        | (exact soft_skip rfl)
    · intro V wx hi hd
      simp [phi, Region.binds, cst] at hd
      try simp only [hd]
      first
        | (refine soft_const rfl ?_; go_simp; done)
        | (refine soft_const rfl ?_; go_simp; exact rfl)
        | (exact soft_skip rfl)
    · intro V wx hi hd
      simp [phi, Region.binds, cst] at hd
      try simp only [hd]
      first
        | (refine soft_const rfl ?_; go_simp; done)
        | (refine soft_const rfl ?_; go_simp; exact rfl)
        | (exact soft_skip rfl)
    · intro V wx hi hd
      simp [phi, Region.binds, cst] at hd
      try simp only [hd]
      refine soft_const rfl ?_
      go_simp
      rw [if_pos (by omega), if_neg (by omega)]
    · intro V wx hi hd
      simp [phi, Region.binds, cst] at hd
      try simp only [hd]
      obtain ⟨i1, i2, iS, v', F', i3, i4, i5⟩ := hi
      refine wstep_call rfl _ _ (by go_simp; try exact ⟨rfl, rfl⟩) ((kB.out wx v' F' i3 i2 i5 (by simp at i4; omega)).mono ?_)
      rintro e w' ⟨rfl, v8, F8, l8, hF8, g8, c8, S8⟩
      exact ⟨_, rfl, i3.rel g8, ⟨i3.dig g8 (by omega) i1, c8, Nat.le_trans iS g8.size, v8, F8, l8, by have := len_log hF8; simp at i4 ⊢; omega, S8⟩, rfl⟩
    · intro V wx hi hd
      simp [phi, Region.binds, cst] at hd
      try simp only [hd]
      obtain ⟨i1, i2, iS, v', F', i3, i4, i5⟩ := hi
      refine wstep_call rfl _ _ (by go_simp; try exact ⟨rfl, rfl⟩) ((kN.out wx v' F' i3 (Nat.le_of_lt i3.lt) (by simp at i4; omega)).mono ?_)
      rintro e w' ⟨rfl, v8, F8, l8, hF8, g8, _⟩
      exact ⟨_, rfl, i3.rel g8, ⟨i3.dig g8 (by omega) i1, i3.chg i2 zp zp g8, Nat.le_trans iS g8.size, v8, F8, l8, by have := len_log hF8; simp at i4 this ⊢; omega, by rw [hF8]; exact i5.app (Short.one (by rw [node_len t1 t2]; decide))⟩, rfl⟩
    · intro V wx hi hd
      simp [phi, Region.binds, cst] at hd
      try simp only [hd]
      obtain ⟨j, _, hi⟩ := hi
      exact soft_new32 rfl rfl hi.2.2.1
  intro V w7 hi hk
  obtain ⟨i1, i2, iS, v', F', i3, i4, i5⟩ := hi
  have h11 := hk 11 (by decide)
  have h12 := hk 12 (by decide)
  simp [phi, cst] at h11
  replace h12 : New32 w6.heap.size (V 12) w7 := h12
  obtain ⟨q8, e12, hq8, h8⟩ := h12
  simp only [h11, e12, List.drop_succ_cons, List.drop_zero]
  clear hk h11 e12 kR kA kB kN h6 c6 l6
  have hq68 : q ≠ q8 := by omega
  go_wp2_with (first
    | (refine store_bytes (by rfl) 32 _ _ (by rfl) q8 32 _ (by rfl) x0 (by rfl) _ h8 (by kernel_rfl) hx0 (by rw [List.length_replicate]) ?_; intro w9 h9 g9 z9; replace z9 : Hid _ := z9; have r9 := g9.heap i1 (by simpa using hq68); replace i1 := Lib.hid i1)
    | (refine load_raG (by rfl) 32 (.tmp 7) (by rfl) q 0 (by rfl) (bcs x0) _ (by simpa using ra_block r9) Try.underlying32 (by rfl) (by rw [bcs_length, hx0]; kernel_rfl) ?_)
    | (refine load_raG (by rfl) 32 (.tmp 8) (by rfl) q8 0 (by rfl) (bcs x0) _ (by simpa using ra_block h9) Try.underlying32 (by rfl) (by rw [bcs_length, hx0]; kernel_rfl) ?_))
  have c9 := i2.tn g9 (show w.heap.size ≤ q8 by omega)
  clear i1 i2 i3 r9 h9 h8 g9 z9 i4 i5
  refine (kD w9).mono ?_
  rintro e w10 ⟨rfl, rfl⟩
  go_wp2_with fail
  refine (kDk w10).mono ?_
  rintro e w11 ⟨rfl, rfl⟩
  go_wp2_with fail
  refine (kDr w11).mono ?_
  rintro e w12 ⟨rfl, rfl⟩
  go_wp2_with fail
  refine (kDk w12).mono ?_
  rintro e w13 ⟨rfl, rfl⟩
  have q2i : (dr : Int) ≤ dk := by omega
  go_wp2_with fail
  refine (kDk w13).mono ?_
  rintro e w14 ⟨rfl, rfl⟩
  have q3j := q3i.out
  go_wp2
  go_ret
  exact ⟨by simp, c9⟩
end Go.Proofs.Ytgepfmofignmfaa
