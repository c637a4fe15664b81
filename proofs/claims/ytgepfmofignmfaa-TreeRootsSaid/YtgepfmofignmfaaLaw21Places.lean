/-
  TreePlaces: the walk.
-/
import Derived.Test.YtgepfmofignmfaaLaw21Tells
namespace Go.Proofs.Ytgepfmofignmfaa
set_option linter.unusedSimpArgs false
set_option linter.unusedVariables false
open Go.RowKit

/-- A leaf's contract in short: the log is new since W. -/
theorem leaf_new (W w : World) (p : Nat) (vl : Value) (F : RowsB) (hF : LogAt w p p vl F) (c : Chg [] W w) (hp : W.heap.size ≤ p) (hS : Short (F.map (·.2))) (hfl : F.length ≤ 1000000) (s : Bytes) (hs : s.length ≤ 400) (k n : Int) (v : Value) (d : Bytes) (hd : Sl W v d.length (bcs d)) (hdl : d.length ≤ 1000) :
    Calls Try.prog 15 #[.pointer (some ⟨p, 0, none⟩), .string (bstr s), .int .i64 k, .int .i64 n, v] w fun e w' => e = .returned (.agg (bcs (hashV s (leafP k n d))).toArray) ∧
      ∃ v' F', LogAt w' p p v' F' ∧ F'.map (·.2) = F.map (·.2) ++ logB s (leafP k n d) ∧ Chg (p :: vl.ownBlock.toList) w w' ∧ Chg [] W w' ∧ Short (F'.map (·.2)) := by
  refine (leaf_run w p p vl F hF (Nat.le_of_lt hF.lt) hfl s (by unfold maxLen; omega) k n v d (hd.tr0 c) (by omega)).mono ?_
  rintro e w' ⟨he, v', F', h1, h2, h3, h4⟩
  exact ⟨he, v', F', h1, h2, h3, hF.chg c hp hp h3, by rw [h2]; exact hS.app (Short.leaf hs hdl)⟩
theorem logB_len1 (s : Bytes) (ps : List Bytes) : (logB s ps).length ≤ 1 := by
  unfold logB
  split <;> simp
set_option maxHeartbeats 16000000 in
set_option maxRecDepth 100000 in
theorem places_walk (w : World) (s : Bytes) (k n : Int) (vd : Value) (d : Bytes) (t : Bytes) (i m : Int) (ve : Value) (e : Bytes) (hsl : s.length ≤ 140737488351232) (hk : I64 k) (hn : I64 n) (sd : Sl w vd d.length (bcs d)) (htl : t.length ≤ 140737488351232) (hi : I64 i) (hm : I64 m) (se : Sl w ve e.length (bcs e)) :
    Calls Try.prog 7 #[.string (bstr s), .int .i64 k, .int .i64 n, vd, .string (bstr t), .int .i64 i, .int .i64 m, ve] w fun e w' => e = .returned (.bool true) ∧ Chg [] w w' := by
  have hdl := sd.le
  have hel := se.le
  unfold maxLen at hdl hel
  obtain ⟨ad, cd, rfl⟩ := sd.shape
  obtain ⟨ae, ce, rfl⟩ := se.shape
  have hk' := Lib.hid hk
  have hn' := Lib.hid hn
  have hi' := Lib.hid hi
  have hm' := Lib.hid hm
  clear hk hn hi hm
  go_enter Try.func7, Try.ntmps7
  go_wp2_with fail
  refine (small21_ok w).mono ?_
  rintro e w1 ⟨rfl, g1⟩
  go_wp2_with fail
  refine (lognew_ok w1 w1.heap.size).mono ?_
  rintro e w2 ⟨rfl, l2, g2⟩
  have c2 := g1.t0 g2
  have zp := g1.size
  have hpq : w1.heap.size < w2.heap.size := l2.lt
  generalize w1.heap.size = p at *
  clear g1 g2
  go_wp2_with fail
  refine (lognew_ok w2 w2.heap.size).mono ?_
  rintro e w3 ⟨rfl, m3, g3⟩
  have c3 := c2.t0 g3
  have l3 := l2.tr0 g3
  generalize w2.heap.size = q at *
  clear g3 l2 c2
  have hbs := bstr_size s
  have hbt := bstr_size t
  by_cases b1 : s.length < 1
  · have b1' : (s.length : Int) < 1 := by omega
    go_wp2
    go_ret
    exact ⟨rfl, c3⟩
  have b1' : (1 : Int) ≤ s.length := by omega
  by_cases b2 : 200 < s.length
  · have b2' : (200 : Int) < s.length := by omega
    go_wp2
    go_ret
    exact ⟨rfl, c3⟩
  have b2' : (s.length : Int) ≤ 200 := by omega
  by_cases b3 : t.length < 1
  · have b3' : (t.length : Int) < 1 := by omega
    go_wp2
    go_ret
    exact ⟨rfl, c3⟩
  have b3' : (1 : Int) ≤ t.length := by omega
  by_cases b4 : 200 < t.length
  · have b4' : (200 : Int) < t.length := by omega
    go_wp2
    go_ret
    exact ⟨rfl, c3⟩
  have b4' : (t.length : Int) ≤ 200 := by omega
  by_cases b5 : 500 < d.length
  · have b5' : (500 : Int) < d.length := by omega
    go_wp2
    go_ret
    exact ⟨rfl, c3⟩
  have b5' : (d.length : Int) ≤ 500 := by omega
  by_cases b6 : 500 < e.length
  · have b6' : (500 : Int) < e.length := by omega
    go_wp2
    go_ret
    exact ⟨rfl, c3⟩
  have b6' : (e.length : Int) ≤ 500 := by omega
  have zq : w.heap.size ≤ q := by omega
  have ok1 : frameOk s (leafP k n d) = true := leaf_ok (by omega) (by omega) _ _ _
  have ok2 : frameOk t (leafP i m e) = true := leaf_ok (by omega) (by omega) _ _ _
  have kA := leaf_new _ w3 p _ _ l3 c3 zp Short.nil (by simp) s (by omega) k n _ d sd (by omega)
  have kB := fun w vl F h1 h2 h3 h4 => leaf_new _ w q vl F h1 h2 zq h3 h4 t (by omega) i m _ e se (by omega)
  have f1 := leaf_frames (s := s) (t := t) (k := k) (n := n) (i := i) (m := m) (d := d) (e := e) ok1 ok2 hk'.out hn'.out hi'.out hm'.out (by omega) (by omega)
  have tA := hashV_len s (leafP k n d)
  have tB := hashV_len t (leafP i m e)
  have hT : ¬ (s = t ∧ k = i ∧ n = m ∧ d = e) → hashV s (leafP k n d) = hashV t (leafP i m e) → (extT (logB s (leafP k n d)) (logB t (leafP i m e))).2.2 = true := fun hne hr => by
    rw [hashV, hashV, if_pos ok1, if_pos ok2] at hr
    rw [logB, logB, if_pos ok1, if_pos ok2]
    obtain ⟨u, v, h, _⟩ := ext_found (A := [frameB s (leafP k n d)]) (B := [frameB t (leafP i m e)]) (List.mem_singleton.2 rfl) (List.mem_singleton.2 rfl) hr.symm (fun h => hne (f1 h.symm))
    rw [h]
  have hE : (s = t ∧ k = i ∧ n = m ∧ d = e) → hashV s (leafP k n d) = hashV t (leafP i m e) := by
    rintro ⟨rfl, rfl, rfl, rfl⟩; rfl
  have nA := logB_len1 s (leafP k n d)
  have nB := logB_len1 t (leafP i m e)
  obtain ⟨xA, hxA⟩ : ∃ x, x = hashV s (leafP k n d) := ⟨_, rfl⟩
  obtain ⟨xB, hxB⟩ : ∃ x, x = hashV t (leafP i m e) := ⟨_, rfl⟩
  obtain ⟨fA, hfA⟩ : ∃ x, x = logB s (leafP k n d) := ⟨_, rfl⟩
  obtain ⟨fB, hfB⟩ : ∃ x, x = logB t (leafP i m e) := ⟨_, rfl⟩
  rw [← hxA, ← hfA] at kA
  rw [← hxA] at tA
  rw [← hxB] at tB
  rw [← hfA] at nA
  rw [← hfB] at nB
  rw [← hxA, ← hxB, ← hfA, ← hfB] at hT
  rw [← hxA, ← hxB] at hE
  simp only [← hxB, ← hfB] at kB
  clear hxA hxB hfA hfB f1 ok1 ok2 hk' hn' hi' hm'
  replace nA := Lib.hid nA
  replace nB := Lib.hid nB
  replace hT := Lib.hid hT
  replace hE := Lib.hid hE
  replace kB := Lib.hid kB
  go_wp2_with fail
  refine kA.mono ?_
  rintro e2 w4 ⟨rfl, v4, F4, l4, hF4, g4, c4, S4⟩
  have m4 : LogAt w4 q q (.slice none 0 0) [] := ⟨g4.heap m3.cell (by simp [Value.ownBlock]; omega), OwnsB.nil _ _⟩
  simp only [List.map_nil, List.nil_append] at hF4
  clear kA l3 m3 g4 c3
  replace hF4 := Lib.hid hF4
  replace S4 := Lib.hid S4
  go_wp2_with (first
    | (refine alloc_bytes (by rfl) 32 (by rfl) 32 (by kernel_rfl) ?_; intro w5 h5 g5 z5; replace z5 : Hid _ := z5)
    | (refine store_bytes (by rfl) 32 (.tmp 20) (.tmp 79) (by rfl) _ 32 _ (by rfl) xA (by rfl) _ h5 (by kernel_rfl) tA (by rw [List.length_replicate]) ?_; intro w6 h6 g6 z6; replace z6 : Hid _ := z6))
  have g46 : Chg [] w4 w6 := g5.tn g6 (Nat.le_refl _)
  have l6 := l4.tr0 g46
  have m6 := m4.tr0 g46
  have c6 := c4.t0 g46
  have hq4 := m4.lt
  generalize hq : w4.heap.size = r1 at *
  clear h5 g5 g6 z5 z6 g46 l4 m4 c4 hq
  refine (kB.out w6 _ _ m6 c6 Short.nil (by simp)).mono ?_
  rintro e2 w8 ⟨rfl, v8, F8, m8, hF8, g8, c8, S8⟩
  have h8 := m6.dig g8 (by omega) h6
  have l8 := l6.logRow m6 (by simpa [Value.ownBlock] using g8) (by omega)
  simp only [List.map_nil, List.nil_append] at hF8
  clear kB l6 m6 g8 c6 h6
  replace hF8 := Lib.hid hF8
  replace S8 := Lib.hid S8
  by_cases hs : s = t ∧ k = i ∧ n = m ∧ d = e
  · have hx := hE.out hs
    obtain ⟨rfl, rfl, rfl, rfl⟩ := hs
    subst hx
    clear hE hT
    go_wp2_with (first
      | (refine alloc_bytes (by rfl) 32 (by rfl) 32 (by kernel_rfl) ?_; intro w9 h9 g9 z9; replace z9 : Hid _ := z9)
      | (refine store_bytes (by rfl) 32 (.tmp 21) (.tmp 85) (by rfl) _ 32 _ (by rfl) xA (by rfl) _ h9 (by kernel_rfl) tA (by rw [List.length_replicate]) ?_; intro w10 h10 g10 z10; replace z10 : Hid _ := z10
         have g810 : Chg [] w8 w10 := g9.tn g10 (Nat.le_refl _)
         have k1 := run_str (P := Try.prog) Try.underlying22 Try.underlying5 Try.underlying9 (sd.tr0 (c8.t0 g810)) rfl
         have k2 := run_str (P := Try.prog) Try.underlying22 Try.underlying5 Try.underlying9 (se.tr0 (c8.t0 g810)) rfl))
    have l10 := l8.tr0 g810
    have m10 := m8.tr0 g810
    have c10 := c8.t0 g810
    have h8' := g810.heap h8 (by simp)
    have kE := extract_ok w10 p q p q v4 v8 F4 F8 l10 m10 (by
      have := congrArg List.length hF4.out
      have := nA.out
      simp at *; omega) (by
      have := congrArg List.length hF8.out
      have := nB.out
      simp at *; omega) S4.out.rows S8.out.rows
    rw [hF4.out, hF8.out] at kE
    have R1 := ra_block h8'
    have R2 := ra_block h10
    simp only [List.toList_toArray] at R1 R2
    replace R1 := Lib.hid R1
    replace R2 := Lib.hid R2
    generalize hq : w8.heap.size = r2 at *
    clear h9 g9 g10 z9 z10 g810 l8 m8 c8 hq h8 l10 m10 h8' h10
    have EQ := fun w => eql_dv (P := Try.prog) w 32 5 32 Try.underlying32 Try.underlying5 (fun w => by go_simp) xA xA tA tA
    have GQ := fun w x y => eqg_dv (P := Try.prog) w .eql 32 x y xA xA (by kernel_rfl)
    unfold dv at EQ GQ
    simp only [beq_self_eq_true] at EQ
    generalize (extT fA fB).1 = T1 at *
    generalize (extT fA fB).2.1 = T2 at *
    generalize (extT fA fB).2.2 = TO at *
    refine kE.mono ?_
    clear kE
    rintro e2 w11 ⟨y1, y2, rfl, o1, o2, g11⟩
    have R3 := (g11.range R1.out (by simp))
    have R4 := (g11.range R2.out (by simp))
    replace R3 := Lib.hid R3
    replace R4 := Lib.hid R4
    have cw11 := c10.t0 g11
    obtain ⟨a1, q1, rfl⟩ := own_shape o1
    obtain ⟨a2, q2, rfl⟩ := own_shape o2
    clear o1 o2
    go_wp2_with (first
      | (refine load_raG (by rfl) 32 (.tmp 20) (by rfl) r1 0 (by rfl) (bcs xA) _ R3.out Try.underlying32 (by rfl) (by rw [bcs_length, tA]; kernel_rfl) ?_)
      | (refine load_raG (by rfl) 32 (.tmp 21) (by rfl) r2 0 (by rfl) (bcs xA) _ R4.out Try.underlying32 (by rfl) (by rw [bcs_length, tA]; kernel_rfl) ?_))
    go_ret
    exact ⟨by simp, cw11⟩
  · have hT := hT.out hs
    clear hE
    replace hT := Lib.hid hT
    have NE := fun w => neq_dv (P := Try.prog) w 32 5 32 Try.underlying32 Try.underlying5 (fun w => by go_simp) xA xB tA tB
    have NG := fun w x y => eqg_dv (P := Try.prog) w .neq 32 x y xA xB (by kernel_rfl)
    unfold dv at NE NG
    have hcase : s ≠ t ∨ (s = t ∧ k ≠ i) ∨ (s = t ∧ k = i ∧ n ≠ m) ∨ (s = t ∧ k = i ∧ n = m ∧ d ≠ e) := by
      by_cases e1 : s = t
      · by_cases e2 : k = i
        · by_cases e3 : n = m
          · by_cases e4 : d = e
            · exact absurd ⟨e1, e2, e3, e4⟩ hs
            · exact .inr (.inr (.inr ⟨e1, e2, e3, e4⟩))
          · exact .inr (.inr (.inl ⟨e1, e2, e3⟩))
        · exact .inr (.inl ⟨e1, e2⟩)
      · exact .inl e1
    clear hs
    have hTO : xA = xB → (extT fA fB).2.2 = true := hT.out
    clear hT
    have hNT : (xA != xB) = true ∨ ((xA != xB) = false ∧ (extT fA fB).2.2 = true) := by
      by_cases e1 : xA = xB
      · exact .inr ⟨by simp [e1], hTO e1⟩
      · exact .inl (bne_iff_ne.2 e1)
    clear hTO
    generalize (xA != xB) = ne at *
    rcases hcase with e1 | ⟨rfl, e1⟩ | ⟨rfl, rfl, e1⟩ | ⟨rfl, rfl, rfl, e1⟩
    all_goals
      have e1' := beq_eq_false_iff_ne.2 e1
      clear e1
      go_wp2_with (first
        | (refine alloc_bytes (by rfl) 32 (by rfl) 32 (by kernel_rfl) ?_; intro w9 h9 g9 z9; replace z9 : Hid _ := z9)
        | (refine store_bytes (by rfl) 32 (.tmp 21) (.tmp 85) (by rfl) _ 32 _ (by rfl) xB (by rfl) _ h9 (by kernel_rfl) tB (by rw [List.length_replicate]) ?_; intro w10 h10 g10 z10; replace z10 : Hid _ := z10
           have g810 : Chg [] w8 w10 := g9.tn g10 (Nat.le_refl _)
           have k1 := run_str (P := Try.prog) Try.underlying22 Try.underlying5 Try.underlying9 (sd.tr0 (c8.t0 g810)) rfl
           have k2 := run_str (P := Try.prog) Try.underlying22 Try.underlying5 Try.underlying9 (se.tr0 (c8.t0 g810)) rfl))
      have l10 := l8.tr0 g810
      have m10 := m8.tr0 g810
      have c10 := c8.t0 g810
      have h8' := g810.heap h8 (by simp)
      have kE := extract_ok w10 p q p q v4 v8 F4 F8 l10 m10 (by
        have := congrArg List.length hF4.out
        have := nA.out
        simp at *; omega) (by
        have := congrArg List.length hF8.out
        have := nB.out
        simp at *; omega) S4.out.rows S8.out.rows
      rw [hF4.out, hF8.out] at kE
      have R1 := ra_block h8'
      have R2 := ra_block h10
      simp only [List.toList_toArray] at R1 R2
      replace R1 := Lib.hid R1
      replace R2 := Lib.hid R2
      generalize hq : w8.heap.size = r2 at *
      clear h9 g9 g10 z9 z10 g810 l8 m8 c8 hq h8 l10 m10 h8' h10
      generalize (extT fA fB).1 = T1 at *
      generalize (extT fA fB).2.1 = T2 at *
      generalize (extT fA fB).2.2 = TO at *
      rcases hNT with rfl | ⟨rfl, rfl⟩
      all_goals
        refine kE.mono ?_
        clear kE
        rintro e2 w11 ⟨y1, y2, rfl, o1, o2, g11⟩
        have R3 := (g11.range R1.out (by simp))
        have R4 := (g11.range R2.out (by simp))
        replace R3 := Lib.hid R3
        replace R4 := Lib.hid R4
        have cw11 := c10.t0 g11
        obtain ⟨a1, q1, rfl⟩ := own_shape o1
        obtain ⟨a2, q2, rfl⟩ := own_shape o2
        clear o1 o2
        go_wp2_with (first
          | (refine load_raG (by rfl) 32 (.tmp 20) (by rfl) r1 0 (by rfl) (bcs xA) _ R3.out Try.underlying32 (by rfl) (by rw [bcs_length, tA]; kernel_rfl) ?_)
          | (refine load_raG (by rfl) 32 (.tmp 21) (by rfl) r2 0 (by rfl) (bcs xB) _ R4.out Try.underlying32 (by rfl) (by rw [bcs_length, tB]; kernel_rfl) ?_))
        go_ret
        exact ⟨by simp, cw11⟩
theorem treePlaces_run (w : World) (s : ByteArray) (k n : Int) (vd : Value) (d : Bytes) (t : ByteArray) (i m : Int) (ve : Value) (e : Bytes) (hs : s.size ≤ 140737488351232) (wk : (Lit.int .i64 k).wf = true) (wn : (Lit.int .i64 n).wf = true) (sd : Sl w vd d.length (bcs d)) (_bd : d.length * 1 ≤ 140737488351232) (ht : t.size ≤ 140737488351232) (wi : (Lit.int .i64 i).wf = true) (wm : (Lit.int .i64 m).wf = true) (se : Sl w ve e.length (bcs e)) (_be : e.length * 1 ≤ 140737488351232) :
    Calls Try.prog 7 #[.string s, .int .i64 k, .int .i64 n, vd, .string t, .int .i64 i, .int .i64 m, ve] w fun e w' => e = .returned (.bool true) ∧ Chg [] w w' := by
  have h := places_walk w s.data.toList k n vd d t.data.toList i m ve e (by rw [Array.length_toList]; exact hs) (i64_wf wk) (i64_wf wn) sd (by rw [Array.length_toList]; exact ht) (i64_wf wi) (i64_wf wm) se
  rw [bstr_data, bstr_data] at h
  exact h
end Go.Proofs.Ytgepfmofignmfaa
