/-
  Ways of points: Walk and Steps.
-/
import Derived.Test.YtdfjpdgamahicaaPoint4
namespace Go.Proofs.Ytdfjpdgamahicaa
open Go.RowKit

/-- The cells of points. -/
def pcs (l : List (Int × Int)) : List Value := l.flatMap fun p => [.int .i64 p.1, .int .i64 p.2]
theorem pcs_cons (p : Int × Int) (l : List (Int × Int)) : pcs (p :: l) = .int .i64 p.1 :: .int .i64 p.2 :: pcs l := rfl
theorem pcs_append (l m : List (Int × Int)) : pcs (l ++ m) = pcs l ++ pcs m := by simp [pcs]
theorem pcs_length (l : List (Int × Int)) : (pcs l).length = l.length * 2 := by
  induction l with
  | nil => rfl
  | cons p l ih => rw [pcs_cons]; simp only [List.length_cons, ih]; omega
theorem pcs_get (l : List (Int × Int)) (j : Nat) (h : j < l.length) : (pcs l)[j * 2]? = some (.int .i64 l[j].1) ∧ (pcs l)[j * 2 + 1]? = some (.int .i64 l[j].2) := by
  induction l generalizing j with
  | nil => simp at h
  | cons p l ih =>
    cases j with
    | zero => exact ⟨rfl, rfl⟩
    | succ j =>
      have h2 := ih j (by simpa using h)
      rw [show (j + 1) * 2 = j * 2 + 1 + 1 by omega]
      simpa [pcs_cons] using h2
theorem pcs_one (l : List (Int × Int)) : ∀ u ∈ pcs l, u.oneCell' = true := by
  intro u hu
  obtain ⟨p, _, h⟩ := List.mem_flatMap.1 hu
  simp at h
  rcases h with rfl | rfl <;> rfl
theorem el_pt : ElemT Try.prog 34 23 2 16 := by
  obtain ⟨i, hi, hz, h1, h2⟩ := info_parts (P := Try.prog) (e := 23) (z := .agg #[.int .i64 0, .int .i64 0]) (size := 2) (bytes := 16) (by kernel_rfl)
  exact ⟨Try.underlying34, ⟨i, _, hi, hz, h1, h2, rfl⟩, by decide, by decide⟩

def nearB (x y : Int) : Bool := inB x 2097152 && inB y 2097152
/-- Where ways lead that begin at z; none: too far. -/
def walkF : Int × Int → List (Int × Int) → Option (List (Int × Int))
  | _, [] => some []
  | z, p :: r => if nearB p.1 p.2 = true ∧ rightB (z.1 + p.1) (z.2 + p.2) = true then (walkF (z.1 + p.1, z.2 + p.2) r).map ((z.1 + p.1, z.2 + p.2) :: ·) else none
theorem nearB_near {x y : Int} (h : nearB x y = true) : NearP x ∧ NearP y := by
  simp [nearB, inB] at h; unfold NearP; omega
theorem rightB_near {x y : Int} (h : rightB x y = true) : NearP x ∧ NearP y := by
  simp [rightB, inB] at h; unfold NearP; omega

def WalkPost (w : World) (r : Option (List (Int × Int))) (e : Ending) (w' : World) : Prop :=
  ∃ v', e = .returned (.tuple #[v', .bool r.isSome]) ∧ w'.ownsRow w.heap.size 23 2 v' (r.getD []).length (pcs (r.getD [])) ∧ Chg [] w w'

set_option maxHeartbeats 2000000 in
theorem walk_ok (w : World) (v : Value) (l : List (Int × Int)) (hs : Sl w v l.length (pcs l)) (hb : l.length * 16 ≤ big) :
    Calls Try.prog 22 #[v] w (WalkPost w (walkF (0, 0) l)) := by
  have hbig : l.length * 16 ≤ 140737488355328 := hb
  by_cases hl : l.length = 0
  · obtain rfl : l = [] := by simpa using hl
    obtain ⟨a, c, rfl, q1, q2, q3, q4, q6, q5⟩ := hs
    clear q1 q2 q3 q6 q4 q5 hl
    go_enter Try.func22, Try.ntmps22
    go_wp2
    refine wp_loop_rounds 1 ?_
    rw [rounds_succ]
    go_wp2
    go_ret2
    exact ⟨_, rfl, World.ownsRow_nil _ _ _ _, Chg.refl _ _⟩
  obtain ⟨b, off, c, rfl, q1, q2, hbW, hcell⟩ := hs.at (by rw [pcs_length]; omega)
  clear q1 q2 hs hl
  go_enter Try.func22, Try.ntmps22
  go_wp2
  go_loopw [4, 5, 10] (fun out z i wr => ∃ j done X Y x y, j ≤ l.length ∧ i = .int .i64 (j : Nat) ∧ z = .complex .f64 x y ∧ F64 x X ∧ F64 y Y ∧ NearP X ∧ NearP Y ∧ wr.ownsRow w.heap.size 23 2 out j (pcs done) ∧ done.length = j ∧ Chg [] w wr ∧ Hid (walkF (0, 0) l = (walkF (X, Y) (l.drop j)).map (done ++ ·))) (fun _ _ i _ => l.length - (intOf i).toNat)
  case atStart => exact ⟨0, [], 0, 0, _, _, Nat.zero_le _, rfl, rfl, f_zero, f_zero, by unfold NearP; decide, by unfold NearP; decide, World.ownsRow_nil _ _ _ _, rfl, Chg.refl _ _, Lib.hid (by simp)⟩
  case round =>
    obtain ⟨j, done, X, Y, x, y, hj, rfl, rfl, fx, fy, nx, ny, hown, hd, hg, hw⟩ := hrel
    by_cases hlt : j < l.length
    · obtain ⟨hp1, hp2⟩ := pcs_get l j hlt
      have hc1 := hg.cellv (hcell _ _ hp1) (by simp)
      have hc2 := hg.cellv (hcell _ _ hp2) (by simp)
      have hdr : l.drop j = l[j] :: l.drop (j + 1) := List.drop_eq_getElem_cons hlt
      generalize l[j] = P at *
      obtain ⟨u, v⟩ := P
      dsimp only at *
      have hstep : walkF (X, Y) (l.drop j) = if nearB u v = true ∧ rightB (X + u) (Y + v) = true then (walkF (X + u, Y + v) (l.drop (j + 1))).map ((X + u, Y + v) :: ·) else none := by rw [hdr]; rfl
      have HS := Lib.hid hstep
      clear hstep hdr hp1 hp2 hcell
      have hra : wr.rangeAt b (off + j * 2) [.int .i64 u, .int .i64 v] := ra2 hc1 hc2
      clear hc1 hc2
      have k1 := fun w => in_ok w u 2097152 (by decide) (by decide)
      have k2 := fun w => in_ok w v 2097152 (by decide) (by decide)
      have hnb : nearB u v = (inB u 2097152 && inB v 2097152) := rfl
      by_cases hnear : nearB u v = true
      · obtain ⟨nu, nv⟩ := nearB_near hnear
        have hab : inB u 2097152 = true ∧ inB v 2097152 = true := by rw [hnb] at hnear; simpa using hnear
        rw [hab.1] at k1
        rw [hab.2] at k2
        clear hnb hab
        have kof := fun w => of_ok w u v
        obtain ⟨re, im, f1, f2, hrun⟩ := complex_sum fx fy (f_of_int nu.w) (f_of_int nv.w) (by unfold NearP at *; unfold Near53; omega) (by unfold NearP at *; unfold Near53; omega)
        have krun := hrun Try.prog
        have kpt := fun w => point_ok w re im _ _ f1 f2 (by unfold NearP at *; unfold Near53; omega) (by unfold NearP at *; unfold Near53; omega)
        have kri := fun w => right_ok w (X + u) (Y + v)
        have HF := Lib.hid (And.intro f1 f2)
        have HN := Lib.hid hnear
        clear f1 f2 hrun fx fy nu nv hnear nx ny
        by_cases hr : rightB (X + u) (Y + v) = true
        · obtain ⟨nx', ny'⟩ := rightB_near hr
          have HR := Lib.hid hr
          rw [hr] at kri
          clear hr
          generalize X + u = X1 at *
          generalize Y + v = Y1 at *
          unfold pt at *
          go_wp2_with (first
          | (refine wpList_load_mid rfl _ _ rfl b (off + j * 2) rfl [.int .i64 u, .int .i64 v] _ hra Try.underlying23 rfl (by kernel_rfl) ?_)
          | (refine store_rowC rfl _ _ _ rfl _ _ rfl [.int .i64 u, .int .i64 v] rfl _ (heap_alloc_new wr _) (by kernel_rfl) rfl rfl ?_; intro W3 h3 g3 z3; obtain ⟨d0, d1, _, _⟩ := cells2 h3)
          | (go_at_call 24; first | (with_reducible refine (k1 _).mono ?_); rintro e w1 ⟨rfl, rfl⟩ | (with_reducible refine (k2 _).mono ?_); rintro e w1 ⟨rfl, rfl⟩)
            | (go_at_call 26; refine (kof _).mono ?_; rintro e w4 ⟨rfl, g4⟩)
            | (go_at_call 8; refine (kri _).mono ?_; rintro e w6 ⟨rfl, g6⟩)
            | (go_at_call 25; first | ((have _t := g6); refine (kpt _).mono ?_; rintro e w7 ⟨rfl, g7⟩) | (refine (kpt _).mono ?_; rintro e w5 ⟨rfl, g5⟩))
            | (at_builtin; refine wpList_append_sl _ rfl (.tmp 32) (.tmp 35) 34 23 2 16 rfl el_pt w.heap.size _ j (pcs done) rfl (own_tr hown (((((((Chg.alloc [] wr _).tn g3 (Nat.le_refl _)).t0 g4).t0 g5).t0 g6).t0 g7).t0 (Chg.alloc [] w7 _)) (by simp)) _ 1 (pcs [(X1, Y1)]) rfl (Sl.lit w7 #[.int .i64 X1, .int .i64 Y1] 23 1 (by decide)) rfl (pcs_one _) (by unfold big; omega) (by have := hg.size; have := (((((Chg.alloc [] wr _).tn g3 (Nat.le_refl _)).t0 g4).t0 g5).t0 g6).t0 g7 |>.size; simp; omega) ?_; intro v' w8 hown8 hg8; have G8 : Chg [] w w8 := ((hg.t0 (((((((Chg.alloc [] wr _).tn g3 (Nat.le_refl _)).t0 g4).t0 g5).t0 g6).t0 g7).t0 (Chg.alloc [] w7 _)))).grownOwn hg8 (own_tr hown (((((((Chg.alloc [] wr _).tn g3 (Nat.le_refl _)).t0 g4).t0 g5).t0 g6).t0 g7).t0 (Chg.alloc [] w7 _)) (by simp)) (Nat.le_refl _); clear hg8))
          go_roundw
          case rel => exact ⟨j + 1, done ++ [(X1, Y1)], X1, Y1, re, im, by omega, by go_num, rfl, HF.out.1, HF.out.2, nx', ny', by rw [pcs_append]; exact hown8, by simp [hd], G8, Lib.hid (by rw [hw.out, HS.out, if_pos ⟨HN.out, HR.out⟩, Option.map_map]; congr 1; funext x; simp)⟩
          case measure => simp [intOf]; omega
        · have hr' : rightB (X + u) (Y + v) = false := by simpa using hr
          have hnone : walkF (0, 0) l = none := by rw [hw.out, HS.out, if_neg (fun h => hr h.2)]; rfl
          rw [hnone]
          rw [hr'] at kri
          clear hr hr' HS hw hnone
          generalize X + u = X1 at *
          generalize Y + v = Y1 at *
          unfold pt at *
          go_wp2_with (first
          | (refine wpList_load_mid rfl _ _ rfl b (off + j * 2) rfl [.int .i64 u, .int .i64 v] _ hra Try.underlying23 rfl (by kernel_rfl) ?_)
          | (refine store_rowC rfl _ _ _ rfl _ _ rfl [.int .i64 u, .int .i64 v] rfl _ (heap_alloc_new wr _) (by kernel_rfl) rfl rfl ?_; intro W3 h3 g3 z3; obtain ⟨d0, d1, _, _⟩ := cells2 h3)
          | (go_at_call 24; first | (with_reducible refine (k1 _).mono ?_); rintro e w1 ⟨rfl, rfl⟩ | (with_reducible refine (k2 _).mono ?_); rintro e w1 ⟨rfl, rfl⟩)
            | (go_at_call 26; refine (kof _).mono ?_; rintro e w4 ⟨rfl, g4⟩)
            | (go_at_call 8; refine (kri _).mono ?_; rintro e w6 ⟨rfl, g6⟩)
            | (go_at_call 25; refine (kpt _).mono ?_; rintro e w5 ⟨rfl, g5⟩))
          go_ret2
          exact ⟨_, rfl, World.ownsRow_nil _ _ _ _, hg.t0 (((((Chg.alloc [] wr _).tn g3 (Nat.le_refl _)).t0 g4).t0 g5).t0 g6)⟩
      · have hnone : walkF (0, 0) l = none := by rw [hw.out, HS.out, if_neg (fun h => hnear h.1)]; rfl
        rw [hnone]
        have hab : inB u 2097152 = false ∨ inB u 2097152 = true ∧ inB v 2097152 = false := by
          rw [hnb] at hnear
          cases h1 : inB u 2097152
          · exact .inl rfl
          · cases h2 : inB v 2097152
            · exact .inr ⟨rfl, rfl⟩
            · rw [h1, h2] at hnear; exact absurd rfl hnear
        clear hnb hnear HS hw hnone
        rcases hab with h1 | ⟨h1, h2⟩
        · rw [h1] at k1
          clear h1
          go_wp2_with (first
          | (refine wpList_load_mid rfl _ _ rfl b (off + j * 2) rfl [.int .i64 u, .int .i64 v] _ hra Try.underlying23 rfl (by kernel_rfl) ?_)
          | (refine store_rowC rfl _ _ _ rfl _ _ rfl [.int .i64 u, .int .i64 v] rfl _ (heap_alloc_new wr _) (by kernel_rfl) rfl rfl ?_; intro W3 h3 g3 z3; obtain ⟨d0, d1, _, _⟩ := cells2 h3)
          | (go_at_call 24; first | (with_reducible refine (k1 _).mono ?_); rintro e w1 ⟨rfl, rfl⟩ | (with_reducible refine (k2 _).mono ?_); rintro e w1 ⟨rfl, rfl⟩))
          go_ret2
          exact ⟨_, rfl, World.ownsRow_nil _ _ _ _, hg.t0 ((Chg.alloc [] wr _).tn g3 (Nat.le_refl _))⟩
        · rw [h1] at k1
          rw [h2] at k2
          clear h1 h2
          go_wp2_with (first
          | (refine wpList_load_mid rfl _ _ rfl b (off + j * 2) rfl [.int .i64 u, .int .i64 v] _ hra Try.underlying23 rfl (by kernel_rfl) ?_)
          | (refine store_rowC rfl _ _ _ rfl _ _ rfl [.int .i64 u, .int .i64 v] rfl _ (heap_alloc_new wr _) (by kernel_rfl) rfl rfl ?_; intro W3 h3 g3 z3; obtain ⟨d0, d1, _, _⟩ := cells2 h3)
          | (go_at_call 24; first | (with_reducible refine (k1 _).mono ?_); rintro e w1 ⟨rfl, rfl⟩ | (with_reducible refine (k2 _).mono ?_); rintro e w1 ⟨rfl, rfl⟩))
          go_ret2
          exact ⟨_, rfl, World.ownsRow_nil _ _ _ _, hg.t0 ((Chg.alloc [] wr _).tn g3 (Nat.le_refl _))⟩
    · obtain rfl : j = l.length := by omega
      have hsome : walkF (0, 0) l = some done := by rw [hw.out, List.drop_length]; simp [walkF]
      have HSo := Lib.hid hsome
      clear hw hsome
      go_wp2
      go_ret2
      rw [HSo.out]
      exact ⟨_, rfl, by simpa [hd] using hown, hg⟩
end Go.Proofs.Ytdfjpdgamahicaa
