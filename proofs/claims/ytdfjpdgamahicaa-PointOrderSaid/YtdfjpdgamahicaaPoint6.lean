/-
  Ways of points: Steps; the small case of the points' statements.
-/
import Derived.Test.YtdfjpdgamahicaaPoint5
namespace Go.Proofs.Ytdfjpdgamahicaa
open Go.RowKit

/-- The ways between points, from z on; none: one is too far. -/
def stepsF : Int × Int → List (Int × Int) → Option (List (Int × Int))
  | _, [] => some []
  | z, p :: r => if rightB p.1 p.2 = true then (stepsF p r).map ((p.1 - z.1, p.2 - z.2) :: ·) else none

def StepsPost (w : World) (r : Option (List (Int × Int))) (e : Ending) (w' : World) : Prop :=
  ∃ v', e = .returned v' ∧ w'.ownsRow w.heap.size 23 2 v' (r.getD []).length (pcs (r.getD [])) ∧ Chg [] w w'

set_option maxHeartbeats 2000000 in
theorem steps_ok (w : World) (v : Value) (l : List (Int × Int)) (hs : Sl w v l.length (pcs l)) (hb : l.length * 16 ≤ big) :
    Calls Try.prog 23 #[v] w (StepsPost w (stepsF (0, 0) l)) := by
  have hbig : l.length * 16 ≤ 140737488355328 := hb
  by_cases hl : l.length = 0
  · obtain rfl : l = [] := by simpa using hl
    obtain ⟨a, c, rfl, q1, q2, q3, q4, q6, q5⟩ := hs
    clear q1 q2 q3 q6 q4 q5 hl
    go_enter Try.func23, Try.ntmps23
    go_wp2
    refine wp_loop_rounds 1 ?_
    rw [rounds_succ]
    go_wp2
    go_ret
    exact ⟨_, rfl, World.ownsRow_nil _ _ _ _, Chg.refl _ _⟩
  obtain ⟨b, off, c, rfl, q1, q2, hbW, hcell⟩ := hs.at (by rw [pcs_length]; omega)
  clear q1 q2 hs hl
  go_enter Try.func23, Try.ntmps23
  go_wp2
  go_loopw [3, 4, 9] (fun out z i wr => ∃ j done X Y x y, j ≤ l.length ∧ i = .int .i64 (j : Nat) ∧ z = .complex .f64 x y ∧ F64 x X ∧ F64 y Y ∧ NearP X ∧ NearP Y ∧ wr.ownsRow w.heap.size 23 2 out j (pcs done) ∧ done.length = j ∧ Chg [] w wr ∧ Hid (stepsF (0, 0) l = (stepsF (X, Y) (l.drop j)).map (done ++ ·))) (fun _ _ i _ => l.length - (intOf i).toNat)
  case atStart => exact ⟨0, [], 0, 0, _, _, Nat.zero_le _, rfl, rfl, f_zero, f_zero, by unfold NearP; decide, by unfold NearP; decide, World.ownsRow_nil _ _ _ _, rfl, Chg.refl _ _, Lib.hid (by simp)⟩
  case round =>
    obtain ⟨j, done, X, Y, x, y, hj, rfl, rfl, fx, fy, nx, ny, hown, hd, hg, hw⟩ := hrel
    by_cases hlt : j < l.length
    · obtain ⟨hp1, hp2⟩ := pcs_get l j hlt
      have hc1 := hg.cellv (hcell _ _ hp1) (by simp)
      have hc2 := hg.cellv (hcell _ _ hp2) (by simp)
      have hdr : l.drop j = l[j] :: l.drop (j + 1) := List.drop_eq_getElem_cons hlt
      generalize l[j] = P at *
      obtain ⟨u, v⟩ := P
      dsimp only at *
      have hstep : stepsF (X, Y) (l.drop j) = if rightB u v = true then (stepsF (u, v) (l.drop (j + 1))).map ((u - X, v - Y) :: ·) else none := by rw [hdr]; rfl
      have HS := Lib.hid hstep
      clear hstep hdr hp1 hp2 hcell
      have hra : wr.rangeAt b (off + j * 2) [.int .i64 u, .int .i64 v] := ra2 hc1 hc2
      clear hc1 hc2
      have kri := fun w => right_ok w u v
      by_cases hr : rightB u v = true
      · obtain ⟨nu, nv⟩ := rightB_near hr
        rw [hr] at kri
        have HR := Lib.hid hr
        have kof := fun w => of_ok w u v
        obtain ⟨re, im, f1, f2, hrun⟩ := complex_diff (f_of_int nu.w) (f_of_int nv.w) fx fy (by unfold NearP at *; unfold Near53; omega) (by unfold NearP at *; unfold Near53; omega)
        have krun := hrun Try.prog
        have kpt := fun w => point_ok w re im _ _ f1 f2 (by unfold NearP at *; unfold Near53; omega) (by unfold NearP at *; unfold Near53; omega)
        clear f1 f2 hrun fx fy nx ny hr
        generalize u - X = X1 at *
        generalize v - Y = Y1 at *
        unfold pt at *
        go_wp2_with (first
          | (refine wpList_load_mid rfl _ _ rfl b (off + j * 2) rfl [.int .i64 u, .int .i64 v] _ hra Try.underlying23 rfl (by kernel_rfl) ?_)
          | (refine store_rowC rfl _ _ _ rfl _ _ rfl [.int .i64 u, .int .i64 v] rfl _ (heap_alloc_new wr _) (by kernel_rfl) rfl rfl ?_; intro W3 h3 g3 z3; obtain ⟨d0, d1, _, _⟩ := cells2 h3)
          | (go_at_call 8; refine (kri _).mono ?_; rintro e w4 ⟨rfl, g4⟩; obtain ⟨m0, m1, _, _⟩ := cells2 (g4.heap h3 (by simp)))
          | (go_at_call 26; first | ((have _t := g6); refine (kof _).mono ?_; rintro e w9 ⟨rfl, g9⟩) | (refine (kof _).mono ?_; rintro e w5 ⟨rfl, g5⟩))
          | (go_at_call 25; refine (kpt _).mono ?_; rintro e w6 ⟨rfl, g6⟩)
          | (at_builtin; refine wpList_append_sl _ rfl (.tmp 16) (.tmp 22) 34 23 2 16 rfl el_pt w.heap.size _ j (pcs done) rfl (own_tr hown ((((((Chg.alloc [] wr _).tn g3 (Nat.le_refl _)).t0 g4).t0 g5).t0 g6).t0 (Chg.alloc [] w6 _)) (by simp)) _ 1 (pcs [(X1, Y1)]) rfl (Sl.lit w6 #[.int .i64 X1, .int .i64 Y1] 23 1 (by decide)) rfl (pcs_one _) (by unfold big; omega) (by have := hg.size; have := ((((Chg.alloc [] wr _).tn g3 (Nat.le_refl _)).t0 g4).t0 g5).t0 g6 |>.size; simp; omega) ?_; intro v' w8 hown8 hg8; have G8 : Chg [] w w8 := ((hg.t0 ((((((Chg.alloc [] wr _).tn g3 (Nat.le_refl _)).t0 g4).t0 g5).t0 g6).t0 (Chg.alloc [] w6 _)))).grownOwn hg8 (own_tr hown ((((((Chg.alloc [] wr _).tn g3 (Nat.le_refl _)).t0 g4).t0 g5).t0 g6).t0 (Chg.alloc [] w6 _)) (by simp)) (Nat.le_refl _); have H8 : w8.heap[wr.heap.size]? = some (.cells #[.int .i64 u, .int .i64 v] 23) := (Chg.grown hg8).heap ((Chg.alloc [] w6 _).heap (g6.heap (g5.heap (g4.heap h3 (by simp)) (by simp)) (by simp)) (by simp)) (by intro hm; rw [Option.mem_toList] at hm; have := own_block (own_tr hown (Chg.refl [] wr) (by simp)) _ hm; obtain ⟨_, _, hh⟩ := this; have := lt_of_heap hh; omega); obtain ⟨e0, e1, _, _⟩ := cells2 H8; clear hg8))
        go_roundw
        case rel => exact ⟨j + 1, done ++ [(X1, Y1)], u, v, _, _, by omega, by go_num, rfl, f_of_int nu.w, f_of_int nv.w, nu, nv, by rw [pcs_append]; exact own_tr hown8 g9 (by simp), by simp [hd], G8.t0 g9, Lib.hid (by rw [hw.out, HS.out, if_pos HR.out, Option.map_map]; congr 1; funext x; simp)⟩
        case measure => simp [intOf]; omega
      · have hr' : rightB u v = false := by simpa using hr
        have hnone : stepsF (0, 0) l = none := by rw [hw.out, HS.out, if_neg hr]; rfl
        rw [hnone]
        rw [hr'] at kri
        clear hr hr' HS hw hnone
        unfold pt at *
        go_wp2_with (first
          | (refine wpList_load_mid rfl _ _ rfl b (off + j * 2) rfl [.int .i64 u, .int .i64 v] _ hra Try.underlying23 rfl (by kernel_rfl) ?_)
          | (refine store_rowC rfl _ _ _ rfl _ _ rfl [.int .i64 u, .int .i64 v] rfl _ (heap_alloc_new wr _) (by kernel_rfl) rfl rfl ?_; intro W3 h3 g3 z3; obtain ⟨d0, d1, _, _⟩ := cells2 h3)
          | (go_at_call 8; refine (kri _).mono ?_; rintro e w4 ⟨rfl, g4⟩; obtain ⟨m0, m1, _, _⟩ := cells2 (g4.heap h3 (by simp))))
        go_ret
        exact ⟨_, rfl, World.ownsRow_nil _ _ _ _, hg.t0 (((Chg.alloc [] wr _).tn g3 (Nat.le_refl _)).t0 g4)⟩
    · obtain rfl : j = l.length := by omega
      have hsome : stepsF (0, 0) l = some done := by rw [hw.out, List.drop_length]; simp [stepsF]
      have HSo := Lib.hid hsome
      clear hw hsome
      go_wp2
      go_ret
      rw [HSo.out]
      exact ⟨_, rfl, by simpa [hd] using hown, hg⟩
end Go.Proofs.Ytdfjpdgamahicaa
