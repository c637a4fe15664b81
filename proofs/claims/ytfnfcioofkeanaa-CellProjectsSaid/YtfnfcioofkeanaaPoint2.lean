/-
  The contracts of package point's functions, continued: the order, the ranges.
-/
import Derived.Test.YtfnfcioofkeanaaPoint
namespace Go.Proofs.Ytfnfcioofkeanaa
set_option linter.unusedSimpArgs false
set_option linter.unusedVariables false
open Go.RowKit

/-- The first number that is not nought. -/
def orF : List Int → Int
  | [] => 0
  | x :: r => if x = 0 then orF r else x
theorem el_int : ElemT Try.prog 22 3 1 8 := by
  obtain ⟨i, hi, hz, h1, h2⟩ := info_parts (P := Try.prog) (e := 3) (z := .int .i64 0) (size := 1) (bytes := 8) (by kernel_rfl)
  exact ⟨Try.underlying22, ⟨i, _, hi, hz, h1, h2, rfl⟩, by decide, by decide⟩
theorem orF_drop (l : List Int) (j : Nat) (h : j < l.length) : orF (l.drop j) = if l[j] = 0 then orF (l.drop (j + 1)) else l[j] := by
  rw [List.drop_eq_getElem_cons h, orF]

theorem or_ok (w : World) (v : Value) (l : List Int) (hs : Sl w v l.length (ics .i64 l)) (hb : l.length ≤ big) :
    Calls Try.prog 76 #[v] w fun e w' => e = .returned (.int .i64 (orF l)) ∧ w = w' := by
  obtain ⟨a, c, rfl, q1, q2, q3, q4, q6, q5⟩ := hs
  unfold big at hb
  clear q1 q2 q3 q4 q6
  go_enter Try.func76, Try.ntmps76
  go_wp2
  go_loop [5, 8] (fun t i => ∃ j : Nat, j ≤ l.length ∧ i = .int .i64 j ∧ orF l = orF (l.drop j)) (fun _ i => l.length - (intOf i).toNat)
  case atStart => exact ⟨0, Nat.zero_le _, rfl, rfl⟩
  case round =>
    obtain ⟨j, hj, rfl, he⟩ := hrel
    have HE := Lib.hid he
    clear he
    by_cases hlt : j < l.length
    · obtain ⟨x, rfl, hcell⟩ := q5 j _ (ics_get .i64 l j hlt)
      have hd := orF_drop l j hlt
      generalize l[j] = z at *
      by_cases hz : z = 0
      · rw [if_pos hz] at hd
        have HD := Lib.hid hd
        subst hz
        clear hd
        go_wp2
        go_round
        case rel => exact ⟨j + 1, by omega, by go_num, by rw [HE.out, HD.out]⟩
        case measure => simp [intOf]; omega
      · rw [if_neg hz] at hd
        have HD := Lib.hid hd
        clear hd
        go_wp2
        go_ret
        exact ⟨by rw [HE.out, HD.out]; rfl, rfl⟩
    · go_wp2
      go_ret
      obtain rfl : j = l.length := by omega
      exact ⟨by rw [HE.out, List.drop_length]; rfl, rfl⟩

theorem cmpc_c (w : World) (x y : Int) : Calls Try.prog 57 #[.int .i64 x, .int .i64 y] w fun e w' => e = .returned (.int .i64 (sgn x y)) ∧ Chg [] w w' :=
  (cmpc_ok w x y).mono fun _ _ ⟨h1, h2⟩ => ⟨h1, h2 ▸ Chg.refl [] w⟩
def cmpP (x y u v : Int) : Int := orF [sgn (normP x y) (normP u v), sgn x u, sgn y v]
set_option maxRecDepth 100000 in
theorem compare_ok (w : World) (x y u v : Int) (hx : NearP x) (hy : NearP y) (hu : NearP u) (hv : NearP v) :
    Calls Try.prog 59 #[pt x y, pt u v] w fun e w' => e = .returned (.int .i64 (cmpP x y u v)) ∧ Chg [] w w' := by
  have kn1 := fun w => norm_ok w x y hx hy
  have kn2 := fun w => norm_ok w u v hu hv
  have kc1 := fun w => cmpc_c w (normP x y) (normP u v)
  have kc2 := fun w => cmpc_c w x u
  have kc3 := fun w => cmpc_c w y v
  have hor : Hid (orF [sgn (normP x y) (normP u v), sgn x u, sgn y v] = cmpP x y u v) := Lib.hid rfl
  generalize cmpP x y u v = R at *
  generalize sgn (normP x y) (normP u v) = A at *
  generalize sgn x u = B at *
  generalize sgn y v = C at *
  generalize normP x y = N1 at *
  generalize normP u v = N2 at *
  unfold pt at *
  go_enter Try.func59, Try.ntmps59
  go_wp2
  have c0 : World.rangeAt ((w.alloc (.cells #[.int .i64 x, .int .i64 y] 52)).alloc (.cells #[.int .i64 u, .int .i64 v] 52)) w.heap.size 0 [.int .i64 x, .int .i64 y] := ra2 (by go_simp) (by go_simp)
  have c1 : World.rangeAt ((w.alloc (.cells #[.int .i64 x, .int .i64 y] 52)).alloc (.cells #[.int .i64 u, .int .i64 v] 52)) (w.heap.size + 1) 0 [.int .i64 u, .int .i64 v] := ra2 (by go_simp) (by go_simp)
  have g0 : Chg [] w ((w.alloc (.cells #[.int .i64 x, .int .i64 y] 52)).alloc (.cells #[.int .i64 u, .int .i64 v] 52)) := (Chg.alloc [] w _).t0 (Chg.alloc [] _ _)
  generalize ((w.alloc (.cells #[.int .i64 x, .int .i64 y] 52)).alloc (.cells #[.int .i64 u, .int .i64 v] 52)) = W1 at *
  have d0 := c0 0 _ rfl
  have d1 := c0 1 _ rfl
  have d2 := c1 0 _ rfl
  have d3 := c1 1 _ rfl
  refine region_quiet_tailC 15 (by kernel_rfl) (by kernel_rfl) ?_
  simp only [List.take_succ_cons, List.take_zero, List.drop_succ_cons, List.drop_zero]
  repeat (first
    | (refine quiet_loadC rfl _ _ rfl _ _ rfl _ _ c0 Try.underlying52 rfl (by kernel_rfl) ?_)
    | (refine quiet_loadC rfl _ _ rfl _ _ rfl _ _ c1 Try.underlying52 rfl (by kernel_rfl) ?_)
    | (refine quiet_cellC rfl _ _ rfl _ rfl _ _ d0 Try.underlying3 rfl ?_)
    | (refine quiet_cellC rfl _ _ rfl _ rfl _ _ d1 Try.underlying3 rfl ?_)
    | (refine quiet_cellC rfl _ _ rfl _ rfl _ _ d2 Try.underlying3 rfl ?_)
    | (refine quiet_cellC rfl _ _ rfl _ rfl _ _ d3 Try.underlying3 rfl ?_)
    | quiet_step ((intro hx; first | rfl | with_reducible exact Calls.quietC hx (kn1 _) | with_reducible exact Calls.quietC hx (kn2 _) | with_reducible exact Calls.quietC hx (kc1 _) | with_reducible exact Calls.quietC hx (kc2 _) | with_reducible exact Calls.quietC hx (kc3 _))))
  refine wpQuiet_nil ?_
  intro W2 hW2
  have kor := or_ok (W2.alloc (.cells #[.int .i64 A, .int .i64 B, .int .i64 C] 3)) (.slice (some ⟨W2.heap.size, 0, none⟩) 3 3) [A, B, C] (Sl.lit W2 #[.int .i64 A, .int .i64 B, .int .i64 C] 3 3 (by decide)) (by simp [big])
  rw [hor.out] at kor
  go_wp2_with (go_at_call 76; refine kor.mono ?_; rintro e w3 ⟨rfl, rfl⟩)
  go_ret
  exact ⟨rfl, (g0.t0 hW2).t0 (Chg.alloc _ _ _)⟩
end Go.Proofs.Ytfnfcioofkeanaa
