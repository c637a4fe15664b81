/-
  small of chapter 04.
-/
import Derived.Test.YtllidfhdklfkmaaVget2
namespace Go.Proofs.Ytllidfhdklfkmaa
open Go.RowKit

set_option maxHeartbeats 4000000 in
set_option maxRecDepth 20000 in
theorem small04_ok (w : World) : Calls Try.prog 14 #[] w fun e w' => e = .returned (.bool true) ∧ Chg [] w w' := by
  have vp : vput 300 = [172, 2] := by rw [vput_long (by decide), vput_short (by decide)]; rfl
  go_enter Try.func14, Try.ntmps14
  go_wp2_with fail
  refine (vput_ok w _ [] 300 (by decide) (Sl.nil w) (by decide)).mono ?_
  rintro e w1 ⟨v1, rfl, o1, g1⟩
  rw [vp] at o1
  have s1 : Sl w1 v1 [172, 2].length (bcs [172, 2]) := by
    have h : 0 + vsize 300 = [172, 2].length := by rw [vsize, vp]; rfl
    have := Sl.ofOwns o1
    rw [List.length_nil, h] at this
    exact this
  clear o1 vp
  go_wp2_with fail
  refine (over_ok w1 _ [172, 2] s1 (by decide)).mono ?_
  rintro e w2 ⟨p, rfl, hp, c2, g2⟩
  go_wp2_with fail
  refine (over_ok _ _ [128, 0] (Sl.lit w2 _ _ 2 (by decide)) (by decide)).mono ?_
  rintro e w3 ⟨q, rfl, hq, d3, g3⟩
  have g3' : Chg [] w2 w3 := (Chg.alloc [] w2 _).t0 g3
  go_wp2_with fail
  refine (over_ok _ _ [5] (Sl.lit w3 _ _ 1 (by decide)) (by decide)).mono ?_
  rintro e w4 ⟨r, rfl, hr, e4, g4⟩
  have g4' : Chg [] w3 w4 := (Chg.alloc [] w3 _).t0 g4
  go_wp2_with fail
  refine (over_ok _ _ [5] (Sl.lit w4 _ _ 1 (by decide)) (by decide)).mono ?_
  rintro e w5 ⟨t, rfl, ht, f5, g5⟩
  have g5' : Chg [] w4 w5 := (Chg.alloc [] w4 _).t0 g5
  have l2 := c2.lt
  have l3 := d3.lt
  have l4 := e4.lt
  have l5 := f5.lt
  replace c2 := ((c2.tr0 g3').tr0 g4').tr0 g5'
  replace d3 := (d3.tr0 g4').tr0 g5'
  replace e4 := e4.tr0 g5'
  have z2 := g2.size
  have z3 := g3'.size
  have z4 := g4'.size
  simp at hq hr ht
  have p1 : p ≠ q := by omega
  have z5 := g5'.size
  clear g3 g4 g5
  go_wp2_with fail
  refine (vget_ok _ _ _ c2).mono ?_
  rintro e w6 ⟨he, c6, g6⟩
  obtain rfl : e = .returned (.int .u64 300) := he
  replace c6 : Cur w6 p ⟨[], false⟩ := c6
  have d6 := d3.trC g6 (by omega) c2
  have e6 := e4.trC g6 (by omega) c2
  have f6 := f5.trC g6 (by omega) c2
  clear c2 d3 e4 f5
  go_wp2_with fail
  refine (vget_ok _ _ _ d6).mono ?_
  rintro e w7 ⟨he, d7, g7⟩
  obtain rfl : e = .returned (.int .u64 0) := he
  replace d7 : Cur w7 q ⟨[], true⟩ := d7
  have c7 := c6.trC g7 (by omega) d6
  have e7 := e6.trC g7 (by omega) d6
  have f7 := f6.trC g7 (by omega) d6
  clear c6 d6 e6 f6
  go_wp2_with fail
  refine (vlen_ok _ _ _ 5 (by decide) (by decide) e7).mono ?_
  rintro e w8 ⟨he, e8, g8⟩
  obtain rfl : e = .returned (.int .i64 5) := he
  replace e8 : Cur w8 r ⟨[], false⟩ := e8
  have c8 := c7.trC g8 (by omega) e7
  have d8 := d7.trC g8 (by omega) e7
  have f8 := f7.trC g8 (by omega) e7
  clear c7 d7 e7 f7
  go_wp2_with fail
  refine (vlen_ok _ _ _ 4 (by decide) (by decide) f8).mono ?_
  rintro e w9 ⟨he, f9, g9⟩
  obtain rfl : e = .returned (.int .i64 0) := he
  replace f9 : Cur w9 t ⟨[], true⟩ := f9
  have c9 := c8.trC g9 (by omega) f8
  have d9 := d8.trC g9 (by omega) f8
  have e9 := e8.trC g9 (by omega) f8
  clear c8 d8 e8 f8
  have g29 : Chg [] w1 w9 := ((((((g2.t0 g3').t0 g4').t0 g5').tn g6 hp).tn g7 (by omega)).tn g8 (by omega)).tn g9 (by omega)
  have hstr := run_str (dst := 9) Try.underlying22 Try.underlying5 Try.underlying9 (s1.tr0 g29) rfl
  have gAll := g1.t0 g29
  clear s1 g1 g2 g3' g4' g5' g6 g7 g8 g9 g29 hp hq hr ht z2 z3 z4 z5 p1 l2 l3 l4 l5
  have hb : bstr [172, 2] = { data := #[172, 2] } := rfl
  rw [hb] at hstr
  clear hb
  go_wp2_with fail
  refine (end_ok _ _ _ c9).mono ?_
  rintro e w9' ⟨he, rfl⟩
  obtain rfl : e = .returned (.bool true) := he
  go_wp2_with fail
  refine (bad_ok _ _ _ d9).mono ?_
  rintro e w9' ⟨he, rfl⟩
  obtain rfl : e = .returned (.bool true) := he
  go_wp2_with fail
  refine (bad_ok _ _ _ e9).mono ?_
  rintro e w9' ⟨he, rfl⟩
  obtain rfl : e = .returned (.bool false) := he
  go_wp2_with fail
  refine (bad_ok _ _ _ f9).mono ?_
  rintro e w9' ⟨he, rfl⟩
  obtain rfl : e = .returned (.bool true) := he
  go_wp2_with fail
  refine (vsize_ok _ 300 (by decide)).mono ?_
  rintro e w9' ⟨he, rfl⟩
  rw [show vsize 300 = 2 by rw [vsize_long (by decide), vsize_short (by decide)]] at he
  subst he
  go_wp2_with fail
  refine (vsize_ok _ 0 (by decide)).mono ?_
  rintro e w9' ⟨he, rfl⟩
  rw [show vsize 0 = 1 by rw [vsize_short (by decide)]] at he
  subst he
  go_wp2_with fail
  refine (zig_ok _ (-1) (by decide) (by decide)).mono ?_
  rintro e w9' ⟨he, rfl⟩
  obtain rfl : e = .returned (.int .u64 1) := he
  go_wp2_with fail
  refine (zig_ok _ 2 (by decide) (by decide)).mono ?_
  rintro e w9' ⟨he, rfl⟩
  obtain rfl : e = .returned (.int .u64 4) := he
  go_wp2_with fail
  refine (zag_ok _ 3 (by decide)).mono ?_
  rintro e w9' ⟨he, rfl⟩
  obtain rfl : e = .returned (.int .i64 (-2)) := he
  go_wp2
  go_ret
  exact ⟨rfl, gAll⟩
end Go.Proofs.Ytllidfhdklfkmaa
