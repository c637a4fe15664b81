/-
  QueryBack: the walk.
-/
import Derived.Test.YtfnfcioofkeanaaLaw24A
namespace Go.Proofs.Ytfnfcioofkeanaa
open Go.RowKit

/-- The walk's second half: whatever bytes. -/
theorem back_inv (b : List UInt8) : (decQ b).2 = false ∧ decQ b = (noQ, false) ∨ ∃ q, decQ b = (q, true) ∧ mayQ q = true ∧ encR q = b := by
  cases h : (decQ b).2 with
  | false =>
    left
    refine ⟨rfl, ?_⟩
    have h1 := dec_no h
    rw [← h1, ← h]
  | true =>
    right
    obtain ⟨h1, h2⟩ := dec_inv h
    exact ⟨(decQ b).1, by rw [← h], h1, by unfold encR; rw [if_pos h1, h2]⟩

set_option maxRecDepth 100000 in
set_option maxHeartbeats 8000000 in
theorem queryBack_run (w : World) (x : Value × Qu) (v1 : Value) (b : List UInt8) (hx : okQ w x) (h1 : Sl w v1 b.length (bcs b)) (hb1 : b.length * 1 ≤ 140737488351232) :
    Calls Try.prog 5 #[.agg #[x.1, .int .i64 x.2.lo, .int .i64 x.2.hi], v1] w fun e w' => e = .returned (.bool true) ∧ Chg [] w w' := by
  obtain ⟨v, q⟩ := x
  obtain ⟨hs, _, hb, _, _⟩ := hx
  dsimp only at *
  obtain ⟨a0, c0, rfl⟩ := hs.shape
  obtain ⟨a1, c1, rfl⟩ := h1.shape
  have hbm : q.cols.length ≤ maxLen := by unfold maxLen; omega
  have hbb : b.length ≤ big := by unfold big; omega
  go_enter Try.func5, Try.ntmps5
  go_wp2_with fail
  have bq := heap_alloc_new w (.cells #[.slice a0 q.cols.length c0, .int .i64 q.lo, .int .i64 q.hi] 24)
  have g0 := Chg.alloc [] w (.cells #[.slice a0 q.cols.length c0, .int .i64 q.lo, .int .i64 q.hi] 24)
  generalize w.alloc (.cells #[.slice a0 q.cols.length c0, .int .i64 q.lo, .int .i64 q.hi] 24) = w0 at *
  refine (small24_ok w0).mono ?_
  rintro e w1 ⟨rfl, g1⟩
  replace bq := g1.heap bq (by simp)
  replace g0 := g0.t0 g1
  replace hs := hs.tr0 g0
  clear g1
  obtain ⟨q0, q1, q2, _, _, _⟩ := cells3' bq
  by_cases hl : 100 < q.cols.length
  · go_wp2
    go_ret
    exact ⟨rfl, g0⟩
  by_cases hl2 : 500 < b.length
  · go_wp2
    go_ret
    exact ⟨rfl, g0⟩
  -- what comes behind, from whatever world
  have hinv := back_inv b
  have htrip : mayQ q = true → decQ (encR q) = (q, true) := fun h => by unfold encR; rw [if_pos h]; exact dec_enc h
  go_wp2_with fail
  refine (enc_ok w1 _ q hs hbm).mono ?_
  rintro e w2 ⟨va, rfl, o2, g2⟩
  replace bq := g2.heap bq (by simp)
  replace g0 := g0.t0 g2
  replace hs := hs.tr0 g2
  have sa := Sl.ofOwns o2
  have hel := encR_len q
  clear g2 o2 q0 q1 q2
  -- the first half
  cases hm : mayQ q with
  | false =>
    clear htrip hm
    have hd := h1.tr0 g0
    go_wp2_with fail
    refine (dec_ok w2 _ b hd hbb).mono ?_
    rintro e w3 ⟨vx, rfl, sx, g3⟩
    replace g0 := g0.t0 g3
    clear g3 hd hs sa bq
    obtain ⟨ax, cx, rfl⟩ := sx.shape
    unfold qv
    rcases hinv with ⟨_, hD⟩ | ⟨r, hD, hmr, her⟩
    · rw [hD] at sx ⊢
      clear hD
      dsimp only [noQ] at *
      go_wp2
      go_ret
      exact ⟨rfl, g0.t0 (Chg.alloc _ _ _)⟩
    · rw [hD] at sx ⊢
      clear hD
      dsimp only at *
      have hrl := sx.le
      have bx := heap_alloc_new w3 (.cells #[.slice ax r.cols.length cx, .int .i64 r.lo, .int .i64 r.hi] 24)
      have gx := Chg.alloc [] w3 (.cells #[.slice ax r.cols.length cx, .int .i64 r.lo, .int .i64 r.hi] 24)
      obtain ⟨x0, x1, x2, _, _, _⟩ := cells3' bx
      replace hmr := Lib.hid hmr
      replace her := Lib.hid her
      go_wp2_with fail
      refine (enc_ok _ (.slice ax r.cols.length cx) r (sx.tr0 gx) hrl).mono ?_
      rintro e w5 ⟨vb, he, o5, g5⟩
      rw [hmr.out] at he
      subst he
      replace g0 := (g0.t0 gx).t0 g5
      rw [her.out] at o5
      have st1 := run_str (dst := 9) Try.underlying30 Try.underlying5 Try.underlying9 (Sl.ofOwns o5) rfl
      have st2 := run_str (dst := 9) Try.underlying30 Try.underlying5 Try.underlying9 (h1.tr0 g0) rfl
      clear o5 g5 gx bx sx x0 x1 x2 hmr her h1
      go_wp2
      go_ret
      exact ⟨rfl, g0⟩
  | true =>
    have hde := htrip hm
    clear htrip hm
    go_wp2_with fail
    refine (dec_ok w2 va _ sa (by unfold big; omega)).mono ?_
    rw [hde]
    rintro e w3 ⟨vy, rfl, sy, g3⟩
    dsimp only at sy
    obtain ⟨ay, cy, rfl⟩ := sy.shape
    replace bq := g3.heap bq (by simp)
    replace g0 := g0.t0 g3
    replace hs := hs.tr0 g3
    clear g3 sa hde hel
    unfold qv
    have gy := Chg.alloc [] w3 (.cells #[.slice ay q.cols.length cy, .int .i64 q.lo, .int .i64 q.hi] 24)
    replace bq := gy.heap bq (by simp)
    obtain ⟨q0, q1, q2, _, _, _⟩ := cells3' bq
    go_wp2_with fail
    refine (rsame_ok _ (.slice a0 q.cols.length c0) (.slice ay q.cols.length cy) q q (hs.tr0 gy) (sy.tr0 gy) hbm).mono ?_
    rw [decide_eq_true rfl]
    rintro e w4 ⟨rfl, g4⟩
    replace g0 := (g0.t0 gy).t0 g4
    clear g4 gy bq q0 q1 q2 hs sy
    have hd := h1.tr0 g0
    go_wp2_with fail
    refine (dec_ok w4 _ b hd hbb).mono ?_
    rintro e w3 ⟨vx, rfl, sx, g3⟩
    replace g0 := g0.t0 g3
    clear g3 hd
    obtain ⟨ax, cx, rfl⟩ := sx.shape
    unfold qv
    rcases hinv with ⟨_, hD⟩ | ⟨r, hD, hmr, her⟩
    · rw [hD] at sx ⊢
      clear hD
      dsimp only [noQ] at *
      go_wp2
      go_ret
      exact ⟨rfl, g0.t0 (Chg.alloc _ _ _)⟩
    · rw [hD] at sx ⊢
      clear hD
      dsimp only at *
      have hrl := sx.le
      have bx := heap_alloc_new w3 (.cells #[.slice ax r.cols.length cx, .int .i64 r.lo, .int .i64 r.hi] 24)
      have gx := Chg.alloc [] w3 (.cells #[.slice ax r.cols.length cx, .int .i64 r.lo, .int .i64 r.hi] 24)
      obtain ⟨x0, x1, x2, _, _, _⟩ := cells3' bx
      replace hmr := Lib.hid hmr
      replace her := Lib.hid her
      go_wp2_with fail
      refine (enc_ok _ (.slice ax r.cols.length cx) r (sx.tr0 gx) hrl).mono ?_
      rintro e w5 ⟨vb, he, o5, g5⟩
      rw [hmr.out] at he
      subst he
      replace g0 := (g0.t0 gx).t0 g5
      rw [her.out] at o5
      have st1 := run_str (dst := 9) Try.underlying30 Try.underlying5 Try.underlying9 (Sl.ofOwns o5) rfl
      have st2 := run_str (dst := 9) Try.underlying30 Try.underlying5 Try.underlying9 (h1.tr0 g0) rfl
      clear o5 g5 gx bx sx x0 x1 x2 hmr her h1
      go_wp2
      go_ret
      exact ⟨rfl, g0⟩
end Go.Proofs.Ytfnfcioofkeanaa
