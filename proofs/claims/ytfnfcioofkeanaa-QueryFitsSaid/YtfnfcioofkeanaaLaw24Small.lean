/-
  small of chapter 24.
-/
import Derived.Test.YtfnfcioofkeanaaQueryPure
import Derived.Test.YtfnfcioofkeanaaQuery5
import Derived.Test.YtfnfcioofkeanaaQuery6
namespace Go.Proofs.Ytfnfcioofkeanaa
set_option linter.unusedSimpArgs false
set_option linter.unusedVariables false
open Go.RowKit

def Q0 : Qu := ⟨[1, 0], 2, 5⟩
theorem encR_Q0 : encR Q0 = [2, 1, 0, 2, 5] := by
  have h : mayQ Q0 = true := by decide +kernel
  unfold encR encB
  rw [if_pos h]
  simp only [Q0, List.length_cons, List.length_nil, List.cons_append, List.nil_append, List.flatMap_cons, List.flatMap_nil, nput]
  rw [vput_short (by decide), vput_short (by decide), vput_short (by decide), vput_short (by decide), vput_short (by decide)]
  rfl
theorem decQ_Q0 : decQ [2, 1, 0, 2, 5] = (Q0, true) := by
  have h : mayQ Q0 = true := by decide +kernel
  have h1 := dec_enc h
  have h2 := encR_Q0
  unfold encR at h2
  rw [if_pos h] at h2
  rw [h2] at h1
  exact h1

set_option maxHeartbeats 4000000 in
set_option maxRecDepth 20000 in
theorem small24_ok (w : World) : Calls Try.prog 14 #[] w fun e w' => e = .returned (.bool true) ∧ Chg [] w w' := by
  go_enter Try.func14, Try.ntmps14
  have hm0 : mayQ Q0 = true := by decide +kernel
  have hm1 : mayQ ⟨[1, 1], 0, 0⟩ = false := by decide +kernel
  have hd2 : decQ [0, 3, 2] = (noQ, false) := by decide +kernel
  have hlb : ([2, 1, 0, 2, 5] : List UInt8).length ≤ big := by simp [big]
  have hlb2 : ([0, 3, 2] : List UInt8).length ≤ big := by simp [big]
  have hl0 : Q0.cols.length ≤ maxLen := by simp [Q0, maxLen]
  have hl1 : (⟨[1, 1], 0, 0⟩ : Qu).cols.length ≤ maxLen := by simp [maxLen]
  have hl2 : (⟨[2], 0, 0⟩ : Qu).cols.length ≤ maxLen := by simp [maxLen]
  have hl3 : (⟨[], 0, 6⟩ : Qu).cols.length ≤ maxLen := by simp [maxLen]
  have hf0 : fitQ Q0 2 5 = true := by decide +kernel
  have hf1 : fitQ ⟨[2], 0, 0⟩ 2 5 = false := by decide +kernel
  have hf2 : fitQ ⟨[], 0, 6⟩ 2 5 = false := by decide +kernel
  replace hm0 := Lib.hid hm0
  replace hm1 := Lib.hid hm1
  replace hd2 := Lib.hid hd2
  replace hlb := Lib.hid hlb
  replace hlb2 := Lib.hid hlb2
  replace hl0 := Lib.hid hl0
  replace hl1 := Lib.hid hl1
  replace hl2 := Lib.hid hl2
  replace hl3 := Lib.hid hl3
  replace hf0 := Lib.hid hf0
  replace hf1 := Lib.hid hf1
  replace hf2 := Lib.hid hf2
  go_wp2_with fail
  have s0 : Sl (w.alloc (.cells #[.int .i64 1, .int .i64 0] 3)) (.slice (some ⟨w.heap.size, 0, none⟩) 2 2) Q0.cols.length (ics .i64 Q0.cols) := Sl.lit w #[.int .i64 1, .int .i64 0] 3 2 (by decide)
  have gq := Chg.alloc [] (w.alloc (.cells #[.int .i64 1, .int .i64 0] 3)) (.cells #[.slice (some ⟨w.heap.size, 0, none⟩) 2 2, .int .i64 2, .int .i64 5] 24)
  have bq := heap_alloc_new (w.alloc (.cells #[.int .i64 1, .int .i64 0] 3)) (.cells #[.slice (some ⟨w.heap.size, 0, none⟩) 2 2, .int .i64 2, .int .i64 5] 24)
  rw [World.size_alloc1] at bq
  replace s0 := s0.tr0 gq
  have g0 : Chg [] w _ := (Chg.alloc [] w (.cells #[.int .i64 1, .int .i64 0] 3)).t0 gq
  clear gq
  generalize (w.alloc (.cells #[.int .i64 1, .int .i64 0] 3)).alloc (.cells #[.slice (some ⟨w.heap.size, 0, none⟩) 2 2, .int .i64 2, .int .i64 5] 24) = w1 at *
  generalize w.heap.size + 1 = qb at *
  refine (enc_ok w1 (.slice (some ⟨w.heap.size, 0, none⟩) 2 2) Q0 s0 hl0.out).mono ?_
  rintro e w2 ⟨vb, he, o2, g2⟩
  rw [hm0.out] at he
  subst he
  rw [encR_Q0] at o2
  have sb := Sl.ofOwns o2
  replace s0 := s0.tr0 g2
  replace bq := g2.heap bq (by simp)
  replace g0 := g0.t0 g2
  clear o2 g2
  go_wp2_with fail
  refine (dec_ok w2 vb _ sb hlb.out).mono ?_
  rw [decQ_Q0]
  rintro e w3 ⟨vx, rfl, sx, g3⟩
  dsimp only at sx
  obtain ⟨ax, cx, rfl⟩ := sx.shape
  replace s0 := s0.tr0 g3
  replace sb := sb.tr0 g3
  replace bq := g3.heap bq (by simp)
  replace g0 := g0.t0 g3
  clear g3
  unfold qv
  go_wp2_with fail
  have bx := heap_alloc_new w3 (.cells #[.slice ax Q0.cols.length cx, .int .i64 Q0.lo, .int .i64 Q0.hi] 24)
  have gx := Chg.alloc [] w3 (.cells #[.slice ax Q0.cols.length cx, .int .i64 Q0.lo, .int .i64 Q0.hi] 24)
  have sy := Sl.lit (w3.alloc (.cells #[.slice ax Q0.cols.length cx, .int .i64 Q0.lo, .int .i64 Q0.hi] 24)) #[.int .i64 1, .int .i64 1] 3 2 (by decide)
  rw [World.size_alloc1] at sy
  have gy := Chg.alloc [] (w3.alloc (.cells #[.slice ax Q0.cols.length cx, .int .i64 Q0.lo, .int .i64 Q0.hi] 24)) (.cells #[.int .i64 1, .int .i64 1] 3)
  replace bx := gy.heap bx (by simp)
  replace gx := gx.t0 gy
  replace s0 := s0.tr0 gx
  replace sb := sb.tr0 gx
  replace sx := sx.tr0 gx
  replace bq := gx.heap bq (by simp)
  replace g0 := g0.t0 gx
  clear gx gy
  generalize (w3.alloc (.cells #[.slice ax Q0.cols.length cx, .int .i64 Q0.lo, .int .i64 Q0.hi] 24)).alloc (.cells #[.int .i64 1, .int .i64 1] 3) = w4 at *
  generalize w3.heap.size + 1 = yb at *
  generalize w3.heap.size = xb at *
  refine (enc_ok w4 (.slice (some ⟨yb, 0, none⟩) 2 2) ⟨[1, 1], 0, 0⟩ sy hl1.out).mono ?_
  rintro e w5 ⟨vn, he, _, g5⟩
  rw [hm1.out] at he
  subst he
  replace s0 := s0.tr0 g5
  replace sb := sb.tr0 g5
  replace sx := sx.tr0 g5
  replace bq := g5.heap bq (by simp)
  replace bx := g5.heap bx (by simp)
  replace g0 := g0.t0 g5
  clear g5 sy
  go_wp2_with fail
  have sz := Sl.lit w5 #[.int .u8 0, .int .u8 3, .int .u8 2] 5 3 (by decide)
  have gz := Chg.alloc [] w5 (.cells #[.int .u8 0, .int .u8 3, .int .u8 2] 5)
  refine (dec_ok _ (.slice (some ⟨w5.heap.size, 0, none⟩) 3 3) [0, 3, 2] sz hlb2.out).mono ?_
  rw [hd2.out]
  rintro e w6 ⟨vz, rfl, sz6, g6⟩
  have g56 := gz.t0 g6
  dsimp only [noQ] at sz6
  obtain ⟨az, cz, rfl⟩ := sz6.shape
  replace s0 := s0.tr0 g56
  replace sb := sb.tr0 g56
  replace sx := sx.tr0 g56
  replace bq := g56.heap bq (by simp)
  replace bx := g56.heap bx (by simp)
  replace g0 := g0.t0 g56
  clear g56 g6 gz sz sz6
  unfold qv noQ
  have g9 : Chg [] w6 (((w6.alloc (.cells #[.slice az 0 cz, .int .i64 0, .int .i64 0] 24)).alloc (.cells #[.string { data := #[97] }, .int .i64 0, .bool false, .string { data := #[98] }, .int .i64 0, .bool false] 58)).alloc (.cells #[.slice (some ⟨w6.heap.size + 1, 0, none⟩) 2 2, .int .i64 5, .slice none 0 0] 28)) := ((Chg.alloc _ _ _).t0 (Chg.alloc _ _ _)).t0 (Chg.alloc _ _ _)
  have bf := heap_alloc_new ((w6.alloc (.cells #[.slice az 0 cz, .int .i64 0, .int .i64 0] 24)).alloc (.cells #[.string { data := #[97] }, .int .i64 0, .bool false, .string { data := #[98] }, .int .i64 0, .bool false] 58)) (.cells #[.slice (some ⟨w6.heap.size + 1, 0, none⟩) 2 2, .int .i64 5, .slice none 0 0] 28)
  rw [World.size_alloc1, World.size_alloc1] at bf
  have hst := run_str (dst := 9) Try.underlying30 Try.underlying5 Try.underlying9 (sb.tr0 g9) rfl
  rw [show bstr [2, 1, 0, 2, 5] = { data := #[2, 1, 0, 2, 5] } from rfl] at hst
  replace bq := g9.heap bq (by simp)
  replace bx := g9.heap bx (by simp)
  replace s0 := s0.tr0 g9
  replace sx := sx.tr0 g9
  replace g0 := g0.t0 g9
  obtain ⟨q0, q1, q2, _, _, _⟩ := cells3' bq
  obtain ⟨x0, x1, x2, _, _, _⟩ := cells3' bx
  obtain ⟨f0, f1, f2, _, _, _⟩ := cells3' bf
  clear g9 sb
  go_wp2_with fail
  generalize (((w6.alloc (.cells #[.slice az 0 cz, .int .i64 0, .int .i64 0] 24)).alloc (.cells #[.string { data := #[97] }, .int .i64 0, .bool false, .string { data := #[98] }, .int .i64 0, .bool false] 58)).alloc (.cells #[.slice (some ⟨w6.heap.size + 1, 0, none⟩) 2 2, .int .i64 5, .slice none 0 0] 28)) = w9 at *
  generalize w6.heap.size + 1 + 1 = fb at *
  generalize w6.heap.size + 1 = cb at *
  clear hst q0 q1 q2 x0 x1 x2 f0 f1 f2
  refine (rsame_ok w9 (.slice ax Q0.cols.length cx) (.slice (some ⟨w.heap.size, 0, none⟩) 2 2) Q0 Q0 sx s0 hl0.out).mono ?_
  rw [decide_eq_true rfl]
  rintro e w10 ⟨rfl, g10⟩
  replace bq := g10.heap bq (by simp)
  replace bf := g10.heap bf (by simp)
  replace s0 := s0.tr0 g10
  replace g0 := g0.t0 g10
  obtain ⟨q0, q1, q2, _, _, _⟩ := cells3' bq
  obtain ⟨f0, f1, f2, _, _, _⟩ := cells3' bf
  clear g10 sx bx
  go_wp2_with fail
  refine (fitQ_ok w10 (.slice (some ⟨w.heap.size, 0, none⟩) 2 2) Q0 _ 2 2 5 none 0 0 s0 hl0.out).mono ?_
  rw [hf0.out]
  rintro e w11 ⟨rfl, g11⟩
  replace bf := g11.heap bf (by simp)
  replace g0 := g0.t0 g11
  clear g11 s0 bq q0 q1 q2 f0 f1 f2
  have s2 := Sl.lit w11 #[.int .i64 2] 3 1 (by decide)
  have gs2 := Chg.alloc [] w11 (.cells #[.int .i64 2] 3)
  have bf2 := gs2.heap bf (by simp)
  obtain ⟨f0, f1, f2, _, _, _⟩ := cells3' bf2
  go_wp2_with fail
  refine (fitQ_ok _ (.slice (some ⟨w11.heap.size, 0, none⟩) 1 1) ⟨[2], 0, 0⟩ _ 2 2 5 none 0 0 s2 hl2.out).mono ?_
  rw [hf1.out]
  rintro e w12 ⟨rfl, g12⟩
  replace bf := g12.heap bf2 (by simp)
  replace g0 := (g0.t0 gs2).t0 g12
  clear g12 s2 gs2 bf2 f0 f1 f2
  obtain ⟨f0, f1, f2, _, _, _⟩ := cells3' bf
  go_wp2_with fail
  refine (fitQ_ok w12 (.slice none 0 0) ⟨[], 0, 6⟩ _ 2 2 5 none 0 0 (Sl.nil _) hl3.out).mono ?_
  rw [hf2.out]
  rintro e w13 ⟨rfl, g13⟩
  replace g0 := g0.t0 g13
  go_wp2
  go_ret
  exact ⟨rfl, g0⟩
end Go.Proofs.Ytfnfcioofkeanaa
