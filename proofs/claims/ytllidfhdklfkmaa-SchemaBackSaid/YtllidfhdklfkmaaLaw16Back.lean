/-
  SchemaBack: the walk.
-/
import Derived.Test.YtllidfhdklfkmaaLaw16Once
import Derived.Test.YtllidfhdklfkmaaSoft
import Derived.Test.YtllidfhdklfkmaaOpenC
namespace Go.Proofs.Ytllidfhdklfkmaa
open Go.RowKit

set_option maxRecDepth 100000 in
set_option maxHeartbeats 8000000 in
theorem schemaBack_run (w : World) (v0 : Value) (L : List Col) (v1 : Value) (r : List UInt8) (h0 : Sl w v0 L.length (L.flatMap colc)) (hL : ∀ c ∈ L, okCol c) (hLb : L.length * 32 ≤ 140737488351232) (h1 : Sl w v1 r.length (bcs r)) (hb : r.length * 1 ≤ 140737488351232) :
    Calls Try.prog 12 #[v0, v1] w fun e w' => e = .returned (.bool true) ∧ Chg [] w w' := by
  obtain ⟨a0, c0, rfl⟩ := h0.shape
  obtain ⟨a1, c1, rfl⟩ := h1.shape
  have hL' := okCol.wide hL
  have hLm : L.length ≤ maxLen := by unfold maxLen; omega
  go_enter Try.func12, Try.ntmps12
  go_wp2_with fail
  refine (small16_ok w).mono ?_
  rintro e w1 ⟨rfl, g1⟩
  go_wp2_with fail
  refine (few_ok w1 _ L (fun c hc => by have := (hL c hc).1; unfold big; omega) (h0.tr0 g1) hLm).mono ?_
  rintro e w1' ⟨rfl, rfl⟩
  cases hf : fewV L with
  | false =>
    clear hf
    go_wp2
    go_ret
    exact ⟨rfl, g1⟩
  | true =>
    clear hf
    by_cases hl : 300 < r.length
    · go_wp2
      go_ret
      exact ⟨rfl, g1⟩
    go_wp2_with fail
    refine (cols_ok w1 _ L hL' (h0.tr0 g1) hLm).mono ?_
    rintro e w2 ⟨rfl, g2⟩
    have g02 := g1.t0 g2
    clear g1 g2
    by_cases hv : colsV L = 0
    · rw [hv]
      have h2 := h0.tr0 g02
      have hP8 : (putB L).length ≤ 8000 := putB_le hv
      have hg := gcols_putB (r := r) hv
      have hif : (if colsV L = 0 then [] ++ putB L else []) = putB L := by rw [if_pos hv]; rfl
      clear hv
      go_wp2_with fail
      refine (sput_ok w2 _ _ [] L hL' (Sl.nil w2) h2 (by decide) hLm).mono ?_
      rintro e w3 ⟨vp, rfl, o3, g3⟩
      rw [hif] at o3
      have g03 := g02.t0 g3
      have s1 := h1.tr0 g03
      have hz3 := g3.size
      have g02z := g02.size
      clear hif g02 g3
      have hbl : (bcs r).length = r.length := bcs_length r
      go_wp2_with (at_builtin; refine wpList_append_sl _ rfl (.tmp 26) (.tmp 27) 22 5 1 1 rfl el_u8 w2.heap.size vp _ _ rfl o3 _ r.length (bcs r) rfl s1 (by simp [bcs]) (bcs_one r) (by unfold big at *; omega) hz3 ?_)
      intro v4 w4 o4 hg4
      have g04 : Chg [] w w4 := g03.grownOwn hg4 o3 g02z
      have sc := Sl.ofOwns o4
      have hlen : (putB L).length + r.length = (putB L ++ r).length := by simp
      rw [hlen, ← bcs_append] at sc
      clear o4 hg4 o3 s1 hbl hlen g03
      go_wp2_with fail
      refine (over_ok w4 _ (putB L ++ r) sc (by rw [List.length_append]; unfold big; omega)).mono ?_
      rintro e w5 ⟨p, rfl, hp, c5, g5⟩
      have g05 := g04.t0 g5
      have hwp : w.heap.size ≤ p := Nat.le_trans g04.size hp
      have hp5 := c5.lt
      have s05 := h0.tr0 g05
      clear g5 g04 sc h2
      go_wp2_with fail
      refine (sget_ok w5 p _ c5).mono ?_
      rintro e w6 ⟨vx, rfl, ox, c6, g6⟩
      rw [hg] at ox c6
      have g06 := g05.tn g6 hwp
      have s6 := h0.tr0 g06
      have sx := Sl.ofOwns ox
      clear ox g6 c5 g05 hg
      go_wp2_with fail
      refine (bad_ok w6 p _ c6).mono ?_
      rintro e w6' ⟨he, rfl⟩
      obtain rfl : e = .returned (.bool false) := he
      go_wp2_with fail
      refine (left_ok w6 p _ c6).mono ?_
      rintro e w6' ⟨he, rfl⟩
      obtain rfl : e = .returned (.int .i64 (r.length : Int)) := he
      go_wp2_with fail
      refine (rschema_ok w6 _ _ L L sx s6 hLm).mono ?_
      rintro e w7 ⟨he, g7⟩
      obtain rfl : e = .returned (.bool true) := by rw [he]; simp
      go_wp2
      go_ret
      exact ⟨rfl, g06.t0 g7⟩
    · generalize colsV L = V at *
      have hne : (V != 0) = true := by simpa using hv
      go_wp2
      go_ret
      exact ⟨rfl, g02⟩
end Go.Proofs.Ytllidfhdklfkmaa
