/-
  ShaSums: the walk.
-/
import Derived.Test.YtfodlkofjmbolaaSha12
import Derived.Test.YtfodlkofjmbolaaDig
namespace Go.Proofs.Ytfodlkofjmbolaa
open Go.RowKit

theorem sumB_length (b : List UInt8) : (sumB b).length = 32 := digTo_length _ _

set_option maxHeartbeats 1000000 in
theorem shaSums_run (w : World) (v : Value) (l : List UInt8) (hs : Sl w v l.length (bcs l)) (hb : l.length * 1 ≤ 140737488351232) :
    Calls Try.prog 3 #[v] w fun e w' => e = .returned (.bool true) ∧ Chg [] w w' := by
  have hs0 := hs
  obtain ⟨a, c, rfl, q1, q2, q3, q4, q6, q5⟩ := hs
  clear q1 q2 q3 q4 q5 q6
  by_cases hl : 1500 < l.length
  · go_enter Try.func3, Try.ntmps3
    go_wp2_with (go_at_call 14; refine (small_ok _).mono ?_; rintro e w1 ⟨rfl, g1⟩)
    go_ret
    exact ⟨rfl, g1⟩
  · go_enter Try.func3, Try.ntmps3
    go_wp2_with (first
      | (go_at_call 14; refine (small_ok _).mono ?_; rintro e w1 ⟨rfl, g1⟩)
      | (at_builtin; refine wpList_append_sl _ rfl (.tmp 11) (.tmp 12) 22 5 1 1 rfl el_u8 w1.heap.size (.slice (some ⟨w1.heap.size, 0, none⟩) 0 0) 0 [] rfl (own_lit w1 #[] 5 0 1 _ (Nat.le_refl _) (Nat.zero_le _) rfl) _ l.length (bcs l) rfl ((hs0.tr0 g1).tr0 (Chg.alloc _ _ _)) (by simp [bcs]) (bcs_one l) (by unfold big; omega) (by simp) ?_; intro v2 w2 hown2 hg2; have g2 : Chg [] w1 w2 := (Chg.alloc [] w1 _).trans (Chg.grown hg2) (by simp [Value.ownBlock]); clear hg2))
    simp only [Nat.zero_add, List.nil_append] at hown2
    have s2 := Sl.ofOwns hown2
    refine (sum_ok w2 _ l s2 (by omega)).mono ?_
    rintro e w3 ⟨rfl, g3⟩
    have L := Lib.hid (sumB_length l)
    have E := fun w => eql_dv (P := Try.prog) w 25 5 32 Try.underlying25 Try.underlying5 (fun w => by go_simp) _ _ (sumB_length l) (sumB_length l)
    have EG := fun w x y => eqg_dv (P := Try.prog) w .eql 25 x y (sumB l) (sumB l) (by kernel_rfl)
    have kr := fun w hs => ref01_sum_ok w (.slice a l.length c) l hs (by omega)
    unfold dv at E EG
    generalize sumB l = D at *
    simp only [beq_self_eq_true] at E
    go_wp2_with (first
      | (refine alloc_bytes (by rfl) 25 (by rfl) 32 (by kernel_rfl) ?_; intro w4 h4 g4 z4; replace z4 := Lib.hid z4)
      | (refine store_bytes (by rfl) 25 (.tmp 5) (.tmp 15) (by rfl) _ 32 _ (by rfl) D (by rfl) _ h4 (by kernel_rfl) L.out (by rw [List.length_replicate]) ?_; intro w5 h5 g5 z5; replace z5 := Lib.hid z5))
    have G5 : Chg [] w w5 := ((((g1.t0 g2).t0 g3).t0 g4).tn g5 (by have := ((g1.t0 g2).t0 g3).size; omega))
    have S5 := hs0.tr0 G5
    have T5 : Sl w5 v2 l.length (bcs l) := ((s2.tr0 g3).tr0 (g4.tn g5 (Nat.le_refl _)))
    have c5 := ra_block h5
    clear h4 g4 z4 h5 g5 z5 g1 g2 g3 s2 hown2 hs0
    have i1 : (Try.prog.info? 25).map (·.size) = some (bcs D).length := by rw [bcs_length, L.out]; kernel_rfl
    replace i1 := Lib.hid i1
    refine region_quietC (by kernel_rfl) (by kernel_rfl) ?_
    repeat (first
      | (refine quiet_loadC rfl _ _ rfl _ _ rfl _ _ c5 Try.underlying25 rfl i1.out ?_)
      | (refine quiet_strC rfl _ _ _ rfl _ rfl _ Try.underlying22 Try.underlying5 Try.underlying9 _ _ S5 rfl ?_)
      | (refine quiet_strC rfl _ _ _ rfl _ rfl _ Try.underlying22 Try.underlying5 Try.underlying9 _ _ T5 rfl ?_)
      | quiet_step ((intro hx; first | rfl | with_reducible exact Calls.quietC hx (kr _ (S5.tr0 hx)))))
    refine wpQuiet_nil ?_
    intro w6 g6
    go_wp2
    go_ret
    exact ⟨rfl, G5.t0 g6⟩
end Go.Proofs.Ytfodlkofjmbolaa
