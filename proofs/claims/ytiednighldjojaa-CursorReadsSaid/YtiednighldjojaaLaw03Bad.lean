/-
  CursorBad: who is bad stays so, and has nothing.
-/
import Derived.Test.YtiednighldjojaaRef03
import Derived.Test.YtiednighldjojaaOpen
namespace Go.Proofs.Ytiednighldjojaa
open Go.RowKit

/-- A call as its two cells. -/
def ccs (c : Int × Int) : List Value := [.int .i64 c.1, .int .i64 c.2]
theorem calls_cells {w : World} {v : Value} {L : List (Int × Int)} (h : Sl w v L.length (L.flatMap ccs)) (k : Nat) (hk : k < L.length) :
    ∃ b off c, v = .slice (some ⟨b, off, none⟩) L.length c ∧ b < w.heap.size ∧ w.cell? ⟨b, off + k * 2, none⟩ = some (.int .i64 L[k].1) ∧ w.cell? ⟨b, off + k * 2 + 1, none⟩ = some (.int .i64 L[k].2) := by
  have hf : ∀ a ∈ L, (ccs a).length = 2 := fun _ _ => rfl
  obtain ⟨b, off, c, rfl, _, _, hb, hc⟩ := h.at (by rw [flat_length ccs 2 L hf]; omega)
  refine ⟨b, off, c, rfl, hb, hc (k * 2) _ ?_, hc (k * 2 + 1) _ ?_⟩
  · rw [show k * 2 = k * 2 + 0 by omega, flat_at ccs 2 L hf k 0 hk (by decide)]; rfl
  · rw [flat_at ccs 2 L hf k 1 hk (by decide)]; rfl

set_option maxRecDepth 100000 in
set_option maxHeartbeats 2000000 in
theorem bad_walk (w : World) (v0 v1 : Value) (l : List UInt8) (L : List (Int × Int)) (hb : l.length ≤ 140737488351232) (hL : ∀ c ∈ L, -9223372036854775808 ≤ c.1 ∧ c.1 ≤ 9223372036854775807) (h0 : Sl w v0 l.length (bcs l)) (h1 : Sl w v1 L.length (L.flatMap ccs)) :
    Calls Try.prog 6 #[v0, v1] w fun e w' => e = .returned (.bool true) ∧ Chg [] w w' := by
  obtain ⟨a0, c0, rfl⟩ := h0.shape
  obtain ⟨a1, c1, rfl⟩ := h1.shape
  go_enter Try.func6, Try.ntmps6
  go_wp2_with fail
  refine (small_ok w).mono ?_
  rintro e w1 ⟨rfl, g1⟩
  go_wp2_with fail
  refine (over_ok w1 _ l (h0.tr0 g1) (by unfold big; omega)).mono ?_
  rintro e w2 ⟨p, rfl, hp, c2, g2⟩
  have g12 := g1.t0 g2
  have hp' : w.heap.size ≤ p := Nat.le_trans g1.size hp
  clear g2
  by_cases hl : 500 < l.length
  · go_wp2
    go_ret
    exact ⟨rfl, g12⟩
  by_cases hm : 60 < L.length
  · go_wp2
    go_ret
    exact ⟨rfl, g12⟩
  go_wp2_with fail
  have e1 : ((l.length : Int) + 1) = ((l.length + 1 : Nat) : Int) := by omega
  refine (take_ok w2 p _ _ c2).mono ?_
  rintro e w3 ⟨v3, rfl, o3, c3, g3⟩
  have ho : CS.off ⟨l, false⟩ ((l.length : Int) + 1) := by simp [CS.off]; omega
  rw [CS.took_off ho] at o3
  rw [CS.then_off ho] at c3
  replace o3 : w3.ownsRow w2.heap.size 5 1 v3 0 [] := o3
  obtain ⟨a3, k3, rfl⟩ := own_shape o3
  have g123 := g12.tn g3 hp'
  clear o3 g3 c2 e1 ho g12 h0
  go_wp2_with (first
    | (go_at_call 20; refine (bad_ok _ _ CS.fail (by assumption)).mono ?_; rintro e w8 ⟨he, rfl⟩; obtain rfl : e = .returned (.bool true) := he))
  go_loopw [8] (fun iv wr => ∃ k : Nat, k ≤ L.length ∧ iv = .int .i64 k ∧ Cur wr p CS.fail ∧ Chg [] w wr) (fun iv _ => L.length - (intOf iv).toNat)
  case atStart => exact ⟨0, Nat.zero_le _, rfl, c3, g123⟩
  case round =>
    obtain ⟨k, hk, rfl, hc, hch⟩ := hrel
    clear c3 g123
    by_cases hlt : k < L.length
    · obtain ⟨b, off, c, e, hbl, hc1, hc2⟩ := calls_cells (h1.tr0 hch) k hlt
      cases e
      have hr := hL _ (List.getElem_mem hlt)
      generalize L[k].1 = x at *
      generalize L[k].2 = y at *
      go_wp2_with (first
        | (go_at_call 11; refine (byte_ok _ _ CS.fail (by assumption)).mono ?_; rintro e w7 ⟨he, c7, g7⟩; obtain rfl : e = .returned (.int .u8 0) := he; replace c7 : Cur w7 p CS.fail := c7)
        | (go_at_call 13; refine (u32_ok _ _ CS.fail (by assumption)).mono ?_; rintro e w7 ⟨he, c7, g7⟩; obtain rfl : e = .returned (.int .u32 0) := he; replace c7 : Cur w7 p CS.fail := c7)
        | (go_at_call 14; refine (u64_ok _ _ CS.fail (by assumption)).mono ?_; rintro e w7 ⟨he, c7, g7⟩; obtain rfl : e = .returned (.int .u64 0) := he; replace c7 : Cur w7 p CS.fail := c7)
        | (go_at_call 15; refine (take_ok _ _ CS.fail _ (by assumption)).mono ?_; rintro e w7 ⟨v7, rfl, o7, c7, g7⟩; replace c7 : Cur w7 p CS.fail := c7; replace o7 : w7.ownsRow _ 5 1 v7 0 [] := o7; obtain ⟨a7, k7, rfl⟩ := own_shape o7)
        | (go_at_call 20; refine (bad_ok _ _ CS.fail (by assumption)).mono ?_; rintro e w8 ⟨he, rfl⟩; obtain rfl : e = .returned (.bool true) := he)
        | (go_at_call 19; refine (left_ok _ _ CS.fail (by assumption)).mono ?_; rintro e w8 ⟨he, rfl⟩; obtain rfl : e = .returned (.int .i64 0) := he)
        | (go_at_call 21; refine (end_ok _ _ CS.fail (by assumption)).mono ?_; rintro e w8 ⟨he, rfl⟩; obtain rfl : e = .returned (.bool false) := he))
      all_goals
        go_roundw
        case rel => first | exact ⟨k + 1, by omega, by go_num, c7, hch.tn g7 hp'⟩ | exact ⟨k + 1, by omega, by go_num, hc, hch⟩
        case measure => simp [intOf]; omega
    · go_wp2
      go_ret
      exact ⟨rfl, hch⟩

theorem open_calls {H : Type} {enc : TypeId × Value → H} {w : World} {fuel : Nat} {cs : List Value} {x : DataW H × List MemPlace} (h : DataW.trod enc Try.prog w 0 (fun _ => true) true fuel 23 cs = some x) :
    ∃ (v : Value) (l : List (Int × Int)), cs = [v] ∧ Sl w v l.length (l.flatMap ccs) ∧ (∀ c ∈ l, -9223372036854775808 ≤ c.1 ∧ c.1 ≤ 9223372036854775807 ∧ -9223372036854775808 ≤ c.2 ∧ c.2 ≤ 9223372036854775807) ∧ (x.1 = .nil ∧ l = [] ∨ ∃ el sp, x.1 = .slice el sp ∧ el.length = l.length) := by
  obtain ⟨v, l, h1, h2, h3, _, h4⟩ := open_cells (α := Int × Int) ccs (fun c => -9223372036854775808 ≤ c.1 ∧ c.1 ≤ 9223372036854775807 ∧ -9223372036854775808 ≤ c.2 ∧ c.2 ≤ 9223372036854775807) 2 (by decide) Try.underlying23 (by kernel_rfl) (fun cs n y hy hl => by
    match cs, hl with
    | [c0, c1], _ =>
      obtain ⟨y0, y1, m, _, _, e0, e1⟩ := Go.ChangeShapes.trod_struct2 Try.underlying31 hy
      have k0 : Try.prog.cellsOf 3 = 1 := by kernel_rfl
      simp only [k0] at e0 e1
      obtain ⟨n0, h0, _, w0⟩ := DataW.trod_int Try.underlying3 e0
      obtain ⟨n1, h1, _, w1⟩ := DataW.trod_int Try.underlying3 e1
      simp at h0 h1
      subst h0 h1
      have := i64_wf w0
      have := i64_wf w1
      exact ⟨(n0, n1), rfl, by simp; omega⟩) h
  exact ⟨v, l, h1, h2, h3, h4⟩

theorem cursorBad_run (w : World) (v0 : Value) (l : List UInt8) (v1 : Value) (L : List (Int × Int)) (h0 : Sl w v0 l.length (bcs l)) (hb : l.length * 1 ≤ 140737488351232) (h1 : Sl w v1 L.length (L.flatMap ccs)) (hL : ∀ c ∈ L, -9223372036854775808 ≤ c.1 ∧ c.1 ≤ 9223372036854775807 ∧ -9223372036854775808 ≤ c.2 ∧ c.2 ≤ 9223372036854775807) (_ : L.length * 16 ≤ 140737488351232) :
    Calls Try.prog 6 #[v0, v1] w fun e w' => e = .returned (.bool true) ∧ Chg [] w w' :=
  bad_walk w v0 v1 l L (by omega) (fun c hc => ⟨(hL c hc).1, (hL c hc).2.1⟩) h0 h1

end Go.Proofs.Ytiednighldjojaa
