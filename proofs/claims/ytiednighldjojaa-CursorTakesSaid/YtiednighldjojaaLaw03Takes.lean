/-
  CursorTakes: bytes are taken in any pieces, and come to all.
-/
import Derived.Test.YtiednighldjojaaRef03
import Derived.Test.YtiednighldjojaaOpen
namespace Go.Proofs.Ytiednighldjojaa
open Go.RowKit

theorem take_lt {l : List UInt8} {n : Int} (h0 : 0 ≤ n) (h1 : n ≤ l.length) : CS.took ⟨l, false⟩ n = l.take n.toNat ∧ CS.then ⟨l, false⟩ n = ⟨l.drop n.toNat, false⟩ := by
  have ho : ¬ CS.off ⟨l, false⟩ n := by simp [CS.off]; omega
  exact ⟨CS.took_on ho, CS.then_on ho⟩

set_option maxRecDepth 100000 in
set_option maxHeartbeats 2000000 in
theorem takes_walk (w : World) (v0 v1 : Value) (l : List UInt8) (L : List Int) (hb : l.length ≤ 140737488351232) (hL : ∀ c ∈ L, -9223372036854775808 ≤ c ∧ c ≤ 9223372036854775807) (h0 : Sl w v0 l.length (bcs l)) (h1 : Sl w v1 L.length (ics .i64 L)) :
    Calls Try.prog 8 #[v0, v1] w fun e w' => e = .returned (.bool true) ∧ Chg [] w w' := by
  obtain ⟨a0, c0, rfl⟩ := h0.shape
  obtain ⟨a1, c1, rfl⟩ := h1.shape
  go_enter Try.func8, Try.ntmps8
  go_wp2_with fail
  refine (small_ok w).mono ?_
  rintro e w1 ⟨rfl, g1⟩
  go_wp2_with fail
  refine (over_ok w1 _ l (h0.tr0 g1) (by unfold big; omega)).mono ?_
  rintro e w2 ⟨p, rfl, hp, c2, g2⟩
  have g12 := g1.t0 g2
  have hp' : w.heap.size ≤ p := Nat.le_trans g1.size hp
  clear g2
  by_cases hl : 500 < l.length
  · go_wp2
    go_ret
    exact ⟨rfl, g12⟩
  by_cases hm : 40 < L.length
  · go_wp2
    go_ret
    exact ⟨rfl, g12⟩
  go_wp2_with fail
  go_loopw [7, 8] (fun sv iv wr => ∃ (k : Nat) (m : List UInt8) (r : List UInt8), k ≤ L.length ∧ iv = .int .i64 k ∧ l = m ++ r ∧ sv = .string (bstr m) ∧ Cur wr p ⟨r, false⟩ ∧ Chg [] w wr) (fun _ iv _ => L.length - (intOf iv).toNat)
  case atStart => exact ⟨0, [], l, Nat.zero_le _, rfl, rfl, rfl, c2, g12⟩
  case round =>
    obtain ⟨k, m, r, hk, rfl, hmr, rfl, hc, hch⟩ := hrel
    have HM : Hid (l = m ++ r) := hmr
    have hle : r.length ≤ l.length := by rw [hmr]; simp
    clear c2 g12 hmr
    by_cases hlt : k < L.length
    · obtain ⟨b, off, c, e, _, _, hbl, hcells⟩ := (h1.tr0 hch).at (by rw [ics_length]; omega)
      cases e
      have hcell := hcells k _ (ics_get .i64 L k hlt)
      have hr := hL _ (List.getElem_mem hlt)
      clear hcells
      generalize L[k] = x at *
      by_cases hx : x < 0
      · go_wp2_with fail
        go_quiet (fail)
        go_wp2
        go_roundw
        case rel => exact ⟨k + 1, m, r, by omega, by go_num, HM.out, rfl, hc.drewN _, hch.t0 (Chg.drewN [] wr _)⟩
        case measure => simp [intOf]; omega
      · go_wp2_with fail
        go_quiet ((go_at_call 19; exact Calls.quiet_of_same (left_q _ _ _ (hc.drewN _))))
        by_cases hx2 : (r.length : Int) < x
        · go_wp2
          go_roundw
          case rel => exact ⟨k + 1, m, r, by omega, by go_num, HM.out, rfl, hc.drewN _, hch.t0 (Chg.drewN [] wr _)⟩
          case measure => simp [intOf]; omega
        · obtain ⟨n, rfl⟩ : ∃ n : Nat, x = n := ⟨x.toNat, by omega⟩
          obtain ⟨t1, t2⟩ := take_lt (l := r) (n := n) (by omega) (by omega)
          have T1 : Hid (CS.took ⟨r, false⟩ n = r.take n) := t1
          have T2 : Hid (CS.then ⟨r, false⟩ n = ⟨r.drop n, false⟩) := t2
          clear t1 t2
          have hcD := hc.drewN nq
          have hchD := hch.t0 (Chg.drewN [] wr nq)
          have hcellD : (wr.drewN nq).cell? ⟨b, off + k, none⟩ = some (.int .i64 (n : Int)) := hcell
          generalize wr.drewN nq = wd at *
          clear hc hch hcell
          go_wp2_with fail
          refine (take_ok wd p _ n hcD).mono ?_
          rintro e w3 ⟨v3, rfl, o3, c3, g3⟩
          rw [T1.out] at o3
          rw [T2.out] at c3
          have hst := run_str (dst := 9) Try.underlying22 Try.underlying5 Try.underlying9 (Sl.ofOwns o3) rfl
          have g03 := hchD.tn g3 hp'
          have hbig : ¬ 9223372036854775807 < m.length + min n r.length := by have h := congrArg List.length HM.out; simp at h; omega
          clear hchD g3 o3 hcD
          go_wp2_with (first
            | (go_at_call 20; refine (bad_ok _ _ _ c3).mono ?_; rintro e w8 ⟨he, rfl⟩; obtain rfl : e = .returned (.bool false) := he)
            | (go_at_call 19; refine (left_ok _ _ _ c3).mono ?_; rintro e w8 ⟨rfl, rfl⟩))
          · exfalso
            have h := congrArg List.length HM.out
            have h2 : ((r.length - n : Nat) : Int) ≠ (l.length : Int) - ((m.length : Int) + (min n r.length : Nat)) := bne_iff_ne.1 ‹(_ != _) = true›
            simp at h
            omega
          · go_roundw
            case rel => exact ⟨k + 1, m ++ r.take n, r.drop n, by omega, by go_num, by rw [HM.out]; simp, by rw [bstr_append], c3, g03⟩
            case measure => simp [intOf]; omega
    · have hbig : ¬ 9223372036854775807 < m.length + r.length := by have h := congrArg List.length HM.out; simp at h; omega
      obtain ⟨t1, t2⟩ := take_lt (l := r) (n := (r.length : Nat)) (by omega) (by omega)
      have T1 : Hid (CS.took ⟨r, false⟩ r.length = r) := (t1.trans (by simp) : CS.took ⟨r, false⟩ r.length = r)
      have T2 : Hid (CS.then ⟨r, false⟩ r.length = ⟨[], false⟩) := (t2.trans (by simp) : CS.then ⟨r, false⟩ r.length = ⟨[], false⟩)
      clear t1 t2
      go_wp2_with fail
      refine (left_ok _ _ _ hc).mono ?_
      rintro e w8 ⟨rfl, rfl⟩
      go_wp2_with fail
      refine (take_ok _ p _ _ hc).mono ?_
      rintro e w3 ⟨v3, rfl, o3, c3, g3⟩
      rw [T1.out] at o3
      rw [T2.out] at c3
      have hst := run_str (dst := 9) Try.underlying22 Try.underlying5 Try.underlying9 (Sl.ofOwns o3) rfl
      have g03 := hch.tn g3 hp'
      have hst2 := run_str (dst := 9) Try.underlying22 Try.underlying5 Try.underlying9 (h0.tr0 g03) rfl
      have heq : (bstr m ++ bstr r).toList = l := by rw [bstr_append, bstr_bytes, HM.out]
      clear hch g3 o3
      go_wp2_with (go_at_call 21; refine (end_ok _ _ _ c3).mono ?_; rintro e w8 ⟨he, rfl⟩; obtain rfl : e = .returned (.bool true) := he)
      go_ret
      exact ⟨rfl, g03⟩

theorem cursorTakes_run (w : World) (v0 : Value) (l : List UInt8) (v1 : Value) (L : List Int) (h0 : Sl w v0 l.length (bcs l)) (hb : l.length * 1 ≤ 140737488351232) (h1 : Sl w v1 L.length (ics .i64 L)) (hL : ∀ c ∈ L, -9223372036854775808 ≤ c ∧ c ≤ 9223372036854775807) (_ : L.length * 8 ≤ 140737488351232) :
    Calls Try.prog 8 #[v0, v1] w fun e w' => e = .returned (.bool true) ∧ Chg [] w w' :=
  takes_walk w v0 v1 l L (by omega) hL h0 h1

end Go.Proofs.Ytiednighldjojaa
