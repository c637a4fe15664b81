/-
  The contracts of front.Shared and of the document's Shared.
-/
import Derived.Test.YtdclbhmmpdngpaaDoorFrontPure
import Derived.Test.YtdclbhmmpdngpaaDoorRowLaws
import Derived.Test.YtdclbhmmpdngpaaDoorSoft2
namespace Go.Proofs.YtdclbhmmpdngpaaDoor
set_option linter.unusedSimpArgs false
set_option linter.unusedVariables false
open Go.RowKit

theorem bstr_get (l : List UInt8) (k : Nat) (h : k < (bstr l).size) : (bstr l)[k]'h = l[k]'(by simpa using h) := rfl
theorem bstr_ne {a b : List UInt8} {k : Nat} (ha : k < a.length) (hb : k < b.length) (h : a[k] ≠ b[k]) :
    ((((bstr a)[k]'(by simpa using ha)).toNat : Int) != (((bstr b)[k]'(by simpa using hb)).toNat : Int)) = true := by
  rw [bstr_get, bstr_get]
  simp only [bne_iff_ne, ne_eq, Int.natCast_inj]
  exact fun e => h (UInt8.toNat_inj.1 e)
theorem bstr_eq {a b : List UInt8} {k : Nat} (ha : k < a.length) (hb : k < b.length) (h : a[k] = b[k]) :
    ((((bstr a)[k]'(by simpa using ha)).toNat : Int) != (((bstr b)[k]'(by simpa using hb)).toNat : Int)) = false := by
  rw [bstr_get, bstr_get, h]
  simp

set_option maxHeartbeats 4000000 in
set_option maxRecDepth 100000 in
theorem shared_ok (w : World) (a b : List UInt8) (ha : a.length ≤ big) (hb : b.length ≤ big) :
    Calls Tryd.prog 12 #[.string (bstr a), .string (bstr b)] w fun e w' => e = .returned (.int .i64 (shareV a b : Nat)) ∧ Chg [] w w' := by
  unfold big at ha hb
  obtain ⟨R, hR⟩ : ∃ R, R = shareV a b := ⟨_, rfl⟩
  rw [← hR]
  replace hR := Lib.hid hR
  obtain ⟨n, hn⟩ : ∃ n, n = min a.length b.length := ⟨_, rfl⟩
  have hm : min (a.length : Int) b.length = (n : Int) := by omega
  have hna : n ≤ a.length := by omega
  have hnb : n ≤ b.length := by omega
  replace hn := Lib.hid hn
  go_enter Tryd.func12, Tryd.ntmps12
  go_wp2_with fail
  clear hm
  go_loopw [13] (fun iv wr => ∃ k : Nat, k ≤ n ∧ iv = .int .i64 k ∧ a.take k = b.take k ∧ Chg [] w wr) (fun iv _ => n - (intOf iv).toNat)
  case atStart => exact ⟨0, Nat.zero_le _, rfl, rfl, Chg.refl _ _⟩
  case round =>
    obtain ⟨k, hk, rfl, heq, hch⟩ := hrel
    replace heq := Lib.hid heq
    by_cases hlt : k < n
    · have hka : k < a.length := by omega
      have hkb : k < b.length := by omega
      have hkai : (k : Int) < a.length := by omega
      have hkbi : (k : Int) < b.length := by omega
      have hkn : (k : Int) < n := by omega
      by_cases he : a[k] = b[k]
      · have hbe := bstr_eq hka hkb he
        replace he := Lib.hid he
        go_wp2_with fail
        refine region_quietC (by kernel_rfl) (by kernel_rfl) ?_
        repeat (first
          | quiet_step ((intro hx; first | rfl)))
        refine wpQuiet_nil ?_
        intro w' g
        go_wp2
        go_roundw
        case rel => exact ⟨k + 1, by omega, by go_num, take_more hka hkb heq.out he.out, hch.t0 g⟩
        case measure => simp [intOf]; omega
      · have hbe := bstr_ne hka hkb he
        have hR2 : R = k := by rw [hR.out]; exact shareV_at hka hkb heq.out he
        subst hR2
        clear he
        go_wp2_with fail
        refine region_quietC (by kernel_rfl) (by kernel_rfl) ?_
        repeat (first
          | quiet_step ((intro hx; first | rfl)))
        refine wpQuiet_nil ?_
        intro w' g
        go_wp2
        go_ret
        exact ⟨rfl, hch.t0 g⟩
    · obtain rfl : k = n := by omega
      have hR2 : R = k := by rw [hR.out]; exact shareV_end hn.out heq.out
      subst hR2
      go_wp2
      go_ret
      exact ⟨rfl, hch⟩
set_option maxHeartbeats 4000000 in
set_option maxRecDepth 100000 in
theorem rshared_ok (w : World) (a b : List UInt8) (ha : a.length ≤ big) (hb : b.length ≤ big) :
    Calls Tryd.prog 13 #[.string (bstr a), .string (bstr b)] w fun e w' => e = .returned (.int .i64 (shareV a b : Nat)) ∧ Chg [] w w' := by
  unfold big at ha hb
  obtain ⟨R, hR⟩ : ∃ R, R = shareV a b := ⟨_, rfl⟩
  rw [← hR]
  replace hR := Lib.hid hR
  go_enter Tryd.func13, Tryd.ntmps13
  go_wp2_with fail
  go_loopw [5] (fun iv wr => ∃ k : Nat, k ≤ a.length ∧ k ≤ b.length ∧ iv = .int .i64 k ∧ a.take k = b.take k ∧ Chg [] w wr) (fun iv _ => a.length - (intOf iv).toNat)
  case atStart => exact ⟨0, Nat.zero_le _, Nat.zero_le _, rfl, rfl, Chg.refl _ _⟩
  case round =>
    obtain ⟨k, hk, hk2, rfl, heq, hch⟩ := hrel
    replace heq := Lib.hid heq
    by_cases hka : k < a.length
    · have hkai : (k : Int) < a.length := by omega
      by_cases hkb : k < b.length
      · have hkbi : (k : Int) < b.length := by omega
        by_cases he : a[k] = b[k]
        · have hbe := bstr_eq hka hkb he
          have hbe2 : ((((bstr a)[k]'(by simpa using hka)).toNat : Int) == (((bstr b)[k]'(by simpa using hkb)).toNat : Int)) = true := by
            simpa [bne] using hbe
          clear hbe
          replace he := Lib.hid he
          go_wp2_with fail
          refine region_quietC (by kernel_rfl) (by kernel_rfl) ?_
          repeat (first
            | quiet_step ((intro hx; first | rfl)))
          refine wpQuiet_nil ?_
          intro w' g
          go_wp2
          go_roundw
          case rel => exact ⟨k + 1, by omega, by omega, by go_num, take_more hka hkb heq.out he.out, hch.t0 g⟩
          case measure => simp [intOf]; omega
        · have hbe := bstr_ne hka hkb he
          have hbe2 : ((((bstr a)[k]'(by simpa using hka)).toNat : Int) == (((bstr b)[k]'(by simpa using hkb)).toNat : Int)) = false := by
            simpa [bne] using hbe
          clear hbe
          have hR2 : R = k := by rw [hR.out]; exact shareV_at hka hkb heq.out he
          subst hR2
          clear he
          go_wp2_with fail
          refine region_quietC (by kernel_rfl) (by kernel_rfl) ?_
          repeat (first
            | quiet_step ((intro hx; first | rfl)))
          refine wpQuiet_nil ?_
          intro w' g
          go_wp2
          go_ret
          exact ⟨rfl, hch.t0 g⟩
      · have hkbi : ¬ (k : Int) < b.length := by omega
        have hR2 : R = k := by rw [hR.out]; exact shareV_end (by omega) heq.out
        subst hR2
        go_wp2_with fail
        refine region_quietC (by kernel_rfl) (by kernel_rfl) ?_
        repeat (first
          | quiet_step ((intro hx; first | rfl)))
        refine wpQuiet_nil ?_
        intro w' g
        go_wp2
        go_ret
        exact ⟨rfl, hch.t0 g⟩
    · have hkai : ¬ (k : Int) < a.length := by omega
      have hR2 : R = k := by rw [hR.out]; exact shareV_end (by omega) heq.out
      subst hR2
      go_wp2_with fail
      refine region_quietC (by kernel_rfl) (by kernel_rfl) ?_
      repeat (first
        | quiet_step ((intro hx; first | rfl)))
      refine wpQuiet_nil ?_
      intro w' g
      go_wp2
      go_ret
      exact ⟨rfl, hch.t0 g⟩
end Go.Proofs.YtdclbhmmpdngpaaDoor
