/-
  The contract of cell.Compare.
-/
import Derived.Test.YtfnfcioofkeanaaCell2
import Derived.Test.YtfnfcioofkeanaaPoint2
import Derived.Lib.Bytealg
namespace Go.Proofs.Ytfnfcioofkeanaa
set_option linter.unusedSimpArgs false
set_option linter.unusedVariables false
open Go.RowKit

set_option maxHeartbeats 1000000 in
set_option maxRecDepth 100000 in
theorem cmpstr_ok (a b : ByteArray) (w : World) :
    Calls Try.prog 75 #[.string a, .string b] w fun e w' => e = .returned (.int .i64 (Lib.compareBytes a.data.toList b.data.toList)) ∧ Chg [] w w' := by
  go_enter Try.func75, Try.ntmps75
  go_wp2
  rw [run_callFunc_extern Try.func81 (by kernel_rfl) (by kernel_rfl) (by kernel_rfl) (e := Extern.BytealgCompare.compare) (by kernel_rfl), Lib.run_compareString]
  simp only [Result.andThen]
  rw [Oper.upon_value]
  go_wp2
  go_ret
  exact ⟨rfl, Chg.refl _ _⟩
set_option maxHeartbeats 1000000 in
theorem strcmp_ok (w : World) (a b : List UInt8) :
    Calls Try.prog 58 #[.string (bstr a), .string (bstr b)] w fun e w' => e = .returned (.int .i64 (Lib.compareBytes a b)) ∧ Chg [] w w' := by
  go_enter Try.func58, Try.ntmps58
  go_wp2_with (go_at_call 75; refine (cmpstr_ok _ _ _).mono ?_; rintro e w' ⟨rfl, g⟩)
  go_ret
  exact ⟨rfl, g⟩
def cmpC (typ : Int) (a b : Cell) : Int :=
  if a.null = true then (if b.null = true then 0 else -1) else if b.null = true then 1
  else if typ = 0 ∨ typ = 1 then sgn a.int b.int
  else if typ = 2 then Lib.compareBytes a.text b.text
  else if typ = 3 then cmpP a.x a.y b.x b.y else 0
def NearC (c : Cell) : Prop := NearP c.x ∧ NearP c.y
set_option maxHeartbeats 8000000 in
set_option maxRecDepth 100000 in
theorem ccompare_ok (w : World) (typ : Int) (a b : Cell) (ha : NearC a) (hb : NearC b) :
    Calls Try.prog 32 #[.int .i64 typ, .agg (cellc a).toArray, .agg (cellc b).toArray] w fun e w' => e = .returned (.int .i64 (cmpC typ a b)) ∧ Chg [] w w' := by
  obtain ⟨n, i, t, x, y⟩ := a
  obtain ⟨m, j, s, u, v⟩ := b
  obtain ⟨hx, hy⟩ := ha
  obtain ⟨hu, hv⟩ := hb
  obtain ⟨R, hR⟩ : ∃ R, R = cmpC typ ⟨n, i, t, x, y⟩ ⟨m, j, s, u, v⟩ := ⟨_, rfl⟩
  rw [← hR]
  unfold cmpC at hR
  dsimp only at hR hx hy hu hv
  have k1 := fun w => cmpc_c w i j
  have k2 := fun w => strcmp_ok w t s
  have k3 := fun w => compare_ok w x y u v hx hy hu hv
  have g0 : Chg [] w ((w.alloc (.cells #[.bool n, .int .i64 i, .string (bstr t), .int .i64 x, .int .i64 y] 54)).alloc (.cells #[.bool m, .int .i64 j, .string (bstr s), .int .i64 u, .int .i64 v] 54)) := (Chg.alloc [] w _).t0 (Chg.alloc [] _ _)
  have q0 : World.rangeAt ((w.alloc (.cells #[.bool n, .int .i64 i, .string (bstr t), .int .i64 x, .int .i64 y] 54)).alloc (.cells #[.bool m, .int .i64 j, .string (bstr s), .int .i64 u, .int .i64 v] 54)) w.heap.size 3 [.int .i64 x, .int .i64 y] := ra2 (by go_simp) (by go_simp)
  have q1 : World.rangeAt ((w.alloc (.cells #[.bool n, .int .i64 i, .string (bstr t), .int .i64 x, .int .i64 y] 54)).alloc (.cells #[.bool m, .int .i64 j, .string (bstr s), .int .i64 u, .int .i64 v] 54)) (w.heap.size + 1) 3 [.int .i64 u, .int .i64 v] := ra2 (by go_simp) (by go_simp)
  unfold pt at *
  generalize sgn i j = A at *
  generalize Lib.compareBytes t s = B at *
  generalize cmpP x y u v = C at *
  unfold cellc
  have hst : (typ = 0 ∨ typ = 1) ∨ typ = 2 ∨ typ = 3 ∨ (typ ≠ 0 ∧ typ ≠ 1 ∧ typ ≠ 2 ∧ typ ≠ 3) := by omega
  cases n <;> cases m
  · rw [if_neg (by decide), if_neg (by decide)] at hR
    rcases hst with h | rfl | rfl | ⟨h0, h1, h2, h3⟩
    · rw [if_pos h] at hR
      subst hR
      rcases h with rfl | rfl
      all_goals
        go_enter Try.func32, Try.ntmps32
        go_wp2_with (go_at_call 57; refine (k1 _).mono ?_; rintro e w' ⟨rfl, g⟩)
        go_ret
        exact ⟨rfl, g0.t0 g⟩
    · rw [if_neg (by decide), if_pos rfl] at hR
      subst hR
      go_enter Try.func32, Try.ntmps32
      go_wp2_with (go_at_call 58; refine (k2 _).mono ?_; rintro e w' ⟨rfl, g⟩)
      go_ret
      exact ⟨rfl, g0.t0 g⟩
    · rw [if_neg (by decide), if_neg (by decide), if_pos rfl] at hR
      subst hR
      go_enter Try.func32, Try.ntmps32
      go_wp2_with (go_at_call 59; refine (k3 _).mono ?_; rintro e w' ⟨rfl, g⟩)
      go_ret
      exact ⟨rfl, g0.t0 g⟩
    · rw [if_neg (by omega), if_neg h2, if_neg h3] at hR
      subst hR
      go_enter Try.func32, Try.ntmps32
      go_wp2
      go_ret
      exact ⟨rfl, g0⟩
  all_goals
    simp at hR
    subst hR
    go_enter Try.func32, Try.ntmps32
    go_wp2
    go_ret
    exact ⟨rfl, g0⟩
end Go.Proofs.Ytfnfcioofkeanaa
