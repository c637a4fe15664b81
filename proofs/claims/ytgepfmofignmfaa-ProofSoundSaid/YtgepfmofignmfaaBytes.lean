/-
  Bytes: slices.Clone at []byte.
-/
import Derived.Test.YtgepfmofignmfaaProg
import Derived.Test.YtgepfmofignmfaaBase
namespace Go.Proofs.Ytgepfmofignmfaa
set_option linter.unusedSimpArgs false
set_option linter.unusedVariables false
open Go.RowKit

theorem el_b : ElemT Try.prog 22 5 1 1 := by
  obtain ⟨i, hi, hz, h1, h2⟩ := info_parts (P := Try.prog) (e := 5) (z := .int .u8 0) (size := 1) (bytes := 1) (by kernel_rfl)
  exact ⟨Try.underlying22, ⟨i, _, hi, hz, h1, h2, rfl⟩, by decide, by decide⟩

/-- slices.Clone at []byte: a new row of the same bytes; nil stays nil. -/
theorem cloneb_ok (w : World) (v : Value) (l : List UInt8) (hs : Sl w v l.length (bcs l)) (hb : l.length ≤ big) :
    Calls Try.prog 40 #[v] w fun e w' => ∃ v', e = .returned v' ∧ w'.ownsRow w.heap.size 5 1 v' l.length (bcs l) ∧ Chg [] w w' := by
  have hs0 := hs
  obtain ⟨a, c, rfl, q1, q2, q3, q4, q6, q5⟩ := hs
  have keq : ∀ (w : World) (a : Option Addr) (n c : Nat), (binOp .eql 22 (.slice a n c) (.slice none 0 0)).run Try.prog w = .ok (.bool a.isNone) w := fun w a n c => Lib.run_eql_slice_nil w _ _ a n c 0 0 Try.underlying22
  cases a with
  | none =>
    have hc : c = 0 := q3 rfl
    have hl : l = [] := by have : l.length = 0 := by omega
                           simpa using this
    subst hc hl
    clear q1 q2 q3 q4 q5 q6
    go_enter Try.func40, Try.ntmps40
    go_wp2
    go_ret
    exact ⟨_, rfl, World.ownsRow_nil _ _ _ _, Chg.refl _ _⟩
  | some x =>
    clear q1 q2 q3 q4 q5 q6
    go_enter Try.func40, Try.ntmps40
    go_wp2_with (at_builtin; refine wpList_append_sl _ rfl (.tmp 5) (.tmp 6) 22 5 1 1 rfl el_b w.heap.size _ 0 [] rfl (own_lit w #[] 5 0 1 _ (Nat.le_refl _) (Nat.zero_le _) rfl) _ l.length (bcs l) rfl (hs0.tr0 (Chg.alloc _ _ _)) (by simp [bcs]) (bcs_one l) (by simpa using hb) (by simp) ?_)
    intro v' w1 hown hg
    try simp only [Nat.zero_add, List.nil_append] at hown
    go_wp2
    go_ret
    exact ⟨_, rfl, hown, (Chg.alloc [] w _).trans (Chg.grown hg) (by simp [Value.ownBlock])⟩

end Go.Proofs.Ytgepfmofignmfaa
