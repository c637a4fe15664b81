/-
  More of cursors, side by side.
-/
import Derived.Test.YtdclbhmmpdngpaaDoorVget2
namespace Go.Proofs.YtdclbhmmpdngpaaDoor
set_option linter.unusedSimpArgs false
set_option linter.unusedVariables false
open Go.RowKit

theorem RCur.drewN {B : Nat} {w : World} {q : Nat} {s : CS} (h : RCur B w q s) (n : Nat) : RCur B (w.drewN n) q s := h.tr (Chg.drewN [] w n) (by simp) (by simp)
theorem Cur.trR {B : Nat} {w w' : World} {p q : Nat} {s s' : CS} (h : Cur w p s) (hc : Chg [q] w w') (hq : RCur B w q s') : Cur w' p s := by
  obtain ⟨v, hh, _⟩ := hq
  obtain ⟨u, hu, _⟩ := id h
  refine h.tr1 hc ?_ hh (by decide)
  rintro rfl
  rw [hh] at hu
  simp at hu
/-- What the document's cursor holds. -/
theorem reads_tail {B : Nat} {w : World} {q : Nat} {s : CS} (h : RCur B w q s) : ∃ a c, w.cell? ⟨q, 0, none⟩ = some (.slice a s.l.length c) ∧ w.cell? ⟨q, 1, none⟩ = some (.bool s.bad) := by
  obtain ⟨v, hh, hs, _⟩ := h
  obtain ⟨c0, c1, _, _⟩ := cells2 hh
  obtain ⟨a, c, rfl⟩ := hs.shape
  exact ⟨a, c, c0, c1⟩
theorem bad_C {W : World} {p : Nat} {s : CS} (h : Cur W p s) (w : World) (g : Chg [] W w) : Calls Tryd.prog 25 #[.pointer (some ⟨p, 0, none⟩)] w fun e w' => e = .returned (.bool s.bad) ∧ Chg [] w w' :=
  (bad_ok w p _ (h.tr0 g)).mono fun e w' ⟨h1, h2⟩ => ⟨h1, h2 ▸ Chg.refl _ _⟩
/-- A new cursor of the document's own over bytes that came in. -/
theorem RCur.mk0 {W w : World} {v : Value} {l : List UInt8} (h : Sl W v l.length (bcs l)) (g : Chg [] W w) (hb : l.length ≤ big) : RCur W.heap.size (w.alloc (.cells #[v, .bool false] 55)) w.heap.size ⟨l, false⟩ :=
  ⟨_, heap_alloc_new w _, (h.tr0 g).tr0 (Chg.alloc [] w _), fun k hk => h.lt k hk, g.size, hb, fun h => (by cases h)⟩
/-- An own row that holds no bytes is written, or grows. -/
theorem Cur.grownRow {w w' : World} {p : Nat} {s : CS} {base e size n : Nat} {v : Value} {xs : List Value} (h : Cur w p s) (hg : w.grownBy w' v.ownBlock) (hown : w.ownsRow base e size v n xs) (he : e ≠ 5) (hp : p < base) : Cur w' p s := by
  have c := Chg.grown hg
  cases hb : v.ownBlock with
  | none => rw [hb] at c; exact h.tr0 c
  | some g =>
    rw [hb] at c
    obtain ⟨cs, f, hh⟩ := own_block hown g hb
    have := own_from hown g hb
    exact h.tr1 c (by omega) hh he

end Go.Proofs.YtdclbhmmpdngpaaDoor
