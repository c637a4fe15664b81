/-
  How long logs are behind a proof that is made, or joined; and that their frames are short.
-/
import Derived.Test.YtgepfmofignmfaaJoin
import Derived.Test.YtgepfmofignmfaaLaw21Halves
namespace Go.Proofs.Ytgepfmofignmfaa
set_option linter.unusedSimpArgs false
set_option linter.unusedVariables false
open Go.RowKit

theorem cut_len2 (L : List Bytes) {a b : Nat} (h : a < b) : (treeV (cutL L a b)).2.length ≤ 2 * (b - a) - 1 := by
  rw [treeV_count]
  have : (cutL L a b).length ≤ b - a := by simp [cutL]; omega
  split <;> omega
theorem prove_log {L : List Bytes} {lo hi a b : Nat} (hab : a < b) (s : List Bytes × List Bytes) : (overV (proveA L) lo hi a b s).2.2.length ≤ s.2.length + (2 * (b - a) - 1) := by
  refine over_ind (lo := lo) (hi := hi) (P := fun a b => ∀ s : List Bytes × List Bytes, (overV (proveA L) lo hi a b s).2.2.length ≤ s.2.length + (2 * (b - a) - 1)) ?_ ?_ ?_ a b hab s
  · intro a b h h1 s
    rw [overV_bes h1]
    have := cut_len2 L h
    show (s.2 ++ (treeV (cutL L a b)).2).length ≤ _
    rw [List.length_append]; omega
  · intro a b h h1 h2 s; rw [overV_inn h1 h2]; show s.2.length ≤ _; omega
  · intro a b h h1 h2 k1 k2 i1 i2 s
    rw [overV_nod h1 h2]
    have j1 := i1 s
    have j2 := i2 (overV (proveA L) lo hi a (a + splitV (b - a)) s).2
    show (overV (proveA L) lo hi (a + splitV (b - a)) b (overV (proveA L) lo hi a (a + splitV (b - a)) s).2).2.2.length ≤ _
    omega
theorem prove_short {L : List Bytes} (hL : ∀ x ∈ L, x.length = 32) {lo hi a b : Nat} (hab : a < b) (s : List Bytes × List Bytes) (hs : Short s.2) : Short (overV (proveA L) lo hi a b s).2.2 := by
  refine over_ind (lo := lo) (hi := hi) (P := fun a b => ∀ s : List Bytes × List Bytes, Short s.2 → Short (overV (proveA L) lo hi a b s).2.2) ?_ ?_ ?_ a b hab s hs
  · intro a b h h1 s hs
    rw [overV_bes h1]
    exact hs.app (Short.tree (cutL_32 hL))
  · intro a b h h1 h2 s hs; rw [overV_inn h1 h2]; exact hs
  · intro a b h h1 h2 k1 k2 i1 i2 s hs
    rw [overV_nod h1 h2]
    exact i2 _ (i1 s hs)
theorem proveL_len (L : List Bytes) (lo hi : Nat) (Y : List Bytes) : (proveL L lo hi Y).length ≤ Y.length + 2 * L.length := by
  unfold proveL
  split
  · omega
  · have := prove_log (L := L) (lo := lo) (hi := hi) (a := 0) (b := L.length) (by omega) ([], Y)
    dsimp only at this
    omega
theorem proveL_short {L : List Bytes} (hL : ∀ x ∈ L, x.length = 32) (lo hi : Nat) {Y : List Bytes} (hY : Short Y) : Short (proveL L lo hi Y) := by
  unfold proveL
  split
  · exact hY
  · exact prove_short hL (by omega) _ hY
theorem proveV_32 {L : List Bytes} (hL : ∀ x ∈ L, x.length = 32) (lo hi : Nat) : ∀ x ∈ proveV L lo hi, x.length = 32 := by
  unfold proveV
  split
  · simp
  · exact prove_32 hL (by omega) _ (by simp)
theorem join_log {part : List Bytes} {lo hi a b : Nat} (hab : a < b) (s : List Bytes × List Bytes) : (overV (joinA part lo) lo hi a b s).2.2.length ≤ s.2.length + (2 * (b - a) - 1) := by
  refine over_ind (lo := lo) (hi := hi) (P := fun a b => ∀ s : List Bytes × List Bytes, (overV (joinA part lo) lo hi a b s).2.2.length ≤ s.2.length + (2 * (b - a) - 1)) ?_ ?_ ?_ a b hab s
  · intro a b h h1 s; rw [overV_bes h1]; show s.2.length ≤ _; omega
  · intro a b h h1 h2 s
    rw [overV_inn h1 h2]
    have := join_cut_len part (lo := lo) h
    show (s.2 ++ (treeV (cutL part (a - lo) (b - lo))).2).length ≤ _
    rw [List.length_append]; omega
  · intro a b h h1 h2 k1 k2 i1 i2 s
    rw [overV_nod h1 h2]
    have j1 := i1 s
    have j2 := i2 (overV (joinA part lo) lo hi a (a + splitV (b - a)) s).2
    show ((overV (joinA part lo) lo hi (a + splitV (b - a)) b (overV (joinA part lo) lo hi a (a + splitV (b - a)) s).2).2.2 ++ [_]).length ≤ _
    rw [List.length_append, List.length_singleton]
    omega
theorem join_short {part : List Bytes} (hp : ∀ x ∈ part, x.length = 32) {lo hi a b : Nat} (hab : a < b) (s : List Bytes × List Bytes) (h32 : ∀ x ∈ s.1, x.length = 32) (hs : Short s.2) : Short (overV (joinA part lo) lo hi a b s).2.2 := by
  refine over_ind (lo := lo) (hi := hi) (P := fun a b => ∀ s : List Bytes × List Bytes, (∀ x ∈ s.1, x.length = 32) → Short s.2 → Short (overV (joinA part lo) lo hi a b s).2.2) ?_ ?_ ?_ a b hab s h32 hs
  · intro a b h h1 s _ hs; rw [overV_bes h1]; exact hs
  · intro a b h h1 h2 s _ hs
    rw [overV_inn h1 h2]
    exact hs.app (Short.tree (cutL_32 hp))
  · intro a b h h1 h2 k1 k2 i1 i2 s h32 hs
    rw [overV_nod h1 h2]
    obtain ⟨n1, n2, _⟩ := join_32 hp k1 (lo := lo) (hi := hi) s h32
    obtain ⟨m1, m2, _⟩ := join_32 hp k2 (lo := lo) (hi := hi) _ n2
    exact (i2 _ n2 (i1 s h32 hs)).app (Short.one (by rw [node_len n1 m1]; decide))
theorem joinR_len (n : Nat) (lo : Int) (part proof Y : List Bytes) : (joinR n lo part proof Y).2.2.length ≤ Y.length + 2 * n + 1 := by
  unfold joinR
  split
  · split
    · rw [treeV_nil]; simp
    · have := join_log (part := part) (lo := lo.toNat) (hi := lo.toNat + part.length) (a := 0) (b := n) (by omega) (proof, Y)
      dsimp only at this ⊢
      omega
  · dsimp only; omega
theorem joinR_short {part proof : List Bytes} (hp : ∀ x ∈ part, x.length = 32) (h32 : ∀ x ∈ proof, x.length = 32) (n : Nat) (lo : Int) {Y : List Bytes} (hY : Short Y) : Short (joinR n lo part proof Y).2.2 := by
  unfold joinR
  split
  · split
    · exact hY.app (Short.tree (by simp))
    · exact join_short hp (by omega) _ h32 hY
  · exact hY
theorem joinR_32 {part proof : List Bytes} (hp : ∀ x ∈ part, x.length = 32) (h32 : ∀ x ∈ proof, x.length = 32) (n : Nat) (lo : Int) (Y : List Bytes) : (joinR n lo part proof Y).1.length = 32 := by
  unfold joinR
  split
  · split
    · exact treeV_len (by simp)
    · exact (join_32 hp (by omega) _ h32).1
  · exact zero32_len
end Go.Proofs.Ytgepfmofignmfaa
