/-
  Digests as keys of a map.
-/
import Derived.Test.YtgepfmofignmfaaTagFrames
import Derived.Maps.OwnRows
import Derived.Maps.GroupsBeside
import Derived.Maps.Views
import Derived.DeepKeys4
namespace Go.Proofs.Ytgepfmofignmfaa
set_option linter.unusedSimpArgs false
set_option linter.unusedVariables false
open Go.RowKit Go.Maps Go.ChangeShapes

theorem laidDig : laidOutB Try.prog = true := by kernel_rfl
theorem lawDig : Keyed Try.prog 32 := Keyed.of_law (deep_law_laid laidDig (m := 2) (by omega) (of_decide_eq_true (by kernel_rfl)) (by kernel_rfl) (by kernel_rfl))
theorem mapM_opt {α β : Type} (f : α → Option β) : ∀ l : List α, (∀ a ∈ l, ∃ y, f a = some y) → ∃ ys, l.mapM f = some ys
  | [], _ => ⟨[], rfl⟩
  | a :: l, h => by
    obtain ⟨y, hy⟩ := h a (List.mem_cons_self ..)
    obtain ⟨ys, hys⟩ := mapM_opt f l fun b hb => h b (List.mem_cons_of_mem _ hb)
    exact ⟨y :: ys, by simp [List.mapM_cons, hy, hys]⟩
theorem lits_digest (n : Nat) (l : Bytes) (h : l.length = 32) : ∃ ls, Try.prog.keyLits (n + 2) 32 (bcs l) = some ls := by
  have h1 : Try.prog.cellsOf 32 = 32 := by kernel_rfl
  have h2 : Try.prog.cellsOf 5 = 1 := by kernel_rfl
  have hL : Try.prog.keyLits (n + 2) 32 (bcs l) = ((List.range 32).mapM fun i => Try.prog.keyLits (n + 1) 5 (((bcs l).drop (i * Try.prog.cellsOf 5)).take (Try.prog.cellsOf 5))).map List.flatten := by
    rw [Program.keyLits.eq_def]
    simp only [Try.underlying32]
    exact if_pos (by rw [h1, bcs_length, h])
  rw [hL]
  obtain ⟨ys, hys⟩ := mapM_opt (fun i => Try.prog.keyLits (n + 1) 5 (((bcs l).drop (i * Try.prog.cellsOf 5)).take (Try.prog.cellsOf 5))) (List.range 32) (fun i hi => by
    have hi := List.mem_range.1 hi
    rw [h2, Nat.mul_one]
    have e : ((bcs l).drop i).take 1 = [.int .u8 ((l[i]'(by omega)).toNat : Int)] := by
      rw [List.drop_eq_getElem_cons (by rw [bcs_length]; omega)]
      simp [bcs]
    rw [e, Program.keyLits.eq_def]
    simp only [Try.underlying5]
    have hx := (l[i]'(by omega)).toNat_lt
    refine ⟨_, if_pos ⟨trivial, ?_⟩⟩
    simp [Lit.wf, IntKind.min, IntKind.max, IntKind.bits, IntKind.signed]
    omega)
  rw [hys]
  exact ⟨_, rfl⟩
noncomputable def kl (l : Bytes) : Lit := (keyOf Try.prog 32 (dv l)).getD (.bool false)
theorem key_digest (l : Bytes) (h : l.length = 32) : keyOf Try.prog 32 (dv l) = some (kl l) := by
  have h0 : ∃ n, Try.prog.types.size + 1 = n + 2 := ⟨Try.prog.types.size - 1, by have : 0 < Try.prog.types.size := of_decide_eq_true (by kernel_rfl); omega⟩
  obtain ⟨n, hn⟩ := h0
  obtain ⟨ls, hls⟩ := lits_digest n l h
  have : ∃ s, keyOf Try.prog 32 (dv l) = some s := by
    unfold keyOf
    rw [Try.underlying32]
    simp only []
    have hk : Try.prog.keyType 32 = true := by kernel_rfl
    have hf : (dv l).formed Try.prog 32 = true := by
      have h1 : Try.prog.cellsOf 32 = 32 := by kernel_rfl
      unfold dv Value.formed
      rw [Try.underlying32]
      simp [h1, bcs_length, h]
    rw [hk, hf, hn]
    rw [show (dv l).cells.toList = bcs l from rfl, hls]
    exact ⟨_, rfl⟩
  obtain ⟨s, hs⟩ := this
  unfold kl
  rw [hs]; rfl
theorem kl_inj {l l' : Bytes} (h : l.length = 32) (h' : l'.length = 32) (e : kl l = kl l') : l = l' := by
  have h1 := key_digest l h
  rw [e] at h1
  have h2 := lawDig.inj h1 (key_digest l' h')
  unfold dv at h2
  simp only [Value.agg.injEq] at h2
  have h3 := congrArg Array.toList h2
  simp only [bcs] at h3
  exact (List.map_inj_right (fun a b hab => by
    simp only [Value.int.injEq, true_and] at hab
    exact UInt8.toNat_inj.1 (by omega))).1 h3

/-- The places of the bytes that have a digest, among the first n. -/
def idxs (B : List Bytes) (n : Nat) (d : Bytes) : List Int := ((List.range n).filter fun k : Nat => decide (sumB (B.getD k []) = d)).map fun k : Nat => (k : Int)
theorem idxs_succ (B : List Bytes) (n : Nat) (d : Bytes) : idxs B (n + 1) d = idxs B n d ++ (if sumB (B.getD n []) = d then [(n : Int)] else []) := by
  unfold idxs
  rw [List.range_succ, List.filter_append, List.map_append]
  congr 1
  by_cases h : sumB (B.getD n []) = d
  · rw [if_pos h, List.filter_cons_of_pos (by exact decide_eq_true h)]; rfl
  · rw [if_neg h, List.filter_cons_of_neg (by exact fun e => h (of_decide_eq_true e))]; rfl
theorem idxs_len (B : List Bytes) (n : Nat) (d : Bytes) : (idxs B n d).length ≤ n := by
  unfold idxs
  rw [List.length_map]
  exact Nat.le_trans (List.length_filter_le _ _) (by simp)
theorem idxs_mem {B : List Bytes} {n : Nat} {d : Bytes} {x : Int} (h : x ∈ idxs B n d) : ∃ k : Nat, x = k ∧ k < n ∧ sumB (B.getD k []) = d := by
  obtain ⟨k, hk, rfl⟩ := List.mem_map.1 h
  obtain ⟨h1, h2⟩ := List.mem_filter.1 hk
  exact ⟨k, rfl, List.mem_range.1 h1, of_decide_eq_true h2⟩
theorem mem_idxs {B : List Bytes} {n k : Nat} {d : Bytes} (h : k < n) (h2 : sumB (B.getD k []) = d) : (k : Int) ∈ idxs B n d :=
  List.mem_map.2 ⟨k, List.mem_filter.2 ⟨List.mem_range.2 h, decide_eq_true h2⟩, rfl⟩
def itemsD : DataW Unit → List (DataW Unit)
  | .slice l _ => l
  | _ => []
theorem items_row {w : World} {base : Nat} {e : TypeId} {v : Value} {zs : List Int} (h : w.ownsInts base e .i64 v zs) : itemsD (rowDatum (H := Unit) .i64 v zs) = lits .i64 zs := by
  rcases h.datum (H := Unit) with ⟨h1, h2⟩ | h1
  · rw [h1, h2]; rfl
  · rw [h1]; rfl
theorem lits_inj {a b : List Int} (h : lits (H := Unit) .i64 a = lits .i64 b) : a = b := by
  unfold lits at h
  exact (List.map_inj_right (fun x y hxy => by simpa using hxy)).1 h
/-- The map holds of each digest the places of the bytes that have it. -/
def Grp (B : List Bytes) (n : Nat) (D : DataW Unit) : Prop := ∀ d : Bytes, d.length = 32 → itemsD (D.atKey (kl d) .nil) = lits .i64 (idxs B n d)
theorem sumB_len (b : Bytes) : (sumB b).length = 32 := digTo_length _ _
theorem Grp.nil (B : List Bytes) : Grp B 0 (.map []) := fun d _ => rfl
theorem Grp.put {B : List Bytes} {n : Nat} {D : DataW Unit} {w : World} {base : Nat} {e : TypeId} {v : Value} {zs : List Int} (h : Grp B n D) (hD : IsMap D) (hz : zs = idxs B n (sumB (B.getD n []))) (ho : w.ownsInts base e .i64 v (zs ++ [(n : Int)])) :
    Grp B (n + 1) (D.put (kl (sumB (B.getD n []))) (rowDatum .i64 v (zs ++ [(n : Int)]))) := by
  intro d hd
  rw [idxs_succ]
  by_cases e : sumB (B.getD n []) = d
  · subst e
    rw [atKey_put_same hD (lawDig.key (key_digest _ (sumB_len _))), items_row ho, hz, if_pos rfl]
  · rw [atKey_put_other (fun h => e (kl_inj hd (sumB_len _) h).symm), if_neg e, List.append_nil]
    exact h d hd
theorem groups_isMap {w : World} {P : Program} {k : TypeId} {base : Nat} {e : TypeId} {q : IntKind} {b n : Nat} {D : DataW Unit} (h : w.ownsGroups P k base e q b n D) : IsMap D := by
  obtain ⟨_, _, _, _, _, rfl, _⟩ := h; exact ⟨_, rfl⟩
theorem groups_tr0 {w w' : World} {P : Program} {k : TypeId} {base : Nat} {e : TypeId} {q : IntKind} {b n : Nat} {D : DataW Unit} (h : w.ownsGroups P k base e q b n D) (g : Chg [] w w') : w'.ownsGroups P k base e q b n D :=
  h.kept (row := none) ⟨g.os, g.tape, g.output, g.size, fun i hi _ => g.block i hi (by simp)⟩ (by simp) (fun _ _ _ x _ => by cases x.val.ownBlock <;> simp)
theorem el_ix : ElemT Try.prog 70 3 1 8 := by
  obtain ⟨i, hi, hz, h1, h2⟩ := info_parts (P := Try.prog) (e := 3) (z := .int .i64 0) (size := 1) (bytes := 8) (by kernel_rfl)
  exact ⟨Try.underlying70, ⟨i, _, hi, hz, h1, h2, rfl⟩, by decide, by decide⟩
theorem zeroIx (w : World) : (zeroValue 70).run Try.prog w = .ok (.slice none 0 0) w := by kernel_rfl

/-- Two frames that are not the same, and have one digest: of the first in A that has such a one in B, and that one. -/
def extractV (A B : List Bytes) : Option (Bytes × Bytes) := A.findSome? fun x => (B.find? fun y => decide (sumB y = sumB x) && decide (y ≠ x)).map fun y => (x, y)
def extT (A B : List Bytes) : Bytes × Bytes × Bool := match extractV A B with | some (x, y) => (x, y, true) | none => ([], [], false)
theorem extractV_some {A B : List Bytes} {x y : Bytes} (h : extractV A B = some (x, y)) : x ∈ A ∧ y ∈ B ∧ sumB y = sumB x ∧ y ≠ x := by
  unfold extractV at h
  obtain ⟨a, ha, h1⟩ := List.exists_of_findSome?_eq_some h
  obtain ⟨b, hb, h2⟩ := Option.map_eq_some_iff.1 h1
  have h3 := List.find?_some hb
  simp only [Bool.and_eq_true, decide_eq_true_eq] at h3
  cases h2
  exact ⟨ha, List.mem_of_find?_eq_some hb, h3.1, h3.2⟩
theorem extractV_none {A B : List Bytes} (h : extractV A B = none) : ∀ x ∈ A, ∀ y ∈ B, sumB y = sumB x → y = x := by
  unfold extractV at h
  rw [List.findSome?_eq_none_iff] at h
  intro x hx y hy he
  have h1 := h x hx
  rw [Option.map_eq_none_iff, List.find?_eq_none] at h1
  have h2 := h1 y hy
  simp only [Bool.and_eq_true, decide_eq_true_eq, not_and, Decidable.not_not] at h2
  exact h2 he
end Go.Proofs.Ytgepfmofignmfaa
