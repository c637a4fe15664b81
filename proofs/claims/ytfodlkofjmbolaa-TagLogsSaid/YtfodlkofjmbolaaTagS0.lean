/-
  Small frames, reckoned; the contracts of package tag at them.
-/
import Derived.Test.YtfodlkofjmbolaaTagExt
import Derived.Test.YtfodlkofjmbolaaSha12
namespace Go.Proofs.Ytfodlkofjmbolaa
set_option linter.unusedSimpArgs false
set_option linter.unusedVariables false
open Go.RowKit

def FA : Bytes := [1, 116, 1, 1, 0, 0, 0, 0, 0, 0, 0, 97]
def FB : Bytes := [1, 116, 1, 1, 0, 0, 0, 0, 0, 0, 0, 98]
theorem frame_a : frameB [116] [[97]] = FA := by decide +kernel
theorem frame_b : frameB [116] [[98]] = FB := by decide +kernel
theorem fok_a : frameOk [116] [[97]] = true := by decide +kernel
theorem fok_b : frameOk [116] [[98]] = true := by decide +kernel
theorem fok_0 : frameOk [] [] = false := by decide +kernel
theorem parse_a : parseT FA = ([116], [[97]], true) := by decide +kernel
theorem hash_a : hashV [116] [[97]] = sumB FA := by rw [hashV, if_pos fok_a, frame_a]
theorem hash_b : hashV [116] [[98]] = sumB FB := by rw [hashV, if_pos fok_b, frame_b]
theorem hash_0 : hashV [] [] = zero32 := by rw [hashV, if_neg (by rw [fok_0]; decide)]
theorem sum_fa : (sumB FA).getD 0 0 = 0x34 := by
  rw [← sumR_eq FA (by decide)]
  decide +kernel
theorem sum_fb : (sumB FB).getD 0 0 = 0x58 := by
  rw [← sumR_eq FB (by decide)]
  decide +kernel
theorem ext_one (a b : Bytes) (hne : ¬ sumB b = sumB a) : extT [a] [b] = ([], [], false) := by
  unfold extT extractV
  simp [hne]
theorem sum_ne : ¬ sumB FB = sumB FA := fun e => by
  have h1 := sum_fa
  rw [← e, sum_fb] at h1
  exact absurd h1 (by decide)
theorem ext_ab : extT [FA] [FB] = ([], [], false) := ext_one FA FB sum_ne
/-- A row of one row of one byte. -/
theorem SlB.one (w : World) (b : UInt8) (x : Int) (h : x = (b.toNat : Int)) (e1 e2 : Nat) : SlB ((w.alloc (.cells #[.int .u8 x] e1)).alloc (.cells #[.slice (some ⟨w.heap.size, 0, none⟩) 1 1] e2)) (.slice (some ⟨w.heap.size + 1, 0, none⟩) 1 1) [(.slice (some ⟨w.heap.size, 0, none⟩) 1 1, [b])] := by
  have h1 := Sl.byte1 w e1 x b h
  have hz : (w.alloc (.cells #[.int .u8 x] e1)).heap.size = w.heap.size + 1 := by simp
  have h2 := Sl.lit (w.alloc (.cells #[.int .u8 x] e1)) #[.slice (some ⟨w.heap.size, 0, none⟩) 1 1] e2 1 (by decide)
  rw [hz] at h2
  refine ⟨h2, fun y hy => ?_⟩
  rw [List.mem_singleton.1 hy]
  exact h1.tr0 (Chg.alloc _ _ _)
theorem kFrame_a (w : World) (v u : Value) (h : SlB w v [(u, [97])]) : Calls Try.prog 25 #[.string { data := #[116] }, v] w fun e w' => ∃ v', e = .returned (.tuple #[v', .bool true]) ∧ w'.ownsRow w.heap.size 5 1 v' 12 (bcs FA) ∧ Chg [] w w' := by
  have k := frame_ok w [116] v [(u, [97])] h (by simp [maxLen]) (by simp [maxLen]) (by simp [sumL])
  simp only [List.map_cons, List.map_nil, fok_a, frameV, if_true, frame_a] at k
  exact k
theorem kFrame_0 (w : World) : Calls Try.prog 25 #[.string { data := #[] }, .slice none 0 0] w fun e w' => ∃ v', e = .returned (.tuple #[v', .bool false]) ∧ Chg [] w w' := by
  have k := frame_ok w [] (.slice none 0 0) [] (SlB.nil w) (by simp) (by simp) (by simp [sumL])
  simp only [List.map_nil, fok_0] at k
  exact k.mono fun e w' ⟨v', h1, _, h2⟩ => ⟨v', h1, h2⟩
theorem kParse_a (w : World) (v : Value) (h : Sl w v 12 (bcs FA)) : Calls Try.prog 27 #[v] w fun e w' => ∃ v', e = .returned (.tuple #[.string { data := #[116] }, v', .bool true]) ∧ ∃ u, OwnsB w' w.heap.size v' [(u, [97])] ∧ Chg [] w w' := by
  have k := parse_ok w v FA h (by simp [FA])
  rw [parse_a] at k
  refine k.mono fun e w' ⟨v', h1, D, h2, h3, h4⟩ => ⟨v', h1, ?_⟩
  match D, h2, h3 with
  | [(u, p)], h2, h3 =>
    simp at h3
    subst h3
    exact ⟨u, h2, h4⟩
theorem kLog_a (w : World) (p : Nat) (base : Nat) (hbase : base ≤ w.heap.size) (v u : Value) (hl : LogAt w p base (.slice none 0 0) []) (h : SlB w v [(u, [97])]) : Calls Try.prog 33 #[.pointer (some ⟨p, 0, none⟩), .string { data := #[116] }, v] w fun e w' => e = .returned (.agg (bcs (sumB FA)).toArray) ∧ ∃ vl u', LogAt w' p base vl [(u', FA)] ∧ Chg [p] w w' := by
  have k := loghash_ok w p base _ [] hl hbase (by simp) [116] v [(u, [97])] h (by simp [maxLen]) (by simp [maxLen]) (by simp [sumL])
  simp only [List.map_cons, List.map_nil, hash_a, logB, fok_a, if_true, frame_a, List.nil_append] at k
  refine k.mono fun e w' ⟨h1, vl, F', h2, h3, h4, _⟩ => ⟨h1, vl, ?_⟩
  match F', h2, h3 with
  | [(u', q)], h2, h3 =>
    simp at h3
    subst h3
    exact ⟨u', h2, h4.mono (by simp [Value.ownBlock])⟩
theorem kLog_b (w : World) (p : Nat) (base : Nat) (hbase : base ≤ w.heap.size) (v u : Value) (hl : LogAt w p base (.slice none 0 0) []) (h : SlB w v [(u, [98])]) : Calls Try.prog 33 #[.pointer (some ⟨p, 0, none⟩), .string { data := #[116] }, v] w fun e w' => (∃ x, e = .returned x) ∧ ∃ vl u', LogAt w' p base vl [(u', FB)] ∧ Chg [p] w w' := by
  have k := loghash_ok w p base _ [] hl hbase (by simp) [116] v [(u, [98])] h (by simp [maxLen]) (by simp [maxLen]) (by simp [sumL])
  simp only [List.map_cons, List.map_nil, hash_b, logB, fok_b, if_true, frame_b, List.nil_append] at k
  refine k.mono fun e w' ⟨h1, vl, F', h2, h3, h4, _⟩ => ⟨⟨_, h1⟩, vl, ?_⟩
  match F', h2, h3 with
  | [(u', q)], h2, h3 =>
    simp at h3
    subst h3
    exact ⟨u', h2, h4.mono (by simp [Value.ownBlock])⟩
theorem kExt (w : World) (pa pb ba bb : Nat) (va vb ua ub : Value) (hA : LogAt w pa ba va [(ua, FA)]) (hB : LogAt w pb bb vb [(ub, FB)]) : Calls Try.prog 35 #[.pointer (some ⟨pa, 0, none⟩), .pointer (some ⟨pb, 0, none⟩)] w fun e w' => ∃ v1 v2, e = .returned (.tuple #[v1, v2, .bool false]) ∧ w'.ownsRow w.heap.size 5 1 v1 0 [] ∧ w'.ownsRow w.heap.size 5 1 v2 0 [] ∧ Chg [] w w' := by
  have k := extract_ok w pa pb ba bb va vb _ _ hA hB (by simp) (by simp) (by simp [FA]) (by simp [FB])
  simp only [List.map_cons, List.map_nil, ext_ab] at k
  exact k
/-- A row of the one frame FA. -/
def RowFA (v : Value) (w : World) : Prop := ∃ u, SlB w v [(u, FA)]
theorem kFrames (w : World) (p base : Nat) (v u : Value) (h : LogAt w p base v [(u, FA)]) : Calls Try.prog 34 #[.pointer (some ⟨p, 0, none⟩)] w fun e w' => ∃ v', e = .returned v' ∧ Chg [] w w' ∧ RowFA v' w' := by
  have k := frames_ok w p base v _ h (by simp) (by simp [FA])
  refine k.mono fun e w' ⟨v', h1, D, h2, h3, h4⟩ => ⟨v', h1, h4, ?_⟩
  match D, h2, h3 with
  | [(u', q)], h2, h3 =>
    simp at h3
    subst h3
    exact ⟨u', h2.sl⟩
theorem kHash_a (w : World) (v u : Value) (h : SlB w v [(u, [97])]) : Calls Try.prog 30 #[.string { data := #[116] }, v] w fun e w' => e = .returned (.agg (bcs (sumB FA)).toArray) ∧ Chg [] w w' := by
  have k := taghash_ok w [116] v [(u, [97])] h (by simp [maxLen]) (by simp [maxLen]) (by simp [sumL])
  simp only [List.map_cons, List.map_nil, hash_a] at k
  exact k
theorem kHash_0 (w : World) : Calls Try.prog 30 #[.string { data := #[] }, .slice none 0 0] w fun e w' => e = .returned (.agg (bcs zero32).toArray) ∧ Chg [] w w' := by
  have k := taghash_ok w [] (.slice none 0 0) [] (SlB.nil w) (by simp) (by simp) (by simp [sumL])
  simp only [List.map_nil, hash_0] at k
  exact k
end Go.Proofs.Ytfodlkofjmbolaa
