/-
  SchemaTwice: the walk.
-/
import Derived.Test.YtllidfhdklfkmaaLaw16Once
import Derived.Test.YtllidfhdklfkmaaOpenC
import Derived.Test.YtllidfhdklfkmaaSoft2
namespace Go.Proofs.Ytllidfhdklfkmaa
open Go.RowKit

/-- Short columns. -/
def Shorts (L : List Col) : Prop := ∀ c ∈ L, c.name.length ≤ 200 ∧ c.typ = 0
theorem Shorts.wide {L : List Col} (h : Shorts L) : ∀ c ∈ L, c.name.length ≤ maxLen ∧ -9223372036854775808 ≤ c.typ ∧ c.typ ≤ 9223372036854775807 := fun c hc => by have := h c hc; unfold maxLen; omega
theorem colc_set (L : List Col) (k : Nat) (h : k < L.length) (s : List UInt8) : (L.flatMap colc).set (k * 3) (.string (bstr s)) = (L.set k ⟨s, L[k].typ, L[k].null⟩).flatMap colc := by
  induction L generalizing k with
  | nil => simp at h
  | cons c r ih =>
    cases k with
    | zero => rfl
    | succ k =>
      have h' : k < r.length := by simpa using h
      have := ih k h'
      simp only [List.flatMap_cons, List.set_cons_succ, List.getElem_cons_succ]
      rw [← this, Nat.add_mul, Nat.one_mul]
      rfl

set_option maxRecDepth 100000 in
set_option maxHeartbeats 8000000 in
theorem twice_walk (w : World) (s : List UInt8) (n m : Int) (hs : s.length ≤ 140737488351232) :
    Calls Try.prog 10 #[.string (bstr s), .int .i64 n, .int .i64 m] w fun e w' => e = .returned (.bool true) ∧ Chg [] w w' := by
  go_enter Try.func10, Try.ntmps10
  go_wp2_with fail
  refine (small16_ok w).mono ?_
  rintro e w1 ⟨rfl, g1⟩
  by_cases hc : s = [] ∨ 100 < s.length ∨ n < 0 ∨ 20 < n ∨ m < 0 ∨ 20 < m
  · have hem : s.isEmpty = true ∨ s.isEmpty = false ∧ 100 < s.length ∨ s.isEmpty = false ∧ s.length ≤ 100 ∧ n < 0 ∨ s.isEmpty = false ∧ s.length ≤ 100 ∧ 0 ≤ n ∧ 20 < n ∨ s.isEmpty = false ∧ s.length ≤ 100 ∧ 0 ≤ n ∧ n ≤ 20 ∧ m < 0 ∨ s.isEmpty = false ∧ s.length ≤ 100 ∧ 0 ≤ n ∧ n ≤ 20 ∧ 0 ≤ m ∧ 20 < m := by
      cases hs : s.isEmpty
      · have : s ≠ [] := by rintro rfl; simp at hs
        simp only [this, false_or] at hc
        simp
        omega
      · simp
    clear hc
    rcases hem with z1 | ⟨z1, z2⟩ | ⟨z1, z2, z3⟩ | ⟨z1, z2, z3, z4⟩ | ⟨z1, z2, z3, z4, z5⟩ | ⟨z1, z2, z3, z4, z5, z6⟩
    all_goals
      go_wp2
      go_ret
      exact ⟨rfl, g1⟩
  · simp only [not_or, Int.not_lt, Nat.not_lt] at hc
    obtain ⟨hne, h100, hn0, hn20, hm0, hm20⟩ := hc
    have hem : s.isEmpty = false := by simpa using hne
    have hsx : bstr s ++ ({ data := #[120] } : ByteArray) = bstr (s ++ [120]) := bstr_append s [120]
    obtain ⟨ch, hch0⟩ : ∃ ch, s.take 1 = [ch] := by cases s with
      | nil => exact absurd rfl hne
      | cons c r => exact ⟨c, rfl⟩
    have x3 : (bstr s).extract 0 1 = bstr [ch] := by rw [← hch0]; apply ByteArray.ext; simp [bstr, List.take_one]
    have hs1 : (1 : Int) ≤ s.length := by cases s with
      | nil => exact absurd rfl hne
      | cons c r => simp; omega
    clear hne hch0
    go_wp2_with fail
    go_loopw [8, 9] (fun out iv wr => ∃ (k : Nat) (L : List Col), (k : Int) ≤ n + m + 1 ∧ iv = .int .i64 k ∧ wr.ownsRow w.heap.size 52 3 out L.length (L.flatMap colc) ∧ L.length = k ∧ Shorts L ∧ Chg [] w wr) (fun _ iv _ => (n + m + 1).toNat - (intOf iv).toNat)
    case atStart => exact ⟨0, [], by omega, rfl, World.ownsRow_nil _ _ _ _, rfl, by intro c hc; simp at hc, g1⟩
    case round =>
      obtain ⟨k, L, hk, rfl, hown, hLk, hok, hch⟩ := hrel
      clear g1
      replace hLk := Lib.hid hLk
      by_cases hlt : (k : Int) < n + m + 1
      · go_wp2_with (at_builtin; refine wpList_append_sl _ rfl (.tmp 45) (.tmp 49) 47 52 3 32 rfl el_col w.heap.size _ L.length (L.flatMap colc) rfl (hown.alloc _) _ 1 (colc ⟨s ++ [120], 0, false⟩) rfl (Sl.lit _ _ _ 1 (by decide)) rfl (by intro u hu; exact colc_one [⟨s ++ [120], 0, false⟩] u (by simpa using hu)) (by have := hLk.out; unfold big; omega) (by simp; have := hch.size; omega) ?_)
        intro v3 w3 o3 hg3
        have hch3 : Chg [] w w3 := (hch.t0 (Chg.alloc [] wr _)).grownOwn hg3 (hown.alloc _) (Nat.le_refl _)
        replace o3 : w3.ownsRow w.heap.size 52 3 v3 (L ++ [(⟨s ++ [120], 0, false⟩ : Col)]).length ((L ++ [(⟨s ++ [120], 0, false⟩ : Col)]).flatMap colc) := by
          rw [List.length_append, List.flatMap_append]
          simpa using o3
        clear hg3 hown hch
        obtain ⟨bb, hbb⟩ : ∃ bb : UInt8, ((k : Int) + 1) = (bb.toNat : Int) := ⟨UInt8.ofNat (k + 1), by have := hk; simp; omega⟩
        have e8 : IntKind.u8.wrap ((k : Int) + 1) = (bb.toNat : Int) := by rw [hbb, IntKind.wrap_u8]; have := bb.toNat_lt; omega
        have e8' : ((k : Int) + 1) % 256 = (bb.toNat : Int) := by rw [hbb]; have := bb.toNat_lt; omega
        have e64 : IntKind.i64.wrap ((k : Int) + 1) = (k : Int) + 1 := by simp [IntKind.wrap, IntKind.bits, IntKind.signed]; omega
        have x4 : bstr [ch] ++ ({ data := #[0] } : ByteArray) = bstr [ch, 0] := bstr_append _ [0]
        have x10 : bstr [ch, 0] ++ bstr [bb] = bstr [ch, 0, bb] := bstr_append _ _
        have x11 : bstr [ch, 0, bb] ++ ({ data := #[0] } : ByteArray) = bstr [ch, 0, bb, 0] := bstr_append _ [0]
        clear hbb
        have hok3 : Shorts (L ++ [(⟨s ++ [120], 0, false⟩ : Col)]) := by
          intro c hc
          rcases List.mem_append.1 hc with hc | hc
          · exact hok c hc
          · rw [List.mem_singleton.1 hc]; simp; omega
        have hl3 : (L ++ [(⟨s ++ [120], 0, false⟩ : Col)]).length = k + 1 := by rw [List.length_append, hLk.out]; rfl
        generalize L ++ [(⟨s ++ [120], 0, false⟩ : Col)] = M at *
        rw [hl3] at o3
        obtain ⟨hxl, hno⟩ := id o3
        rcases hno with ⟨_, hbad⟩ | ⟨g, cap, cur, e, hbg, hg, hnc, hcm, hcs, htk⟩
        · omega
        cases e
        clear hxl hcs htk hg hok hLk
        replace hl3 := Lib.hid hl3
        have hk1 : (k : Int) < k + 1 := by omega
        go_wp2_with fail
        refine' region_soft 14 [cst (.slice (some ⟨g, 0, none⟩) (k + 1) cap), cst _, cst _, cst (.string (bstr [ch])), cst (.string (bstr [ch, 0])), cst _, cst (.int .i64 ((k : Int) + 1)), cst (.int .u8 (bb.toNat : Int)), fun v w => Sl w v 1 (bcs [bb]), cst (.string (bstr [bb])), cst (.string (bstr [ch, 0, bb])), cst (.string (bstr [ch, 0, bb, 0])), cst (.pointer (some ⟨g, k * 3, none⟩)), cst (.pointer (some ⟨g, k * 3, none⟩))] rfl (by kernel_rfl) (by kernel_rfl) (stays_cons (Stays.cst _) (stays_cons (Stays.cst _) (stays_cons (Stays.cst _) (stays_cons (Stays.cst _) (stays_cons (Stays.cst _) (stays_cons (Stays.cst _) (stays_cons (Stays.cst _) (stays_cons (Stays.cst _) (stays_cons (fun _ _ _ h g => h.tr0 g) (stays_cons (Stays.cst _) (stays_cons (Stays.cst _) (stays_cons (Stays.cst _) (stays_cons (Stays.cst _) (stays_cons (Stays.cst _) stays_nil)))))))))))))) _ (fun V => by simp only [putAll, Act.put, List.take_succ_cons, List.take_zero, List.setIfInBounds_toArray, List.set_cons_zero, List.set_cons_succ, Nat.reduceAdd]; exact rfl) ?hs1 ?ht1
        case hs1 =>
          simp only [List.take_succ_cons, List.take_zero, softs]
          refine ⟨?_, ?_, ?_, ?_, ?_, ?_, ?_, ?_, ?_, ?_, ?_, ?_, ?_, ?_, trivial⟩
          · intro V w hw hd
            simp [phi, Region.binds, cst] at hd
            try simp only [hd]
            first
              | (refine soft_const rfl ?_; go_simp; done)
              | (refine soft_const rfl ?_; go_simp; exact rfl)
              | (refine soft_str rfl _ _ _ rfl _ rfl _ Try.underlying22 Try.underlying5 Try.underlying9 _ _ ?_ rfl; exact hd)
              | (exact soft_skip rfl)
          · intro V w hw hd
            simp [phi, Region.binds, cst] at hd
            try simp only [hd]
            first
              | (refine soft_const rfl ?_; go_simp; done)
              | (refine soft_const rfl ?_; go_simp; exact rfl)
              | (refine soft_str rfl _ _ _ rfl _ rfl _ Try.underlying22 Try.underlying5 Try.underlying9 _ _ ?_ rfl; exact hd)
              | (exact soft_skip rfl)
          · intro V w hw hd
            simp [phi, Region.binds, cst] at hd
            try simp only [hd]
            first
              | (refine soft_const rfl ?_; go_simp; done)
              | (refine soft_const rfl ?_; go_simp; exact rfl)
              | (refine soft_str rfl _ _ _ rfl _ rfl _ Try.underlying22 Try.underlying5 Try.underlying9 _ _ ?_ rfl; exact hd)
              | (exact soft_skip rfl)
          · intro V w hw hd
            simp [phi, Region.binds, cst] at hd
            try simp only [hd]
            first
              | (refine soft_const rfl ?_; go_simp; done)
              | (refine soft_const rfl ?_; go_simp; exact rfl)
              | (refine soft_str rfl _ _ _ rfl _ rfl _ Try.underlying22 Try.underlying5 Try.underlying9 _ _ ?_ rfl; exact hd)
              | (exact soft_skip rfl)
          · intro V w hw hd
            simp [phi, Region.binds, cst] at hd
            try simp only [hd]
            first
              | (refine soft_const rfl ?_; go_simp; done)
              | (refine soft_const rfl ?_; go_simp; exact rfl)
              | (refine soft_str rfl _ _ _ rfl _ rfl _ Try.underlying22 Try.underlying5 Try.underlying9 _ _ ?_ rfl; exact hd)
              | (exact soft_skip rfl)
          · intro V w hw hd
            simp [phi, Region.binds, cst] at hd
            try simp only [hd]
            first
              | (refine soft_const rfl ?_; go_simp; done)
              | (refine soft_const rfl ?_; go_simp; exact rfl)
              | (refine soft_str rfl _ _ _ rfl _ rfl _ Try.underlying22 Try.underlying5 Try.underlying9 _ _ ?_ rfl; exact hd)
              | (exact soft_skip rfl)
          · intro V w hw hd
            simp [phi, Region.binds, cst] at hd
            try simp only [hd]
            first
              | (refine soft_const rfl ?_; go_simp; done)
              | (refine soft_const rfl ?_; go_simp; exact rfl)
              | (refine soft_str rfl _ _ _ rfl _ rfl _ Try.underlying22 Try.underlying5 Try.underlying9 _ _ ?_ rfl; exact hd)
              | (exact soft_skip rfl)
          · intro V w hw hd
            simp [phi, Region.binds, cst] at hd
            try simp only [hd]
            first
              | (refine soft_const rfl ?_; go_simp; done)
              | (refine soft_const rfl ?_; go_simp; exact rfl)
              | (refine soft_str rfl _ _ _ rfl _ rfl _ Try.underlying22 Try.underlying5 Try.underlying9 _ _ ?_ rfl; exact hd)
              | (exact soft_skip rfl)
          · intro V w hw hd
            simp [phi, Region.binds, cst] at hd
            try simp only [hd]
            (refine soft_made (w' := w.alloc (.cells #[.int .u8 (bb.toNat : Int)] 5)) (v := .slice (some ⟨w.heap.size, 0, none⟩) 1 1) rfl ?_ (Chg.alloc _ _ _) (Sl.byteNew _ _ _ _ rfl); go_simp)
          · intro V w hw hd
            simp [phi, Region.binds, cst] at hd
            try simp only [hd]
            first
              | (refine soft_const rfl ?_; go_simp; done)
              | (refine soft_const rfl ?_; go_simp; exact rfl)
              | (refine soft_str rfl _ _ _ rfl _ rfl _ Try.underlying22 Try.underlying5 Try.underlying9 _ _ ?_ rfl; exact hd)
              | (exact soft_skip rfl)
          · intro V w hw hd
            simp [phi, Region.binds, cst] at hd
            try simp only [hd]
            first
              | (refine soft_const rfl ?_; go_simp; done)
              | (refine soft_const rfl ?_; go_simp; exact rfl)
              | (refine soft_str rfl _ _ _ rfl _ rfl _ Try.underlying22 Try.underlying5 Try.underlying9 _ _ ?_ rfl; exact hd)
              | (exact soft_skip rfl)
          · intro V w hw hd
            simp [phi, Region.binds, cst] at hd
            try simp only [hd]
            first
              | (refine soft_const rfl ?_; go_simp; done)
              | (refine soft_const rfl ?_; go_simp; exact rfl)
              | (refine soft_str rfl _ _ _ rfl _ rfl _ Try.underlying22 Try.underlying5 Try.underlying9 _ _ ?_ rfl; exact hd)
              | (exact soft_skip rfl)
          · intro V w hw hd
            simp [phi, Region.binds, cst] at hd
            try simp only [hd]
            first
              | (refine soft_const rfl ?_; go_simp; done)
              | (refine soft_const rfl ?_; go_simp; exact rfl)
              | (refine soft_str rfl _ _ _ rfl _ rfl _ Try.underlying22 Try.underlying5 Try.underlying9 _ _ ?_ rfl; exact hd)
              | (exact soft_skip rfl)
          · intro V w hw hd
            simp [phi, Region.binds, cst] at hd
            try simp only [hd]
            first
              | (refine soft_const rfl ?_; go_simp; done)
              | (refine soft_const rfl ?_; go_simp; exact rfl)
              | (refine soft_str rfl _ _ _ rfl _ rfl _ Try.underlying22 Try.underlying5 Try.underlying9 _ _ ?_ rfl; exact hd)
              | (exact soft_skip rfl)
        intro V w4 g4 hk4
        have h11 := hk4 11 (by decide)
        have h13 := hk4 13 (by decide)
        simp [phi, cst] at h11 h13
        simp only [h11, h13, List.drop_succ_cons, List.drop_zero]
        clear hk4 h11 h13
        generalize V 0 = q0
        generalize V 1 = q1
        generalize V 2 = q2
        generalize V 3 = q3
        generalize V 4 = q4
        generalize V 5 = q5
        generalize V 6 = q6
        generalize V 7 = q7
        generalize V 8 = q8
        generalize V 9 = q9
        generalize V 10 = q10
        generalize V 12 = q12
        clear V
        have o4 := own_tr o3 g4 (by simp)
        have hst := o4.stored (k * 3) (.string (bstr [ch, 0, bb, 0]))
        have hMk : k < M.length := by rw [hl3.out]; omega
        have hcell := o4.cellAt (k * 3) (by omega)
        have hfr := o4.frozenAt (k * 3)
        have hget : (M.flatMap colc)[k * 3]? = some (.string (bstr M[k].name)) := by
          have h := flat_at colc 3 M (fun _ _ => rfl) k 0 hMk (by decide)
          rw [Nat.add_zero] at h
          rw [h]; rfl
        rw [hget] at hcell
        rw [colc_set M k hMk] at hst
        have hok4 : Shorts (M.set k ⟨[ch, 0, bb, 0], M[k].typ, M[k].null⟩) := by
          intro c hc
          rcases List.mem_or_eq_of_mem_set hc with hc | rfl
          · exact hok3 c hc
          · exact ⟨by simp, (hok3 _ (List.getElem_mem hMk)).2⟩
        have hch4 := hch3.t0 g4
        clear hget o3 o4 hok3 g4 hch3
        have hl4 : (M.set k ⟨[ch, 0, bb, 0], M[k].typ, M[k].null⟩).length = k + 1 := by rw [List.length_set, hl3.out]
        generalize M.set k ⟨[ch, 0, bb, 0], M[k].typ, M[k].null⟩ = M' at *
        clear hl3
        replace hl4 := Lib.hid hl4
        have hbw : w.heap.size ≤ g := hbg
        go_wp2
        go_roundw
        case rel => exact ⟨k + 1, M', by omega, by go_num, by rw [hl4.out]; exact hst.1, hl4.out, hok4, hch4.trans (Chg.grown hst.2) (by simp; omega)⟩
        case measure => simp [intOf]; omega
      · have hkm : (L.length : Int) = n + m + 1 := by have := hLk.out; omega
        obtain ⟨N, rfl⟩ : ∃ N : Nat, n = (N : Int) := ⟨n.toNat, by omega⟩
        have hNL : N < L.length := by omega
        have hL41 : L.length ≤ 41 := by omega
        have hkL : (k : Int) = L.length := by rw [hLk.out]
        rw [hkL] at hlt ⊢
        clear hLk hkL hk x3 hs1 k
        obtain ⟨hxl, hno⟩ := id hown
        rcases hno with ⟨_, hbad⟩ | ⟨g, cap, cur, e, hbg, hg, hnc, hcm, hcs, htk⟩
        · omega
        cases e
        clear hxl hcs htk hg
        have hst := hown.stored (N * 3) (.string (bstr s))
        have hcell := hown.cellAt (N * 3) (by omega)
        have hfr := hown.frozenAt (N * 3)
        have hget : (L.flatMap colc)[N * 3]? = some (.string (bstr L[N].name)) := by
          have h := flat_at colc 3 L (fun _ _ => rfl) N 0 hNL (by decide)
          rw [Nat.add_zero] at h
          rw [h]; rfl
        rw [hget] at hcell
        rw [colc_set L N hNL] at hst
        have hok4 : Shorts (L.set N ⟨s, L[N].typ, L[N].null⟩) := by
          intro c hc
          rcases List.mem_or_eq_of_mem_set hc with hc | rfl
          · exact hok c hc
          · exact ⟨by simp; omega, (hok _ (List.getElem_mem hNL)).2⟩
        have hmem : s ∈ (L.set N ⟨s, L[N].typ, L[N].null⟩).map (·.name) := List.mem_map.2 ⟨⟨s, L[N].typ, L[N].null⟩, List.mem_set hNL _, rfl⟩
        have hl4 : (L.set N ⟨s, L[N].typ, L[N].null⟩).length = L.length := List.length_set
        have hch4 : Chg [] w (wr.setCell ⟨g, N * 3, none⟩ (.string (bstr s))) := hch.trans (Chg.grown hst.2) (by simp; omega)
        have own4 := hst.1
        have hNL' : (N : Int) < L.length := by omega
        clear hget hok hch
        rw [← hl4] at own4
        have hw4 : wr.heap.size ≤ (wr.setCell ⟨g, N * 3, none⟩ (.string (bstr s))).heap.size := by simp
        generalize L.set N ⟨s, L[N].typ, L[N].null⟩ = M at *
        have hM41 : M.length ≤ maxLen := by unfold maxLen; omega
        have hMw := hok4.wide
        have hB0 : ([] : List UInt8).length + 10000 ≤ big := by simp [big]
        replace hl4 := Lib.hid hl4
        clear hst hown
        go_wp2_with fail
        rw [← hl4.out]
        generalize wr.setCell ⟨g, N * 3, none⟩ (.string (bstr s)) = w4 at *
        refine (sput_ok w4 _ _ [] M hMw (Sl.nil _) (Sl.ofOwns own4) hB0 hM41).mono ?_
        rintro e w5 ⟨v5, rfl, o5, g5⟩
        have s5 := (Sl.ofOwns own4).tr0 g5
        have g05 := hch4.t0 g5
        obtain ⟨X, hX⟩ : ∃ X, X = if colsV M = 0 then [] ++ putB M else [] := ⟨_, rfl⟩
        rw [← hX] at o5
        replace hX := Lib.hid hX
        obtain ⟨a5, k5, rfl⟩ := own_shape o5
        clear own4 hch4 g5 o5
        have hg5 := s5.lt
        have hw5 := g05.size
        go_wp2_with (at_builtin; refine wpList_append_sl _ rfl (.tmp 72) (.tmp 73) 47 52 3 32 rfl el_col w5.heap.size _ 0 [] rfl (own_lit w5 #[] 52 0 3 _ (Nat.le_refl _) (Nat.zero_le _) rfl) _ M.length (M.flatMap colc) rfl (s5.tr0 (Chg.alloc _ _ _)) (colc_length M) (colc_one M) (by have := hl4.out; unfold big; omega) (by simp) ?_)
        intro v6 w6 o6 hg6
        have g56 : Chg [] w5 w6 := (Chg.alloc [] w5 _).trans (Chg.grown hg6) (by simp [Value.ownBlock])
        try simp only [Nat.zero_add, List.nil_append] at o6
        clear hg6
        have hw6 := g56.size
        go_wp2_with (at_builtin; refine wpList_append_sl _ rfl (.tmp 74) (.tmp 77) 47 52 3 32 rfl el_col w5.heap.size _ M.length (M.flatMap colc) rfl (o6.alloc _) _ 1 (colc ⟨s, 2, false⟩) rfl (Sl.lit _ _ _ 1 (by decide)) rfl (by intro u hu; exact colc_one [⟨s, 2, false⟩] u (by simpa using hu)) (by have := hl4.out; unfold big; omega) (by simp; omega) ?_)
        intro v7 w7 o7 hg7
        have s7 : Sl w7 v7 (M ++ [(⟨s, 2, false⟩ : Col)]).length ((M ++ [(⟨s, 2, false⟩ : Col)]).flatMap colc) := by
          rw [List.length_append, List.flatMap_append]
          simpa using Sl.ofOwns o7
        have g57 : Chg [] w5 w7 := (g56.t0 (Chg.alloc [] w6 _)).grownOwn hg7 (o6.alloc _) (Nat.le_refl _)
        have m7 := s5.tr0 g57
        have g07 := g05.t0 g57
        clear o7 hg7 o6 g56 g57 s5 g05
        have hdup : ¬ colsV (M ++ [(⟨s, 2, false⟩ : Col)]) = 0 := colsV_dup hmem
        have hM2w : ∀ c ∈ M ++ [(⟨s, 2, false⟩ : Col)], c.name.length ≤ maxLen ∧ -9223372036854775808 ≤ c.typ ∧ c.typ ≤ 9223372036854775807 := by
          intro c hc
          rcases List.mem_append.1 hc with hc | hc
          · exact hMw c hc
          · rw [List.mem_singleton.1 hc]; unfold maxLen; simp; omega
        have hM2l : (M ++ [(⟨s, 2, false⟩ : Col)]).length ≤ maxLen := by rw [List.length_append]; have := hl4.out; simp [maxLen]; omega
        generalize M ++ [(⟨s, 2, false⟩ : Col)] = M2 at *
        clear hmem
        go_wp2_with fail
        refine (sput_ok w7 _ _ [] M2 hM2w (Sl.nil _) s7 hB0 hM2l).mono ?_
        rintro e w8 ⟨v8, rfl, o8, g8⟩
        rw [if_neg hdup] at o8
        obtain ⟨a8, k8, rfl⟩ := own_shape o8
        have m8 := m7.tr0 g8
        have g08 := g07.t0 g8
        clear o8 m7 g07 g8 s7 hM2w hM2l hdup
        go_wp2_with fail
        refine (cols_ok w8 _ M hMw m8 hM41).mono ?_
        rintro e w9 ⟨rfl, g9⟩
        have g09 := g08.t0 g9
        clear m8 hMw
        by_cases hv : colsV M = 0
        · have hX := hX.out
          rw [if_pos hv] at hX
          rw [hv]
          have hpos : (0 : Int) < X.length := by
            have := vsize_pos M.length
            unfold vsize at this
            rw [hX]
            simp only [putB, List.nil_append, List.length_append]
            omega
          clear hX hv
          go_wp2
          go_ret
          exact ⟨rfl, g09⟩
        · have hX := hX.out
          rw [if_neg hv] at hX
          subst hX
          generalize colsV M = V at *
          have hne : (V != 0) = true := by simpa using hv
          go_wp2
          go_ret
          exact ⟨rfl, g09⟩

theorem schemaTwice_run (W : World) (s : ByteArray) (n m : Int) (hs : s.size ≤ 140737488351232) (hn : (Lit.int .i64 n).wf = true) (hm : (Lit.int .i64 m).wf = true) :
    Calls Try.prog 10 #[.string s, .int .i64 n, .int .i64 m] W fun e w' => e = .returned (.bool true) ∧ Chg [] W w' := by
  have h := twice_walk W s.data.toList n m (by have h : s.data.toList.length = s.size := Array.length_toList; omega)
  rwa [bstr_data] at h
end Go.Proofs.Ytllidfhdklfkmaa
