/-
  The reference's words.
-/
import Derived.Test.YtgepfmofignmfaaProg
import Derived.Test.YtgepfmofignmfaaSha4
import Derived.Test.YtgepfmofignmfaaShaSpec
namespace Go.Proofs.Ytgepfmofignmfaa
set_option linter.unusedSimpArgs false
set_option linter.unusedVariables false
open Go.RowKit

theorem right_ok (w : World) (x : W32) (n : Nat) (h0 : 0 < n) (h : n < 32) (m : Int) (hm : m = (n : Int)) :
    Calls Try.prog 76 #[.int .u32 (iw x), .int .u64 m] w fun e w' => e = .returned (.int .u32 (iw (rr x n))) ∧ w' = w := by
  subst hm
  have e1 := iw_shr x n
  have e2 := iw_shl x (32 - n)
  have e3 := iw_add (x >>> n) (x <<< (32 - n))
  have e4 : (32 : Int) - (n : Int) = ((32 - n : Nat) : Int) := by omega
  have e5 : ((32 : Int) - (n : Int)) % 18446744073709551616 = ((32 - n : Nat) : Int) := by omega
  go_enter Try.func76, Try.ntmps76
  go_wp2_with fail
  go_ret
  rw [← rr_add x n h0 h]
  exact ⟨rfl, rfl⟩

theorem right_q (w : World) (x : W32) (m : Int) (h0 : 0 < m) (h : m < 32) :
    Calls Try.prog 76 #[.int .u32 (iw x), .int .u64 m] w fun e w' => e = .returned (.int .u32 (iw (rr x m.toNat))) ∧ w' = w :=
  right_ok w x m.toNat (by omega) (by omega) m (by omega)
/-- A row of bytes at a block. -/
def Bat (w : World) (p : Nat) (l : List UInt8) : Prop := ∃ t, w.heap[p]? = some (.cells (bcs l).toArray t (0, 0))
theorem Bat.cell {w : World} {p : Nat} {l : List UInt8} (h : Bat w p l) (j : Nat) (hj : j < l.length) : w.cell? ⟨p, j, none⟩ = some (.int .u8 (iw (bw8 (l.getD j 0)))) := by
  obtain ⟨t, h⟩ := h
  rw [cell_of_row w p j _ _ _ h, List.getElem?_toArray, bcs_get l j hj, iw_bw8]
  simp [List.getD, hj]
theorem Bat.tr {w w' : World} {S : List Nat} {p : Nat} {l : List UInt8} (h : Bat w p l) (hc : Chg S w w') (hn : p ∉ S) : Bat w' p l := by
  obtain ⟨t, h⟩ := h
  exact ⟨t, hc.heap h hn⟩

theorem words_ok (w : World) (b : List UInt8) (hb : b.length = 64) :
    Calls Try.prog 75 #[.agg (bcs b).toArray] w fun e w' => e = .returned (aw (ext b 64)) ∧ Chg [] w w' := by
  have hB : Bat (w.alloc (.cells (bcs b).toArray 75)) w.heap.size b := ⟨_, heap_alloc_new _ _⟩
  obtain ⟨z, hz, hcz⟩ : ∃ z, Hid (z = List.replicate 64 0#32) ∧ Hid ((Value.agg (Array.replicate 64 (Value.int .u32 0))).cells = (wcs z).toArray) := ⟨_, rfl, by rfl⟩
  go_enter Try.func75, Try.ntmps75
  go_wp2_with (refine wpList_alloc_z (by rfl) 95 (by rfl) (.agg (Array.replicate 64 (Value.int .u32 0))) (by kernel_rfl) ?_; rw [hcz.out])
  have h1 : Bat (((w.alloc (.cells (bcs b).toArray 75)).alloc (.cells (wcs z).toArray 95)).alloc (.cells (wcs z).toArray 95)) w.heap.size b :=
    (hB.tr (Chg.alloc [] _ _) (by simp)).tr (Chg.alloc [] _ _) (by simp)
  have h2 : Wat (((w.alloc (.cells (bcs b).toArray 75)).alloc (.cells (wcs z).toArray 95)).alloc (.cells (wcs z).toArray 95)) (w.heap.size + 1) z := by
    have h : Wat ((w.alloc (.cells (bcs b).toArray 75)).alloc (.cells (wcs z).toArray 95)) (w.heap.size + 1) z := ⟨_, by have := heap_alloc_new (w.alloc (.cells (bcs b).toArray 75)) (.cells (wcs z).toArray 95); rwa [World.size_alloc] at this⟩
    exact h.tr (Chg.alloc [] _ _) (by simp)
  have h3 : Wat (((w.alloc (.cells (bcs b).toArray 75)).alloc (.cells (wcs z).toArray 95)).alloc (.cells (wcs z).toArray 95)) (w.heap.size + 1 + 1) (part b 0 0 64) :=
    ⟨_, by rw [part_zero, ← hz.out]; have := heap_alloc_new ((w.alloc (.cells (bcs b).toArray 75)).alloc (.cells (wcs z).toArray 95)) (.cells (wcs z).toArray 95); rwa [World.size_alloc, World.size_alloc] at this⟩
  have h4 : Chg [] w (((w.alloc (.cells (bcs b).toArray 75)).alloc (.cells (wcs z).toArray 95)).alloc (.cells (wcs z).toArray 95)) :=
    ((Chg.alloc [] _ _).t0 (Chg.alloc [] _ _)).t0 (Chg.alloc [] _ _)
  generalize ((w.alloc (.cells (bcs b).toArray 75)).alloc (.cells (wcs z).toArray 95)).alloc (.cells (wcs z).toArray 95) = W at *
  clear hB
  obtain ⟨p1, hp1, e1⟩ : ∃ p, w.heap.size ≤ p ∧ w.heap.size = p := ⟨_, Nat.le_refl _, rfl⟩
  obtain ⟨p2, hp2, e2⟩ : ∃ p, w.heap.size ≤ p ∧ w.heap.size + 1 = p := ⟨_, by omega, rfl⟩
  obtain ⟨p3, hp3, e3⟩ : ∃ p, w.heap.size ≤ p ∧ w.heap.size + 1 + 1 = p := ⟨_, by omega, rfl⟩
  have n12 : p1 ≠ p2 := by omega
  have n13 : p1 ≠ p3 := by omega
  have n23 : p2 ≠ p3 := by omega
  rw [e3, e2, e1]
  rw [e1] at h1; rw [e2] at h2; rw [e3] at h3
  clear e1 e2 e3
  go_loopw [4] (fun iv wr => ∃ k : Nat, k ≤ 16 ∧ iv = .int .i64 k ∧ Wat wr p3 (part b k 0 64) ∧ Wat wr p2 z ∧ Bat wr p1 b ∧ Chg [] w wr) (fun iv _ => 16 - (intOf iv).toNat)
  case atStart => exact ⟨0, Nat.zero_le _, rfl, h3, h2, h1, h4⟩
  case round =>
    obtain ⟨k, hk, rfl, h3, h2, h1, h4⟩ := hrel
    by_cases hlt : k < 16
    · go_wp2_with fail
      obtain ⟨wo, rfl⟩ : ∃ wo : World, wo = wr := ⟨_, rfl⟩
      generalize decide ((k : Int) < 16) = vb
      go_loopw [5] (fun iv wr => ∃ i : Nat, i ≤ 4 ∧ iv = .int .i64 i ∧ Wat wr p3 (part b k i 64) ∧ Wat wr p2 z ∧ Bat wr p1 b ∧ Chg [] w wr) (fun iv _ => 4 - (intOf iv).toNat)
      case atStart => exact ⟨0, Nat.zero_le _, rfl, h3, h2, h1, h4⟩
      case round =>
        obtain ⟨i, hi, rfl, h3, h2, h1, h4⟩ := hrel
        by_cases hit : i < 4
        · have c3 := h3.cell k (by rw [part_length]; omega)
          rw [part_at b k i 64 (by omega)] at c3
          have f3 := h3.frozen k
          have hset := fun m => (h3.drewN m).set k (256#32 * pw b k i + bw8 (b.getD (4 * k + i) 0))
          rw [part_set] at hset
          obtain ⟨j, ej, g1, g2, hj⟩ : ∃ j : Nat, 4 * k + i = j ∧ (4 : Int) * k + i = j ∧ IntKind.i64.wrap (j : Int) = j ∧ j < 64 := ⟨4 * k + i, rfl, by omega, IntWalk.i64_in _ (by omega), by omega⟩
          rw [ej] at hset
          have c1 := h1.cell j (by omega)
          generalize b.getD j 0 = c at *
          generalize pw b k i = x at *
          go_wp2_with fail
          have m1 := iw_mulw 256#32 x
          have m2 := iw_addw (256#32 * x) (bw8 c)
          have m3 : iw 256#32 = 256 := by rfl
          rw [m3] at m1
          clear m3
          have m4 : IntKind.u32.wrap (iw (bw8 c)) = iw (bw8 c) := IntWalk.u32_in _ (by have := iw_lt (bw8 c); omega)
          have m5 : IntKind.i64.wrap ((4 : Int) * k) = 4 * k := IntWalk.i64_in _ (by omega)
          have qk : (k : Int) < 64 := by omega
          have qj : (j : Int) < 64 := by omega
          refine region_quiet_tail 14 (by kernel_rfl) (by kernel_rfl) ?_
          simp only [List.take_succ_cons, List.take_zero, List.drop_succ_cons, List.drop_zero]
          repeat (quiet_step (fail))
          refine wpQuiet_nil ?_
          intro m
          go_wp2_with fail
          go_roundw
          case rel => exact ⟨i + 1, by omega, by go_num, hset m, (h2.drewN m).tr (Chg.setCell _ ⟨p3, k, none⟩ _) (by simp [n23]), (h1.tr (Chg.drewN [] wr m) (by simp)).tr (Chg.setCell _ ⟨p3, k, none⟩ _) (by simp [n13]), (h4.t0 (Chg.drewN _ wr m)).tn (Chg.setCell _ ⟨p3, k, none⟩ _) hp3⟩
          case measure => simp [intOf]; omega
        · obtain rfl : i = 4 := by omega
          rw [part_next] at h3
          go_wp2_with fail
          go_roundw
          case rel => exact ⟨k + 1, by omega, by go_num, h3, h2, h1, h4⟩
          case measure => simp [intOf]; omega
    · have hk16 : k = 16 := by omega
      rw [hk16, part_ext] at h3
      clear hk16
      go_wp2_with fail
      generalize decide ((k : Int) < 16) = vb
      obtain ⟨wo, rfl⟩ : ∃ wo : World, wo = wr := ⟨_, rfl⟩
      go_loopw [6] (fun iv wr => ∃ t : Nat, 16 ≤ t ∧ t ≤ 64 ∧ iv = .int .i64 t ∧ Wat wr p3 (ext b t) ∧ Wat wr p2 z ∧ Chg [] w wr) (fun iv _ => 64 - (intOf iv).toNat)
      case atStart => exact ⟨16, by omega, by omega, rfl, h3, h2, h4⟩
      case round =>
        obtain ⟨t, ht, ht', rfl, h3, h2, h4⟩ := hrel
        by_cases hit : t < 64
        · have c15 := h3.cell (t - 15) (by rw [ext_length]; omega)
          have c2 := h3.cell (t - 2) (by rw [ext_length]; omega)
          have c16 := h3.cell (t - 16) (by rw [ext_length]; omega)
          have c7 := h3.cell (t - 7) (by rw [ext_length]; omega)
          rw [ext_get b t _ (by omega) (by omega)] at c15 c2 c16 c7
          have f3 := h3.frozen t
          have c3 := h3.cell t (by rw [ext_length]; omega)
          generalize (ext b t).getD t 0#32 = x0 at c3
          have hset := fun m => (h3.drewN m).set t (wAt b t)
          rw [ext_set, wAt_hi b t ht] at hset
          generalize wAt b (t - 15) = x15 at *
          generalize wAt b (t - 2) = x2 at *
          generalize wAt b (t - 16) = x16 at *
          generalize wAt b (t - 7) = x7 at *
          have e1 := iw_xor (rr x15 7) (rr x15 18)
          have e2 : iw x15 / (8 : Int) = iw (x15 >>> 3) := iw_shr x15 3
          have e3 : bits .xor .u32 (iw (rr x15 7 ^^^ rr x15 18)) (iw (x15 >>> 3)) = iw (mixed3 x15 7 18 3) := iw_xor _ _
          have e4 := iw_xor (rr x2 17) (rr x2 19)
          have e5 : iw x2 / (1024 : Int) = iw (x2 >>> 10) := iw_shr x2 10
          have e6 : bits .xor .u32 (iw (rr x2 17 ^^^ rr x2 19)) (iw (x2 >>> 10)) = iw (mixed3 x2 17 19 10) := iw_xor _ _
          have a1 := iw_addw x16 (mixed3 x15 7 18 3)
          have a2 := iw_addw (x16 + mixed3 x15 7 18 3) x7
          have a3 := iw_addw (x16 + mixed3 x15 7 18 3 + x7) (mixed3 x2 17 19 10)
          have q1 : IntKind.i64.wrap ((t : Int) - 16) = ((t - 16 : Nat) : Int) := by rw [IntWalk.i64_in _ (by omega)]; omega
          have q2 : IntKind.i64.wrap ((t : Int) - 7) = ((t - 7 : Nat) : Int) := by rw [IntWalk.i64_in _ (by omega)]; omega
          have q3 : ((t - 16 : Nat) : Int) < 64 := by omega
          have q4 : ((t - 7 : Nat) : Int) < 64 := by omega
          have q5 : (t : Int) < 64 := by omega
          go_wp2_with (go_at_call 76; refine (right_q _ _ _ (by omega) (by omega)).mono ?_; rintro e w' ⟨rfl, rfl⟩)
          refine region_quiet_tail 15 (by kernel_rfl) (by kernel_rfl) ?_
          simp only [List.take_succ_cons, List.take_zero, List.drop_succ_cons, List.drop_zero]
          repeat (quiet_step (fail))
          refine wpQuiet_nil ?_
          intro m
          go_wp2_with fail
          go_roundw
          case rel => exact ⟨t + 1, by omega, by omega, by go_num, hset m, (h2.drewN m).tr (Chg.setCell _ ⟨p3, t, none⟩ _) (by simp [n23]), (h4.t0 (Chg.drewN _ _ m)).tn (Chg.setCell _ ⟨p3, t, none⟩ _) hp3⟩
          case measure => simp [intOf]; omega
        · have h64 : t = 64 := by omega
          rw [h64] at h3
          clear h64
          obtain ⟨t3, h3⟩ := h3
          obtain ⟨t2, h2⟩ := h2
          have hs3 : (wcs (ext b 64)).toArray.size = 64 := by simp [wcs, ext]
          have hs2 : (wcs z).toArray.size = 64 := by simp [wcs, hz.out]
          have hall := wcs_all (ext b 64)
          have h2' := setRow_heap wr p2 (wcs z).toArray (wcs (ext b 64)).toArray t2 _ h2
          have h4' : Chg [] w (wr.setRow p2 (wcs (ext b 64)).toArray) := h4.tn ⟨rfl, rfl, rfl, by simp, fun k _ hk => setRow_other wr p2 k _ (fun e => hk (by simp [e]))⟩ hp2
          have haw : Hid (aw (ext b 64) = .agg (wcs (ext b 64)).toArray) := rfl
          generalize (wcs (ext b 64)).toArray = K at *
          generalize (wcs z).toArray = Z at *
          go_wp2_with (first
            | (refine wpList_load_row (by rfl) 95 (.tmp 3) (by rfl) p3 (by rfl) t3 K (0, 0) _ h3 Try.underlying95 rfl (by rw [hs3]; kernel_rfl) ?_)
            | (refine wpList_store_row (by rfl) 95 (.tmp 2) (.tmp 76) (by rfl) p2 K (by rfl) (by rfl) t2 Z h2 (by rw [hs3]; kernel_rfl) (by rw [hs3, hs2]) hall ?_))
          exact ret_array 2 95 (by rfl) 64 71 Try.underlying95 (by kernel_rfl) rfl p2 (by rfl) _ _ h2' hs3 ⟨by rw [haw.out], h4'⟩
end Go.Proofs.Ytgepfmofignmfaa
