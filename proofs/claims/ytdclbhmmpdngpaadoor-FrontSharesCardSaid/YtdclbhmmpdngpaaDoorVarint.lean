/-
  The contracts of package varint's functions, and of the document's own (hypostyleref04).
-/
import Derived.Test.YtdclbhmmpdngpaaDoorVarPure
import Derived.Test.YtdclbhmmpdngpaaDoorGrow
import Derived.Test.YtdclbhmmpdngpaaDoorLen64
import Derived.Test.YtdclbhmmpdngpaaDoorScope2
import Derived.Test.YtdclbhmmpdngpaaDoorRef03
import Derived.Lib.Hide
import Derived.Laws.DeepNot64
import Derived.Laws.Bits64
namespace Go.Proofs.YtdclbhmmpdngpaaDoor
set_option linter.unusedSimpArgs false
set_option linter.unusedVariables false
open Go.RowKit

theorem Sl.byteNew (w : World) (e : TypeId) (x : Int) (b : UInt8) (h : x = (b.toNat : Int)) : Sl (w.alloc (.cells #[.int .u8 x] e)) (.slice (some ⟨w.heap.size, 0, none⟩) 1 1) 1 (bcs [b]) := by
  subst h; exact Sl.lit _ _ _ 1 (by decide)

theorem vsize_ok (w : World) (n : Nat) (hn : n < 2 ^ 64) :
    Calls Tryd.prog 34 #[.int .u64 n] w fun e w' => e = .returned (.int .i64 (vsize n : Int)) ∧ w = w' := by
  have hb : bits .or .u64 (n : Int) 1 = ((n ||| 1 : Nat) : Int) := or_u64 n 1 hn (by decide)
  have hs := size_len n hn
  have hB := Lib.bitLen_le (n ||| 1) 64 (by decide) (Nat.or_lt_two_pow hn (by decide))
  go_enter Tryd.func34, Tryd.ntmps34
  go_wp2_with fail
  try rw [hb]
  refine (len64_ok w (n ||| 1) (Nat.or_lt_two_pow hn (by decide))).mono ?_
  rintro e w1 ⟨rfl, rfl⟩
  generalize Lib.bitLen (n ||| 1) = B at *
  go_wp2
  go_ret
  refine ⟨congrArg Ending.returned (congrArg (Value.int IntKind.i64) ?_), rfl⟩
  omega

set_option maxRecDepth 20000 in
theorem u8_more (n : Nat) : bits .or .u8 ((n : Int) % 256) 128 = (((UInt8.ofNat (n % 128 + 128)).toNat : Nat) : Int) := by
  have h : ∀ x : Fin 256, (x : Nat) ||| 128 = x % 128 + 128 := by decide
  have h1 := (bits_nat .u8 8 (by decide) (fun a b c => IntWalk.u8_in a ⟨b, by omega⟩) (n % 256) 128 (by omega) (by decide)).2
  rw [Int.natCast_emod] at h1
  have h2 := h ⟨n % 256, Nat.mod_lt _ (by decide)⟩
  dsimp only at h2
  rw [show ((256 : Nat) : Int) = 256 by rfl, show ((128 : Nat) : Int) = 128 by rfl] at h1
  rw [h1, h2]
  simp
  omega

set_option maxHeartbeats 2000000 in
set_option maxRecDepth 20000 in
theorem vput_ok (w : World) (v : Value) (l : List UInt8) (n : Nat) (hn : n < 2 ^ 64) (hs : Sl w v l.length (bcs l)) (hb : l.length + 20 ≤ big) :
    Calls Tryd.prog 19 #[v, .int .u64 n] w fun e w' =>
      ∃ v', e = .returned v' ∧ w'.ownsRow w.heap.size 5 1 v' (l.length + vsize n) (bcs (l ++ vput n)) ∧ Chg [] w w' := by
  have hten := vsize_ten hn
  have hbig : l.length ≤ 140737488355308 := by unfold big at hb; omega
  go_enter Tryd.func19, Tryd.ntmps19
  go_wp2_with fail
  refine (clone_ok w _ l hs (by unfold big; omega)).mono ?_
  rintro e w1 ⟨v1, rfl, o1, g1⟩
  go_wp2_with fail
  refine (vsize_ok w1 n hn).mono ?_
  rintro e w1' ⟨rfl, rfl⟩
  go_wp2_with fail
  refine (grow_own w1 w.heap.size v1 l (vsize n) o1 g1.size (by unfold big; omega) (by omega)).mono ?_
  rintro e w2 ⟨v2, rfl, o2, g2⟩
  have hc2 := g1.t0 g2
  clear g1 g2 o1 hs
  go_wp2_with fail
  go_loopw [1, 5] (fun t out wr => ∃ (m : Nat) (c : List UInt8), m < 18446744073709551616 ∧ c ++ vput m = vput n ∧ t = .int .u64 m ∧ wr.ownsRow w.heap.size 5 1 out (l.length + c.length) (bcs (l ++ c)) ∧ Chg [] w wr) (fun t _ _ => (intOf t).toNat)
  case atStart => exact ⟨n, [], hn, rfl, rfl, by simpa using o2, hc2⟩
  case round =>
    obtain ⟨m, c, hm, hc, rfl, hown, hcg⟩ := hrel
    clear o2 hc2
    have hlen := congrArg List.length hc
    rw [List.length_append] at hlen
    change c.length + vsize m = vsize n at hlen
    have hcl : c.length ≤ 10 := by omega
    replace hc := Lib.hid hc
    replace hlen := Lib.hid hlen
    by_cases hl : m < 128
    · go_wp2_with (at_builtin; refine wpList_append_sl _ rfl (.tmp 21) (.tmp 24) 25 5 1 1 rfl el_u8 w.heap.size _ _ _ rfl (hown.alloc _) _ 1 (bcs [UInt8.ofNat m]) rfl (Sl.byteNew _ _ _ _ (by simp; omega)) (by simp [bcs]) (bcs_one _) (by unfold big; omega) (by have := hcg.size; simp; omega) ?_)
      intro v' w' hown' hg'
      have hc' : Chg [] w w' := (hcg.t0 (Chg.alloc [] wr _)).grownOwn hg' (hown.alloc _) (Nat.le_refl _)
      have hx : l.length + c.length + 1 = l.length + vsize n := by have := hlen.out; rw [vsize_short hl] at this; omega
      rw [← bcs_append, List.append_assoc, ← vput_short hl, hc.out, hx] at hown'
      clear hx
      clear hg' hcg hown
      go_wp2
      go_ret
      exact ⟨_, rfl, hown', hc'⟩
    · have e8 := u8_more m
      have hd : c ++ [UInt8.ofNat (m % 128 + 128)] ++ vput (m / 128) = vput n := by
        rw [← hc.out, vput_long hl]; simp
      replace hd := Lib.hid hd
      go_wp2_with (at_builtin; refine wpList_append_sl _ rfl (.tmp 15) (.tmp 19) 25 5 1 1 rfl el_u8 w.heap.size _ _ _ rfl (hown.alloc _) _ 1 (bcs [UInt8.ofNat (m % 128 + 128)]) rfl (Sl.byteNew _ _ _ _ (by simp)) (by simp [bcs]) (bcs_one _) (by unfold big; omega) (by have := hcg.size; simp; omega) ?_)
      intro v' w' hown' hg'
      have hc' : Chg [] w w' := (hcg.t0 (Chg.alloc [] wr _)).grownOwn hg' (hown.alloc _) (Nat.le_refl _)
      rw [← bcs_append, List.append_assoc] at hown'
      clear hg' hcg hown e8
      go_wp2
      go_roundw
      case rel => exact ⟨m / 128, c ++ [UInt8.ofNat (m % 128 + 128)], by omega, hd.out, rfl, by simpa [Nat.add_assoc] using hown', hc'⟩
      case measure => simp only [intOf]; omega

set_option maxHeartbeats 2000000 in
set_option maxRecDepth 20000 in
theorem rput_ok (w : World) (v : Value) (l : List UInt8) (n : Nat) (hn : n < 2 ^ 64) (hs : Sl w v l.length (bcs l)) (hb : l.length + 20 ≤ big) :
    Calls Tryd.prog 22 #[v, .int .u64 n] w fun e w' =>
      ∃ v', e = .returned v' ∧ w'.ownsRow w.heap.size 5 1 v' (l.length + vsize n) (bcs (l ++ vput n)) ∧ Chg [] w w' := by
  have hten := vsize_ten hn
  have hbig : l.length ≤ 140737488355308 := by unfold big at hb; omega
  go_enter Tryd.func22, Tryd.ntmps22
  go_wp2_with (at_builtin; refine wpList_append_sl _ rfl (.tmp 6) (.tmp 7) 25 5 1 1 rfl el_u8 w.heap.size _ 0 [] rfl (own_lit w #[] 5 0 1 _ (Nat.le_refl _) (Nat.zero_le _) rfl) _ l.length (bcs l) rfl (hs.tr0 (Chg.alloc _ _ _)) (by simp [bcs]) (bcs_one l) (by unfold big; omega) (by simp) ?_)
  intro v2 w2 o2 hg2
  have hc2 : Chg [] w w2 := (Chg.alloc [] w _).trans (Chg.grown hg2) (by simp [Value.ownBlock])
  clear hg2 hs
  go_wp2_with fail
  go_loopw [1, 5] (fun t out wr => ∃ (m : Nat) (c : List UInt8), m < 18446744073709551616 ∧ c ++ vput m = vput n ∧ t = .int .u64 m ∧ wr.ownsRow w.heap.size 5 1 out (l.length + c.length) (bcs (l ++ c)) ∧ Chg [] w wr) (fun t _ _ => (intOf t).toNat)
  case atStart => exact ⟨n, [], hn, rfl, rfl, by simpa using o2, hc2⟩
  case round =>
    obtain ⟨m, c, hm, hc, rfl, hown, hcg⟩ := hrel
    clear o2 hc2
    have hlen := congrArg List.length hc
    rw [List.length_append] at hlen
    change c.length + vsize m = vsize n at hlen
    have hcl : c.length ≤ 10 := by omega
    replace hc := Lib.hid hc
    replace hlen := Lib.hid hlen
    by_cases hl : m < 128
    · go_wp2_with (at_builtin; refine wpList_append_sl _ rfl (.tmp 20) (.tmp 23) 25 5 1 1 rfl el_u8 w.heap.size _ _ _ rfl (hown.alloc _) _ 1 (bcs [UInt8.ofNat m]) rfl (Sl.byteNew _ _ _ _ (by simp; omega)) (by simp [bcs]) (bcs_one _) (by unfold big; omega) (by have := hcg.size; simp; omega) ?_)
      intro v' w' hown' hg'
      have hc' : Chg [] w w' := (hcg.t0 (Chg.alloc [] wr _)).grownOwn hg' (hown.alloc _) (Nat.le_refl _)
      have hx : l.length + c.length + 1 = l.length + vsize n := by have := hlen.out; rw [vsize_short hl] at this; omega
      rw [← bcs_append, List.append_assoc, ← vput_short hl, hc.out, hx] at hown'
      clear hx hg' hcg hown
      go_wp2
      go_ret
      exact ⟨_, rfl, hown', hc'⟩
    · have hd : c ++ [UInt8.ofNat (m % 128 + 128)] ++ vput (m / 128) = vput n := by
        rw [← hc.out, vput_long hl]; simp
      replace hd := Lib.hid hd
      go_wp2_with (at_builtin; refine wpList_append_sl _ rfl (.tmp 11) (.tmp 16) 25 5 1 1 rfl el_u8 w.heap.size _ _ _ rfl (hown.alloc _) _ 1 (bcs [UInt8.ofNat (m % 128 + 128)]) rfl (Sl.byteNew _ _ _ _ (by simp; omega)) (by simp [bcs]) (bcs_one _) (by unfold big; omega) (by have := hcg.size; simp; omega) ?_)
      intro v' w' hown' hg'
      have hc' : Chg [] w w' := (hcg.t0 (Chg.alloc [] wr _)).grownOwn hg' (hown.alloc _) (Nat.le_refl _)
      rw [← bcs_append, List.append_assoc] at hown'
      clear hg' hcg hown
      go_wp2
      go_roundw
      case rel => exact ⟨m / 128, c ++ [UInt8.ofNat (m % 128 + 128)], by omega, hd.out, rfl, by simpa [Nat.add_assoc] using hown', hc'⟩
      case measure => simp only [intOf]; omega

def zig (n : Int) : Nat := if 0 ≤ n then (2 * n).toNat else (-2 * n - 1).toNat
def zag (u : Nat) : Int := if u % 2 = 0 then (u / 2 : Nat) else -((u / 2 : Nat) : Int) - 1

theorem xor64_not (a : Nat) (ha : a < 18446744073709551616) : bits .xor .u64 (a : Int) 18446744073709551615 = 18446744073709551615 - (a : Int) := by
  show IntKind.u64.wrap ((BitVec.ofInt 64 (a : Int) ^^^ BitVec.ofInt 64 18446744073709551615).toNat : Int) = _
  have h1 : BitVec.ofInt 64 18446744073709551615 = BitVec.allOnes 64 := by decide
  rw [h1, BitVec.xor_allOnes, BitVec.toNat_not, ofInt_u64 a (by omega)]
  simp [IntKind.wrap, IntKind.bits, IntKind.signed]
  omega
theorem zig_eq (n : Int) (h0 : -9223372036854775808 ≤ n) (h1 : n ≤ 9223372036854775807) : bits .xor .u64 (IntKind.u64.wrap (IntKind.u64.wrap n * 2)) (IntKind.u64.wrap (n / 9223372036854775808)) = (zig n : Nat) := by
  unfold zig
  simp only [IntKind.wrap_u64]
  split
  · have e : n / 9223372036854775808 = 0 := by omega
    obtain ⟨k, rfl⟩ : ∃ k : Nat, n = k := ⟨n.toNat, by omega⟩
    have e2 : ((k : Int) % 18446744073709551616 * 2 % 18446744073709551616) = ((2 * k : Nat) : Int) := by omega
    rw [e, e2, show (0 : Int) % 18446744073709551616 = ((0 : Nat) : Int) by rfl, bits_xor_u64_nat _ _ (by omega) (by omega)]
    simp
    omega
  · have e : n / 9223372036854775808 = -1 := by omega
    have e2 : (n % 18446744073709551616 * 2 % 18446744073709551616) = ((2 * n + 18446744073709551616).toNat : Int) := by omega
    rw [e, e2, show (-1 : Int) % 18446744073709551616 = 18446744073709551615 by decide, xor64_not _ (by omega)]
    omega
theorem zag_eq (u : Nat) (hu : u < 2 ^ 64) : bits .xor .i64 ((u : Int) / 2) (wrap64 (-wrap64 (bits .and .u64 (u : Int) 1))) = zag u := by
  have e1 : bits .and .u64 (u : Int) 1 = ((u % 2 : Nat) : Int) := by
    have := (bits_nat .u64 64 (by decide) wraps_u64 u 1 hu (by decide)).1
    rw [show ((1 : Nat) : Int) = 1 by rfl] at this
    rw [this, Nat.and_one_is_mod]
  have comm : ∀ x y : Int, bits .xor .i64 x y = bits .xor .i64 y x := fun x y => by
    show IntKind.i64.wrap ((BitVec.ofInt 64 x ^^^ BitVec.ofInt 64 y).toNat : Int) = IntKind.i64.wrap ((BitVec.ofInt 64 y ^^^ BitVec.ofInt 64 x).toNat : Int)
    rw [BitVec.xor_comm]
  rw [e1]
  unfold zag
  have hd : ((u : Int) / 2) = ((u / 2 : Nat) : Int) := by omega
  rw [hd]
  split
  · rename_i h
    rw [h, show wrap64 (-wrap64 ((0 : Nat) : Int)) = 0 by unfold wrap64; omega]
    show IntKind.i64.wrap ((BitVec.ofInt 64 ((u / 2 : Nat) : Int) ^^^ BitVec.ofInt 64 0).toNat : Int) = _
    have h1 : BitVec.ofInt 64 0 = 0#64 := by decide
    rw [h1, BitVec.xor_zero, ofInt_u64 _ (by omega)]
    simp [IntKind.wrap, IntKind.bits, IntKind.signed]
    omega
  · rename_i h
    rw [show u % 2 = 1 by omega, show wrap64 (-wrap64 ((1 : Nat) : Int)) = -1 by unfold wrap64; omega, comm, i64_not _ (by omega)]
    omega

theorem zag_zig (n : Int) (h0 : -9223372036854775808 ≤ n) (h1 : n ≤ 9223372036854775807) : zag (zig n) = n := by
  unfold zag zig; split <;> split <;> omega
theorem zig_zag (u : Nat) : zig (zag u) = u := by
  unfold zag zig; split <;> split <;> omega
theorem zig_lt (n : Int) (h0 : -9223372036854775808 ≤ n) (h1 : n ≤ 9223372036854775807) : zig n < 2 ^ 64 := by
  unfold zig; split <;> omega
theorem zag_ge (u : Nat) (hu : u < 2 ^ 64) : -9223372036854775808 ≤ zag u ∧ zag u ≤ 9223372036854775807 := by
  unfold zag; split <;> omega
theorem zig_even (n : Int) : (zig n % 2 = 0) ↔ 0 ≤ n := by
  unfold zig; split <;> omega
end Go.Proofs.YtdclbhmmpdngpaaDoor
