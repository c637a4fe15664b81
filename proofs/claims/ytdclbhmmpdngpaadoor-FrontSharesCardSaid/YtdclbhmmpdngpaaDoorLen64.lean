/-
  The contract of math/bits.Len64 (the shelf's worked proof, turned to this program).
-/
import Derived.Test.YtdclbhmmpdngpaaDoorProg
import Derived.Test.YtdclbhmmpdngpaaDoorBase
import Derived.Lib.Strings
import Derived.Lib.Slices
import Derived.Lib.Small
import Derived.Lib.Walk
import Derived.Lib.BitFns
namespace Go.Proofs.YtdclbhmmpdngpaaDoor
set_option linter.unusedSimpArgs false
set_option linter.unusedVariables false
open Go.RowKit

theorem len8_at (i : Nat) (h : i < Lib.len8tab.size) : Lib.len8tab[i].toNat = Lib.bitLen i := by
  have hi : i < 256 := by rw [Lib.len8tab_size] at h; exact h
  have h1 := Lib.len8_eq ⟨i, hi⟩
  unfold Lib.len8 at h1
  simp only [Int.toNat_natCast, Int.ofNat_inj] at h1
  rw [← h1]
  simp [h]
theorem len_fin (s : Nat) (e x : Int) (h : e.toNat < Lib.len8tab.size) (h0 : 0 ≤ x) (h1 : x ≤ 18446744073709551615) (he : e.toNat = x.toNat / 2 ^ s) (hs : 2 ^ s ≤ x.toNat ∨ s = 0) (hs2 : s ≤ 56) :
    wrap64 ((s : Int) + wrap64 ((Lib.len8tab[e.toNat].toNat : Nat) : Int)) = (Lib.bitLen x.toNat : Int) := by
  have hi : e.toNat < 256 := by rw [Lib.len8tab_size] at h; exact h
  rw [len8_at _ h]
  have hle := Lib.bitLen_le8 ⟨e.toNat, hi⟩
  have hsum : s + Lib.bitLen e.toNat = Lib.bitLen x.toNat := by
    rcases hs with hs | hs
    · rw [he, Lib.bitLen_shift s x.toNat hs (by omega)]
    · subst hs; rw [he]; simp
  dsimp only at hle
  generalize Lib.bitLen e.toNat = B at *
  generalize Lib.bitLen x.toNat = C at *
  unfold wrap64
  omega
set_option maxHeartbeats 4000000 in
set_option maxRecDepth 100000 in
theorem bits_len64 (x : Int) (w : World) (h0 : 0 ≤ x) (h1 : x ≤ 18446744073709551615) :
    Calls Tryd.prog 43 #[.int .u64 x] w fun e w' => e = .returned (.int .i64 (Lib.bitLen x.toNat)) ∧ w' = w := by
  have hs := Lib.len8tab_size
  go_enter Tryd.func43, Tryd.ntmps43
  go_wp2
  all_goals (go_ret; refine ⟨congrArg Ending.returned (congrArg (Value.int IntKind.i64) ?_), rfl⟩)
  all_goals first
    | exact len_fin 56 _ x _ h0 h1 (by omega) (by omega) (by decide)
    | exact len_fin 48 _ x _ h0 h1 (by omega) (by omega) (by decide)
    | exact len_fin 40 _ x _ h0 h1 (by omega) (by omega) (by decide)
    | exact len_fin 32 _ x _ h0 h1 (by omega) (by omega) (by decide)
    | exact len_fin 24 _ x _ h0 h1 (by omega) (by omega) (by decide)
    | exact len_fin 16 _ x _ h0 h1 (by omega) (by omega) (by decide)
    | exact len_fin 8 _ x _ h0 h1 (by omega) (by omega) (by decide)
    | exact len_fin 0 _ x _ h0 h1 (by omega) (.inr rfl) (by decide)
    | (have h := len_fin 0 x x (by omega) h0 h1 (by simp) (.inr rfl) (by decide); simpa using h)
theorem len64_ok (w : World) (x : Nat) (hx : x < 2 ^ 64) :
    Calls Tryd.prog 43 #[.int .u64 x] w fun e w' => e = .returned (.int .i64 (Lib.bitLen x)) ∧ w = w' :=
  (bits_len64 x w (by omega) (by omega)).mono fun e w' ⟨h1, h2⟩ => ⟨by simpa using h1, h2.symm⟩
end Go.Proofs.YtdclbhmmpdngpaaDoor
