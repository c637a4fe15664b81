/-
  The walks of FrontEncodes, FrontDecodes, FrontBack and FrontOnce.
-/
import Derived.Test.YtdclbhmmpdngpaaDoorFrontSmall
import Derived.Test.YtdclbhmmpdngpaaDoorFrontRDec
namespace Go.Proofs.YtdclbhmmpdngpaaDoor
set_option linter.unusedSimpArgs false
set_option linter.unusedVariables false
open Go.RowKit

theorem tcs_flat (l : List (List UInt8)) : (l.flatMap fun s => [Value.string (bstr s)]) = tcs l := by
  induction l with
  | nil => rfl
  | cons a l ih => rw [List.flatMap_cons, ih]; rfl
theorem fewT_of {l : List (List UInt8)} (h : l.length ≤ 200 ∧ sumT l ≤ 3000) : fewT l = true := by
  refine decide_eq_true ⟨by omega, fun s hs => ?_, by omega⟩
  have := le_sumT hs
  omega
theorem decOut_len (b : List UInt8) (n : Int) : (decOut b n).1.length ≤ maxLen := by
  unfold decOut
  cases h : decodeT b n with
  | none => simp
  | some l =>
    have := (decodeT_some h).1
    have h2 : ¬ (n < 0 ∨ 65536 < n) := fun h3 => by
      unfold decodeT at h
      rw [if_pos h3] at h
      cases h
    unfold maxLen
    simp only
    omega
def strL (s : ByteArray) : List UInt8 := s.data.toList
theorem strL_b (s : ByteArray) : bstr (strL s) = s := bstr_data s
theorem strL_len (s : ByteArray) : (strL s).length = s.size := Array.length_toList

set_option maxHeartbeats 8000000 in
set_option maxRecDepth 100000 in
theorem encodes13 (w : World) (v : Value) (l : List (List UInt8)) (a b : List UInt8) (hs : Sl w v l.length (tcs l)) (hl : l.length * 16 ≤ 140737488351232) (hb : ∀ s ∈ l, s.length ≤ 140737488351232) :
    Calls Tryd.prog 3 #[v, .string (bstr a), .string (bstr b)] w fun e w' => e = .returned (.bool true) ∧ Chg [] w w' := by
  have hlb : l.length * 16 ≤ big := by unfold big; omega
  have hbb : ∀ s ∈ l, s.length ≤ big := fun s h => by have := hb s h; unfold big; omega
  have k1 := fun w' (g : Chg [] w w') => fewl_ok w' v l (hs.tr0 g) hlb hb
  have k2 := fun w' (g : Chg [] w w') => fencode_ok w' v l (hs.tr0 g) hlb hbb
  have k3 := fun w' (g : Chg [] w w') => rfencode_ok w' v l (hs.tr0 g) hlb hbb
  replace hb := Lib.hid hb
  replace hbb := Lib.hid hbb
  clear hlb
  generalize (if fewT l = true then encT [] l else []) = R at *
  generalize fewT l = F at *
  obtain ⟨a0, c0, rfl⟩ := hs.shape
  replace k1 := Lib.hid k1
  replace k2 := Lib.hid k2
  replace k3 := Lib.hid k3
  go_enter Tryd.func3, Tryd.ntmps3
  go_wp2_with fail
  refine (small13_ok w).mono ?_
  rintro e w1 ⟨rfl, g1⟩
  go_wp2_with fail
  refine (k1.out w1 g1).mono ?_
  rintro e w2 ⟨⟨fb, rfl, hfb⟩, g2⟩
  replace g2 := g1.t0 g2
  clear g1 k1 hfb
  cases fb
  · go_wp2
    go_ret
    exact ⟨rfl, g2⟩
  by_cases ha : 1000 < a.length
  · have hai : (1000 : Int) < a.length := by omega
    go_wp2
    go_ret
    exact ⟨rfl, g2⟩
  by_cases hb' : 1000 < b.length
  · have hai : ¬ (1000 : Int) < a.length := by omega
    have hbi : (1000 : Int) < b.length := by omega
    go_wp2
    go_ret
    exact ⟨rfl, g2⟩
  have hai : ¬ (1000 : Int) < a.length := by omega
  have hbi : ¬ (1000 : Int) < b.length := by omega
  go_wp2_with fail
  refine (k2.out w2 g2).mono ?_
  rintro e w3 ⟨v3, rfl, o3, g3⟩
  replace g3 := g2.t0 g3
  obtain ⟨a3, c3, rfl⟩ := own_shape o3
  go_wp2_with fail
  refine (k3.out w3 g3).mono ?_
  rintro e w4 ⟨v4, rfl, o4, g4⟩
  have o34 := own_tr o3 g4 (by simp)
  replace g4 := g3.t0 g4
  obtain ⟨a4, c4, rfl⟩ := own_shape o4
  have q1 := run_str (P := Tryd.prog) Tryd.underlying25 Tryd.underlying5 Tryd.underlying9 (Sl.ofOwns o34) rfl
  have q2 := run_str (P := Tryd.prog) Tryd.underlying25 Tryd.underlying5 Tryd.underlying9 (Sl.ofOwns o4) rfl
  have k4 := fun w => shared_ok w a b (by unfold big; omega) (by unfold big; omega)
  have k5 := fun w => rshared_ok w a b (by unfold big; omega) (by unfold big; omega)
  generalize shareV a b = S at *
  replace k4 := Lib.hid k4
  replace k5 := Lib.hid k5
  clear o3 o4 o34 g3 g2 k2 k3
  go_wp2_with fail
  refine (k4.out w4).mono ?_
  rintro e w5 ⟨rfl, g5⟩
  go_wp2_with fail
  refine (k5.out w5).mono ?_
  rintro e w6 ⟨rfl, g6⟩
  go_wp2
  go_ret
  exact ⟨by simp, (g4.t0 g5).t0 g6⟩
set_option maxHeartbeats 8000000 in
set_option maxRecDepth 100000 in
theorem decodes13 (w : World) (v : Value) (b : List UInt8) (n : Int) (hs : Sl w v b.length (bcs b)) (hb : b.length ≤ big) (hn : -9223372036854775808 ≤ n ∧ n ≤ 9223372036854775807) :
    Calls Tryd.prog 4 #[v, .int .i64 n] w fun e w' => e = .returned (.bool true) ∧ Chg [] w w' := by
  have k2 := fun w' (g : Chg [] w w') => fdecode_ok w' v b n (hs.tr0 g) hb hn
  have k3 := fun w' (g : Chg [] w w') => rfdecode_ok w' v b n (hs.tr0 g) hb hn
  have hD := decOut_len b n
  generalize decOut b n = D at *
  obtain ⟨L, F⟩ := D
  dsimp only at *
  obtain ⟨a0, c0, rfl⟩ := hs.shape
  replace k2 := Lib.hid k2
  replace k3 := Lib.hid k3
  unfold big at hb
  go_enter Tryd.func4, Tryd.ntmps4
  go_wp2_with fail
  refine (small13_ok w).mono ?_
  rintro e w1 ⟨rfl, g1⟩
  by_cases hb' : 500 < b.length
  · have hbi : (500 : Int) < b.length := by omega
    go_wp2
    go_ret
    exact ⟨rfl, g1⟩
  have hbi : ¬ (500 : Int) < b.length := by omega
  by_cases hn' : 1000 < n
  · go_wp2
    go_ret
    exact ⟨rfl, g1⟩
  go_wp2_with fail
  refine (k2.out w1 g1).mono ?_
  rintro e w3 ⟨v3, rfl, o3, g3⟩
  replace g3 := g1.t0 g3
  obtain ⟨a3, c3, rfl⟩ := own_shape o3
  go_wp2_with fail
  refine (k3.out w3 g3).mono ?_
  rintro e w4 ⟨v4, rfl, o4, g4⟩
  have o34 := own_tr o3 g4 (by simp)
  replace g4 := g3.t0 g4
  obtain ⟨a4, c4, rfl⟩ := own_shape o4
  have k5 := samet_ok w4 _ _ L L (Sl.ofOwns o34) (Sl.ofOwns o4) hD hD
  simp only [decide_true] at k5
  replace k5 := Lib.hid k5
  clear o3 o4 o34 g3 g1 k2 k3
  go_wp2_with fail
  refine k5.out.mono ?_
  rintro e w5 ⟨rfl, g5⟩
  go_wp2
  go_ret
  exact ⟨by simp, g4.t0 g5⟩
set_option maxHeartbeats 8000000 in
set_option maxRecDepth 100000 in
theorem back13 (w : World) (v : Value) (l : List (List UInt8)) (hs : Sl w v l.length (tcs l)) (hl : l.length * 16 ≤ 140737488351232) (hb : ∀ s ∈ l, s.length ≤ 140737488351232) :
    Calls Tryd.prog 5 #[v] w fun e w' => e = .returned (.bool true) ∧ Chg [] w w' := by
  have hlb : l.length * 16 ≤ big := by unfold big; omega
  have hbb : ∀ s ∈ l, s.length ≤ big := fun s h => by have := hb s h; unfold big; omega
  have k1 := fun w' (g : Chg [] w w') => fewl_ok w' v l (hs.tr0 g) hlb hb
  have k2 := fun w' (g : Chg [] w w') => fencode_ok w' v l (hs.tr0 g) hlb hbb
  replace hb := Lib.hid hb
  replace hbb := Lib.hid hbb
  clear hlb
  obtain ⟨a0, c0, rfl⟩ := hs.shape
  replace k1 := Lib.hid k1
  replace k2 := Lib.hid k2
  go_enter Tryd.func5, Tryd.ntmps5
  go_wp2_with fail
  refine (small13_ok w).mono ?_
  rintro e w1 ⟨rfl, g1⟩
  go_wp2_with fail
  refine (k1.out w1 g1).mono ?_
  rintro e w2 ⟨⟨fb, rfl, hfb⟩, g2⟩
  replace g2 := g1.t0 g2
  clear g1 k1
  cases fb
  · clear hfb
    go_wp2
    go_ret
    exact ⟨rfl, g2⟩
  have hfw := hfb rfl
  have hft := fewT_of hfw
  have hle := encT_length l [] fun s h => by have := le_sumT h; omega
  have hde := decodeT_encT hft
  have k2 := k2.out
  rw [hft, if_pos rfl] at k2
  have hlb := hfw.1
  have hel : (encT [] l).length ≤ 10000 := by omega
  replace k2 := Lib.hid k2
  clear hfb hft hle
  generalize encT [] l = R at *
  go_wp2_with fail
  refine (k2.out w2 g2).mono ?_
  rintro e w3 ⟨v3, rfl, o3, g3⟩
  replace g3 := g2.t0 g3
  have k4 := fdecode_ok w3 v3 R l.length (Sl.ofOwns o3) (by unfold big; omega) (by omega)
  have ho : decOut R l.length = (l, true) := by unfold decOut; rw [hde]
  rw [ho] at k4
  obtain ⟨a3, c3, rfl⟩ := own_shape o3
  replace k4 := Lib.hid k4
  clear o3 g2 k2 ho hde
  go_wp2_with fail
  refine k4.out.mono ?_
  rintro e w4 ⟨v4, rfl, o4, g4⟩
  replace g4 := g3.t0 g4
  have k5 := samet_ok w4 _ _ l l (Sl.ofOwns o4) (hs.tr0 g4) (by unfold maxLen; omega) (by unfold maxLen; omega)
  simp only [decide_true] at k5
  obtain ⟨a4, c4, rfl⟩ := own_shape o4
  replace k5 := Lib.hid k5
  clear o4 g3 k4
  go_wp2_with fail
  refine k5.out.mono ?_
  rintro e w5 ⟨rfl, g5⟩
  go_wp2
  go_ret
  exact ⟨by simp, g4.t0 g5⟩
set_option maxHeartbeats 8000000 in
set_option maxRecDepth 100000 in
theorem once13 (w : World) (v : Value) (b : List UInt8) (n : Int) (hs : Sl w v b.length (bcs b)) (hb : b.length ≤ big) (hn : -9223372036854775808 ≤ n ∧ n ≤ 9223372036854775807) :
    Calls Tryd.prog 6 #[v, .int .i64 n] w fun e w' => e = .returned (.bool true) ∧ Chg [] w w' := by
  have k2 := fun w' (g : Chg [] w w') => fdecode_ok w' v b n (hs.tr0 g) hb hn
  obtain ⟨a0, c0, rfl⟩ := hs.shape
  replace k2 := Lib.hid k2
  unfold big at hb
  go_enter Tryd.func6, Tryd.ntmps6
  go_wp2_with fail
  refine (small13_ok w).mono ?_
  rintro e w1 ⟨rfl, g1⟩
  by_cases hb' : 500 < b.length
  · have hbi : (500 : Int) < b.length := by omega
    go_wp2
    go_ret
    exact ⟨rfl, g1⟩
  have hbi : ¬ (500 : Int) < b.length := by omega
  by_cases hn' : 1000 < n
  · go_wp2
    go_ret
    exact ⟨rfl, g1⟩
  have hlen := decOut_len b n
  cases hd : decodeT b n with
  | none =>
    have ho : decOut b n = ([], false) := by unfold decOut; rw [hd]
    have k2 := k2.out
    rw [ho] at k2
    replace k2 := Lib.hid k2
    clear hlen ho hd
    go_wp2_with fail
    refine (k2.out w1 g1).mono ?_
    rintro e w3 ⟨v3, rfl, o3, g3⟩
    replace g3 := g1.t0 g3
    obtain ⟨a3, c3, rfl⟩ := own_shape o3
    clear o3
    go_wp2
    go_ret
    exact ⟨by simp, g3⟩
  | some l =>
    have ho : decOut b n = (l, true) := by unfold decOut; rw [hd]
    obtain ⟨h1, h2, h3⟩ := decodeT_some hd
    have k2 := k2.out
    rw [ho] at k2 hlen
    dsimp only at hlen
    replace k2 := Lib.hid k2
    have hf := h2
    unfold fewT at hf
    simp only [decide_eq_true_eq] at hf
    obtain ⟨f1, f2, f3⟩ := hf
    have hbig : ∀ s ∈ l, s.length ≤ big := fun s h => by have := f2 s h; unfold big; omega
    replace hbig := Lib.hid hbig
    replace h2 := Lib.hid h2
    replace h3 := Lib.hid h3
    clear ho hd f2 hn
    subst h1
    go_wp2_with fail
    refine (k2.out w1 g1).mono ?_
    rintro e w3 ⟨v3, rfl, o3, g3⟩
    replace g3 := g1.t0 g3
    have k4 := fencode_ok w3 v3 l (Sl.ofOwns o3) (by unfold big; omega) hbig.out
    rw [h2.out, if_pos rfl, h3.out] at k4
    obtain ⟨a3, c3, rfl⟩ := own_shape o3
    replace k4 := Lib.hid k4
    clear o3 g1 k2
    go_wp2_with fail
    refine k4.out.mono ?_
    rintro e w4 ⟨v4, rfl, o4, g4⟩
    replace g4 := g3.t0 g4
    obtain ⟨a4, c4, rfl⟩ := own_shape o4
    have q1 := run_str (P := Tryd.prog) Tryd.underlying25 Tryd.underlying5 Tryd.underlying9 (Sl.ofOwns o4) rfl
    have q2 := run_str (P := Tryd.prog) Tryd.underlying25 Tryd.underlying5 Tryd.underlying9 (hs.tr0 g4) rfl
    clear o4 k4 g3
    go_wp2
    go_ret
    exact ⟨by simp, g4⟩
theorem Sl.texts {w : World} {v : Value} {l : List (List UInt8)} (h : Sl w v l.length (l.flatMap fun s => [Value.string (bstr s)])) : Sl w v l.length (tcs l) := by rw [← tcs_flat]; exact h
theorem i64_wfF {x : Int} (h : (Lit.int .i64 x).wf = true) : -9223372036854775808 ≤ x ∧ x ≤ 9223372036854775807 := by
  simp [Lit.wf, IntKind.min, IntKind.max, IntKind.bits, IntKind.signed] at h
  omega
theorem frontEncodes_run (w : World) (v : Value) (l : List (List UInt8)) (a b : ByteArray) (hs : Sl w v l.length (l.flatMap fun s => [.string (bstr s)])) (hb : ∀ s ∈ l, s.length ≤ 140737488351232) (hl : l.length * 16 ≤ 140737488351232) (_ : a.size ≤ 140737488351232) (_ : b.size ≤ 140737488351232) :
    Calls Tryd.prog 3 #[v, .string a, .string b] w fun e w' => e = .returned (.bool true) ∧ Chg [] w w' := encodes13 w v l (strL a) (strL b) hs.texts hl hb
theorem frontBack_run (w : World) (v : Value) (l : List (List UInt8)) (hs : Sl w v l.length (l.flatMap fun s => [.string (bstr s)])) (hb : ∀ s ∈ l, s.length ≤ 140737488351232) (hl : l.length * 16 ≤ 140737488351232) :
    Calls Tryd.prog 5 #[v] w fun e w' => e = .returned (.bool true) ∧ Chg [] w w' := back13 w v l hs.texts hl hb
theorem frontDecodes_run (w : World) (v : Value) (b : List UInt8) (n : Int) (hs : Sl w v b.length (bcs b)) (hb : b.length * 1 ≤ 140737488351232) (hn : (Lit.int .i64 n).wf = true) :
    Calls Tryd.prog 4 #[v, .int .i64 n] w fun e w' => e = .returned (.bool true) ∧ Chg [] w w' := decodes13 w v b n hs (by unfold big; omega) (i64_wfF hn)
theorem frontOnce_run (w : World) (v : Value) (b : List UInt8) (n : Int) (hs : Sl w v b.length (bcs b)) (hb : b.length * 1 ≤ 140737488351232) (hn : (Lit.int .i64 n).wf = true) :
    Calls Tryd.prog 6 #[v, .int .i64 n] w fun e w' => e = .returned (.bool true) ∧ Chg [] w w' := once13 w v b n hs (by unfold big; omega) (i64_wfF hn)
end Go.Proofs.YtdclbhmmpdngpaaDoor
