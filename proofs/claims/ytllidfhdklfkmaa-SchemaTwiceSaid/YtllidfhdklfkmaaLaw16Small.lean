/-
  small of chapter 16.
-/
import Derived.Test.YtllidfhdklfkmaaSchemaPure
import Derived.Test.YtllidfhdklfkmaaCurMore
import Derived.Lib.SlBytesConst
namespace Go.Proofs.Ytllidfhdklfkmaa
open Go.RowKit

def L0 : List Col := [⟨[97], 0, false⟩, ⟨[98, 99], 3, true⟩]
theorem putB_L0 : putB L0 = [2, 1, 97, 0, 0, 2, 98, 99, 3, 1] := by
  simp only [putB, L0, colB, List.length_cons, List.length_nil, List.flatMap_cons, List.flatMap_nil]
  rw [vput_short (by decide), vput_short (by decide)]
  rfl
theorem colsV_L0 : colsV L0 = 0 := by decide +kernel
theorem putB_nil : putB [] = [0] := by
  simp only [putB, List.length_nil, List.flatMap_nil]
  rw [vput_short (by decide)]
  rfl
/-- Columns with a name twice are not read. -/
theorem gcols_dup {L : List Col} {r : List UInt8} (h : colsV L ≠ 0) (hl : L.length ≤ 64) (hL : ∀ c ∈ L, c.name.length ≤ 100 ∧ 0 ≤ c.typ ∧ c.typ < 4) : CS.gcols ⟨putB L ++ r, false⟩ = ([], CS.fail) := by
  have e1 : CS.vlen ⟨putB L ++ r, false⟩ 64 = (L.length, ⟨L.flatMap colB ++ r, false⟩) := by
    unfold putB
    rw [List.append_assoc]
    exact CS.vlen_vput (by omega) (by omega)
  unfold CS.gcols
  rw [e1]
  dsimp only
  rw [colsN_putB L r [] hL]
  unfold gotC
  rw [if_pos (by simp [h])]
def L1 : List Col := [⟨[97], 0, false⟩, ⟨[97], 0, false⟩]
theorem putB_L1 : putB L1 = [2, 1, 97, 0, 0, 1, 97, 0, 0] := by
  simp only [putB, L1, colB, List.length_cons, List.length_nil, List.flatMap_cons, List.flatMap_nil]
  rw [vput_short (by decide), vput_short (by decide)]
  rfl
theorem gcols_L1 : CS.gcols ⟨[2, 1, 97, 0, 0, 1, 97, 0, 0], false⟩ = ([], CS.fail) := by
  have h := gcols_dup (L := L1) (r := []) (by decide +kernel) (by decide) (by decide +kernel)
  rw [putB_L1] at h
  exact h

/-- A new row whose marks are whatever, seen as a slice. -/
theorem Sl.litF (w : World) (cs : Array Value) (e n : Nat) (fr : Nat × Nat) (hn : n ≤ maxLen) (hcs : n = 0 → cs = #[] := by intro h; cases h) : Sl (w.alloc (.cells cs e fr)) (.slice (some ⟨w.heap.size, 0, none⟩) n n) n cs.toList := by
  refine ⟨_, _, rfl, Nat.le_refl _, hn, fun h => (by cases h), fun x hx _ => (by cases hx; simp), fun h => (by have := hcs h; simpa using this), fun j u hj => ⟨_, rfl, ?_⟩⟩
  rw [Addr.add_lit, cell_of_row _ _ _ _ _ _ (heap_alloc_new w _)]
  simpa using hj
theorem World.size_alloc' (w : World) (o : Obj) : (w.alloc o).heap.size = w.heap.size + 1 := by simp

set_option maxHeartbeats 4000000 in
set_option maxRecDepth 20000 in
theorem small16_ok (w : World) : Calls Try.prog 31 #[] w fun e w' => e = .returned (.bool true) ∧ Chg [] w w' := by
  have hL0 : ∀ c ∈ L0, c.name.length ≤ maxLen ∧ -9223372036854775808 ≤ c.typ ∧ c.typ ≤ 9223372036854775807 := by unfold maxLen; decide +kernel
  have hL2 : L0.length ≤ maxLen := by unfold maxLen L0; simp
  have hB10 : ([2, 1, 97, 0, 0, 2, 98, 99, 3, 1] : List UInt8).length ≤ big := by simp [big]
  have hB0 : ([] : List UInt8).length + 10000 ≤ big := by simp [big]
  have hB9 : ([2, 1, 97, 0, 0, 1, 97, 0, 0] : List UInt8).length ≤ big := by simp [big]
  have hgL0 : CS.gcols ⟨[2, 1, 97, 0, 0, 2, 98, 99, 3, 1], false⟩ = (L0, ⟨[], false⟩) := by have h := gcols_putB (r := []) colsV_L0; rw [putB_L0] at h; exact h
  go_enter Try.func31, Try.ntmps31
  go_wp2_with fail
  have s0 : Sl (w.alloc (.cells #[.string (bstr [97]), .int .i64 0, .bool false, .string (bstr [98, 99]), .int .i64 3, .bool true] 52)) (.slice (some ⟨w.heap.size, 0, none⟩) 2 2) L0.length (L0.flatMap colc) :=
    Sl.lit w #[.string (bstr [97]), .int .i64 0, .bool false, .string (bstr [98, 99]), .int .i64 3, .bool true] 52 2 (by decide)
  have g0 : Chg [] w (w.alloc (.cells #[.string (bstr [97]), .int .i64 0, .bool false, .string (bstr [98, 99]), .int .i64 3, .bool true] 52)) := Chg.alloc _ _ _
  have s9 : Sl ((w.alloc (.cells #[.string (bstr [97]), .int .i64 0, .bool false, .string (bstr [98, 99]), .int .i64 3, .bool true] 52)).alloc (.cells #[.int .u8 9] 5)) (.slice (some ⟨w.heap.size + 1, 0, none⟩) 1 1) [(9 : UInt8)].length (bcs [9]) := by
    have h := Sl.lit (w.alloc (.cells #[.string (bstr [97]), .int .i64 0, .bool false, .string (bstr [98, 99]), .int .i64 3, .bool true] 52)) #[.int .u8 9] 5 1 (by decide)
    rw [World.size_alloc'] at h
    exact h
  refine (sput_ok _ _ _ [9] L0 hL0 s9 (s0.tr0 (Chg.alloc _ _ _)) (by simp only [List.length_cons, List.length_nil]; unfold big; omega) hL2).mono ?_
  rintro e w2 ⟨v2, rfl, o2, g2⟩
  rw [colsV_L0, if_pos rfl, putB_L0] at o2
  have gb := (Chg.alloc [] (w.alloc (.cells #[.string (bstr [97]), .int .i64 0, .bool false, .string (bstr [98, 99]), .int .i64 3, .bool true] 52)) (.cells #[.int .u8 9] 5)).t0 g2
  replace s0 := s0.tr0 gb
  replace g0 := g0.t0 gb
  have sb := Sl.ofOwns o2
  have hva2 := own_from o2
  have hvl0 : ∀ k, vblk (Value.slice (some ⟨w.heap.size, 0, none⟩) 2 2) = some k → k = w.heap.size := fun k hk => by simpa using (vblk_slice.1 hk).2.symm
  have hz2 := gb.size
  rw [World.size_alloc'] at hz2
  have hsb2 := sb.lt
  clear gb g2 o2
  generalize (Value.slice (some ⟨w.heap.size, 0, none⟩) 2 2) = vl at *
  go_wp2_with fail
  refine (sput_ok w2 _ _ [] L0 hL0 (Sl.nil _) s0 (by simp only [List.length_nil]; unfold big; omega) hL2).mono ?_
  rintro e w3 ⟨v3, rfl, o3, g3⟩
  rw [colsV_L0, if_pos rfl, putB_L0, List.nil_append] at o3
  have sc := Sl.ofOwns o3
  replace s0 := s0.tr0 g3
  replace sb := sb.tr0 g3
  replace g0 := g0.t0 g3
  have hz3 := g3.size
  clear o3 g3
  go_wp2_with fail
  refine (over_ok w3 _ _ sc hB10).mono ?_
  rintro e w4 ⟨p, rfl, hp, c4, g4⟩
  replace s0 := s0.tr0 g4
  replace sb := sb.tr0 g4
  replace g0 := g0.t0 g4
  have hz4 := g4.size
  have hp4 : p < w4.heap.size := c4.lt
  clear g4 sc
  have hcv := Lib.run_convert_bytes_const (P := Try.prog) w4 22 5 #[Value.int .u8 2, Value.int .u8 1, Value.int .u8 97, Value.int .u8 0, Value.int .u8 0, Value.int .u8 1, Value.int .u8 97, Value.int .u8 0, Value.int .u8 0] 9 9 Try.underlying22 Try.underlying5
  go_wp2_with fail
  have sd := Sl.litF w4 #[Value.int .u8 2, Value.int .u8 1, Value.int .u8 97, Value.int .u8 0, Value.int .u8 0, Value.int .u8 1, Value.int .u8 97, Value.int .u8 0, Value.int .u8 0] 5 9 (9, 10) (by decide)
  clear hcv
  have gd := Chg.alloc [] w4 (.cells #[Value.int .u8 2, Value.int .u8 1, Value.int .u8 97, Value.int .u8 0, Value.int .u8 0, Value.int .u8 1, Value.int .u8 97, Value.int .u8 0, Value.int .u8 0] 5 (9, 10))
  refine (over_ok _ _ [2, 1, 97, 0, 0, 1, 97, 0, 0] sd hB9).mono ?_
  rintro e w5 ⟨q, rfl, hq, d5, g5⟩
  replace gd := gd.t0 g5
  have c5 := c4.tr0 gd
  replace s0 := s0.tr0 gd
  replace sb := sb.tr0 gd
  replace g0 := g0.t0 gd
  have hpq : p ≠ q := by simp at hq; omega
  have hq5 := d5.lt
  have hvl : ∀ k, vblk vl = some k → k < p ∧ k < q := fun k hk => by have := hvl0 k hk; simp at hq; omega
  have hva : ∀ k, vblk v2 = some k → k < p ∧ k < q := fun k hk => by have := hsb2 k hk; simp at hq; omega
  have hwp : w.heap.size ≤ p := by omega
  have hwq : w.heap.size ≤ q := by simp at hq; omega
  clear gd g5 sd c4 hq
  go_wp2_with fail
  refine (sget_ok w5 p _ c5).mono ?_
  rintro e w6 ⟨vx, rfl, ox, c6, g6⟩
  rw [hgL0] at ox c6
  have d6 := d5.trC g6 hpq.symm c5
  have hs6 := g6.size
  have hbv : ∀ k, vblk vl = some k → k ≠ p ∧ k ≠ q := fun k hk => by have := hvl k hk; omega
  replace s0 := s0.tr1 g6 (fun e => (hbv _ e).1 rfl)
  replace sb := sb.tr1 g6 (fun e => by have := hva _ e; omega)
  replace g0 := g0.tn g6 hwp
  have sx := Sl.ofOwns ox
  have hxo := own_from ox
  clear c5 d5 g6
  go_wp2_with fail
  refine (sget_ok w6 q _ d6).mono ?_
  rintro e w7 ⟨vy, rfl, oy, d7, g7⟩
  rw [gcols_L1] at oy d7
  have c7 := c6.trC g7 hpq d6
  replace s0 := s0.tr1 g7 (fun e => (hbv _ e).2 rfl)
  replace sb := sb.tr1 g7 (fun e => by have := hva _ e; omega)
  replace sx := sx.tr1 g7 (own_ne ox hq5)
  replace g0 := g0.tn g7 hwq
  obtain ⟨ay, ky, rfl⟩ := (Sl.ofOwns oy).shape
  clear c6 d6 g7 oy ox hbv hvl hva hxo
  have hst := run_str (dst := 9) Try.underlying22 Try.underlying5 Try.underlying9 sb rfl
  rw [show bstr ([9] ++ [2, 1, 97, 0, 0, 2, 98, 99, 3, 1]) = { data := #[9, 2, 1, 97, 0, 0, 2, 98, 99, 3, 1] } from rfl] at hst
  clear sb
  go_wp2_with fail
  refine (rschema_ok w7 _ _ L0 L0 sx s0 hL2).mono ?_
  rintro e w8 ⟨he, g8⟩
  obtain rfl : e = .returned (.bool true) := by rw [he]; simp
  have c8 := c7.tr0 g8
  have d8 := d7.tr0 g8
  replace g0 := g0.t0 g8
  clear c7 d7 g8 sx s0 hst
  go_wp2_with fail
  refine (end_ok w8 p _ c8).mono ?_
  rintro e w8' ⟨he, rfl⟩
  obtain rfl : e = .returned (.bool true) := he
  go_wp2_with fail
  refine (bad_ok w8 q _ d8).mono ?_
  rintro e w8' ⟨he, rfl⟩
  obtain rfl : e = .returned (.bool true) := he
  go_wp2_with fail
  refine (sput_ok w8 _ _ [] [] (by simp) (Sl.nil _) (Sl.nil _) hB0 (Nat.zero_le _)).mono ?_
  rintro e w9 ⟨vp, rfl, o9, g9⟩
  rw [show colsV [] = 0 from rfl, if_pos rfl, putB_nil] at o9
  have hst := run_str (dst := 9) Try.underlying22 Try.underlying5 Try.underlying9 (Sl.ofOwns o9) rfl
  rw [show bstr ([] ++ [0]) = { data := #[0] } from rfl] at hst
  replace g0 := g0.t0 g9
  clear g9 o9 c8 d8
  go_wp2_with fail
  have sz : Sl (w9.alloc (.cells #[.string (bstr []), .int .i64 0, .bool false] 52)) (.slice (some ⟨w9.heap.size, 0, none⟩) 1 1) [(⟨[], 0, false⟩ : Col)].length ([(⟨[], 0, false⟩ : Col)].flatMap colc) :=
    Sl.lit w9 #[.string (bstr []), .int .i64 0, .bool false] 52 1 (by decide)
  refine (sput_ok _ _ _ [] [⟨[], 0, false⟩] (by intro c hc; rw [List.mem_singleton.1 hc]; simp [maxLen]) (Sl.nil _) sz hB0 (by simp [maxLen])).mono ?_
  rintro e w10 ⟨vq, rfl, o10, g10⟩
  rw [if_neg (by decide +kernel)] at o10
  obtain ⟨aq, kq, rfl⟩ := own_shape o10
  replace g0 := (g0.t0 (Chg.alloc _ _ _)).t0 g10
  clear o10 g10 sz hst
  go_wp2
  go_ret
  exact ⟨rfl, g0⟩
end Go.Proofs.Ytllidfhdklfkmaa
