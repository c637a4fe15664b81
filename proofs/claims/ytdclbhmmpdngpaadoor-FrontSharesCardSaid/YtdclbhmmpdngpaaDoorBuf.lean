/-
  bytes.Buffer: the kit's contracts of Write, WriteString and Bytes at this program, said in this seat's words.
-/
import Derived.Test.YtdclbhmmpdngpaaDoorCursor
import Derived.Ground.NamesProg
import Derived.Shelf.Bytes.WriteAny
import Derived.Shelf.Bytes.BufferK
import Derived.Shelf.Bytes.Bytes
namespace Go.Proofs.YtdclbhmmpdngpaaDoor
set_option linter.unusedSimpArgs false
set_option linter.unusedVariables false
open Go.RowKit

def lays180_ren : Go.Shelf.Ren := ⟨fun | 180 => 18 | 251 => 30 | 252 => 31 | 181 => 40 | 184 => 41 | 290 => 42 | 324 => 45 | n => n, fun | 130 => 58 | 37 => 25 | 3 => 3 | 75 => 40 | 0 => 0 | 93 => 38 | 91 => 36 | 131 => 59 | 4 => 4 | 20 => 20 | 5 => 5 | 80 => 52 | 9 => 9 | n => n, fun | 14 => 0 | n => n⟩
theorem lays180 : Go.Proofs.LaysM.n180 Tryd.prog lays180_ren := {
  mixed := by kernel_rfl
  f180 := Tryd.func18.trans (congrArg some (by kernel_rfl))
  f181 := Tryd.func40.trans (congrArg some (by kernel_rfl))
  f184 := Tryd.func41.trans (congrArg some (by kernel_rfl))
  f251 := Tryd.func30.trans (congrArg some (by kernel_rfl))
  f252 := Tryd.func31.trans (congrArg some (by kernel_rfl))
  f290 := Tryd.func42.trans (congrArg some (by kernel_rfl))
  f324 := Tryd.func45.trans (congrArg some (by kernel_rfl))
  t0 := Tryd.underlying0
  a0 := Tryd.isAgg0
  z0 := Tryd.sizeOf0
  v0 := Tryd.zeroValue0
  t3 := Tryd.underlying3
  a3 := Tryd.isAgg3
  z3 := Tryd.sizeOf3
  v3 := Tryd.zeroValue3
  t4 := Tryd.underlying4
  a4 := Tryd.isAgg4
  z4 := Tryd.sizeOf4
  v4 := Tryd.zeroValue4
  t20 := Tryd.underlying20
  a20 := Tryd.isAgg20
  z20 := Tryd.sizeOf20
  v20 := Tryd.zeroValue20
  t37 := Tryd.underlying25
  a37 := Tryd.isAgg25
  z37 := Tryd.sizeOf25
  v37 := Tryd.zeroValue25
  t75 := Tryd.underlying40
  a75 := Tryd.isAgg40
  z75 := Tryd.sizeOf40
  v75 := Tryd.zeroValue40
  t91 := Tryd.underlying36
  a91 := Tryd.isAgg36
  z91 := Tryd.sizeOf36
  v91 := Tryd.zeroValue36
  t93 := Tryd.underlying38
  a93 := Tryd.isAgg38
  z93 := Tryd.sizeOf38
  v93 := Tryd.zeroValue38
  t130 := Tryd.underlying58
  a130 := Tryd.isAgg58
  z130 := Tryd.sizeOf58
  v130 := Tryd.zeroValue58
  t131 := Tryd.underlying59
  a131 := Tryd.isAgg59
  z131 := Tryd.sizeOf59
  v131 := Tryd.zeroValue59
  g14 := by kernel_rfl
  t5 := Tryd.underlying5
  a5 := Tryd.isAgg5
  z5 := Tryd.sizeOf5
  v5 := Tryd.zeroValue5
  t9 := Tryd.underlying9
  a9 := Tryd.isAgg9
  z9 := Tryd.sizeOf9
  v9 := Tryd.zeroValue9
  t80 := Tryd.underlying52
  a80 := Tryd.isAgg52
  z80 := Tryd.sizeOf52
  v80 := Tryd.zeroValue52
  i0 := by kernel_rfl
  i3 := by kernel_rfl
  i4 := by kernel_rfl
  i5 := by kernel_rfl
  i9 := by kernel_rfl
  i20 := by kernel_rfl
  i37 := by kernel_rfl
  i75 := by kernel_rfl
  i80 := by kernel_rfl
  i91 := by kernel_rfl
  i93 := by kernel_rfl
  i130 := by kernel_rfl
  i131 := by kernel_rfl
  m14 := by kernel_rfl }
def lays178_ren : Go.Shelf.Ren := ⟨fun | 178 => 20 | 251 => 30 | 252 => 31 | 181 => 40 | 184 => 41 | 290 => 42 | 324 => 45 | n => n, fun | 130 => 58 | 9 => 9 | 3 => 3 | 75 => 40 | 0 => 0 | 93 => 38 | 91 => 36 | 131 => 59 | 4 => 4 | 37 => 25 | 20 => 20 | 80 => 52 | 5 => 5 | n => n, fun | 14 => 0 | n => n⟩
theorem lays178 : Go.Proofs.LaysM.n178 Tryd.prog lays178_ren := {
  mixed := by kernel_rfl
  f178 := Tryd.func20.trans (congrArg some (by kernel_rfl))
  f181 := Tryd.func40.trans (congrArg some (by kernel_rfl))
  f184 := Tryd.func41.trans (congrArg some (by kernel_rfl))
  f251 := Tryd.func30.trans (congrArg some (by kernel_rfl))
  f252 := Tryd.func31.trans (congrArg some (by kernel_rfl))
  f290 := Tryd.func42.trans (congrArg some (by kernel_rfl))
  f324 := Tryd.func45.trans (congrArg some (by kernel_rfl))
  t0 := Tryd.underlying0
  a0 := Tryd.isAgg0
  z0 := Tryd.sizeOf0
  v0 := Tryd.zeroValue0
  t3 := Tryd.underlying3
  a3 := Tryd.isAgg3
  z3 := Tryd.sizeOf3
  v3 := Tryd.zeroValue3
  t4 := Tryd.underlying4
  a4 := Tryd.isAgg4
  z4 := Tryd.sizeOf4
  v4 := Tryd.zeroValue4
  t9 := Tryd.underlying9
  a9 := Tryd.isAgg9
  z9 := Tryd.sizeOf9
  v9 := Tryd.zeroValue9
  t20 := Tryd.underlying20
  a20 := Tryd.isAgg20
  z20 := Tryd.sizeOf20
  v20 := Tryd.zeroValue20
  t37 := Tryd.underlying25
  a37 := Tryd.isAgg25
  z37 := Tryd.sizeOf25
  v37 := Tryd.zeroValue25
  t75 := Tryd.underlying40
  a75 := Tryd.isAgg40
  z75 := Tryd.sizeOf40
  v75 := Tryd.zeroValue40
  t91 := Tryd.underlying36
  a91 := Tryd.isAgg36
  z91 := Tryd.sizeOf36
  v91 := Tryd.zeroValue36
  t93 := Tryd.underlying38
  a93 := Tryd.isAgg38
  z93 := Tryd.sizeOf38
  v93 := Tryd.zeroValue38
  t130 := Tryd.underlying58
  a130 := Tryd.isAgg58
  z130 := Tryd.sizeOf58
  v130 := Tryd.zeroValue58
  t131 := Tryd.underlying59
  a131 := Tryd.isAgg59
  z131 := Tryd.sizeOf59
  v131 := Tryd.zeroValue59
  g14 := by kernel_rfl
  t5 := Tryd.underlying5
  a5 := Tryd.isAgg5
  z5 := Tryd.sizeOf5
  v5 := Tryd.zeroValue5
  t80 := Tryd.underlying52
  a80 := Tryd.isAgg52
  z80 := Tryd.sizeOf52
  v80 := Tryd.zeroValue52
  i0 := by kernel_rfl
  i3 := by kernel_rfl
  i4 := by kernel_rfl
  i5 := by kernel_rfl
  i9 := by kernel_rfl
  i20 := by kernel_rfl
  i37 := by kernel_rfl
  i75 := by kernel_rfl
  i80 := by kernel_rfl
  i91 := by kernel_rfl
  i93 := by kernel_rfl
  i130 := by kernel_rfl
  i131 := by kernel_rfl
  m14 := by kernel_rfl }
def lays183_ren : Go.Shelf.Ren := ⟨fun | 183 => 21 | n => n, fun | 130 => 58 | 37 => 25 | 0 => 0 | 93 => 38 | 3 => 3 | 5 => 5 | 91 => 36 | n => n, fun | n => n⟩
theorem lays183 : Go.Proofs.LaysM.n183 Tryd.prog lays183_ren := {
  mixed := by kernel_rfl
  f183 := Tryd.func21.trans (congrArg some (by kernel_rfl))
  t0 := Tryd.underlying0
  a0 := Tryd.isAgg0
  z0 := Tryd.sizeOf0
  v0 := Tryd.zeroValue0
  t3 := Tryd.underlying3
  a3 := Tryd.isAgg3
  z3 := Tryd.sizeOf3
  v3 := Tryd.zeroValue3
  t37 := Tryd.underlying25
  a37 := Tryd.isAgg25
  z37 := Tryd.sizeOf25
  v37 := Tryd.zeroValue25
  t93 := Tryd.underlying38
  a93 := Tryd.isAgg38
  z93 := Tryd.sizeOf38
  v93 := Tryd.zeroValue38
  t130 := Tryd.underlying58
  a130 := Tryd.isAgg58
  z130 := Tryd.sizeOf58
  v130 := Tryd.zeroValue58
  t5 := Tryd.underlying5
  a5 := Tryd.isAgg5
  z5 := Tryd.sizeOf5
  v5 := Tryd.zeroValue5
  t91 := Tryd.underlying36
  a91 := Tryd.isAgg36
  z91 := Tryd.sizeOf36
  v91 := Tryd.zeroValue36
  i0 := by kernel_rfl
  i3 := by kernel_rfl
  i5 := by kernel_rfl
  i37 := by kernel_rfl
  i91 := by kernel_rfl
  i93 := by kernel_rfl
  i130 := by kernel_rfl }
/-- The buffer at block b, one of those from B on, holds these bytes. -/
def BufAt (w : World) (B b : Nat) (l : List UInt8) : Prop := Lib.IsBuffer 38 5 B b (bcs l) w
theorem bcs_lib (l : List UInt8) : bcs l = Lib.byteCells l := rfl
theorem Chg.belowTr {w0 w w' : World} (h : Chg [] w0 w) (g : Below w0.heap.size w w') : Chg [] w0 w' :=
  ⟨g.os.trans h.os, g.tape.trans h.tape, g.output.trans h.output, Nat.le_trans h.size g.size, fun k hk hn => (g.block k hk).trans (h.block k hk hn)⟩
theorem BufAt.fresh (w : World) : BufAt (w.alloc (.cells #[.slice none 0 0, .int .i64 0, .int .i8 0] 38)) w.heap.size w.heap.size [] := Lib.fresh_isBuffer _ _ w
theorem BufAt.tr0 {w w' : World} {B b : Nat} {l : List UInt8} (h : BufAt w B b l) (g : Chg [] w w') : BufAt w' B b l := by
  obtain ⟨h0, v, lr, h1, h2, h3⟩ := h
  exact ⟨h0, v, lr, g.heap h1 (by simp), own_tr h2 g (by simp), h3⟩
theorem BufAt.lt {w : World} {B b : Nat} {l : List UInt8} (h : BufAt w B b l) : b < w.heap.size := Lib.IsBuffer.lt h
theorem bufWrite_ok (w : World) (B b : Nat) (l m : List UInt8) (v : Value) (base : Nat) (h : BufAt w B b l) (hB : B ≤ w.heap.size) (hv : w.ownsRow base 5 1 v m.length (bcs m)) (hb : b < base) (hm : 0 < m.length) (hlim : l.length + m.length ≤ big) :
    Calls Tryd.prog 18 #[.pointer (some ⟨b, 0, none⟩), v] w fun e w' => e = .returned (.tuple #[.int .i64 m.length, .nilIface]) ∧ BufAt w' B b (l ++ m) ∧ Below B w w' := by
  obtain ⟨_, ⟨rfl, h0⟩ | ⟨g, cap, cur, rfl, hbg, hg, hnc, hcm, hcs, ht⟩⟩ := id hv
  · omega
  · have hc := (Sl.ofOwns hv).cellsOf
    refine (Any.Buffer_Write_any lays180 B b (bcs l) (bcs m) ⟨g, 0, none⟩ m.length cap w h hB (bcs_one l) (bcs_length m) (by show g ≠ b; omega) (fun j u hj => ?_) (bcs_one m) (by rw [bcs_length]; exact hlim)).mono ?_
    · obtain ⟨x, hx, hu⟩ := hc j u hj
      cases hx; exact hu
    · rintro e w' ⟨rfl, h1, h2, _⟩
      exact ⟨rfl, by unfold BufAt; rw [bcs_append]; exact h1, h2⟩
theorem bufString_ok (w : World) (B b : Nat) (l m : List UInt8) (h : BufAt w B b l) (hB : B ≤ w.heap.size) (hlim : l.length + m.length ≤ big) :
    Calls Tryd.prog 20 #[.pointer (some ⟨b, 0, none⟩), .string (bstr m)] w fun e w' => e = .returned (.tuple #[.int .i64 m.length, .nilIface]) ∧ BufAt w' B b (l ++ m) ∧ Below B w w' := by
  refine (Any.Buffer_WriteString_k lays178 B b (bcs l) (bstr m) w h hB (bcs_one l) (by rw [bcs_length, bstr_size]; exact hlim)).mono ?_
  rintro e w' ⟨rfl, h1, h2, _⟩
  rw [bstr_size]
  exact ⟨rfl, by unfold BufAt; rw [bcs_append, bcs_lib m]; exact h1, h2⟩
theorem bufBytes_ok (w : World) (B b : Nat) (l : List UInt8) (h : BufAt w B b l) :
    Calls Tryd.prog 21 #[.pointer (some ⟨b, 0, none⟩)] w fun e w' => ∃ v, e = .returned v ∧ w'.ownsRow B 5 1 v l.length (bcs l) ∧ Chg [] w w' := by
  refine (Any.Buffer_Bytes lays183 B b (bcs l) w h).mono ?_
  rintro e w' ⟨v, rfl, h1, n, rfl⟩
  rw [bcs_length] at h1
  exact ⟨v, rfl, h1, Chg.drewN _ _ _⟩
end Go.Proofs.YtdclbhmmpdngpaaDoor
