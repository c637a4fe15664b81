/-
  Columns as bytes: the contracts of schema.Put and of the document's own (hypostyleref16).
-/
import Derived.Test.YtllidfhdklfkmaaCols2
import Derived.Test.YtllidfhdklfkmaaVget2
import Derived.Lib.AppendStr
namespace Go.Proofs.Ytllidfhdklfkmaa
open Go.RowKit

def nullB (c : Col) : UInt8 := if c.null then 1 else 0
def colB (c : Col) : List UInt8 := vput c.name.length ++ c.name ++ [UInt8.ofNat c.typ.toNat, nullB c]
def putB (L : List Col) : List UInt8 := vput L.length ++ L.flatMap colB

/-- Columns of which nothing is wrong. -/
theorem colsGo_zero : ∀ (L : List Col) (seen : List (List UInt8)), colsGo L seen = 0 → ∀ c ∈ L, 0 < c.name.length ∧ c.name.length ≤ 100 ∧ 0 ≤ c.typ ∧ c.typ < 4
  | [], _, _, _, h => by simp at h
  | d :: r, seen, h0, c, hc => by
    rw [colsGo] at h0
    split at h0
    · cases h0
    · rename_i h1
      split at h0
      · cases h0
      · rename_i h2
        rcases List.mem_cons.1 hc with rfl | hc
        · simp only [not_or] at h1
          omega
        · exact colsGo_zero r _ h0 c hc
theorem colsV_zero {L : List Col} (h : colsV L = 0) : L.length ≤ 64 ∧ ∀ c ∈ L, 0 < c.name.length ∧ c.name.length ≤ 100 ∧ 0 ≤ c.typ ∧ c.typ < 4 := by
  unfold colsV at h
  split at h
  · cases h
  · exact ⟨by omega, colsGo_zero L [] h⟩
theorem colB_length {c : Col} (h : c.name.length ≤ 100) : (colB c).length ≤ 112 := by
  have := vsize_ten (n := c.name.length) (by omega)
  unfold vsize at this
  unfold colB
  simp only [List.length_append, List.length_cons, List.length_nil]
  omega
theorem colsB_length (L : List Col) (h : ∀ c ∈ L, c.name.length ≤ 100) : (L.flatMap colB).length ≤ 112 * L.length := by
  induction L with
  | nil => simp
  | cons c r ih =>
    have h1 := ih (fun x hx => h x (List.mem_cons_of_mem _ hx))
    have h2 := colB_length (h c (List.mem_cons_self ..))
    simp only [List.flatMap_cons, List.length_append, List.length_cons]
    omega
theorem colsB_take (L : List Col) (k : Nat) (h : k < L.length) : (L.take (k + 1)).flatMap colB = (L.take k).flatMap colB ++ colB L[k] := by
  rw [take_snoc L k h, List.flatMap_append]; simp only [List.flatMap_cons, List.flatMap_nil, List.append_nil]

theorem strCells_bstr (l : List UInt8) : Lib.strCells (bstr l) = bcs l := by
  unfold Lib.strCells bcs
  simp
/-- 'append(out, s...)', s a string. -/
theorem wpList_append_str {P : Program} {w : World} {ops : Array Oper} {rest : List Oper} {o : Oper} {a : Act} {Q : Exit → Act → World → Prop} (hgd : o.guard = none) (sl x : Operand) (t u e : TypeId)
    (ho : o.op = .call { callee := .builtin .append, args := #[sl, x], argTypes := #[t, u] }) (ht : P.underlying t = some (.slice e)) (hu : P.underlying u = some .string) (hi : (P.info? e).map (fun i => (i.zero, i.size, i.bytes)) = some (some (.int .u8 0), 1, 1))
    (base : Nat) (v : Value) (l : List UInt8) (hs : a.eval sl = v) (hown : w.ownsRow base e 1 v l.length (bcs l)) (m : List UInt8) (hx : a.eval x = .string (bstr m)) (hb : l.length + m.length ≤ big) (hbase : base ≤ w.heap.size)
    (h : ∀ v' w', w'.ownsRow base e 1 v' (l ++ m).length (bcs (l ++ m)) → w.grownBy w' v.ownBlock → wpList P ops Q rest (a.put o.dst v') w') : wpList P ops Q (o :: rest) a w := by
  obtain ⟨i, hi1, hi2, hi3, hi4⟩ := info_parts hi
  refine Lib.wpList_append_own_string w hgd sl x t u ho base e i ht hu hi1 hi2 hi3 hi4 v l.length (bcs l) hs hown (bstr m) hx (by rw [bstr_size]; unfold big at hb; unfold maxLen; omega) (by rw [bstr_size]; exact hb) hbase (fun v' w' h2 h3 _ => h v' w' ?_ h3)
  rw [strCells_bstr, bstr_size] at h2
  rw [bcs_append, List.length_append]
  exact h2
theorem Sl.byte2New (w : World) (e : TypeId) (x y : Int) (b d : UInt8) (h : x = (b.toNat : Int)) (h2 : y = (d.toNat : Int)) : Sl (w.alloc (.cells #[.int .u8 x, .int .u8 y] e)) (.slice (some ⟨w.heap.size, 0, none⟩) 2 2) 2 (bcs [b, d]) := by
  subst h h2; exact Sl.lit _ _ _ 2 (by decide)

set_option maxHeartbeats 4000000 in
set_option maxRecDepth 100000 in
theorem sput_ok (w : World) (v0 v1 : Value) (l : List UInt8) (L : List Col) (hL : ∀ c ∈ L, c.name.length ≤ maxLen ∧ -9223372036854775808 ≤ c.typ ∧ c.typ ≤ 9223372036854775807) (h0 : Sl w v0 l.length (bcs l)) (h1 : Sl w v1 L.length (L.flatMap colc)) (hb : l.length + 10000 ≤ big) (hLb : L.length ≤ maxLen) :
    Calls Try.prog 33 #[v0, v1] w fun e w' =>
      ∃ v', e = .returned v' ∧ w'.ownsRow w.heap.size 5 1 v' (if colsV L = 0 then l ++ putB L else l).length (bcs (if colsV L = 0 then l ++ putB L else l)) ∧ Chg [] w w' := by
  obtain ⟨R, hR⟩ : ∃ R, R = if colsV L = 0 then l ++ putB L else l := ⟨_, rfl⟩
  rw [← hR]
  obtain ⟨a1, c1, rfl⟩ := h1.shape
  go_enter Try.func33, Try.ntmps33
  go_wp2_with fail
  refine (cols_ok w _ L hL h1 hLb).mono ?_
  rintro e w1 ⟨rfl, g1⟩
  by_cases hz : colsV L = 0
  · rw [if_pos hz] at hR
    rw [hz]
    obtain ⟨hl64, hc⟩ := colsV_zero hz
    have hlv : L.length < 2 ^ 64 := by omega
    have hcv : IntKind.u64.wrap (L.length : Int) = (L.length : Int) := wraps_u64 _ (by omega) (by omega)
    clear hz
    go_wp2_with fail
    refine (vput_ok w1 _ l L.length hlv (h0.tr0 g1) (by unfold big at *; omega)).mono ?_
    rintro e w2 ⟨v2, rfl, o2, g2⟩
    have o2' : w2.ownsRow w.heap.size 5 1 v2 (l ++ vput L.length).length (bcs (l ++ vput L.length)) := by
      rw [List.length_append]; exact own_lower o2 g1.size
    have g12 := g1.t0 g2
    clear o2 g1 g2
    go_wp2_with fail
    have hlen2 : (vput L.length).length ≤ 10 := vsize_ten hlv
    replace hR : R = l ++ vput L.length ++ L.flatMap colB := by rw [hR, putB, List.append_assoc]
    generalize hb2 : l ++ vput L.length = b2 at *
    have hb2l : b2.length + 9000 ≤ big := by rw [← hb2, List.length_append]; unfold big at *; omega
    clear hb2 hlen2 h0 hcv
    go_loopw [0, 20] (fun out iv wr => ∃ (k : Nat), k ≤ L.length ∧ iv = .int .i64 k ∧ wr.ownsRow w.heap.size 5 1 out (b2 ++ (L.take k).flatMap colB).length (bcs (b2 ++ (L.take k).flatMap colB)) ∧ Chg [] w wr) (fun _ iv _ => L.length - (intOf iv).toNat)
    case atStart => exact ⟨0, Nat.zero_le _, rfl, by simpa using o2', g12⟩
    case round =>
      obtain ⟨k, hk, rfl, hown, hch⟩ := hrel
      clear o2' g12
      by_cases hlt : k < L.length
      · obtain ⟨b, off, c, e, hbl, x1, x2, x3⟩ := cols_cells (h1.tr0 hch) k hlt
        cases e
        obtain ⟨n0, n1, t0, t1⟩ := hc _ (List.getElem_mem hlt)
        have htk := colsB_take L k hlt
        have hsz : ((L.take k).flatMap colB).length ≤ 112 * 64 := by
          have := colsB_length (L.take k) (fun x hx => (hc x (List.mem_of_mem_take hx)).2.1)
          rw [List.length_take] at this
          omega
        have hX : (b2 ++ (L.take k).flatMap colB).length + 1000 ≤ big := by rw [List.length_append]; unfold big at *; omega
        have hcb : b2 ++ (L.take (k + 1)).flatMap colB = (b2 ++ (L.take k).flatMap colB) ++ vput L[k].name.length ++ L[k].name ++ [UInt8.ofNat L[k].typ.toNat, nullB L[k]] := by
          rw [htk, colB]; simp only [List.append_assoc]
        replace hcb := Lib.hid hcb
        generalize b2 ++ (L.take k).flatMap colB = X at *
        unfold nullB at hcb
        generalize hx : L[k] = x at *
        obtain ⟨nm, ty, nu⟩ := x
        dsimp only at *
        clear htk hsz hx h1 hb2l hb
        have hnlt : nm.length < 2 ^ 64 := by omega
        have hcv : IntKind.u64.wrap (nm.length : Int) = (nm.length : Int) := wraps_u64 _ (by omega) (by omega)
        have q : ∀ w' : World, w'.heap[wr.heap.size]? = some (.cells #[.string (bstr nm), .int .i64 ty, .bool nu] 52 (0, 0)) → w'.cell? ⟨wr.heap.size, 0, none⟩ = some (.string (bstr nm)) ∧ w'.cell? ⟨wr.heap.size, 1, none⟩ = some (.int .i64 ty) ∧ w'.cell? ⟨wr.heap.size, 2, none⟩ = some (.bool nu) := fun w' h =>
          ⟨by rw [cell_of_row _ _ _ _ _ _ h]; rfl, by rw [cell_of_row _ _ _ _ _ _ h]; rfl, by rw [cell_of_row _ _ _ _ _ _ h]; rfl⟩
        go_wp2_with fail
        have hbk := heap_alloc_new wr (.cells #[.string (bstr nm), .int .i64 ty, .bool nu] 52)
        have hch1 := hch.t0 (Chg.alloc [] wr (.cells #[.string (bstr nm), .int .i64 ty, .bool nu] 52))
        have hown1 := hown.alloc (.cells #[.string (bstr nm), .int .i64 ty, .bool nu] 52)
        obtain ⟨q0, q1, q2⟩ := q _ hbk
        have hbz : w.heap.size ≤ wr.heap.size := hch.size
        clear hch hown
        generalize hW : wr.alloc (.cells #[.string (bstr nm), .int .i64 ty, .bool nu] 52) = W at *
        have hWs : W.heap.size = wr.heap.size + 1 := by rw [← hW]; simp
        clear hW
        generalize wr.heap.size = B at *
        have sX := Sl.ofOwns hown1
        refine' region_soft 8 [cst _, cst _, cst (.string (bstr nm)), cst _, cst _, fun v w' => w'.ownsRow w.heap.size 5 1 v (X ++ vput nm.length).length (bcs (X ++ vput nm.length)) ∧ ∀ k, v.ownBlock = some k → W.heap.size ≤ k, cst _, cst (.string (bstr nm))] rfl (by kernel_rfl) (by kernel_rfl) (stays_cons (Stays.cst _) (stays_cons (Stays.cst _) (stays_cons (Stays.cst _) (stays_cons (Stays.cst _) (stays_cons (Stays.cst _) (stays_cons (fun _ _ _ h g => ⟨own_tr h.1 g (by simp), h.2⟩) (stays_cons (Stays.cst _) (stays_cons (Stays.cst _) stays_nil)))))))) _ (fun V => by simp only [putAll, Act.put, List.take_succ_cons, List.take_zero, List.setIfInBounds_toArray, List.set_cons_zero, List.set_cons_succ, Nat.reduceAdd]; exact rfl) ?hs1 ?ht1
        case hs1 =>
          simp only [List.take_succ_cons, List.take_zero, softs]
          refine ⟨?_, ?_, ?_, ?_, ?_, ?_, ?_, ?_, trivial⟩
          · intro V w hw hd
            simp [phi, Region.binds, cst] at hd
            try simp only [hd]
            first
              | (refine soft_const rfl ?_; go_simp; done)
              | (refine soft_const rfl ?_; go_simp; exact rfl)
              | (exact soft_cell rfl hw _ _ rfl _ rfl _ _ q0 Try.underlying9 rfl)
              | (exact soft_skip rfl)
          · intro V w hw hd
            simp [phi, Region.binds, cst] at hd
            try simp only [hd]
            first
              | (refine soft_const rfl ?_; go_simp; done)
              | (refine soft_const rfl ?_; go_simp; exact rfl)
              | (exact soft_cell rfl hw _ _ rfl _ rfl _ _ q0 Try.underlying9 rfl)
              | (exact soft_skip rfl)
          · intro V w hw hd
            simp [phi, Region.binds, cst] at hd
            try simp only [hd]
            first
              | (refine soft_const rfl ?_; go_simp; done)
              | (refine soft_const rfl ?_; go_simp; exact rfl)
              | (exact soft_cell rfl hw _ _ rfl _ rfl _ _ q0 Try.underlying9 rfl)
              | (exact soft_skip rfl)
          · intro V w hw hd
            simp [phi, Region.binds, cst] at hd
            try simp only [hd]
            first
              | (refine soft_const rfl ?_; go_simp; done)
              | (refine soft_const rfl ?_; go_simp; exact rfl)
              | (exact soft_cell rfl hw _ _ rfl _ rfl _ _ q0 Try.underlying9 rfl)
              | (exact soft_skip rfl)
          · intro V w hw hd
            simp [phi, Region.binds, cst] at hd
            try simp only [hd]
            first
              | (refine soft_const rfl ?_; go_simp; done)
              | (refine soft_const rfl ?_; go_simp; exact rfl)
              | (exact soft_cell rfl hw _ _ rfl _ rfl _ _ q0 Try.underlying9 rfl)
              | (exact soft_skip rfl)
          · intro V w hw hd
            simp [phi, Region.binds, cst] at hd
            try simp only [hd]
            refine soft_call rfl _ _ (by go_simp; try exact ⟨rfl, rfl⟩) ((vput_ok w _ X nm.length hnlt (sX.tr0 hw) (by unfold big at *; omega)).mono fun e w' ⟨v, h1, h2, h3⟩ => ⟨v, h1, h3, by rw [List.length_append]; exact own_lower h2 (Nat.le_trans hch1.size hw.size), fun k hk => Nat.le_trans hw.size (own_from h2 k hk)⟩)
          · intro V w hw hd
            simp [phi, Region.binds, cst] at hd
            try simp only [hd]
            first
              | (refine soft_const rfl ?_; go_simp; done)
              | (refine soft_const rfl ?_; go_simp; exact rfl)
              | (exact soft_cell rfl hw _ _ rfl _ rfl _ _ q0 Try.underlying9 rfl)
              | (exact soft_skip rfl)
          · intro V w hw hd
            simp [phi, Region.binds, cst] at hd
            try simp only [hd]
            first
              | (refine soft_const rfl ?_; go_simp; done)
              | (refine soft_const rfl ?_; go_simp; exact rfl)
              | (exact soft_cell rfl hw _ _ rfl _ rfl _ _ q0 Try.underlying9 rfl)
              | (exact soft_skip rfl)
        intro V w5 g5 hk5
        have f5 : w5.ownsRow w.heap.size 5 1 (V 5) (X ++ vput nm.length).length (bcs (X ++ vput nm.length)) ∧ ∀ k, (V 5).ownBlock = some k → W.heap.size ≤ k := hk5 5 (by decide)
        have f7 := hk5 7 (by decide)
        simp [phi, cst] at f7
        simp only [f7, List.drop_succ_cons, List.drop_zero]
        obtain ⟨o5, o5b⟩ := f5
        generalize V 0 = p0
        generalize V 1 = p1
        generalize V 2 = p2
        generalize V 3 = p3
        generalize V 4 = p4
        generalize V 5 = p5 at *
        generalize V 6 = p6
        clear hk5 f7 V sX
        have hvn : (vput nm.length).length ≤ 10 := vsize_ten hnlt
        have h5s := g5.size
        have hbk5 := g5.heap hbk (by simp)
        have hch5 := hch1.t0 g5
        have hXl : (X ++ vput nm.length).length + 900 ≤ big := by rw [List.length_append]; unfold big at *; omega
        generalize X ++ vput nm.length = X2 at *
        go_wp2_with (at_builtin; refine wpList_append_str rfl (.tmp 29) (.tmp 31) 22 9 5 rfl Try.underlying22 Try.underlying9 (by kernel_rfl) w.heap.size p5 X2 rfl o5 nm rfl (by unfold big at *; omega) (by omega) ?_)
        intro v6 w6 o6 hg6
        have hbk6 := (Chg.grown hg6).heap hbk5 (fun hm => by have := o5b B (by simpa using hm); omega)
        have hch6 : Chg [] w w6 := hch5.grownOwn hg6 o5 (Nat.le_refl _)
        obtain ⟨r0, r1, r2⟩ := q _ hbk6
        have hX3 : (X2 ++ nm).length + 700 ≤ big := by rw [List.length_append]; unfold big at *; omega
        have h6s := hch6.size
        have hl3 : (X2 ++ nm).length = X2.length + nm.length := List.length_append
        generalize X2 ++ nm = X3 at *
        replace hl3 := Lib.hid hl3
        clear hbk5 hbk6 o5 o5b hg6 hbk q0 q1 q2 hown1 hch1 hch5 g5
        have e0 : IntKind.u8.wrap ty = ty := by rw [IntKind.wrap_u8]; omega
        have et : ((UInt8.ofNat ty.toNat).toNat : Int) = ty := by simp; omega
        cases nu
        · go_wp2_with (at_builtin; refine wpList_append_sl _ rfl (.tmp 35) (.tmp 40) 22 5 1 1 rfl el_u8 w.heap.size v6 _ _ rfl (o6.alloc _) _ 2 (bcs [UInt8.ofNat ty.toNat, 0]) rfl (Sl.byte2New _ _ _ _ _ _ (by first | exact et.symm | omega) rfl) (by simp [bcs]) (bcs_one _) (by unfold big at *; omega) (by simp; omega) ?_)
          intro v7 w7 o7 hg7
          have hch7 : Chg [] w w7 := (hch6.t0 (Chg.alloc [] w6 _)).grownOwn hg7 (o6.alloc _) (Nat.le_refl _)
          replace o7 : w7.ownsRow w.heap.size 5 1 v7 (X3 ++ [UInt8.ofNat ty.toNat, 0]).length (bcs (X3 ++ [UInt8.ofNat ty.toNat, 0])) := by rw [bcs_append, List.length_append, hl3.out]; exact o7
          clear hg7 o6 hch6
          go_wp2
          go_roundw
          case rel => exact ⟨k + 1, by omega, by go_num, by rw [hcb.out]; exact o7, hch7⟩
          case measure => simp [RowKit.intOf]; omega
        · go_wp2_with (at_builtin; refine wpList_append_sl _ rfl (.tmp 35) (.tmp 40) 22 5 1 1 rfl el_u8 w.heap.size v6 _ _ rfl (o6.alloc _) _ 2 (bcs [UInt8.ofNat ty.toNat, 1]) rfl (Sl.byte2New _ _ _ _ _ _ (by first | exact et.symm | omega) rfl) (by simp [bcs]) (bcs_one _) (by unfold big at *; omega) (by simp; omega) ?_)
          intro v7 w7 o7 hg7
          have hch7 : Chg [] w w7 := (hch6.t0 (Chg.alloc [] w6 _)).grownOwn hg7 (o6.alloc _) (Nat.le_refl _)
          replace o7 : w7.ownsRow w.heap.size 5 1 v7 (X3 ++ [UInt8.ofNat ty.toNat, 1]).length (bcs (X3 ++ [UInt8.ofNat ty.toNat, 1])) := by rw [bcs_append, List.length_append, hl3.out]; exact o7
          clear hg7 o6 hch6
          go_wp2
          go_roundw
          case rel => exact ⟨k + 1, by omega, by go_num, by rw [hcb.out]; exact o7, hch7⟩
          case measure => simp [RowKit.intOf]; omega
      · obtain rfl : k = L.length := by omega
        rw [List.take_length, ← hR] at hown
        clear hR
        go_wp2
        go_ret
        exact ⟨_, rfl, hown, hch⟩
  · rw [if_neg hz] at hR
    subst hR
    generalize colsV L = V at *
    go_wp2_with fail
    refine (clone_ok w1 _ R (h0.tr0 g1) (by unfold big at *; omega)).mono ?_
    rintro e w2 ⟨v2, rfl, o2, g2⟩
    go_wp2
    go_ret
    exact ⟨_, rfl, own_lower o2 g1.size, g1.t0 g2⟩

set_option maxHeartbeats 4000000 in
set_option maxRecDepth 100000 in
theorem rsput_ok (w : World) (v0 v1 : Value) (l : List UInt8) (L : List Col) (hL : ∀ c ∈ L, c.name.length ≤ maxLen ∧ -9223372036854775808 ≤ c.typ ∧ c.typ ≤ 9223372036854775807) (h0 : Sl w v0 l.length (bcs l)) (h1 : Sl w v1 L.length (L.flatMap colc)) (hb : l.length + 10000 ≤ big) (hLb : L.length ≤ maxLen) :
    Calls Try.prog 34 #[v0, v1] w fun e w' =>
      ∃ v', e = .returned v' ∧ w'.ownsRow w.heap.size 5 1 v' (if colsV L = 0 then l ++ putB L else l).length (bcs (if colsV L = 0 then l ++ putB L else l)) ∧ Chg [] w w' := by
  obtain ⟨R, hR⟩ : ∃ R, R = if colsV L = 0 then l ++ putB L else l := ⟨_, rfl⟩
  rw [← hR]
  obtain ⟨a1, c1, rfl⟩ := h1.shape
  go_enter Try.func34, Try.ntmps34
  go_wp2_with (at_builtin; refine wpList_append_sl _ rfl (.tmp 8) (.tmp 9) 22 5 1 1 rfl el_u8 w.heap.size _ 0 [] rfl (own_lit w #[] 5 0 1 _ (Nat.le_refl _) (Nat.zero_le _) rfl) _ l.length (bcs l) rfl (h0.tr0 (Chg.alloc _ _ _)) (by simp [bcs]) (bcs_one l) (by unfold big at *; omega) (by simp) ?_)
  intro v2 w2 o2 hg2
  have hc2 : Chg [] w w2 := (Chg.alloc [] w _).trans (Chg.grown hg2) (by simp [Value.ownBlock])
  replace o2 : w2.ownsRow w.heap.size 5 1 v2 l.length (bcs l) := by simpa using o2
  clear hg2 h0
  go_wp2_with fail
  refine (rcols_ok w2 _ L hL (h1.tr0 hc2) hLb).mono ?_
  rintro e w3 ⟨rfl, g3⟩
  have hc3 := hc2.t0 g3
  have o3 := own_tr o2 g3 (by simp)
  clear o2 hc2 g3
  by_cases hz : colsV L = 0
  · rw [if_pos hz] at hR
    rw [hz]
    obtain ⟨hl64, hc⟩ := colsV_zero hz
    have hlv : L.length < 2 ^ 64 := by omega
    have hcv : IntKind.u64.wrap (L.length : Int) = (L.length : Int) := wraps_u64 _ (by omega) (by omega)
    clear hz
    go_wp2_with fail
    refine (rput_ok w3 _ l L.length hlv (Sl.ofOwns o3) (by unfold big at *; omega)).mono ?_
    rintro e w4 ⟨v4, rfl, o4, g4⟩
    have o4' : w4.ownsRow w.heap.size 5 1 v4 (l ++ vput L.length).length (bcs (l ++ vput L.length)) := by
      rw [List.length_append]; exact own_lower o4 hc3.size
    have g12 := hc3.t0 g4
    clear o4 o3 hc3 g4
    go_wp2_with fail
    have hlen2 : (vput L.length).length ≤ 10 := vsize_ten hlv
    replace hR : R = l ++ vput L.length ++ L.flatMap colB := by rw [hR, putB, List.append_assoc]
    generalize hb2 : l ++ vput L.length = b2 at *
    have hb2l : b2.length + 9000 ≤ big := by rw [← hb2, List.length_append]; unfold big at *; omega
    clear hb2 hlen2 hcv
    go_loopw [5, 7] (fun out iv wr => ∃ (k : Nat), k ≤ L.length ∧ iv = .int .i64 k ∧ wr.ownsRow w.heap.size 5 1 out (b2 ++ (L.take k).flatMap colB).length (bcs (b2 ++ (L.take k).flatMap colB)) ∧ Chg [] w wr) (fun _ iv _ => L.length - (RowKit.intOf iv).toNat)
    case atStart => exact ⟨0, Nat.zero_le _, rfl, by simpa using o4', g12⟩
    case round =>
      obtain ⟨k, hk, rfl, hown, hch⟩ := hrel
      clear o4' g12
      by_cases hlt : k < L.length
      · have cell : ∀ w', Chg [] wr w' → ∃ b off c, Value.slice a1 L.length c1 = .slice (some ⟨b, off, none⟩) L.length c ∧ b < w'.heap.size ∧ w'.cell? ⟨b, off + k * 3, none⟩ = some (.string (bstr L[k].name)) ∧ w'.cell? ⟨b, off + k * 3 + 1, none⟩ = some (.int .i64 L[k].typ) ∧ w'.cell? ⟨b, off + k * 3 + 2, none⟩ = some (.bool L[k].null) := fun w' g => cols_cells ((h1.tr0 hch).tr0 g) k hlt
        obtain ⟨b, off, c, e, hbl, x1, x2, x3⟩ := cell wr (Chg.refl _ _)
        cases e
        obtain ⟨n0, n1, t0, t1⟩ := hc _ (List.getElem_mem hlt)
        have htk := colsB_take L k hlt
        have hsz : ((L.take k).flatMap colB).length ≤ 112 * 64 := by
          have := colsB_length (L.take k) (fun x hx => (hc x (List.mem_of_mem_take hx)).2.1)
          rw [List.length_take] at this
          omega
        have hX : (b2 ++ (L.take k).flatMap colB).length + 1000 ≤ big := by rw [List.length_append]; unfold big at *; omega
        have hcb : b2 ++ (L.take (k + 1)).flatMap colB = (b2 ++ (L.take k).flatMap colB) ++ vput L[k].name.length ++ L[k].name ++ [UInt8.ofNat L[k].typ.toNat] ++ [nullB L[k]] := by
          rw [htk, colB]; simp only [List.append_assoc, List.cons_append, List.nil_append]
        replace hcb := Lib.hid hcb
        generalize b2 ++ (L.take k).flatMap colB = X at *
        unfold nullB at hcb
        generalize hx : L[k] = x at *
        obtain ⟨nm, ty, nu⟩ := x
        dsimp only at *
        clear htk hsz hx h1 hb2l hb
        have hnlt : nm.length < 2 ^ 64 := by omega
        have hcv : IntKind.u64.wrap (nm.length : Int) = (nm.length : Int) := wraps_u64 _ (by omega) (by omega)
        have hbz : w.heap.size ≤ wr.heap.size := hch.size
        have hvn : (vput nm.length).length ≤ 10 := vsize_ten hnlt
        go_wp2_with fail
        refine (rput_ok wr _ X nm.length hnlt (Sl.ofOwns hown) (by unfold big at *; omega)).mono ?_
        rintro e w5 ⟨p5, rfl, o5, g5⟩
        replace o5 : w5.ownsRow wr.heap.size 5 1 p5 (X ++ vput nm.length).length (bcs (X ++ vput nm.length)) := by rw [List.length_append]; exact o5
        have h5s := g5.size
        have hXl : (X ++ vput nm.length).length + 900 ≤ big := by rw [List.length_append]; unfold big at *; omega
        generalize X ++ vput nm.length = X2 at *
        obtain ⟨_, _, _, e, _, y1, y2, y3⟩ := cell w5 g5
        cases e
        clear hown x1 x2 x3
        go_wp2_with (at_builtin; refine wpList_append_str rfl (.tmp 36) (.tmp 41) 22 9 5 rfl Try.underlying22 Try.underlying9 (by kernel_rfl) wr.heap.size p5 X2 rfl o5 nm rfl (by unfold big at *; omega) (by omega) ?_)
        intro v6 w6 o6 hg6
        have g6 : Chg [] wr w6 := g5.grownOwn hg6 o5 (Nat.le_refl _)
        obtain ⟨_, _, _, e, _, z1, z2, z3⟩ := cell w6 g6
        cases e
        have hX3 : (X2 ++ nm).length + 700 ≤ big := by rw [List.length_append]; unfold big at *; omega
        have h6s := g6.size
        have hl3 : (X2 ++ nm).length = X2.length + nm.length := List.length_append
        generalize X2 ++ nm = X3 at *
        replace hl3 := Lib.hid hl3
        clear y1 y2 y3 o5 hg6 g5
        have e0 : IntKind.u8.wrap ty = ty := by rw [IntKind.wrap_u8]; omega
        have et : ((UInt8.ofNat ty.toNat).toNat : Int) = ty := by simp; omega
        go_wp2_with (at_builtin; refine wpList_append_sl _ rfl (.tmp 43) (.tmp 50) 22 5 1 1 rfl el_u8 wr.heap.size v6 _ _ rfl (o6.alloc _) _ 1 (bcs [UInt8.ofNat ty.toNat]) rfl (Sl.byteNew _ _ _ _ (by first | exact et.symm | omega)) (by simp [bcs]) (bcs_one _) (by unfold big at *; omega) (by simp; omega) ?_)
        intro v7 w7 o7 hg7
        have g7 : Chg [] wr w7 := (g6.t0 (Chg.alloc [] w6 _)).grownOwn hg7 (o6.alloc _) (Nat.le_refl _)
        obtain ⟨_, _, _, e, _, y1, y2, y3⟩ := cell w7 g7
        cases e
        replace o7 : w7.ownsRow wr.heap.size 5 1 v7 (X3 ++ [UInt8.ofNat ty.toNat]).length (bcs (X3 ++ [UInt8.ofNat ty.toNat])) := by rw [bcs_append, List.length_append, hl3.out]; exact o7
        have hX4 : (X3 ++ [UInt8.ofNat ty.toNat]).length + 600 ≤ big := by rw [List.length_append, hl3.out]; simp; unfold big at *; omega
        have h7s := g7.size
        generalize X3 ++ [UInt8.ofNat ty.toNat] = X4 at *
        clear z1 z2 z3 o6 hg7 g6 cell
        cases nu
        · go_wp2_with (at_builtin; refine wpList_append_sl _ rfl (.tmp 60) (.tmp 61) 22 5 1 1 rfl el_u8 wr.heap.size v7 _ _ rfl (o7.alloc _) _ 1 (bcs [0]) rfl (Sl.byteNew _ _ _ _ rfl) (by simp [bcs]) (bcs_one _) (by unfold big at *; omega) (by simp; omega) ?_)
          intro v8 w8 o8 hg8
          have g8 : Chg [] wr w8 := (g7.t0 (Chg.alloc [] w7 _)).grownOwn hg8 (o7.alloc _) (Nat.le_refl _)
          replace o8 : w8.ownsRow w.heap.size 5 1 v8 (X4 ++ [0]).length (bcs (X4 ++ [0])) := by rw [bcs_append, List.length_append]; exact own_lower o8 hbz
          have hch8 := hch.t0 g8
          clear hg8 o7 g7
          go_wp2
          go_roundw
          case rel => exact ⟨k + 1, by omega, by go_num, by rw [hcb.out]; exact o8, hch8⟩
          case measure => simp [RowKit.intOf]; omega
        · go_wp2_with (at_builtin; refine wpList_append_sl _ rfl (.tmp 57) (.tmp 58) 22 5 1 1 rfl el_u8 wr.heap.size v7 _ _ rfl (o7.alloc _) _ 1 (bcs [1]) rfl (Sl.byteNew _ _ _ _ rfl) (by simp [bcs]) (bcs_one _) (by unfold big at *; omega) (by simp; omega) ?_)
          intro v8 w8 o8 hg8
          have g8 : Chg [] wr w8 := (g7.t0 (Chg.alloc [] w7 _)).grownOwn hg8 (o7.alloc _) (Nat.le_refl _)
          replace o8 : w8.ownsRow w.heap.size 5 1 v8 (X4 ++ [1]).length (bcs (X4 ++ [1])) := by rw [bcs_append, List.length_append]; exact own_lower o8 hbz
          have hch8 := hch.t0 g8
          clear hg8 o7 g7
          go_wp2
          go_roundw
          case rel => exact ⟨k + 1, by omega, by go_num, by rw [hcb.out]; exact o8, hch8⟩
          case measure => simp [RowKit.intOf]; omega
      · obtain rfl : k = L.length := by omega
        rw [List.take_length, ← hR] at hown
        clear hR
        go_wp2
        go_ret
        exact ⟨_, rfl, hown, hch⟩
  · rw [if_neg hz] at hR
    subst hR
    generalize colsV L = V at *
    go_wp2
    go_ret
    exact ⟨_, rfl, o3, hc3⟩
end Go.Proofs.Ytllidfhdklfkmaa
