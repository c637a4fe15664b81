/-
  The digest of bytes.
-/
import Derived.Test.YtgepfmofignmfaaProg
import Derived.Test.YtgepfmofignmfaaSha8
import Derived.ArgAppend
import Derived.Deep.MidRow
import Derived.Laws.Cover3
import Derived.ChangeKeysEq
import Derived.Deep.RegionLawGrows
namespace Go.Proofs.Ytgepfmofignmfaa
set_option linter.unusedSimpArgs false
set_option linter.unusedVariables false
open Go.RowKit

/-- A state behind the whole blocks of bytes. -/
def blocksF : Nat → List W32 → List UInt8 → List W32
  | 0, h, _ => h
  | f + 1, h, l => if l.length < 64 then h else blocksF f (comp h (l.take 64)) (l.drop 64)
def blocks (h : List W32) (l : List UInt8) : List W32 := blocksF l.length h l
theorem blocksF_more (f : Nat) : ∀ (g : Nat) (h : List W32) (l : List UInt8), l.length ≤ f → l.length ≤ g → blocksF f h l = blocksF g h l := by
  induction f with
  | zero =>
    intro g h l hf hg
    cases g with
    | zero => rfl
    | succ g => simp only [blocksF]; rw [if_pos (by omega)]
  | succ f ih =>
    intro g h l hf hg
    cases g with
    | zero => simp only [blocksF]; rw [if_pos (by omega)]
    | succ g =>
      simp only [blocksF]
      split
      · rfl
      · exact ih g _ _ (by simp; omega) (by simp; omega)
theorem blocks_short (h : List W32) (l : List UInt8) (hl : l.length < 64) : blocks h l = h := by
  unfold blocks
  cases hq : l.length with
  | zero => rfl
  | succ n => simp only [blocksF]; rw [if_pos hl]
theorem blocks_long (h : List W32) (l : List UInt8) (hl : ¬ l.length < 64) : blocks h l = blocks (comp h (l.take 64)) (l.drop 64) := by
  unfold blocks
  have e : l.length = (l.length - 1) + 1 := by omega
  rw [e]
  conv => lhs; simp only [blocksF]
  rw [if_neg hl]
  exact blocksF_more _ _ _ _ (by simp; omega) (by simp)
theorem blocks_length (h : List W32) (l : List UInt8) (hh : h.length = 8) : (blocks h l).length = 8 := by
  have H : ∀ f (h : List W32) (l : List UInt8), h.length = 8 → (blocksF f h l).length = 8 := by
    intro f
    induction f with
    | zero => intro h l hh; exact hh
    | succ f ih =>
      intro h l hh
      simp only [blocksF]
      split
      · exact hh
      · exact ih _ _ (comp_length h _ hh)
  exact H _ _ _ hh

def wbyte (x : W32) (i : Nat) : UInt8 := UInt8.ofNat (x.toNat / 2 ^ (8 * (3 - i)))
/-- Of the digest the first m bytes. -/
def digTo (h : List W32) (m : Nat) : List UInt8 := (List.range 32).map fun j => if j < m then wbyte (h.getD (j / 4) 0#32) (j % 4) else 0
def dig (h : List W32) : List UInt8 := digTo h 32
theorem digTo_length (h : List W32) (m : Nat) : (digTo h m).length = 32 := by simp [digTo]
theorem digTo_zero (h : List W32) : digTo h 0 = List.replicate 32 0 := by
  apply List.ext_getElem (by simp [digTo])
  intro j h1 h2
  simp only [digTo, List.getElem_map, List.getElem_range, List.getElem_replicate]
  rw [if_neg (by omega)]
theorem digTo_set (h : List W32) (m : Nat) : (digTo h m).set m (wbyte (h.getD (m / 4) 0#32) (m % 4)) = digTo h (m + 1) := by
  apply List.ext_getElem (by simp [digTo])
  intro j h1 h2
  simp only [digTo, List.getElem_set, List.getElem_map, List.getElem_range]
  by_cases hj : m = j
  · subst hj; simp
  · by_cases h3 : j < m
    · simp [hj, h3, Nat.lt_succ_of_lt h3]
    · have : ¬ j < m + 1 := by omega
      simp [hj, h3, this]
def sumB (b : List UInt8) : List UInt8 := dig (blocks first8 (b ++ padL b.length))

/-- 'alloc t', t an array of n bytes. -/
theorem alloc_bytes {P : Program} {ops : Array Oper} {rest : List Oper} {o : Oper} {a : Act} {w : World} {Q : Exit → Act → World → Prop} (hg : o.guard = none) (t : TypeId) (ho : o.op = .alloc t) (n : Nat)
    (hz : (P.info? t).map (·.zero) = some (some (.agg (Array.replicate n (.int .u8 0)))))
    (h : ∀ w', w'.heap[w.heap.size]? = some (.cells (bcs (List.replicate n 0)).toArray t (0, 0)) → Chg [] w w' → w'.heap.size = w.heap.size + 1 → wpList P ops Q rest (a.put o.dst (.pointer (some ⟨w.heap.size, 0, none⟩))) w') : wpList P ops Q (o :: rest) a w := by
  refine wpList_alloc_z hg t ho _ hz (h _ ?_ (Chg.alloc _ _ _) (World.size_alloc ..))
  rw [heap_alloc_new]
  have e : (bcs (List.replicate n 0)).toArray = Array.replicate n (Value.int .u8 0) := by
    apply Array.ext'
    simp [bcs]
  rw [← e]; rfl
theorem bcs_all (l : List UInt8) : ((bcs l).toArray).all (·.oneCell') = true := by
  simp only [List.all_toArray, bcs, List.all_map, List.all_eq_true]
  intro x _; rfl
theorem store_bytes {P : Program} {ops : Array Oper} {rest : List Oper} {o : Oper} {a : Act} {w : World} {Q : Exit → Act → World → Prop} (hg : o.guard = none) (t : TypeId) (x y : Operand) (ho : o.op = .store t x y) (p n : Nat) (e : TypeId)
    (hx : a.eval x = .pointer (some ⟨p, 0, none⟩)) (L : List UInt8) (hy : a.eval y = .agg (bcs L).toArray) (Z : List UInt8) (hp : w.heap[p]? = some (.cells (bcs Z).toArray e (0, 0))) (hi : (P.info? t).map (·.size) = some n) (hL : L.length = n) (hZ : Z.length = n)
    (h : ∀ w', w'.heap[p]? = some (.cells (bcs L).toArray e (0, 0)) → Chg [p] w w' → w'.heap.size = w.heap.size → wpList P ops Q rest (a.put o.dst undef) w') : wpList P ops Q (o :: rest) a w := by
  refine wpList_store_row hg t x y ho p (bcs L).toArray hx hy e _ hp (by rw [hi]; simp [bcs, hL]) (by simp [bcs, hL, hZ]) (bcs_all L) (h _ (setRow_heap w p _ _ e _ hp) ?_ (by simp))
  exact ⟨rfl, rfl, rfl, by simp, fun k _ hk => setRow_other w p k _ (fun e => hk (by simp [e]))⟩
theorem ret_bytes {P : Program} {fn : Func} {R : Ending → World → Prop} {a : Act} {w : World} (s : Tmp) (ty : TypeId) (hf : fn.results = #[.cell s ty]) (n : Nat) (e : TypeId) (hu : P.underlying ty = some (.array n e)) (hi : (P.info? ty).map (·.size) = some n)
    (hd : a.defers = []) (p : Nat) (hp : a.tmps.getD s undef = .pointer (some ⟨p, 0, none⟩)) (L : List UInt8) (t : TypeId) (hw : w.heap[p]? = some (.cells (bcs L).toArray t (0, 0))) (hL : L.length = n) (hR : R (.returned (.agg (bcs L).toArray)) w) : bodyPost P fn R .ret a w :=
  ret_array s ty hf n e hu hi hd p hp _ t hw (by simp [bcs, hL]) hR
/-- A row of the call's own that is not empty lies somewhere. -/
theorem own_some {w : World} {base e n : Nat} {v : Value} {xs : List Value} (h : w.ownsRow base e 1 v n xs) (hn : 0 < n) : ∃ g cap, v = .slice (some ⟨g, 0, none⟩) n cap ∧ base ≤ g ∧ n ≤ cap ∧ cap ≤ maxLen ∧ ∀ j u, xs[j]? = some u → w.cell? ⟨g, j, none⟩ = some u := by
  obtain ⟨h1, ⟨rfl, rfl⟩ | ⟨g, cap, cur, rfl, hb, hg, hnc, hcm, hcs, ht⟩⟩ := id h
  · simp at h1; omega
  · refine ⟨g, cap, rfl, hb, hnc, hcm, fun j u hj => ?_⟩
    have := h.cells (g := g) rfl j u hj
    rwa [Addr.add_lit, Nat.zero_add] at this

/-- In a quiet head: a whole array is loaded. -/
theorem quiet_load {P : Program} {ops : Array Oper} {C : World → Prop} {R : Act → Prop} {rest : List Oper} {a : Act} {o : Oper} (hg : o.guard = none) (ty : TypeId) (x : Operand) (ho : o.op = .load ty x) (p off : Nat) (hx : a.eval x = .pointer (some ⟨p, off, none⟩))
    (cs : List Value) (d : TypeDesc) (hc : ∀ w, C w → w.rangeAt p off cs) (hu : P.underlying ty = some d) (hd : d.isRow = true) (hi : (P.info? ty).map (·.size) = some cs.length) (h : wpQuiet P ops C R rest (a.put o.dst (.agg cs.toArray))) : wpQuiet P ops C R (o :: rest) a := by
  refine wpQuiet_step fun K hK => ?_
  have hw : Region.wanted o (yielded ops a.tmps) = true := by simp [Region.wanted, hg]
  rw [if_pos hw]
  refine ⟨.agg cs.toArray, fun w hw => ?_, hK _ h⟩
  unfold Oper.quietAt execOp
  simp only [ho, hx, Instr.loadAt, Instr.sureAddr, Sem.run_bind, Sem.run_pure, Result.andThen_ok, run_loadVar_mid w p off ty cs d (hc w hw) hu hd hi]
  exact ⟨rfl, rfl⟩
theorem run_index_agg {P : Program} (w : World) (t e n : Nat) (cs : Array Value) (k : IntKind) (i : Nat) (hu : P.underlying t = some (.array n e)) (he : P.plainKey e = true) (hsz : (P.info? e).map (·.size) = some 1) (hi : i < n) (v : Value) (hv : cs[i]? = some v) :
    (Instr.index t (.agg cs) (.int k (i : Int))).run P w = .ok v w := by
  cases hq : P.info? e with
  | none => simp [hq] at hsz
  | some j =>
    have hs : j.size = 1 := by simpa [hq] using hsz
    have hp := run_part_plain (P := P) (w := w) he hv
    simp [Instr.index, asIntOf, run_underlying hu, sizeOf, typeInfo, hq, hs, hp, hi, Result.andThen]
theorem Wat.range {w : World} {p : Nat} {l : List W32} (h : Wat w p l) : w.rangeAt p 0 (wcs l) := by
  obtain ⟨t, h⟩ := h
  intro j v hj
  rw [Nat.zero_add, cell_of_row w p j _ _ _ h, List.getElem?_toArray]
  exact hj

set_option maxRecDepth 100000 in
theorem sum_ok (w : World) (v : Value) (b : List UInt8) (hs : Sl w v b.length (bcs b)) (hb : b.length ≤ 2147483647) :
    Calls Try.prog 28 #[v] w fun e w' => e = .returned (.agg (bcs (sumB b)).toArray) ∧ Chg [] w w' := by
  have hs0 := hs
  obtain ⟨a, c, rfl, q1, q2, q3, q4, q6, q5⟩ := hs
  unfold maxLen at q2
  clear q3 q4 q6 q5
  go_enter Try.func28, Try.ntmps28
  go_wp2_with (refine alloc_bytes (by rfl) 32 (by rfl) 32 (by kernel_rfl) ?_; intro w0 h0 g0 s0; replace s0 : Hid _ := s0)
  refine (first_ok _).mono ?_
  rintro e w1 ⟨rfl, g1⟩
  go_wp2_with (first
    | (refine alloc_words (by rfl) 72 (by rfl) 8 (by kernel_rfl) ?_; intro w3 h3 g3 s3; replace s3 : Hid _ := s3)
    | (refine store_words (by rfl) 72 (.tmp 3) (.tmp 9) (by rfl) _ 8 (by rfl) first8 (by rfl) _ h3 (by kernel_rfl) (by rfl) (by rw [List.length_replicate]) ?_; intro w4 h4 g4 s4; replace s4 : Hid _ := s4))
  have z0 := s0.out; have z1 := g1.size; have z3 := s3.out; have z4 := s4.out
  obtain ⟨p2, e2⟩ : ∃ p, w.heap.size = p := ⟨_, rfl⟩
  obtain ⟨p3, e3⟩ : ∃ p, w1.heap.size = p := ⟨_, rfl⟩
  have n32 : p3 ≠ p2 := by omega
  have m2 : Hid (w.heap.size ≤ p2) := by unfold Hid; omega
  have m3 : Hid (w.heap.size ≤ p3) := by unfold Hid; omega
  have l2 : p2 < w4.heap.size := by omega
  have l3 : p3 < w4.heap.size := by omega
  have L2 : Hid (p2 < w4.heap.size) := l2
  have L3 : Hid (p3 < w4.heap.size) := l3
  rw [e3] at h3 g4 h4 ⊢
  rw [e2] at h0 ⊢
  have h04 : w4.heap[p2]? = _ := ((g1.t0 g3).of0 (S := [p3])).t1 g4 |>.heap h0 (by simp [Ne.symm n32])
  have G : Chg [] w w4 := ((g0.t0 g1).t0 g3).tn g4 m3.out
  clear h0 g0 s0 g1 h3 g3 s3 g4 s4 z0 z1 z3 z4 l2 l3 e2 e3
  obtain ⟨i0, hi0, hz0, hsz0, hby0⟩ := info_parts (P := Try.prog) (e := 5) (z := .int .u8 0) (size := 1) (bytes := 1) (by kernel_rfl)
  have I0 : Hid (Try.prog.info? 5 = some i0 ∧ i0.zero = some (.int .u8 0) ∧ i0.size = 1 ∧ i0.bytes = 1) := ⟨hi0, hz0, hsz0, hby0⟩
  clear hi0 hz0 hsz0 hby0
  have hnone : Hid (a = none → b.length = 0 ∧ b.length = 0) := fun e => by
    obtain ⟨_, _, e1, r1, _, r3, _⟩ := hs0
    cases e1
    have := r3 e
    omega
  have hpl : Hid ((padL b.length).length = 9 + padZ b.length) := padL_length _
  have hpz : Hid (padZ b.length < 64) := padZ_lt _
  go_region_held3 (fun _ => True) (first | trivial | go_keep)
    (first
    | (go_at_call 43; refine (pad_ok _ b.length hb).mono ?_; rintro e w5 ⟨vp, rfl, o5, g5⟩; obtain ⟨gp, cp, rfl, hgp, _, hcp, hpc⟩ := own_some o5 (by have := hpl.out; omega))
    | (refine step_append_grows rfl (.tmp 15) (.tmp 18) 22 rfl 5 i0 (.int .u8 0) 1 1 Try.underlying22 I0.out.1 I0.out.2.1 I0.out.2.2.1 I0.out.2.2.2 rfl (by decide) a b.length b.length (bcs b) (by rfl) hnone.out (by simp [bcs]) (fun ad ha j u hu => by
        subst ha
        obtain ⟨x, hx, hc⟩ := (((hs0.tr0 G).tr0 (Chg.drew [] w4)).tr0 g5).cellsOf j u hu
        cases hx; exact hc) ⟨gp, 0, none⟩ (padL b.length).length cp (bcs (padL b.length)) (by rfl) (by simp [bcs]) (fun j u hu => by rw [Addr.add_lit, Nat.zero_add]; exact hpc j u hu) (bcs_one _) (by have := hpl.out; omega) (by have := hpl.out; have := hpz.out; unfold maxLen; omega) (by have := hpl.out; have := hpz.out; omega) ?_; intro v6 w6 o6 g6))
  have g46 : Chg [] w4 w6 := ((Chg.drew [] w4).t0 g5).t0 (Chg.grown0 g6)
  have hW6 := h4.tr g46 (by simp)
  have h06 := g46.heap h04 (by simp)
  have G6 := G.t0 g46
  rw [← bcs_append] at o6
  have hS6 := Sl.ofOwns o6
  have hv6 : ∀ k, vblk v6 = some k → p3 < k := fun k hk => by
    have h1 := own_from o6 k (vblk_own hk)
    have h2 := ((Chg.drew [] w4).t0 g5).size
    have := L3.out
    omega
  have hlen : Hid ((b ++ padL b.length).length = b.length + (padL b.length).length) := List.length_append
  have hbig : Hid ((b ++ padL b.length).length ≤ 2147483800) := by unfold Hid; rw [hlen.out, hpl.out]; have := hpz.out; omega
  rw [← hlen.out] at hS6
  clear h4 h04 G g5 o5 hpc o6 g6 g46 hs0 I0 hnone hcp hgp
  have hsum : Hid (sumB b = dig (blocks first8 (b ++ padL b.length))) := rfl
  generalize b ++ padL b.length = A at *
  go_wp2_with fail
  go_loopw [4] (fun rv wr => ∃ (L : List UInt8) (hc : List W32), hc.length = 8 ∧ Sl wr rv L.length (bcs L) ∧ (∀ k, vblk rv = some k → p3 < k) ∧ L.length ≤ 2147483800 ∧ blocks hc L = blocks first8 A ∧ Wat wr p3 hc ∧ wr.heap[p2]? = some (.cells (bcs (List.replicate 32 0)).toArray 32 (0, 0)) ∧ Chg [] w wr) (fun rv _ => vlen rv)
  case atStart => exact ⟨A, first8, rfl, hS6, hv6, hbig.out, rfl, hW6, h06, G6⟩
  case round =>
    clear hS6 hv6 hW6 h06 G6
    obtain ⟨L, hc, hc8, hS, hv, hL, hbl, hW, h0, hG⟩ := hrel
    have hS0 := hS
    have HB : Hid _ := hbl
    clear hbl
    obtain ⟨a', c', rfl, q1, q2', q3, q4, q6, q5⟩ := hS
    unfold maxLen at q2'
    clear q3 q4 q6 q5
    by_cases hlt : L.length < 64
    · go_wp2_with (first
        | (refine alloc_bytes (by rfl) 32 (by rfl) 32 (by kernel_rfl) ?_; intro we he ge se; replace se : Hid _ := se)
        | (refine load_words (by rfl) 72 (.tmp 3) (by rfl) p3 8 71 (by rfl) hc (hW.tr ge (by simp)) Try.underlying72 (by kernel_rfl) hc8 ?_))
      have HB2 : Hid (blocks first8 A = hc) := by unfold Hid; rw [← HB.out, blocks_short hc L hlt]
      obtain ⟨p5, e5⟩ : ∃ p, wr.heap.size = p := ⟨_, rfl⟩
      have n52 : p5 ≠ p2 := by have := lt_of_heap h0; omega
      have m5 : Hid (w.heap.size ≤ p5) := by unfold Hid; have := hG.size; omega
      rw [e5] at he ⊢
      have h0e := ge.heap h0 (by simp)
      have hGe := hG.t0 ge
      rw [← digTo_zero hc] at he
      clear h0 hG hW hS0 hv ge se e5
      obtain ⟨wo, rfl⟩ : ∃ wo : World, wo = wr := ⟨_, rfl⟩
      generalize decide ((64 : Int) ≤ (L.length : Int)) = vb
      unfold aw
      go_loopw [31] (fun iv wr => ∃ k : Nat, k ≤ 8 ∧ iv = .int .i64 k ∧ wr.heap[p5]? = some (.cells (bcs (digTo hc (4 * k))).toArray 32 (0, 0)) ∧ wr.heap[p2]? = some (.cells (bcs (List.replicate 32 0)).toArray 32 (0, 0)) ∧ Chg [] w wr) (fun iv _ => 8 - (intOf iv).toNat)
      case atStart => exact ⟨0, by omega, rfl, he, h0e, hGe⟩
      case round =>
        clear he h0e hGe
        obtain ⟨k, hk, rfl, h5, h0, hG⟩ := hrel
        by_cases hlk : k < 8
        · have hget : (wcs hc).toArray[k]? = some (.int .u32 (iw (hc.getD k 0#32))) := by rw [List.getElem?_toArray]; exact wcs_get hc k (by omega)
          have hxd : Hid (hc.getD k 0#32 = hc.getD k 0#32) := rfl
          generalize hx : hc.getD k 0#32 = x at hget
          have HX : Hid _ := hx
          clear hx hxd
          have qk : (k : Int) < 8 := by omega
          have hidx : ∀ w, (Instr.index 72 (.agg (wcs hc).toArray) (.int .i64 (k : Int))).run Try.prog w = .ok (.int .u32 (iw x)) w := fun w => run_index_agg w _ 71 8 _ _ k Try.underlying72 (by kernel_rfl) (by kernel_rfl) hlk _ hget
          clear hget
          go_wp2_with fail
          obtain ⟨wo2, rfl⟩ : ∃ wo2 : World, wo2 = wr := ⟨_, rfl⟩
          generalize decide ((k : Int) < 8) = vb2
          go_loopw [35] (fun iv wr => ∃ i : Nat, i ≤ 4 ∧ iv = .int .i64 i ∧ wr.heap[p5]? = some (.cells (bcs (digTo hc (4 * k + i))).toArray 32 (0, 0)) ∧ wr.heap[p2]? = some (.cells (bcs (List.replicate 32 0)).toArray 32 (0, 0)) ∧ Chg [] w wr) (fun iv _ => 4 - (intOf iv).toNat)
          case atStart => exact ⟨0, by omega, rfl, h5, h0, hG⟩
          case round =>
            clear h5 h0 hG
            obtain ⟨i, hi, rfl, h5, h0, hG⟩ := hrel
            by_cases hit : i < 4
            · have hset := bytes_set h5 (4 * k + i) (wbyte x i)
              have hds := digTo_set hc (4 * k + i)
              rw [show (4 * k + i) / 4 = k by omega, show (4 * k + i) % 4 = i by omega, HX.out] at hds
              rw [hds] at hset
              clear hds
              have c5 := bytes_cell h5 (4 * k + i) (by rw [digTo_length]; omega)
              have f5 := frozen_of_row wr p5 (4 * k + i) _ _ h5
              obtain ⟨j, ej, e1, e1'⟩ : ∃ j : Nat, Hid (j = 4 * k + i) ∧ (4 : Int) * (k : Int) + (i : Int) = (j : Int) ∧ (j : Int) < 32 := ⟨4 * k + i, rfl, by omega, by omega⟩
              rw [← ej.out] at hset c5 f5
              obtain ⟨s8, hs8, e2, e2'⟩ : ∃ s8 : Nat, Hid (s8 = 8 * (3 - i)) ∧ (8 : Int) * ((3 : Int) - (i : Int)) = (s8 : Int) ∧ s8 < 32 := ⟨8 * (3 - i), rfl, by omega, by omega⟩
              have e4 : iw x / 2 ^ s8 % 256 = ((wbyte x i).toNat : Int) := by
                unfold wbyte iw
                rw [UInt8.toNat_ofNat', hs8.out]
                simp only [Int.natCast_emod, Int.natCast_ediv, Int.natCast_pow]
                rfl
              generalize wbyte x i = y at *
              go_wp2_with fail
              go_roundw
              case rel => exact ⟨i + 1, by omega, by go_num, by rw [show 4 * k + (i + 1) = j + 1 by have := ej.out; omega]; exact hset, by rw [heap_setCell_other _ _ _ _ (Ne.symm n52)]; exact h0, hG.tn (Chg.setCell _ ⟨p5, j, none⟩ _) m5.out⟩
              case measure => simp [intOf]; omega
            · have hi4 : i = 4 := by omega
              have e44 : Hid (4 * k + i = 4 * (k + 1)) := by unfold Hid; omega
              rw [e44.out] at h5
              clear hi4
              go_wp2_with fail
              go_roundw
              case rel => exact ⟨k + 1, by omega, by go_num, h5, h0, hG⟩
              case measure => simp [intOf]; omega
        · have h8 : 4 * k = 32 := by omega
          rw [h8] at h5
          clear h8
          have hr : Hid (sumB b = digTo hc 32) := by unfold Hid; rw [hsum.out, HB2.out]; rfl
          go_wp2_with (first
            | (refine wpList_load_row (by rfl) 32 (.tmp 5) (by rfl) p5 (by rfl) _ _ (0, 0) _ h5 Try.underlying32 rfl (by simp only [List.size_toArray]; rw [bcs_length, digTo_length]; kernel_rfl) ?_)
            | (refine store_bytes (by rfl) 32 (.tmp 2) (.tmp 51) (by rfl) p2 32 _ (by rfl) (digTo hc 32) (by rfl) _ h0 (by kernel_rfl) (digTo_length _ _) (by rw [List.length_replicate]) ?_; intro wz hz gz sz))
          exact ret_bytes 2 32 (by rfl) 32 5 Try.underlying32 (by kernel_rfl) rfl p2 (by rfl) _ _ hz (digTo_length _ _) ⟨by rw [hr.out], hG.tn gz m2.out⟩
    · obtain ⟨g, off, c2, e2, _, _, hgl, hcells⟩ := hS0.at (by rw [bcs_length]; omega)
      cases e2
      have hq : ¬ (L.length : Int) < 64 := by omega
      go_wp2_with fail
      refine region_quiet_tail 4 (by kernel_rfl) (by kernel_rfl) ?_
      simp only [List.take_succ_cons, List.take_zero, List.drop_succ_cons, List.drop_zero]
      refine quiet_load (by rfl) 72 (.tmp 3) (by rfl) p3 0 (by rfl) (wcs hc) _ (by rintro _ ⟨m, rfl⟩; exact (hW.drewN m).range) Try.underlying72 rfl (by rw [wcs_length, hc8]; kernel_rfl) ?_
      have hat : ∀ w, (Instr.arrayAt 75 (.slice (some ⟨g, off, none⟩) L.length c')).run Try.prog w = .ok (.pointer (some ⟨g, off, none⟩)) w := fun w => run_arrayAt w 75 5 64 _ L.length c' Try.underlying75 (by omega)
      have ht64 : (L.take 64).length = 64 := by simp; omega
      quiet_step (fail)
      quiet_step (fail)
      refine quiet_load (by rfl) 75 (.tmp 25) (by rfl) g off (by rfl) (bcs (L.take 64)) _ (by
        rintro _ ⟨m, rfl⟩ j u hj
        have h1 : (bcs L)[j]? = some u := by
          have h2 : bcs (L.take 64) = (bcs L).take 64 := by simp [bcs, List.map_take]
          rw [h2, List.getElem?_take] at hj
          split at hj
          · exact hj
          · cases hj
        exact hcells j u h1) Try.underlying75 rfl (by rw [bcs_length, ht64]; kernel_rfl) ?_
      refine wpQuiet_nil ?_
      intro m
      clear hat hcells
      go_wp2_with fail
      refine (compress_ok (wr.drewN m) hc hc8 (L.take 64) ht64).mono ?_
      rintro e wc ⟨rfl, gc⟩
      have gd := (Chg.drewN [] wr m).t0 gc
      have hWc := hW.tr gd (by simp)
      have h0c := gd.heap h0 (by simp)
      have hSc := hS0.tr0 gd
      have hGc := hG.t0 gd
      have hvc : ∀ k, vblk (.slice (some ⟨g, off, none⟩) L.length c') = some k → k ∉ [p3] := fun k hk hm => by have := hv k hk; simp at hm; omega
      clear hW h0 hS0 hG gc gd
      have hC8 := comp_length hc (L.take 64) hc8
      go_wp2_with (refine store_words (by rfl) 72 (.tmp 3) (.tmp 27) (by rfl) p3 8 (by rfl) (comp hc (L.take 64)) (by rfl) _ hWc (by kernel_rfl) hC8 hc8 ?_; intro wd hWd gd sd; replace sd : Hid _ := sd)
      have hbl2 : Hid (blocks (comp hc (L.take 64)) (L.drop 64) = blocks first8 A) := by unfold Hid; rw [← blocks_long hc L hlt]; exact HB.out
      have hld : Hid ((L.drop 64).length = L.length - 64) := List.length_drop
      have hSd := hSc.tr gd hvc
      have h0d := gd.heap h0c (by simp [Ne.symm n32])
      have hGd := hGc.tn gd m3.out
      go_roundw
      case rel =>
        refine ⟨L.drop 64, comp hc (L.take 64), hC8, ?_, ?_, by rw [hld.out]; omega, hbl2.out, hWd, h0d, hGd⟩
        · rw [hld.out]
          by_cases hce : c' = 64
          · subst hce
            rw [if_pos rfl]
            have h := hSd.dropE (k := 64) (by omega) rfl 1 (by simp [bcs])
            simpa [bcs, List.map_drop] using h
          · rw [if_neg hce]
            have h := hSd.dropN (k := 64) (by omega) hce 1
            simpa [Addr.add_lit, bcs, List.map_drop] using h
        · intro k hk
          rw [vblk_slice] at hk
          refine hv k (vblk_slice.2 ⟨by omega, ?_⟩)
          have h := hk.2
          split at h <;> simpa using h
      case measure => simp [vlen]; omega
end Go.Proofs.Ytgepfmofignmfaa
