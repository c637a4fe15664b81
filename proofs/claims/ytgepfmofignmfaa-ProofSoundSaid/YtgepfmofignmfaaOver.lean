/-
  The walk over a tree (proof.walk).over: its contract, whatever its three functions do.
-/
import Derived.Test.YtgepfmofignmfaaProofPure
import Derived.Test.YtgepfmofignmfaaTreeHeld
namespace Go.Proofs.Ytgepfmofignmfaa
set_option linter.unusedSimpArgs false
set_option linter.unusedVariables false
open Go.RowKit

/-- What a function did to what it may turn (S). -/
def Did {σ : Type} (I : σ → World → List Nat → Prop) (s : σ) (w w' : World) (S : List Nat) : Prop := ∃ S', I s w' S' ∧ Chg S w w' ∧ ∀ q ∈ S', q ∈ S ∨ w.heap.size ≤ q
theorem did_trans {σ : Type} {I : σ → World → List Nat → Prop} {s : σ} {w w1 w2 : World} {S S1 : List Nat} (g : Chg S w w1) (h : ∀ q ∈ S1, q ∈ S ∨ w.heap.size ≤ q) (k : Did I s w1 w2 S1) : Did I s w w2 S := by
  obtain ⟨S', h1, h2, h3⟩ := k
  refine ⟨S', h1, g.trans h2 h, fun q hq => ?_⟩
  rcases h3 q hq with h4 | h4
  · exact h q h4
  · exact .inr (Nat.le_trans g.size h4)
structure Walks {σ : Type} (A : Acts σ) (I : σ → World → List Nat → Prop) (K : σ → Nat → Nat → Prop) (B lo hi N : Nat) (fi fb fn : Nat) (ci cb cn : Array Value) : Prop where
  ein : ∀ args w, (callFunc fi args).run Try.prog w = .ok (.enter fi args) w
  ebe : ∀ args w, (callFunc fb args).run Try.prog w = .ok (.enter fb args) w
  eno : ∀ args w, (callFunc fn args).run Try.prog w = .ok (.enter fn args) w
  keep : ∀ s w w' S T, I s w S → Chg T w w' → (∀ q ∈ T, q ∉ S ∧ B ≤ q ∧ ∃ cs f, w.heap[q]? = some (.cells cs 32 f)) → I s w' S
  lt : ∀ s w S, I s w S → B ≤ w.heap.size ∧ ∀ q ∈ S, q < w.heap.size
  inn : ∀ s w S (a b c d : Nat), I s w S → K s c (2 * (b - a) - 1 + d) → lo ≤ a → a < b → b ≤ hi → b ≤ N → Calls Try.prog fi (#[.int .i64 a, .int .i64 b] ++ ci) w fun e w' => e = .returned (.agg (bcs (A.inn s a b).1).toArray) ∧ (A.inn s a b).1.length = 32 ∧ Did I (A.inn s a b).2 w w' S
  bes : ∀ s w S (a b c d : Nat), I s w S → K s (c + 1) (2 * (b - a) - 1 + d) → a < b → b ≤ N → Calls Try.prog fb (#[.int .i64 a, .int .i64 b] ++ cb) w fun e w' => e = .returned (.agg (bcs (A.bes s a b).1).toArray) ∧ (A.bes s a b).1.length = 32 ∧ Did I (A.bes s a b).2 w w' S
  nod : ∀ s w S x y c d, I s w S → K s c (1 + d) → x.length = 32 → y.length = 32 → Calls Try.prog fn (#[.agg (bcs x).toArray, .agg (bcs y).toArray] ++ cn) w fun e w' => e = .returned (.agg (bcs (A.nod s x y).1).toArray) ∧ (A.nod s x y).1.length = 32 ∧ Did I (A.nod s x y).2 w w' S
  kinn : ∀ s a b c d, a < b → b ≤ N → K s c (2 * (b - a) - 1 + d) → K (A.inn s a b).2 c d
  kbes : ∀ s a b c d, a < b → b ≤ N → K s (c + 1) (2 * (b - a) - 1 + d) → K (A.bes s a b).2 c d
  knod : ∀ s x y c d, K s c (1 + d) → K (A.nod s x y).2 c d

theorem cells5w {w : World} {p : Nat} {x y z u v : Value} {e : TypeId} {f : Nat × Nat} (h : w.heap[p]? = some (.cells #[x, y, z, u, v] e f)) :
    w.cell? ⟨p, 0, none⟩ = some x ∧ w.cell? ⟨p, 1, none⟩ = some y ∧ w.cell? ⟨p, 2, none⟩ = some z ∧ w.cell? ⟨p, 3, none⟩ = some u ∧ w.cell? ⟨p, 4, none⟩ = some v :=
  ⟨by rw [cell_of_row w p 0 _ _ _ h]; rfl, by rw [cell_of_row w p 1 _ _ _ h]; rfl, by rw [cell_of_row w p 2 _ _ _ h]; rfl, by rw [cell_of_row w p 3 _ _ _ h]; rfl, by rw [cell_of_row w p 4 _ _ _ h]; rfl⟩
set_option maxHeartbeats 8000000 in
set_option maxRecDepth 100000 in
theorem over_run {σ : Type} {A : Acts σ} {I : σ → World → List Nat → Prop} {K : σ → Nat → Nat → Prop} {B lo hi N : Nat} {fi fb fn : Nat} {ci cb cn : Array Value} (W : Walks A I K B lo hi N fi fb fn ci cb cn) (hN : N ≤ 65536) (hlo : lo ≤ 140000) (hhi : hi ≤ 140000)
    (a b : Nat) (hab : a < b) : b ≤ N → ∀ (c d : Nat) (s : σ) (w : World) (S : List Nat), I s w S → K s (needV lo hi a b + c) (2 * (b - a) - 1 + d) →
    Calls Try.prog 49 #[.agg #[.int .i64 lo, .int .i64 hi, .func (.func fi) #[] ci, .func (.func fb) #[] cb, .func (.func fn) #[] cn], .int .i64 a, .int .i64 b] w fun e w' =>
      e = .returned (.agg (bcs (overV A lo hi a b s).1).toArray) ∧ (overV A lo hi a b s).1.length = 32 ∧ K (overV A lo hi a b s).2 c d ∧ Did I (overV A lo hi a b s).2 w w' S := by
  have ei := W.ein
  have eb := W.ebe
  have en := W.eno
  refine over_ind (lo := lo) (hi := hi) (P := fun a b => b ≤ N → ∀ (c d : Nat) (s : σ) (w : World) (S : List Nat), I s w S → K s (needV lo hi a b + c) (2 * (b - a) - 1 + d) →
    Calls Try.prog 49 #[.agg #[.int .i64 lo, .int .i64 hi, .func (.func fi) #[] ci, .func (.func fb) #[] cb, .func (.func fn) #[] cn], .int .i64 a, .int .i64 b] w fun e w' =>
      e = .returned (.agg (bcs (overV A lo hi a b s).1).toArray) ∧ (overV A lo hi a b s).1.length = 32 ∧ K (overV A lo hi a b s).2 c d ∧ Did I (overV A lo hi a b s).2 w w' S) ?_ ?_ ?_ a b hab
  · intro a b h h1 hb c d s w S hI hK
    rw [overV_bes h1]
    rw [needV_bes h1, Nat.add_comm] at hK
    have kk := W.kbes s a b c d h hb hK
    have hl := W.lt s w S hI
    have kB := fun wx (g : Chg [] w wx) => W.bes s wx S a b c d (W.keep s w wx S [] hI g (by simp)) hK h hb
    have hbw := heap_alloc_new w (.cells #[.int .i64 lo, .int .i64 hi, .func (.func fi) #[] ci, .func (.func fb) #[] cb, .func (.func fn) #[] cn] 79)
    have gbw := Chg.alloc [] w (.cells #[.int .i64 lo, .int .i64 hi, .func (.func fi) #[] ci, .func (.func fb) #[] cb, .func (.func fn) #[] cn] 79)
    generalize A.bes s a b = R at *
    obtain ⟨x, s1⟩ := R
    dsimp only at *
    replace kB := Lib.hid kB
    have hbr : (hi : Int) ≤ lo ∨ (lo : Int) < hi ∧ (b : Int) ≤ lo ∨ (lo : Int) < hi ∧ (lo : Int) < b ∧ (hi : Int) ≤ a := by omega
    rcases hbr with y1 | ⟨y1, y2⟩ | ⟨y1, y2, y3⟩
    all_goals
      go_enter Try.func49, Try.ntmps49
      go_wp2_with (refine alloc_bytes (by rfl) 32 (by rfl) 32 (by kernel_rfl) ?_; intro w0 h0 g0 s0; simp only [World.size_alloc] at h0 s0; replace s0 := Lib.hid s0; have hb0 := g0.heap hbw (by simp); obtain ⟨k0, k1, k2, k3, k4⟩ := cells5w hb0; replace g0 := gbw.t0 g0; clear hbw gbw)
      refine (kB.out w0 g0).mono ?_
      rintro e w1 ⟨rfl, hl1, S', i1, c1, n1⟩
      have hq : w.heap.size + 1 ∉ S := fun hm => by have := hl.2 _ hm; omega
      replace h0 := c1.heap h0 hq
      clear hb0 k0 k1 k2 k3 k4
      go_wp2_with (refine store_bytes (by rfl) 32 _ _ (by rfl) (w.heap.size + 1) 32 _ rfl x (by rfl) (List.replicate 32 0) h0 (by kernel_rfl) hl1 (by simp) ?_; intro w2 h2 g2 s2)
      have n1' : ∀ q ∈ S', q ∈ S ∨ w0.heap.size ≤ q := n1
      have hz0 := s0.out
      have i2 := W.keep _ w1 w2 S' [w.heap.size + 1] i1 g2 (fun q hq' => by
        rw [List.mem_singleton.1 hq']
        exact ⟨fun hm => by rcases n1' _ hm with h | h; exact hq h; omega, by omega, _, _, h0⟩)
      have c2 : Chg S w w2 := (g0.of0.t1 c1).tn g2 (by omega)
      go_wp2
      exact ret_bytes 6 32 (by rfl) 32 5 Try.underlying32 (by kernel_rfl) (by rfl) _ rfl x _ h2 hl1 ⟨rfl, hl1, kk, S', i2, c2, fun q hq => by
        rcases n1' q hq with h | h
        · exact .inl h
        · exact .inr (by omega)⟩
  · intro a b h h1 h2 hb c d s w S hI hK
    rw [overV_inn h1 h2]
    rw [needV_inn h1 h2, Nat.zero_add] at hK
    have kk := W.kinn s a b c d h hb hK
    have hl := W.lt s w S hI
    have kB := fun wx (g : Chg [] w wx) => W.inn s wx S a b c d (W.keep s w wx S [] hI g (by simp)) hK h2.1 h h2.2 hb
    have hbw := heap_alloc_new w (.cells #[.int .i64 lo, .int .i64 hi, .func (.func fi) #[] ci, .func (.func fb) #[] cb, .func (.func fn) #[] cn] 79)
    have gbw := Chg.alloc [] w (.cells #[.int .i64 lo, .int .i64 hi, .func (.func fi) #[] ci, .func (.func fb) #[] cb, .func (.func fn) #[] cn] 79)
    generalize A.inn s a b = R at *
    obtain ⟨x, s1⟩ := R
    dsimp only at *
    replace kB := Lib.hid kB
    have y1 : (lo : Int) < hi := by omega
    have y2 : (lo : Int) < b := by omega
    have y3 : (a : Int) < hi := by omega
    have y4 : (lo : Int) ≤ a := by omega
    have y5 : (b : Int) ≤ hi := by omega
    go_enter Try.func49, Try.ntmps49
    go_wp2_with (refine alloc_bytes (by rfl) 32 (by rfl) 32 (by kernel_rfl) ?_; intro w0 h0 g0 s0; simp only [World.size_alloc] at h0 s0; replace s0 := Lib.hid s0; have hb0 := g0.heap hbw (by simp); obtain ⟨k0, k1, k2, k3, k4⟩ := cells5w hb0; replace g0 := gbw.t0 g0; clear hbw gbw)
    refine (kB.out w0 g0).mono ?_
    rintro e w1 ⟨rfl, hl1, S', i1, c1, n1⟩
    have hq : w.heap.size + 1 ∉ S := fun hm => by have := hl.2 _ hm; omega
    replace h0 := c1.heap h0 hq
    clear hb0 k0 k1 k2 k3 k4
    go_wp2_with (refine store_bytes (by rfl) 32 _ _ (by rfl) (w.heap.size + 1) 32 _ rfl x (by rfl) (List.replicate 32 0) h0 (by kernel_rfl) hl1 (by simp) ?_; intro w2 h2 g2 s2)
    have n1' : ∀ q ∈ S', q ∈ S ∨ w0.heap.size ≤ q := n1
    have hz0 := s0.out
    have i2 := W.keep _ w1 w2 S' [w.heap.size + 1] i1 g2 (fun q hq' => by
      rw [List.mem_singleton.1 hq']
      exact ⟨fun hm => by rcases n1' _ hm with h | h; exact hq h; omega, by omega, _, _, h0⟩)
    have c2 : Chg S w w2 := (g0.of0.t1 c1).tn g2 (by omega)
    go_wp2
    exact ret_bytes 6 32 (by rfl) 32 5 Try.underlying32 (by kernel_rfl) (by rfl) _ rfl x _ h2 hl1 ⟨rfl, hl1, kk, S', i2, c2, fun q hq => by
      rcases n1' q hq with h | h
      · exact .inl h
      · exact .inr (by omega)⟩
  · intro a b h h1 h2 k1 k2 i1 i2 hb c d s w S hI hK
    rw [overV_nod h1 h2]
    rw [needV_nod h1 h2, Nat.add_assoc, show 2 * (b - a) - 1 + d = (2 * (a + splitV (b - a) - a) - 1) + ((2 * (b - (a + splitV (b - a))) - 1) + (1 + d)) by omega] at hK
    have hl := W.lt s w S hI
    have hbw := heap_alloc_new w (.cells #[.int .i64 lo, .int .i64 hi, .func (.func fi) #[] ci, .func (.func fb) #[] cb, .func (.func fn) #[] cn] 79)
    have gbw := Chg.alloc [] w (.cells #[.int .i64 lo, .int .i64 hi, .func (.func fi) #[] ci, .func (.func fb) #[] cb, .func (.func fn) #[] cn] 79)
    have kS := fun w => split_ok w ((b : Int) - a) ⟨by omega, by omega⟩
    rw [show ((b : Int) - a).toNat = b - a by omega] at kS
    have kA := fun wx (g : Chg [] w wx) => i1 (by omega) (needV lo hi (a + splitV (b - a)) b + c) (2 * (b - (a + splitV (b - a))) - 1 + (1 + d)) s wx S (W.keep s w wx S [] hI g (by simp)) hK
    have kB := fun wx S' h1 h2 => i2 hb c (1 + d) (overV A lo hi a (a + splitV (b - a)) s).2 wx S' h1 h2
    have kC := fun wx S' h1 h4 h2 h3 => W.nod (overV A lo hi (a + splitV (b - a)) b (overV A lo hi a (a + splitV (b - a)) s).2).2 wx S' (overV A lo hi a (a + splitV (b - a)) s).1 (overV A lo hi (a + splitV (b - a)) b (overV A lo hi a (a + splitV (b - a)) s).2).1 c d h1 h4 h2 h3
    have kD := W.knod (overV A lo hi (a + splitV (b - a)) b (overV A lo hi a (a + splitV (b - a)) s).2).2 (overV A lo hi a (a + splitV (b - a)) s).1 (overV A lo hi (a + splitV (b - a)) b (overV A lo hi a (a + splitV (b - a)) s).2).1 c d
    clear i1 i2 hK
    generalize overV A lo hi a (a + splitV (b - a)) s = R1 at *
    obtain ⟨x1, s1⟩ := R1
    dsimp only at *
    generalize overV A lo hi (a + splitV (b - a)) b s1 = R2 at *
    obtain ⟨x2, s2⟩ := R2
    dsimp only at *
    generalize A.nod s2 x1 x2 = R3 at *
    obtain ⟨x3, s3⟩ := R3
    dsimp only at *
    generalize needV lo hi (a + splitV (b - a)) b = n2 at *
    generalize splitV (b - a) = sp at *
    simp only [Int.natCast_add] at kA kB
    replace kA := Lib.hid kA
    replace kB := Lib.hid kB
    replace kC := Lib.hid kC
    replace kD := Lib.hid kD
    replace hl := Lib.hid hl
    have y1 : (lo : Int) < hi := by omega
    have y2 : (lo : Int) < b := by omega
    have y3 : (a : Int) < hi := by omega
    have y4 : (a : Int) < lo ∨ ((lo : Int) ≤ a ∧ (hi : Int) < b) := by omega
    rcases y4 with y4 | ⟨y4, y5⟩
    · go_enter Try.func49, Try.ntmps49
      go_wp2_with (refine alloc_bytes (by rfl) 32 (by rfl) 32 (by kernel_rfl) ?_; intro w0 h0 g0 s0; simp only [World.size_alloc] at h0 s0; replace s0 := Lib.hid s0; have hb0 := g0.heap hbw (by simp); obtain ⟨k0, k1, k2, k3, k4⟩ := cells5w hb0; replace g0 := gbw.t0 g0; clear hbw gbw)
      refine (kS _).mono ?_
      rintro e w0' ⟨rfl, rfl⟩
      go_wp2_with fail
      refine (kA.out w0' g0).mono ?_
      rintro e w1 ⟨rfl, L1, K1, S1, I1, c1, n1⟩
      have hz0 := s0.out
      have hq3 : w.heap.size ∉ S := fun hm => by have := hl.out.2 _ hm; omega
      have hq6 : w.heap.size + 1 ∉ S := fun hm => by have := hl.out.2 _ hm; omega
      have b3 := c1.heap hb0 hq3
      have b6 := c1.heap h0 hq6
      have S1lt := (W.lt s1 w1 S1 I1).2
      have hw01 := c1.size
      have c01 : Chg S w w1 := g0.of0.t1 c1
      clear k0 k1 k2 k3 k4 hb0 h0 g0 kA
      go_wp2_with (first
        | (refine alloc_bytes (by rfl) 32 (by rfl) 32 (by kernel_rfl) ?_; intro w2 h2' g2 z2; replace z2 : Hid _ := z2)
        | (refine store_bytes (by rfl) 32 _ _ (by rfl) _ 32 _ (by rfl) x1 (by rfl) _ h2' (by kernel_rfl) L1 (by rw [List.length_replicate]) ?_; intro w3 h3 g3 z3; replace z3 : Hid _ := z3))
      have g13 : Chg [] w1 w3 := g2.tn g3 (Nat.le_refl _)
      have c03 := c01.t0 g13
      have I3 := W.keep s1 w1 w3 S1 [] I1 g13 (by simp)
      have d3 := g13.heap b3 (by simp)
      have d6 := g13.heap b6 (by simp)
      have a3 : w.heap.size ∉ S1 := fun hm => by rcases n1 _ hm with h | h; exact hq3 h; omega
      have a6 : w.heap.size + 1 ∉ S1 := fun hm => by rcases n1 _ hm with h | h; exact hq6 h; omega
      have a8 : w1.heap.size ∉ S1 := fun hm => by have := S1lt _ hm; omega
      have aS : ∀ q ∈ S1, q ∈ S ∨ w.heap.size ≤ q := fun q hm => by rcases n1 q hm with h | h; exact .inl h; exact .inr (by omega)
      have hb6 := lt_of_heap b6
      generalize hq8 : w1.heap.size = q8 at *
      clear h2' g2 g3 z2 z3 g13 b3 b6 I1 hq8 S1lt n1 c01 c1
      replace a3 := Lib.hid a3
      replace a6 := Lib.hid a6
      replace a8 := Lib.hid a8
      replace aS := Lib.hid aS
      replace hq3 := Lib.hid hq3
      replace hq6 := Lib.hid hq6
      go_wp2_with fail
      refine' region_softW (fun _ => S1) (fun m wx => wx.heap[w.heap.size]? = some (.cells #[.int .i64 lo, .int .i64 hi, .func (.func fi) #[] ci, .func (.func fb) #[] cb, .func (.func fn) #[] cn] 79 (0, 0)) ∧ wx.heap[w.heap.size + 1]? = some (.cells (bcs (List.replicate 32 0)).toArray 32 (0, 0)) ∧ wx.heap[q8]? = some (.cells (bcs x1).toArray 32 (0, 0)) ∧ Chg S w wx ∧ ∃ S', I (if m = 0 then s1 else s2) wx S' ∧ (m = 0 → S' = S1) ∧ (m = 1 → K s2 c (1 + d) ∧ x2.length = 32 ∧ ∀ q ∈ S', (q ∈ S ∨ w.heap.size ≤ q) ∧ q ≠ w.heap.size + 1)) 7 [cst (.pointer (some ⟨w.heap.size, 4, none⟩)), cst (.func (.func fn) #[] cn), cst (.agg (bcs x1).toArray), cst (.agg #[.int .i64 lo, .int .i64 hi, .func (.func fi) #[] ci, .func (.func fb) #[] cb, .func (.func fn) #[] cn]), cst (.int .i64 (a + sp)), cst (.int .i64 b), cst (.agg (bcs x2).toArray)] [false, false, false, false, false, false, true] [99, 99, 99, 99, 99, 99, 99] rfl rfl rfl (by kernel_rfl) (by kernel_rfl) (by kernel_rfl) (by kernel_rfl) (by intro j w w' ⟨i1, i2, i3, i4, S', i5, i6, i7⟩ g; exact ⟨g.heap i1 (by simp), g.heap i2 (by simp), g.heap i3 (by simp), i4.t0 g, S', W.keep _ _ _ S' [] i5 g (by simp), i6, i7⟩) (⟨d3, d6, h3, c03, S1, I3, fun _ => rfl, fun h => absurd h (by decide)⟩) ⟨staysW_cst _ _, ⟨staysW_cst _ _, ⟨staysW_cst _ _, ⟨staysW_cst _ _, ⟨staysW_cst _ _, ⟨staysW_cst _ _, ⟨staysW_cstW _ _ _, trivial⟩⟩⟩⟩⟩⟩⟩ _ (fun V => by simp only [putAll, Act.put, List.take_succ_cons, List.take_zero, List.setIfInBounds_toArray, List.set_cons_zero, List.set_cons_succ, Nat.reduceAdd]; exact rfl) ?hs1 ?ht1
      case hs1 =>
        simp only [List.take_succ_cons, List.take_zero, softsW]
        refine ⟨?_, ?_, ?_, ?_, ?_, ?_, ?_, trivial⟩
        · intro V wx hi hd
          simp [phi, Region.binds, cst] at hd
          try simp only [hd]
          first
            | (refine soft_const rfl ?_; go_simp; done)
            | (refine soft_const rfl ?_; go_simp; exact rfl)
            | (exact soft_cellN rfl _ _ rfl _ rfl _ _ ((by obtain ⟨j, _, hi⟩ := hi; exact (cells5w hi.1).2.2.2.2)) Try.underlying77 rfl)
            | (exact soft_load rfl (Chg.refl [] _) _ _ rfl _ _ rfl _ _ (show wx.rangeAt q8 0 (bcs x1) from by obtain ⟨j, _, hi⟩ := hi; have := ra_block hi.2.2.1; simpa using this) Try.underlying32 rfl (by rw [bcs_length, L1]; kernel_rfl))
            | (exact soft_load rfl (Chg.refl [] _) _ _ rfl _ _ rfl _ _ (by obtain ⟨j, _, hi⟩ := hi; exact ra_block hi.1) Try.underlying79 rfl (by kernel_rfl))
            | (exact soft_skip rfl)
        · intro V wx hi hd
          simp [phi, Region.binds, cst] at hd
          try simp only [hd]
          first
            | (refine soft_const rfl ?_; go_simp; done)
            | (refine soft_const rfl ?_; go_simp; exact rfl)
            | (exact soft_cellN rfl _ _ rfl _ rfl _ _ ((by obtain ⟨j, _, hi⟩ := hi; exact (cells5w hi.1).2.2.2.2)) Try.underlying77 rfl)
            | (exact soft_load rfl (Chg.refl [] _) _ _ rfl _ _ rfl _ _ (show wx.rangeAt q8 0 (bcs x1) from by obtain ⟨j, _, hi⟩ := hi; have := ra_block hi.2.2.1; simpa using this) Try.underlying32 rfl (by rw [bcs_length, L1]; kernel_rfl))
            | (exact soft_load rfl (Chg.refl [] _) _ _ rfl _ _ rfl _ _ (by obtain ⟨j, _, hi⟩ := hi; exact ra_block hi.1) Try.underlying79 rfl (by kernel_rfl))
            | (exact soft_skip rfl)
        · intro V wx hi hd
          simp [phi, Region.binds, cst] at hd
          try simp only [hd]
          first
            | (refine soft_const rfl ?_; go_simp; done)
            | (refine soft_const rfl ?_; go_simp; exact rfl)
            | (exact soft_cellN rfl _ _ rfl _ rfl _ _ ((by obtain ⟨j, _, hi⟩ := hi; exact (cells5w hi.1).2.2.2.2)) Try.underlying77 rfl)
            | (exact soft_load rfl (Chg.refl [] _) _ _ rfl _ _ rfl _ _ (show wx.rangeAt q8 0 (bcs x1) from by obtain ⟨j, _, hi⟩ := hi; have := ra_block hi.2.2.1; simpa using this) Try.underlying32 rfl (by rw [bcs_length, L1]; kernel_rfl))
            | (exact soft_load rfl (Chg.refl [] _) _ _ rfl _ _ rfl _ _ (by obtain ⟨j, _, hi⟩ := hi; exact ra_block hi.1) Try.underlying79 rfl (by kernel_rfl))
            | (exact soft_skip rfl)
        · intro V wx hi hd
          simp [phi, Region.binds, cst] at hd
          try simp only [hd]
          first
            | (refine soft_const rfl ?_; go_simp; done)
            | (refine soft_const rfl ?_; go_simp; exact rfl)
            | (exact soft_cellN rfl _ _ rfl _ rfl _ _ ((by obtain ⟨j, _, hi⟩ := hi; exact (cells5w hi.1).2.2.2.2)) Try.underlying77 rfl)
            | (exact soft_load rfl (Chg.refl [] _) _ _ rfl _ _ rfl _ _ (show wx.rangeAt q8 0 (bcs x1) from by obtain ⟨j, _, hi⟩ := hi; have := ra_block hi.2.2.1; simpa using this) Try.underlying32 rfl (by rw [bcs_length, L1]; kernel_rfl))
            | (exact soft_load rfl (Chg.refl [] _) _ _ rfl _ _ rfl _ _ (by obtain ⟨j, _, hi⟩ := hi; exact ra_block hi.1) Try.underlying79 rfl (by kernel_rfl))
            | (exact soft_skip rfl)
        · intro V wx hi hd
          simp [phi, Region.binds, cst] at hd
          try simp only [hd]
          first
            | (refine soft_const rfl ?_; go_simp; done)
            | (refine soft_const rfl ?_; go_simp; exact rfl)
            | (exact soft_cellN rfl _ _ rfl _ rfl _ _ ((by obtain ⟨j, _, hi⟩ := hi; exact (cells5w hi.1).2.2.2.2)) Try.underlying77 rfl)
            | (exact soft_load rfl (Chg.refl [] _) _ _ rfl _ _ rfl _ _ (show wx.rangeAt q8 0 (bcs x1) from by obtain ⟨j, _, hi⟩ := hi; have := ra_block hi.2.2.1; simpa using this) Try.underlying32 rfl (by rw [bcs_length, L1]; kernel_rfl))
            | (exact soft_load rfl (Chg.refl [] _) _ _ rfl _ _ rfl _ _ (by obtain ⟨j, _, hi⟩ := hi; exact ra_block hi.1) Try.underlying79 rfl (by kernel_rfl))
            | (exact soft_skip rfl)
        · intro V wx hi hd
          simp [phi, Region.binds, cst] at hd
          try simp only [hd]
          first
            | (refine soft_const rfl ?_; go_simp; done)
            | (refine soft_const rfl ?_; go_simp; exact rfl)
            | (exact soft_cellN rfl _ _ rfl _ rfl _ _ ((by obtain ⟨j, _, hi⟩ := hi; exact (cells5w hi.1).2.2.2.2)) Try.underlying77 rfl)
            | (exact soft_load rfl (Chg.refl [] _) _ _ rfl _ _ rfl _ _ (show wx.rangeAt q8 0 (bcs x1) from by obtain ⟨j, _, hi⟩ := hi; have := ra_block hi.2.2.1; simpa using this) Try.underlying32 rfl (by rw [bcs_length, L1]; kernel_rfl))
            | (exact soft_load rfl (Chg.refl [] _) _ _ rfl _ _ rfl _ _ (by obtain ⟨j, _, hi⟩ := hi; exact ra_block hi.1) Try.underlying79 rfl (by kernel_rfl))
            | (exact soft_skip rfl)
        · intro V wx hi hd
          simp [phi, Region.binds, cst] at hd
          try simp only [hd]
          obtain ⟨i1, i2, i3, i4, S', i5, i6, i7⟩ := hi
          obtain rfl := i6 (by first | rfl | trivial)
          refine wstep_call rfl _ _ (by go_simp; try exact ⟨rfl, rfl⟩) ((kB.out wx S' i5 K1).mono ?_)
          rintro e w' ⟨rfl, L2, K2, S2, I2, c2, n2'⟩
          exact ⟨_, rfl, c2, ⟨c2.heap i1 a3.out, c2.heap i2 a6.out, c2.heap i3 a8.out, i4.trans c2 aS.out, S2, I2, fun h => absurd h (by decide), fun _ => ⟨K2, L2, fun q hm => ⟨by rcases n2' q hm with h | h; exact aS.out q h; exact .inr (Nat.le_trans i4.size h), fun e => by subst e; rcases n2' _ hm with h | h; exact a6.out h; exact absurd (lt_of_heap i2) (by omega)⟩⟩⟩, rfl⟩
      intro V w4 hi hk
      obtain ⟨i1, i2, i3, i4, S4, i5, i6, i7⟩ := hi
      obtain ⟨K4, L4, n4⟩ := i7 (by first | rfl | trivial)
      have j1 := hk 1 (by decide)
      have j2 := hk 2 (by decide)
      have j6 := hk 6 (by decide)
      simp [phi, cst] at j1 j2 j6
      simp only [j1, j2, j6, List.drop_succ_cons, List.drop_zero]
      have I4 : I s2 w4 S4 := i5
      clear hk j1 j2 j6 kB i6 i7 i5 i1 i3 d3 d6 h3 c03 I3
      replace n4 := Lib.hid n4
      go_wp2_with fail
      refine (kC.out w4 S4 I4 K4 L1 L4).mono ?_
      rintro e w5 ⟨rfl, L5, S5, I5, c5, n5⟩
      have u6 : w.heap.size + 1 ∉ S4 := fun hm => (n4.out _ hm).2 rfl
      have v6 := c5.heap i2 u6
      have c05 := i4.trans c5 (fun q hm => (n4.out q hm).1)
      have hw4 := lt_of_heap i2
      have n05 : ∀ q ∈ S5, (q ∈ S ∨ w.heap.size ≤ q) ∧ q ≠ w.heap.size + 1 := fun q hm => by
        rcases n5 q hm with h | h
        · exact n4.out q h
        · exact ⟨.inr (by omega), by omega⟩
      clear i2 kC I4 c5 n5
      replace n05 := Lib.hid n05
      go_wp2_with (refine store_bytes (by rfl) 32 _ _ (by rfl) (w.heap.size + 1) 32 _ rfl x3 (by rfl) (List.replicate 32 0) v6 (by kernel_rfl) L5 (by simp) ?_; intro w6 h6 g6 z6)
      have I6 := W.keep s3 w5 w6 S5 [w.heap.size + 1] I5 g6 (fun q hq' => by
        rw [List.mem_singleton.1 hq']
        exact ⟨fun hm => (n05.out _ hm).2 rfl, by have := hl.out.1; omega, _, _, v6⟩)
      have c06 := c05.tn g6 (by omega)
      go_wp2
      exact ret_bytes 6 32 (by rfl) 32 5 Try.underlying32 (by kernel_rfl) (by rfl) _ rfl x3 _ h6 L5 ⟨rfl, L5, kD.out K4, S5, I6, c06, fun q hm => (n05.out q hm).1⟩
    · go_enter Try.func49, Try.ntmps49
      go_wp2_with (refine alloc_bytes (by rfl) 32 (by rfl) 32 (by kernel_rfl) ?_; intro w0 h0 g0 s0; simp only [World.size_alloc] at h0 s0; replace s0 := Lib.hid s0; have hb0 := g0.heap hbw (by simp); obtain ⟨k0, k1, k2, k3, k4⟩ := cells5w hb0; replace g0 := gbw.t0 g0; clear hbw gbw)
      refine (kS _).mono ?_
      rintro e w0' ⟨rfl, rfl⟩
      go_wp2_with fail
      refine (kA.out w0' g0).mono ?_
      rintro e w1 ⟨rfl, L1, K1, S1, I1, c1, n1⟩
      have hz0 := s0.out
      have hq3 : w.heap.size ∉ S := fun hm => by have := hl.out.2 _ hm; omega
      have hq6 : w.heap.size + 1 ∉ S := fun hm => by have := hl.out.2 _ hm; omega
      have b3 := c1.heap hb0 hq3
      have b6 := c1.heap h0 hq6
      have S1lt := (W.lt s1 w1 S1 I1).2
      have hw01 := c1.size
      have c01 : Chg S w w1 := g0.of0.t1 c1
      clear k0 k1 k2 k3 k4 hb0 h0 g0 kA
      go_wp2_with (first
        | (refine alloc_bytes (by rfl) 32 (by rfl) 32 (by kernel_rfl) ?_; intro w2 h2' g2 z2; replace z2 : Hid _ := z2)
        | (refine store_bytes (by rfl) 32 _ _ (by rfl) _ 32 _ (by rfl) x1 (by rfl) _ h2' (by kernel_rfl) L1 (by rw [List.length_replicate]) ?_; intro w3 h3 g3 z3; replace z3 : Hid _ := z3))
      have g13 : Chg [] w1 w3 := g2.tn g3 (Nat.le_refl _)
      have c03 := c01.t0 g13
      have I3 := W.keep s1 w1 w3 S1 [] I1 g13 (by simp)
      have d3 := g13.heap b3 (by simp)
      have d6 := g13.heap b6 (by simp)
      have a3 : w.heap.size ∉ S1 := fun hm => by rcases n1 _ hm with h | h; exact hq3 h; omega
      have a6 : w.heap.size + 1 ∉ S1 := fun hm => by rcases n1 _ hm with h | h; exact hq6 h; omega
      have a8 : w1.heap.size ∉ S1 := fun hm => by have := S1lt _ hm; omega
      have aS : ∀ q ∈ S1, q ∈ S ∨ w.heap.size ≤ q := fun q hm => by rcases n1 q hm with h | h; exact .inl h; exact .inr (by omega)
      have hb6 := lt_of_heap b6
      generalize hq8 : w1.heap.size = q8 at *
      clear h2' g2 g3 z2 z3 g13 b3 b6 I1 hq8 S1lt n1 c01 c1
      replace a3 := Lib.hid a3
      replace a6 := Lib.hid a6
      replace a8 := Lib.hid a8
      replace aS := Lib.hid aS
      replace hq3 := Lib.hid hq3
      replace hq6 := Lib.hid hq6
      go_wp2_with fail
      refine' region_softW (fun _ => S1) (fun m wx => wx.heap[w.heap.size]? = some (.cells #[.int .i64 lo, .int .i64 hi, .func (.func fi) #[] ci, .func (.func fb) #[] cb, .func (.func fn) #[] cn] 79 (0, 0)) ∧ wx.heap[w.heap.size + 1]? = some (.cells (bcs (List.replicate 32 0)).toArray 32 (0, 0)) ∧ wx.heap[q8]? = some (.cells (bcs x1).toArray 32 (0, 0)) ∧ Chg S w wx ∧ ∃ S', I (if m = 0 then s1 else s2) wx S' ∧ (m = 0 → S' = S1) ∧ (m = 1 → K s2 c (1 + d) ∧ x2.length = 32 ∧ ∀ q ∈ S', (q ∈ S ∨ w.heap.size ≤ q) ∧ q ≠ w.heap.size + 1)) 7 [cst (.pointer (some ⟨w.heap.size, 4, none⟩)), cst (.func (.func fn) #[] cn), cst (.agg (bcs x1).toArray), cst (.agg #[.int .i64 lo, .int .i64 hi, .func (.func fi) #[] ci, .func (.func fb) #[] cb, .func (.func fn) #[] cn]), cst (.int .i64 (a + sp)), cst (.int .i64 b), cst (.agg (bcs x2).toArray)] [false, false, false, false, false, false, true] [99, 99, 99, 99, 99, 99, 99] rfl rfl rfl (by kernel_rfl) (by kernel_rfl) (by kernel_rfl) (by kernel_rfl) (by intro j w w' ⟨i1, i2, i3, i4, S', i5, i6, i7⟩ g; exact ⟨g.heap i1 (by simp), g.heap i2 (by simp), g.heap i3 (by simp), i4.t0 g, S', W.keep _ _ _ S' [] i5 g (by simp), i6, i7⟩) (⟨d3, d6, h3, c03, S1, I3, fun _ => rfl, fun h => absurd h (by decide)⟩) ⟨staysW_cst _ _, ⟨staysW_cst _ _, ⟨staysW_cst _ _, ⟨staysW_cst _ _, ⟨staysW_cst _ _, ⟨staysW_cst _ _, ⟨staysW_cstW _ _ _, trivial⟩⟩⟩⟩⟩⟩⟩ _ (fun V => by simp only [putAll, Act.put, List.take_succ_cons, List.take_zero, List.setIfInBounds_toArray, List.set_cons_zero, List.set_cons_succ, Nat.reduceAdd]; exact rfl) ?hs2 ?ht2
      case hs2 =>
        simp only [List.take_succ_cons, List.take_zero, softsW]
        refine ⟨?_, ?_, ?_, ?_, ?_, ?_, ?_, trivial⟩
        · intro V wx hi hd
          simp [phi, Region.binds, cst] at hd
          try simp only [hd]
          first
            | (refine soft_const rfl ?_; go_simp; done)
            | (refine soft_const rfl ?_; go_simp; exact rfl)
            | (exact soft_cellN rfl _ _ rfl _ rfl _ _ ((by obtain ⟨j, _, hi⟩ := hi; exact (cells5w hi.1).2.2.2.2)) Try.underlying77 rfl)
            | (exact soft_load rfl (Chg.refl [] _) _ _ rfl _ _ rfl _ _ (show wx.rangeAt q8 0 (bcs x1) from by obtain ⟨j, _, hi⟩ := hi; have := ra_block hi.2.2.1; simpa using this) Try.underlying32 rfl (by rw [bcs_length, L1]; kernel_rfl))
            | (exact soft_load rfl (Chg.refl [] _) _ _ rfl _ _ rfl _ _ (by obtain ⟨j, _, hi⟩ := hi; exact ra_block hi.1) Try.underlying79 rfl (by kernel_rfl))
            | (exact soft_skip rfl)
        · intro V wx hi hd
          simp [phi, Region.binds, cst] at hd
          try simp only [hd]
          first
            | (refine soft_const rfl ?_; go_simp; done)
            | (refine soft_const rfl ?_; go_simp; exact rfl)
            | (exact soft_cellN rfl _ _ rfl _ rfl _ _ ((by obtain ⟨j, _, hi⟩ := hi; exact (cells5w hi.1).2.2.2.2)) Try.underlying77 rfl)
            | (exact soft_load rfl (Chg.refl [] _) _ _ rfl _ _ rfl _ _ (show wx.rangeAt q8 0 (bcs x1) from by obtain ⟨j, _, hi⟩ := hi; have := ra_block hi.2.2.1; simpa using this) Try.underlying32 rfl (by rw [bcs_length, L1]; kernel_rfl))
            | (exact soft_load rfl (Chg.refl [] _) _ _ rfl _ _ rfl _ _ (by obtain ⟨j, _, hi⟩ := hi; exact ra_block hi.1) Try.underlying79 rfl (by kernel_rfl))
            | (exact soft_skip rfl)
        · intro V wx hi hd
          simp [phi, Region.binds, cst] at hd
          try simp only [hd]
          first
            | (refine soft_const rfl ?_; go_simp; done)
            | (refine soft_const rfl ?_; go_simp; exact rfl)
            | (exact soft_cellN rfl _ _ rfl _ rfl _ _ ((by obtain ⟨j, _, hi⟩ := hi; exact (cells5w hi.1).2.2.2.2)) Try.underlying77 rfl)
            | (exact soft_load rfl (Chg.refl [] _) _ _ rfl _ _ rfl _ _ (show wx.rangeAt q8 0 (bcs x1) from by obtain ⟨j, _, hi⟩ := hi; have := ra_block hi.2.2.1; simpa using this) Try.underlying32 rfl (by rw [bcs_length, L1]; kernel_rfl))
            | (exact soft_load rfl (Chg.refl [] _) _ _ rfl _ _ rfl _ _ (by obtain ⟨j, _, hi⟩ := hi; exact ra_block hi.1) Try.underlying79 rfl (by kernel_rfl))
            | (exact soft_skip rfl)
        · intro V wx hi hd
          simp [phi, Region.binds, cst] at hd
          try simp only [hd]
          first
            | (refine soft_const rfl ?_; go_simp; done)
            | (refine soft_const rfl ?_; go_simp; exact rfl)
            | (exact soft_cellN rfl _ _ rfl _ rfl _ _ ((by obtain ⟨j, _, hi⟩ := hi; exact (cells5w hi.1).2.2.2.2)) Try.underlying77 rfl)
            | (exact soft_load rfl (Chg.refl [] _) _ _ rfl _ _ rfl _ _ (show wx.rangeAt q8 0 (bcs x1) from by obtain ⟨j, _, hi⟩ := hi; have := ra_block hi.2.2.1; simpa using this) Try.underlying32 rfl (by rw [bcs_length, L1]; kernel_rfl))
            | (exact soft_load rfl (Chg.refl [] _) _ _ rfl _ _ rfl _ _ (by obtain ⟨j, _, hi⟩ := hi; exact ra_block hi.1) Try.underlying79 rfl (by kernel_rfl))
            | (exact soft_skip rfl)
        · intro V wx hi hd
          simp [phi, Region.binds, cst] at hd
          try simp only [hd]
          first
            | (refine soft_const rfl ?_; go_simp; done)
            | (refine soft_const rfl ?_; go_simp; exact rfl)
            | (exact soft_cellN rfl _ _ rfl _ rfl _ _ ((by obtain ⟨j, _, hi⟩ := hi; exact (cells5w hi.1).2.2.2.2)) Try.underlying77 rfl)
            | (exact soft_load rfl (Chg.refl [] _) _ _ rfl _ _ rfl _ _ (show wx.rangeAt q8 0 (bcs x1) from by obtain ⟨j, _, hi⟩ := hi; have := ra_block hi.2.2.1; simpa using this) Try.underlying32 rfl (by rw [bcs_length, L1]; kernel_rfl))
            | (exact soft_load rfl (Chg.refl [] _) _ _ rfl _ _ rfl _ _ (by obtain ⟨j, _, hi⟩ := hi; exact ra_block hi.1) Try.underlying79 rfl (by kernel_rfl))
            | (exact soft_skip rfl)
        · intro V wx hi hd
          simp [phi, Region.binds, cst] at hd
          try simp only [hd]
          first
            | (refine soft_const rfl ?_; go_simp; done)
            | (refine soft_const rfl ?_; go_simp; exact rfl)
            | (exact soft_cellN rfl _ _ rfl _ rfl _ _ ((by obtain ⟨j, _, hi⟩ := hi; exact (cells5w hi.1).2.2.2.2)) Try.underlying77 rfl)
            | (exact soft_load rfl (Chg.refl [] _) _ _ rfl _ _ rfl _ _ (show wx.rangeAt q8 0 (bcs x1) from by obtain ⟨j, _, hi⟩ := hi; have := ra_block hi.2.2.1; simpa using this) Try.underlying32 rfl (by rw [bcs_length, L1]; kernel_rfl))
            | (exact soft_load rfl (Chg.refl [] _) _ _ rfl _ _ rfl _ _ (by obtain ⟨j, _, hi⟩ := hi; exact ra_block hi.1) Try.underlying79 rfl (by kernel_rfl))
            | (exact soft_skip rfl)
        · intro V wx hi hd
          simp [phi, Region.binds, cst] at hd
          try simp only [hd]
          obtain ⟨i1, i2, i3, i4, S', i5, i6, i7⟩ := hi
          obtain rfl := i6 (by first | rfl | trivial)
          refine wstep_call rfl _ _ (by go_simp; try exact ⟨rfl, rfl⟩) ((kB.out wx S' i5 K1).mono ?_)
          rintro e w' ⟨rfl, L2, K2, S2, I2, c2, n2'⟩
          exact ⟨_, rfl, c2, ⟨c2.heap i1 a3.out, c2.heap i2 a6.out, c2.heap i3 a8.out, i4.trans c2 aS.out, S2, I2, fun h => absurd h (by decide), fun _ => ⟨K2, L2, fun q hm => ⟨by rcases n2' q hm with h | h; exact aS.out q h; exact .inr (Nat.le_trans i4.size h), fun e => by subst e; rcases n2' _ hm with h | h; exact a6.out h; exact absurd (lt_of_heap i2) (by omega)⟩⟩⟩, rfl⟩
      intro V w4 hi hk
      obtain ⟨i1, i2, i3, i4, S4, i5, i6, i7⟩ := hi
      obtain ⟨K4, L4, n4⟩ := i7 (by first | rfl | trivial)
      have j1 := hk 1 (by decide)
      have j2 := hk 2 (by decide)
      have j6 := hk 6 (by decide)
      simp [phi, cst] at j1 j2 j6
      simp only [j1, j2, j6, List.drop_succ_cons, List.drop_zero]
      have I4 : I s2 w4 S4 := i5
      clear hk j1 j2 j6 kB i6 i7 i5 i1 i3 d3 d6 h3 c03 I3
      replace n4 := Lib.hid n4
      go_wp2_with fail
      refine (kC.out w4 S4 I4 K4 L1 L4).mono ?_
      rintro e w5 ⟨rfl, L5, S5, I5, c5, n5⟩
      have u6 : w.heap.size + 1 ∉ S4 := fun hm => (n4.out _ hm).2 rfl
      have v6 := c5.heap i2 u6
      have c05 := i4.trans c5 (fun q hm => (n4.out q hm).1)
      have hw4 := lt_of_heap i2
      have n05 : ∀ q ∈ S5, (q ∈ S ∨ w.heap.size ≤ q) ∧ q ≠ w.heap.size + 1 := fun q hm => by
        rcases n5 q hm with h | h
        · exact n4.out q h
        · exact ⟨.inr (by omega), by omega⟩
      clear i2 kC I4 c5 n5
      replace n05 := Lib.hid n05
      go_wp2_with (refine store_bytes (by rfl) 32 _ _ (by rfl) (w.heap.size + 1) 32 _ rfl x3 (by rfl) (List.replicate 32 0) v6 (by kernel_rfl) L5 (by simp) ?_; intro w6 h6 g6 z6)
      have I6 := W.keep s3 w5 w6 S5 [w.heap.size + 1] I5 g6 (fun q hq' => by
        rw [List.mem_singleton.1 hq']
        exact ⟨fun hm => (n05.out _ hm).2 rfl, by have := hl.out.1; omega, _, _, v6⟩)
      have c06 := c05.tn g6 (by omega)
      go_wp2
      exact ret_bytes 6 32 (by rfl) 32 5 Try.underlying32 (by kernel_rfl) (by rfl) _ rfl x3 _ h6 L5 ⟨rfl, L5, kD.out K4, S5, I6, c06, fun q hm => (n05.out q hm).1⟩
end Go.Proofs.Ytgepfmofignmfaa
