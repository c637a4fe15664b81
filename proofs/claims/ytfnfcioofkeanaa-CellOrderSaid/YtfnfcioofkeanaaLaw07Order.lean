/-
  CellOrder: the walk.
-/
import Derived.Test.YtfnfcioofkeanaaCellOrd
import Derived.Test.YtfnfcioofkeanaaOpenT
import Derived.Test.YtfnfcioofkeanaaSmall7
namespace Go.Proofs.Ytfnfcioofkeanaa
set_option linter.unusedSimpArgs false
set_option linter.unusedVariables false
open Go.RowKit

theorem sgn_range (x y : Int) : sgn x y = -1 ∨ sgn x y = 0 ∨ sgn x y = 1 := by
  unfold sgn
  repeat' split
  all_goals omega
theorem cmpB_range : ∀ (a b : List UInt8), Lib.compareBytes a b = -1 ∨ Lib.compareBytes a b = 0 ∨ Lib.compareBytes a b = 1
  | [], [] => .inr (.inl rfl)
  | [], _ :: _ => .inl rfl
  | _ :: _, [] => .inr (.inr rfl)
  | a :: l, b :: r => by
    unfold Lib.compareBytes
    have ih := cmpB_range l r
    split
    · exact .inl rfl
    · split
      · exact .inr (.inr rfl)
      · exact ih
theorem cmpC_range (typ : Int) (a b : Cell) : cmpC typ a b = -1 ∨ cmpC typ a b = 0 ∨ cmpC typ a b = 1 := by
  unfold cmpC
  split
  · split <;> simp
  · split
    · simp
    · split
      · exact sgn_range _ _
      · split
        · exact cmpB_range _ _
        · split
          · exact cmpP_range _ _ _ _
          · simp
/-- What CellOrder has in its boxes. -/
structure Co (p : Nat) (va vb vc vd : Array Value) (w : World) : Prop where
  a : w.heap[p]? = some (.cells va 54)
  b : w.heap[p + 1]? = some (.cells vb 54)
  c : w.heap[p + 1 + 1]? = some (.cells vc 54)
  d : w.heap[p + 1 + 1 + 1]? = some (.cells vd 58)
theorem Co.tr {p : Nat} {va vb vc vd : Array Value} {w w' : World} (h : Co p va vb vc vd w) (g : Chg [] w w') : Co p va vb vc vd w' :=
  ⟨g.heap h.a (by simp), g.heap h.b (by simp), g.heap h.c (by simp), g.heap h.d (by simp)⟩
theorem co_new (w : World) (va vb vc vd : Array Value) : Co w.heap.size va vb vc vd ((((w.alloc (.cells va 54)).alloc (.cells vb 54)).alloc (.cells vc 54)).alloc (.cells vd 58)) := by
  refine ⟨?_, ?_, ?_, ?_⟩
  all_goals
    (repeat first
        | exact heap_new' _ _ _ (by simp only [World.size_alloc'])
        | refine heap_old ?_)
def CoF (p : Nat) (n : Bool) (i : Int) (t : List UInt8) (x y : Int) (w : World) : Prop := w.cell? ⟨p, 0, none⟩ = some (.bool n) ∧ w.cell? ⟨p, 1, none⟩ = some (.int .i64 i) ∧ w.cell? ⟨p, 2, none⟩ = some (.string (bstr t)) ∧ w.cell? ⟨p, 3, none⟩ = some (.int .i64 x) ∧ w.cell? ⟨p, 4, none⟩ = some (.int .i64 y)
set_option maxHeartbeats 8000000 in
set_option maxRecDepth 100000 in
theorem order7_run (w : World) (a b c : Cell) (col : Col) :
    Calls Try.prog 11 #[.agg (cellc a).toArray, .agg (cellc b).toArray, .agg (cellc c).toArray, .agg (colc col).toArray] w fun e w' => e = .returned (.bool true) ∧ Chg [] w w' := by
  have EQ := fun w => eql_cell w a b
  have EG := fun w x y => run_eqGuard_agg (P := Try.prog) w .eql 54 x y (cellc a).toArray (cellc b).toArray (by kernel_rfl)
  have kA := fun w => cright_ok w a col
  have kB := fun w => cright_ok w b col
  have kC := fun w => cright_ok w c col
  have hM1 := fun (ha : rightC a col.typ col.null = true) (hb : rightC b col.typ col.null = true) w => ccompare_ok w col.typ a b (right_near ha) (right_near hb)
  have hM2 := fun (ha : rightC a col.typ col.null = true) (hb : rightC b col.typ col.null = true) w => ccompare_ok w col.typ b a (right_near hb) (right_near ha)
  have hM3 := fun (hb : rightC b col.typ col.null = true) (hc : rightC c col.typ col.null = true) w => ccompare_ok w col.typ b c (right_near hb) (right_near hc)
  have hM4 := fun (ha : rightC a col.typ col.null = true) (hc : rightC c col.typ col.null = true) w => ccompare_ok w col.typ a c (right_near ha) (right_near hc)
  have hz := fun ha hb => @cmpC_zero a b col.typ col.null ha hb
  have htr := fun ha hb hc => @cmpC_trans a b c col.typ col.null ha hb hc
  have hnl := @cmpC_null a b col.typ
  have hng := cmpC_neg a b col.typ
  have hr1 := cmpC_range col.typ a b
  have hr2 := cmpC_range col.typ b c
  generalize cmpC col.typ a b = X at *
  generalize cmpC col.typ b a = X' at *
  generalize cmpC col.typ b c = Y at *
  generalize cmpC col.typ a c = Z at *
  generalize rightC a col.typ col.null = RA at *
  generalize rightC b col.typ col.null = RB at *
  generalize rightC c col.typ col.null = RC at *
  generalize hE : decide (a = b) = E at *
  have hz2 : RA = true → RB = true → E = decide (X = 0) := fun h1 h2 => by rw [← hE]; exact decide_eq_decide.2 (hz h1 h2).symm
  clear hE hz
  subst hng
  obtain ⟨n, i, t, x, y⟩ := a
  obtain ⟨m, j, s, u, v⟩ := b
  obtain ⟨o, k, r, p, q⟩ := c
  obtain ⟨nm, ty, nu⟩ := col
  dsimp only at *
  unfold cellc colc at *
  have HK := co_new w #[.bool n, .int .i64 i, .string (bstr t), .int .i64 x, .int .i64 y] #[.bool m, .int .i64 j, .string (bstr s), .int .i64 u, .int .i64 v] #[.bool o, .int .i64 k, .string (bstr r), .int .i64 p, .int .i64 q] #[.string (bstr nm), .int .i64 ty, .bool nu]
  have GG := (((Chg.alloc [] w (.cells #[.bool n, .int .i64 i, .string (bstr t), .int .i64 x, .int .i64 y] 54)).t0 (Chg.alloc _ _ (.cells #[.bool m, .int .i64 j, .string (bstr s), .int .i64 u, .int .i64 v] 54))).t0 (Chg.alloc _ _ (.cells #[.bool o, .int .i64 k, .string (bstr r), .int .i64 p, .int .i64 q] 54))).t0 (Chg.alloc _ _ (.cells #[.string (bstr nm), .int .i64 ty, .bool nu] 58))
  go_enter Try.func11, Try.ntmps11
  go_wp2_with fail
  refine (small07_ok _).mono ?_
  rintro e w2 ⟨rfl, g⟩
  replace HK := HK.tr g
  replace GG := GG.t0 g
  clear g
  obtain ⟨_, _, _, _, _⟩ := cell5 HK.a
  obtain ⟨_, _, _, _, _⟩ := cell5 HK.b
  obtain ⟨_, _, _, _, _⟩ := cell5 HK.c
  obtain ⟨_, _, _⟩ := cells3'' HK.d
  by_cases h1 : 1000 < t.length
  · go_wp2
    go_ret
    exact ⟨rfl, GG⟩
  by_cases h2 : 1000 < s.length
  · go_wp2
    go_ret
    exact ⟨rfl, GG⟩
  by_cases h3 : 1000 < r.length
  · go_wp2
    go_ret
    exact ⟨rfl, GG⟩
  cases RA
  · skip
    go_wp2_with (first
      | (go_at_call 31; (with_reducible refine (kA _).mono ?_); rintro e wn ⟨rfl, gn⟩; replace HK := HK.tr gn; replace GG := GG.t0 gn; clear gn; obtain ⟨_, _, _, _, _⟩ := cell5 HK.a; obtain ⟨_, _, _, _, _⟩ := cell5 HK.b; obtain ⟨_, _, _, _, _⟩ := cell5 HK.c; obtain ⟨_, _, _⟩ := cells3'' HK.d))
    go_ret
    exact ⟨rfl, GG⟩
  cases RB
  · skip
    go_wp2_with (first
      | (go_at_call 31; (with_reducible refine (kA _).mono ?_); rintro e wn ⟨rfl, gn⟩; replace HK := HK.tr gn; replace GG := GG.t0 gn; clear gn; obtain ⟨_, _, _, _, _⟩ := cell5 HK.a; obtain ⟨_, _, _, _, _⟩ := cell5 HK.b; obtain ⟨_, _, _, _, _⟩ := cell5 HK.c; obtain ⟨_, _, _⟩ := cells3'' HK.d)
      | (go_at_call 31; (with_reducible refine (kB _).mono ?_); rintro e wn ⟨rfl, gn⟩; replace HK := HK.tr gn; replace GG := GG.t0 gn; clear gn; obtain ⟨_, _, _, _, _⟩ := cell5 HK.a; obtain ⟨_, _, _, _, _⟩ := cell5 HK.b; obtain ⟨_, _, _, _, _⟩ := cell5 HK.c; obtain ⟨_, _, _⟩ := cells3'' HK.d))
    go_ret
    exact ⟨rfl, GG⟩
  cases RC
  · skip
    go_wp2_with (first
      | (go_at_call 31; (with_reducible refine (kA _).mono ?_); rintro e wn ⟨rfl, gn⟩; replace HK := HK.tr gn; replace GG := GG.t0 gn; clear gn; obtain ⟨_, _, _, _, _⟩ := cell5 HK.a; obtain ⟨_, _, _, _, _⟩ := cell5 HK.b; obtain ⟨_, _, _, _, _⟩ := cell5 HK.c; obtain ⟨_, _, _⟩ := cells3'' HK.d)
      | (go_at_call 31; (with_reducible refine (kB _).mono ?_); rintro e wn ⟨rfl, gn⟩; replace HK := HK.tr gn; replace GG := GG.t0 gn; clear gn; obtain ⟨_, _, _, _, _⟩ := cell5 HK.a; obtain ⟨_, _, _, _, _⟩ := cell5 HK.b; obtain ⟨_, _, _, _, _⟩ := cell5 HK.c; obtain ⟨_, _, _⟩ := cells3'' HK.d)
      | (go_at_call 31; (with_reducible refine (kC _).mono ?_); rintro e wn ⟨rfl, gn⟩; replace HK := HK.tr gn; replace GG := GG.t0 gn; clear gn; obtain ⟨_, _, _, _, _⟩ := cell5 HK.a; obtain ⟨_, _, _, _, _⟩ := cell5 HK.b; obtain ⟨_, _, _, _, _⟩ := cell5 HK.c; obtain ⟨_, _, _⟩ := cells3'' HK.d))
    go_ret
    exact ⟨rfl, GG⟩
  have kM1 := hM1 rfl rfl
  have kM2 := hM2 rfl rfl
  have kM3 := hM3 rfl rfl
  have kM4 := hM4 rfl rfl
  have hE := hz2 rfl rfl
  have hT := htr rfl rfl rfl
  clear hM1 hM2 hM3 hM4 hz2 htr
  subst hE
  go_wp2_with (first
    | (go_at_call 31; (with_reducible refine (kA _).mono ?_); rintro e wn ⟨rfl, gn⟩; replace HK := HK.tr gn; replace GG := GG.t0 gn; clear gn; obtain ⟨_, _, _, _, _⟩ := cell5 HK.a; obtain ⟨_, _, _, _, _⟩ := cell5 HK.b; obtain ⟨_, _, _, _, _⟩ := cell5 HK.c; obtain ⟨_, _, _⟩ := cells3'' HK.d)
    | (go_at_call 31; (with_reducible refine (kB _).mono ?_); rintro e wn ⟨rfl, gn⟩; replace HK := HK.tr gn; replace GG := GG.t0 gn; clear gn; obtain ⟨_, _, _, _, _⟩ := cell5 HK.a; obtain ⟨_, _, _, _, _⟩ := cell5 HK.b; obtain ⟨_, _, _, _, _⟩ := cell5 HK.c; obtain ⟨_, _, _⟩ := cells3'' HK.d)
    | (go_at_call 31; (with_reducible refine (kC _).mono ?_); rintro e wn ⟨rfl, gn⟩; replace HK := HK.tr gn; replace GG := GG.t0 gn; clear gn; obtain ⟨_, _, _, _, _⟩ := cell5 HK.a; obtain ⟨_, _, _, _, _⟩ := cell5 HK.b; obtain ⟨_, _, _, _, _⟩ := cell5 HK.c; obtain ⟨_, _, _⟩ := cells3'' HK.d))
  clear kA kB kC h1 h2 h3
  rcases hr1 with rfl | rfl | rfl
  rotate_right
  · cases n
    rotate_left
    · exact absurd (hnl rfl) (by decide)
    clear hnl hT hr2
    go_wp2_with (first
      | (go_at_call 32; (with_reducible refine (kM1 _).mono ?_); rintro e wn ⟨rfl, gn⟩; replace HK := HK.tr gn; replace GG := GG.t0 gn; clear gn; obtain ⟨_, _, _, _, _⟩ := cell5 HK.a; obtain ⟨_, _, _, _, _⟩ := cell5 HK.b; obtain ⟨_, _, _, _, _⟩ := cell5 HK.c; obtain ⟨_, _, _⟩ := cells3'' HK.d)
      | (go_at_call 32; (with_reducible refine (kM2 _).mono ?_); rintro e wn ⟨rfl, gn⟩; replace HK := HK.tr gn; replace GG := GG.t0 gn; clear gn; obtain ⟨_, _, _, _, _⟩ := cell5 HK.a; obtain ⟨_, _, _, _, _⟩ := cell5 HK.b; obtain ⟨_, _, _, _, _⟩ := cell5 HK.c; obtain ⟨_, _, _⟩ := cells3'' HK.d)
      | (go_at_call 32; (with_reducible refine (kM3 _).mono ?_); rintro e wn ⟨rfl, gn⟩; replace HK := HK.tr gn; replace GG := GG.t0 gn; clear gn; obtain ⟨_, _, _, _, _⟩ := cell5 HK.a; obtain ⟨_, _, _, _, _⟩ := cell5 HK.b; obtain ⟨_, _, _, _, _⟩ := cell5 HK.c; obtain ⟨_, _, _⟩ := cells3'' HK.d)
      | (go_at_call 32; (with_reducible refine (kM4 _).mono ?_); rintro e wn ⟨rfl, gn⟩; replace HK := HK.tr gn; replace GG := GG.t0 gn; clear gn; obtain ⟨_, _, _, _, _⟩ := cell5 HK.a; obtain ⟨_, _, _, _, _⟩ := cell5 HK.b; obtain ⟨_, _, _, _, _⟩ := cell5 HK.c; obtain ⟨_, _, _⟩ := cells3'' HK.d))
    go_ret
    exact ⟨rfl, GG⟩
  all_goals
    clear hnl
    have hT1 := hT (by decide)
    clear hT
    rcases hr2 with rfl | rfl | rfl
    rotate_right
    · clear hT1
      cases n
      all_goals
        go_wp2_with (first
          | (go_at_call 32; (with_reducible refine (kM1 _).mono ?_); rintro e wn ⟨rfl, gn⟩; replace HK := HK.tr gn; replace GG := GG.t0 gn; clear gn; obtain ⟨_, _, _, _, _⟩ := cell5 HK.a; obtain ⟨_, _, _, _, _⟩ := cell5 HK.b; obtain ⟨_, _, _, _, _⟩ := cell5 HK.c; obtain ⟨_, _, _⟩ := cells3'' HK.d)
          | (go_at_call 32; (with_reducible refine (kM2 _).mono ?_); rintro e wn ⟨rfl, gn⟩; replace HK := HK.tr gn; replace GG := GG.t0 gn; clear gn; obtain ⟨_, _, _, _, _⟩ := cell5 HK.a; obtain ⟨_, _, _, _, _⟩ := cell5 HK.b; obtain ⟨_, _, _, _, _⟩ := cell5 HK.c; obtain ⟨_, _, _⟩ := cells3'' HK.d)
          | (go_at_call 32; (with_reducible refine (kM3 _).mono ?_); rintro e wn ⟨rfl, gn⟩; replace HK := HK.tr gn; replace GG := GG.t0 gn; clear gn; obtain ⟨_, _, _, _, _⟩ := cell5 HK.a; obtain ⟨_, _, _, _, _⟩ := cell5 HK.b; obtain ⟨_, _, _, _, _⟩ := cell5 HK.c; obtain ⟨_, _, _⟩ := cells3'' HK.d)
          | (go_at_call 32; (with_reducible refine (kM4 _).mono ?_); rintro e wn ⟨rfl, gn⟩; replace HK := HK.tr gn; replace GG := GG.t0 gn; clear gn; obtain ⟨_, _, _, _, _⟩ := cell5 HK.a; obtain ⟨_, _, _, _, _⟩ := cell5 HK.b; obtain ⟨_, _, _, _, _⟩ := cell5 HK.c; obtain ⟨_, _, _⟩ := cells3'' HK.d))
        go_ret
        exact ⟨rfl, GG⟩
    all_goals
      have hZ : Z ≤ 0 := hT1 (by decide)
      clear hT1
      cases n
      all_goals
        go_wp2_with (first
          | (go_at_call 32; (with_reducible refine (kM1 _).mono ?_); rintro e wn ⟨rfl, gn⟩; replace HK := HK.tr gn; replace GG := GG.t0 gn; clear gn; obtain ⟨_, _, _, _, _⟩ := cell5 HK.a; obtain ⟨_, _, _, _, _⟩ := cell5 HK.b; obtain ⟨_, _, _, _, _⟩ := cell5 HK.c; obtain ⟨_, _, _⟩ := cells3'' HK.d)
          | (go_at_call 32; (with_reducible refine (kM2 _).mono ?_); rintro e wn ⟨rfl, gn⟩; replace HK := HK.tr gn; replace GG := GG.t0 gn; clear gn; obtain ⟨_, _, _, _, _⟩ := cell5 HK.a; obtain ⟨_, _, _, _, _⟩ := cell5 HK.b; obtain ⟨_, _, _, _, _⟩ := cell5 HK.c; obtain ⟨_, _, _⟩ := cells3'' HK.d)
          | (go_at_call 32; (with_reducible refine (kM3 _).mono ?_); rintro e wn ⟨rfl, gn⟩; replace HK := HK.tr gn; replace GG := GG.t0 gn; clear gn; obtain ⟨_, _, _, _, _⟩ := cell5 HK.a; obtain ⟨_, _, _, _, _⟩ := cell5 HK.b; obtain ⟨_, _, _, _, _⟩ := cell5 HK.c; obtain ⟨_, _, _⟩ := cells3'' HK.d)
          | (go_at_call 32; (with_reducible refine (kM4 _).mono ?_); rintro e wn ⟨rfl, gn⟩; replace HK := HK.tr gn; replace GG := GG.t0 gn; clear gn; obtain ⟨_, _, _, _, _⟩ := cell5 HK.a; obtain ⟨_, _, _, _, _⟩ := cell5 HK.b; obtain ⟨_, _, _, _, _⟩ := cell5 HK.c; obtain ⟨_, _, _⟩ := cells3'' HK.d))
        go_ret
        exact ⟨by simp [hZ], GG⟩
end Go.Proofs.Ytfnfcioofkeanaa
