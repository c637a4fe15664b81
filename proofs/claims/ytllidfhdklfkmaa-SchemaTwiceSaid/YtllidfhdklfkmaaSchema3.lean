/-
  The contracts of schema.Get and of the document's own Get (hypostyleref16).
-/
import Derived.Test.YtllidfhdklfkmaaSchema2
namespace Go.Proofs.Ytllidfhdklfkmaa
open Go.RowKit

theorem el_col : ElemT Try.prog 47 52 3 32 := by
  obtain ⟨i, hi, hz, h1, h2⟩ := info_parts (P := Try.prog) (e := 52) (z := .agg #[.string { data := #[] }, .int .i64 0, .bool false]) (size := 3) (bytes := 32) (by kernel_rfl)
  exact ⟨Try.underlying47, ⟨i, _, hi, hz, h1, h2, rfl⟩, by decide, by decide⟩

/-- n columns are read. -/
def colsN : Nat → CS → List Col → List Col × CS
  | 0, s, out => (out, s)
  | n + 1, s, out => colsN n s.oneS (out ++ [s.oneC])
def gotC (r : List Col × CS) : List Col × CS := if colsV r.1 ≠ 0 ∨ r.2.bad = true then ([], CS.fail) else r
def CS.gcols (s : CS) : List Col × CS := gotC (colsN (s.vlen 64).1 (s.vlen 64).2 [])

theorem CS.vlen_le (s : CS) (most : Nat) : (s.vlen most).1 ≤ most := by
  by_cases h : (most : Int) < 0 ∨ (most : Int) < (s.vget.1 : Int)
  · rw [CS.vlen_off h]; exact Nat.zero_le _
  · rw [CS.vlen_on h]; omega
theorem CS.oneC_ok (s : CS) : s.oneC.name.length ≤ 100 ∧ 0 ≤ s.oneC.typ ∧ s.oneC.typ < 256 := by
  have h1 := CS.took_length s.c1 (s.vlen 100).1
  have h2 := CS.vlen_le s 100
  have h3 : s.c2.num 1 < 256 := CS.num_lt s.c2 1
  refine ⟨Nat.le_trans h1 h2, ?_, ?_⟩ <;> (simp only [CS.oneC]; omega)
theorem colc_one (l : List Col) : ∀ u ∈ l.flatMap colc, u.oneCell' = true := by
  intro u hu
  obtain ⟨c, _, hc⟩ := List.mem_flatMap.1 hu
  simp only [colc, List.mem_cons, List.not_mem_nil, or_false] at hc
  rcases hc with rfl | rfl | rfl <;> rfl
theorem colc_length (l : List Col) : (l.flatMap colc).length = l.length * 3 := flat_length colc 3 l (fun _ _ => rfl)

/-- An own row that holds no bytes is written, or grows. -/
theorem Cur.grownRow {w w' : World} {p : Nat} {s : CS} {base e size n : Nat} {v : Value} {xs : List Value} (h : Cur w p s) (hg : w.grownBy w' v.ownBlock) (hown : w.ownsRow base e size v n xs) (he : e ≠ 5) (hp : p < base) : Cur w' p s := by
  have c := Chg.grown hg
  cases hb : v.ownBlock with
  | none => rw [hb] at c; exact h.tr0 c
  | some g =>
    rw [hb] at c
    obtain ⟨cs, f, hh⟩ := own_block hown g hb
    have := own_from hown g hb
    exact h.tr1 c (by omega) hh he

set_option maxHeartbeats 4000000 in
set_option maxRecDepth 100000 in
theorem sget_ok (w : World) (p : Nat) (s : CS) (hc : Cur w p s) :
    Calls Try.prog 36 #[.pointer (some ⟨p, 0, none⟩)] w fun e w' => ∃ v', e = .returned v' ∧ w'.ownsRow w.heap.size 52 3 v' s.gcols.1.length (s.gcols.1.flatMap colc) ∧ Cur w' p s.gcols.2 ∧ Chg [p] w w' := by
  have hp := hc.lt
  have hn64 := CS.vlen_le s 64
  obtain ⟨R, hR⟩ : ∃ R, R = s.gcols := ⟨_, rfl⟩
  rw [← hR]
  unfold CS.gcols at hR
  go_enter Try.func36, Try.ntmps36
  go_wp2_with fail
  refine (vlen_ok w p s 64 (by decide) (by decide) hc).mono ?_
  rintro e w1 ⟨rfl, c1, g1⟩
  generalize s.vlen 64 = N at *
  obtain ⟨n, s1⟩ := N
  dsimp only at *
  go_wp2_with fail
  replace hR := Lib.hid hR
  go_loopw [3, 6] (fun out iv wr => ∃ (k : Nat) (s' : CS) (L : List Col), k ≤ n ∧ iv = .int .i64 k ∧ wr.ownsRow w.heap.size 52 3 out L.length (L.flatMap colc) ∧ Cur wr p s' ∧ colsN (n - k) s' L = colsN n s1 [] ∧ L.length = k ∧ (∀ c ∈ L, c.name.length ≤ 100 ∧ 0 ≤ c.typ ∧ c.typ < 256) ∧ Chg [p] w wr) (fun _ iv _ => n - (intOf iv).toNat)
  case atStart => exact ⟨0, s1, [], Nat.zero_le _, rfl, World.ownsRow_nil _ _ _ _, c1, rfl, rfl, by simp, g1⟩
  case round =>
    obtain ⟨k, s', L, hk, rfl, hown, hcur, hN, hLk, hok, hch⟩ := hrel
    clear c1 g1
    replace hLk := Lib.hid hLk
    replace hN := Lib.hid hN
    by_cases hlt : k < n
    · go_wp2_with fail
      refine (one_ok wr p s' hcur).mono ?_
      rintro e w2 ⟨he, c2, g2⟩
      replace he : e = .returned (.agg #[.string (bstr s'.oneC.name), .int .i64 s'.oneC.typ, .bool s'.oneC.null]) := he
      subst he
      have hch2 := hch.t1 g2
      have hown2 := own_tr hown g2 (by simpa using hp)
      have hok2 := CS.oneC_ok s'
      generalize hcc : s'.oneC = c at *
      have hz2 := hch2.size
      clear hcur g2 hown
      go_wp2_with (at_builtin; refine wpList_append_sl _ rfl (.tmp 8) (.tmp 11) 47 52 3 32 rfl el_col w.heap.size _ L.length (L.flatMap colc) rfl (hown2.alloc _) _ 1 (colc c) rfl (Sl.lit _ _ _ 1 (by decide)) rfl (by intro u hu; exact colc_one [c] u (by simpa using hu)) (by have := hLk.out; unfold big; omega) (by simp; omega) ?_)
      intro v3 w3 o3 hg3
      have hch3 : Chg [p] w w3 := (hch2.t0 (Chg.alloc [] w2 _)).grownOwn hg3 (hown2.alloc _) (Nat.le_refl _)
      have c3 : Cur w3 p s'.oneS := (c2.tr0 (Chg.alloc [] w2 _)).grownRow hg3 (hown2.alloc _) (by decide) hp
      have hN2 : colsN (n - (k + 1)) s'.oneS (L ++ [c]) = colsN n s1 [] := by
        have h := hN.out
        rw [show n - k = (n - (k + 1)) + 1 by omega, colsN, hcc] at h
        exact h
      have hok3 : ∀ x ∈ L ++ [c], x.name.length ≤ 100 ∧ 0 ≤ x.typ ∧ x.typ < 256 := by
        intro x hx
        rcases List.mem_append.1 hx with hx | hx
        · exact hok x hx
        · rw [List.mem_singleton.1 hx]; exact hok2
      have hL3 : (L ++ [c]).length = k + 1 := by rw [List.length_append, hLk.out]; rfl
      replace o3 : w3.ownsRow w.heap.size 52 3 v3 (L ++ [c]).length ((L ++ [c]).flatMap colc) := by
        rw [List.length_append, List.flatMap_append]
        simpa using o3
      clear hok hok2 hcc hg3 hown2 c2 hch2
      go_wp2
      go_roundw
      case rel => exact ⟨k + 1, s'.oneS, L ++ [c], by omega, by go_num, o3, c3, hN2, hL3, hok3, hch3⟩
      case measure => simp [intOf]; omega
    · obtain rfl : k = n := by omega
      have hN := hN.out
      rw [Nat.sub_self] at hN
      have hR := hR.out
      rw [← hN] at hR
      clear hN
      have hLm : L.length ≤ maxLen := by have := hLk.out; unfold maxLen; omega
      replace hR := Lib.hid hR
      have hsl := Sl.ofOwns hown
      obtain ⟨aL, cL, rfl⟩ := own_shape hown
      go_wp2_with fail
      refine (cols_ok wr _ L (fun c hc => by obtain ⟨q0, q1, q2⟩ := hok c hc; unfold maxLen; omega) hsl hLm).mono ?_
      rintro e w4 ⟨rfl, g4⟩
      have c4 := hcur.tr0 g4
      have o4 := own_tr hown g4 (by simp)
      have hch4 := hch.t0 g4
      clear hcur hown hsl hch
      by_cases hv : colsV L = 0
      · rw [hv]
        go_wp2_with fail
        refine (bad_ok w4 p _ c4).mono ?_
        rintro e w4' ⟨rfl, rfl⟩
        cases hb : s'.bad
        · have hR2 : R = (L, s') := by rw [hR.out, colsN, gotC, if_neg (by rintro (h | h); exact h hv; rw [hb] at h; cases h)]
          subst hR2
          clear hR
          go_wp2
          go_ret
          exact ⟨_, rfl, o4, c4, hch4⟩
        · have hR2 : R = ([], CS.fail) := by rw [hR.out, colsN, gotC, if_pos (.inr hb)]
          have hsf : s' = CS.fail := by
            obtain ⟨l', b'⟩ := s'
            have := c4.nil hb
            simp only at this hb
            subst this hb; rfl
          subst hR2 hsf
          clear hR
          go_wp2
          go_ret
          exact ⟨_, rfl, World.ownsRow_nil _ _ _ _, c4, hch4⟩
      · have hR2 : R = ([], CS.fail) := by rw [hR.out, colsN, gotC, if_pos (.inl hv)]
        subst hR2
        clear hR
        generalize colsV L = V at *
        go_wp2_with fail
        refine (fail_ok w4 p _ c4).mono ?_
        rintro e w5 ⟨rfl, c5, g5⟩
        have hch5 := hch4.t1 g5
        have o5 := own_tr o4 g5 (by simpa using hp)
        have hbt : CS.fail.bad = true := rfl
        go_wp2_with fail
        refine (bad_ok w5 p _ c5).mono ?_
        rintro e w4' ⟨rfl, rfl⟩
        go_wp2
        go_ret
        exact ⟨_, rfl, World.ownsRow_nil _ _ _ _, c5, hch5⟩
end Go.Proofs.Ytllidfhdklfkmaa
