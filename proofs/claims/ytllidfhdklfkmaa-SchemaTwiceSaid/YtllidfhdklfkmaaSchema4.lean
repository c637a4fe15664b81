/-
  The contract of the document's own Get (hypostyleref16).
-/
import Derived.Test.YtllidfhdklfkmaaSchema3
namespace Go.Proofs.Ytllidfhdklfkmaa
open Go.RowKit

theorem CS.then_bad {s : CS} (h : s.bad = true) (n : Int) : s.then n = CS.fail := CS.then_off (.inl h)
theorem CS.num_bad {s : CS} (h : s.bad = true) (n : Int) : s.num n = 0 := by rw [CS.num, CS.took_off (.inl h)]; rfl
theorem CS.oneS_bad {s : CS} (h : s.bad = true) : s.oneS.bad = true := by
  have h0 : s.vget = (0, CS.fail) := by unfold CS.vget; rw [if_pos h]
  have h1 : s.c1 = CS.fail := by unfold CS.c1 CS.vlen; rw [if_pos (.inl (by rw [h0]; rfl))]
  have h2 : s.c2 = CS.fail := by unfold CS.c2; rw [h1]; exact CS.then_bad rfl _
  have h3 : s.c3 = CS.fail := by unfold CS.c3; rw [h2]; exact CS.then_bad rfl _
  have h4 : s.c4 = CS.fail := by unfold CS.c4; rw [h3]; exact CS.then_bad rfl _
  unfold CS.oneS
  split
  · rw [h4]; rfl
  · rfl
theorem colsN_bad : ∀ (n : Nat) (s : CS) (out : List Col), s.bad = true → (colsN n s out).2.bad = true
  | 0, _, _, h => h
  | n + 1, s, out, h => colsN_bad n _ _ (CS.oneS_bad h)

theorem RCur.is {B : Nat} {w : World} {q : Nat} {s : CS} (h : RCur B w q s) : w.cell? ⟨q, 1, none⟩ = some (.bool s.bad) := by
  obtain ⟨v, hh, _⟩ := h
  exact (cells2 hh).2.1

set_option maxHeartbeats 4000000 in
set_option maxRecDepth 100000 in
theorem rsget_ok (B : Nat) (w : World) (p : Nat) (s : CS) (hc : RCur B w p s) :
    Calls Try.prog 37 #[.pointer (some ⟨p, 0, none⟩)] w fun e w' => ∃ v', e = .returned v' ∧ w'.ownsRow w.heap.size 52 3 v' s.gcols.1.length (s.gcols.1.flatMap colc) ∧ RCur B w' p s.gcols.2 ∧ Chg [p] w w' := by
  have hp := hc.lt
  have hBp : B ≤ p := by obtain ⟨v, _, _, _, h, _⟩ := hc; exact h
  have hn64 := CS.vlen_le s 64
  obtain ⟨R, hR⟩ : ∃ R, R = s.gcols := ⟨_, rfl⟩
  rw [← hR]
  unfold CS.gcols at hR
  go_enter Try.func37, Try.ntmps37
  go_wp2_with fail
  refine (rlen_ok B w p s 64 (by decide) (by decide) hc).mono ?_
  rintro e w1 ⟨rfl, c1, g1⟩
  generalize s.vlen 64 = N at *
  obtain ⟨n, s1⟩ := N
  dsimp only at *
  go_wp2_with fail
  replace hR := Lib.hid hR
  go_loopw [4, 5] (fun out iv wr => ∃ (k : Nat) (s' : CS) (L : List Col), k ≤ n ∧ iv = .int .i64 k ∧ wr.ownsRow w.heap.size 52 3 out L.length (L.flatMap colc) ∧ RCur B wr p s' ∧ colsN (n - k) s' L = colsN n s1 [] ∧ L.length = k ∧ (∀ c ∈ L, c.name.length ≤ 100 ∧ 0 ≤ c.typ ∧ c.typ < 256) ∧ Chg [p] w wr) (fun _ iv _ => n - (intOf iv).toNat)
  case atStart => exact ⟨0, s1, [], Nat.zero_le _, rfl, World.ownsRow_nil _ _ _ _, c1, rfl, rfl, by simp, g1⟩
  case round =>
    obtain ⟨k, s', L, hk, rfl, hown, hcur, hN, hLk, hok, hch⟩ := hrel
    clear c1 g1
    replace hLk := Lib.hid hLk
    replace hN := Lib.hid hN
    have his := hcur.is
    by_cases hgo : k < n ∧ s'.bad = false
    · obtain ⟨hlt, hbf⟩ := hgo
      rw [hbf] at his
      have hn2 : s'.c2.num 1 < 256 := CS.num_lt s'.c2 1
      have hn3 : s'.c3.num 1 < 256 := CS.num_lt s'.c3 1
      have hbase : w.heap.size ≤ wr.heap.size := hch.size
      go_wp2_with fail
      refine (rlen_ok B wr p s' 100 (by decide) (by decide) hcur).mono ?_
      rintro e w2 ⟨rfl, c2, g2⟩
      replace c2 : RCur B w2 p s'.c1 := c2
      go_wp2_with fail
      refine (rtake_ok B w2 p s'.c1 (s'.vlen 100).1 c2).mono ?_
      rintro e w3 ⟨v3, rfl, o3, c3, g3⟩
      replace c3 : RCur B w3 p s'.c2 := c3
      have st3 := run_str (dst := 9) Try.underlying22 Try.underlying5 Try.underlying9 (Sl.ofOwns o3) rfl
      have hnm : s'.c1.took (s'.vlen 100).1 = s'.nm := rfl
      rw [hnm] at st3
      clear o3 hnm
      go_wp2_with fail
      refine (rnum1_ok B w3 p s'.c2 c3).mono ?_
      rintro e w4 ⟨rfl, c4, g4⟩
      replace c4 : RCur B w4 p s'.c3 := c4
      clear st3
      go_wp2_with fail
      refine (rnum1_ok B w4 p s'.c3 c4).mono ?_
      rintro e w5 ⟨rfl, c5, g5⟩
      replace c5 : RCur B w5 p s'.c4 := c5
      have hchd : Chg [p] w w5 := (((hch.t1 g2).t1 g3).t1 g4).t1 g5
      have hown5 := own_tr hown ((((g2).t1 g3).t1 g4).t1 g5) (by simpa using hp)
      have hok2 := CS.oneC_ok s'
      have hone : s'.oneC = ⟨s'.nm, s'.c2.num 1, decide (s'.c3.num 1 = 1)⟩ := rfl
      have hsone : s'.oneS = if s'.c3.num 1 ≤ 1 then s'.c4 else CS.fail := rfl
      clear hcur g2 g3 g4 g5 hown c2 c3 c4 his
      have hN2 : colsN (n - (k + 1)) s'.oneS (L ++ [s'.oneC]) = colsN n s1 [] := by
        have h := hN.out
        rw [show n - k = (n - (k + 1)) + 1 by omega, colsN] at h
        exact h
      generalize s'.oneC = c at *
      generalize s'.oneS = S1 at *
      generalize s'.c3.num 1 = z at *
      generalize s'.c2.num 1 = ty at *
      generalize s'.nm = nm at *
      generalize s'.c4 = S4 at *
      have hok3 : ∀ x ∈ L ++ [c], x.name.length ≤ 100 ∧ 0 ≤ x.typ ∧ x.typ < 256 := by
        intro x hx
        rcases List.mem_append.1 hx with hx | hx
        · exact hok x hx
        · rw [List.mem_singleton.1 hx]; exact hok2
      have hL3 : (L ++ [c]).length = k + 1 := by rw [List.length_append, hLk.out]; rfl
      replace hN2 := Lib.hid hN2
      replace hL3 := Lib.hid hL3
      replace hok3 := Lib.hid hok3
      have hz5 := hchd.size
      clear hok hok2
      by_cases hz0 : z = 0
      · subst hz0
        rw [if_pos (by decide)] at hsone
        subst hsone
        have hone' : c = ⟨nm, ty, false⟩ := hone
        clear hone
        have hone := hone'
        clear hone'
        replace hone := Lib.hid hone
        go_wp2_with (at_builtin; refine wpList_append_sl _ rfl (.tmp 38) (.tmp 44) 47 52 3 32 rfl el_col w.heap.size _ L.length (L.flatMap colc) rfl (hown5.alloc _) _ 1 (colc c) rfl (by rw [hone.out]; exact Sl.lit _ _ _ 1 (by decide)) rfl (by intro u hu; exact colc_one [c] u (by simpa using hu)) (by have := hLk.out; unfold big; omega) (by have := hchd.size; simp; omega) ?_)
        intro v7 w7 o7 hg7
        have hch7 : Chg [p] w w7 := (hchd.t0 (Chg.alloc [] w5 _)).grownOwn hg7 (hown5.alloc _) (Nat.le_refl _)
        have gg := (Chg.alloc [] w5 (.cells #[.string (bstr nm), .int .i64 (ty : Int), .bool false] 52))
        have c7 : RCur B w7 p S1 := (c5.tr (Chg.alloc [] w5 _) (by simp) (by simp)).tr (Chg.grown hg7) (fun hm => by have := own_from hown5 p (by simpa using hm); omega) (fun k hk => by have := own_from hown5 k (by simpa using hk); omega)
        replace o7 : w7.ownsRow w.heap.size 52 3 v7 (L ++ [c]).length ((L ++ [c]).flatMap colc) := by
          rw [List.length_append, List.flatMap_append]
          simpa using o7
        clear hg7 hown5 c5 hchd gg
        go_wp2
        go_roundw
        case rel => exact ⟨k + 1, S1, L ++ [c], by omega, by go_num, o7, c7, hN2.out, hL3.out, hok3.out, hch7⟩
        case measure => simp [intOf]; omega
      · by_cases hz1 : z = 1
        · subst hz1
          rw [if_pos (by decide)] at hsone
          subst hsone
          have hone' : c = ⟨nm, ty, true⟩ := hone
          clear hone
          have hone := hone'
          clear hone'
          replace hone := Lib.hid hone
          go_wp2_with (at_builtin; refine wpList_append_sl _ rfl (.tmp 38) (.tmp 44) 47 52 3 32 rfl el_col w.heap.size _ L.length (L.flatMap colc) rfl (hown5.alloc _) _ 1 (colc c) rfl (by rw [hone.out]; exact Sl.lit _ _ _ 1 (by decide)) rfl (by intro u hu; exact colc_one [c] u (by simpa using hu)) (by have := hLk.out; unfold big; omega) (by have := hchd.size; simp; omega) ?_)
          intro v7 w7 o7 hg7
          have hch7 : Chg [p] w w7 := (hchd.t0 (Chg.alloc [] w5 _)).grownOwn hg7 (hown5.alloc _) (Nat.le_refl _)
          have gg := (Chg.alloc [] w5 (.cells #[.string (bstr nm), .int .i64 (ty : Int), .bool true] 52))
          have c7 : RCur B w7 p S1 := (c5.tr (Chg.alloc [] w5 _) (by simp) (by simp)).tr (Chg.grown hg7) (fun hm => by have := own_from hown5 p (by simpa using hm); omega) (fun k hk => by have := own_from hown5 k (by simpa using hk); omega)
          replace o7 : w7.ownsRow w.heap.size 52 3 v7 (L ++ [c]).length ((L ++ [c]).flatMap colc) := by
            rw [List.length_append, List.flatMap_append]
            simpa using o7
          clear hg7 hown5 c5 hchd gg
          go_wp2
          go_roundw
          case rel => exact ⟨k + 1, S1, L ++ [c], by omega, by go_num, o7, c7, hN2.out, hL3.out, hok3.out, hch7⟩
          case measure => simp [intOf]; omega
        · have hzf : decide (z = 1) = false := decide_eq_false hz1
          rw [hzf] at hone
          rw [if_neg (by omega)] at hsone
          subst hsone
          replace hone := Lib.hid hone
          clear hzf
          have hzb : ((z : Int) == 1) = false := by simp; omega
          go_wp2_with fail
          refine (rfail_ok B w5 p S4 c5).mono ?_
          rintro e w6 ⟨rfl, c6, g6⟩
          have hch6 := hchd.t1 g6
          have hown6 := own_tr hown5 g6 (by simpa using hp)
          clear c5 hchd hown5 g6
          go_wp2_with (at_builtin; refine wpList_append_sl _ rfl (.tmp 38) (.tmp 44) 47 52 3 32 rfl el_col w.heap.size _ L.length (L.flatMap colc) rfl (hown6.alloc _) _ 1 (colc c) rfl (by rw [hone.out]; exact Sl.lit _ _ _ 1 (by decide)) rfl (by intro u hu; exact colc_one [c] u (by simpa using hu)) (by have := hLk.out; unfold big; omega) (by have := hch6.size; simp; omega) ?_)
          intro v7 w7 o7 hg7
          have hch7 : Chg [p] w w7 := (hch6.t0 (Chg.alloc [] w6 _)).grownOwn hg7 (hown6.alloc _) (Nat.le_refl _)
          have gg := (Chg.alloc [] w6 (.cells #[.string (bstr nm), .int .i64 (ty : Int), .bool false] 52))
          have c7 : RCur B w7 p CS.fail := (c6.tr (Chg.alloc [] w6 _) (by simp) (by simp)).tr (Chg.grown hg7) (fun hm => by have := own_from hown6 p (by simpa using hm); omega) (fun k hk => by have := own_from hown6 k (by simpa using hk); omega)
          replace o7 : w7.ownsRow w.heap.size 52 3 v7 (L ++ [c]).length ((L ++ [c]).flatMap colc) := by
            rw [List.length_append, List.flatMap_append]
            simpa using o7
          clear hg7 hown6 c6 hch6 gg
          go_wp2
          go_roundw
          case rel => exact ⟨k + 1, CS.fail, L ++ [c], by omega, by go_num, o7, c7, hN2.out, hL3.out, hok3.out, hch7⟩
          case measure => simp [intOf]; omega
    · have hcase : k = n ∨ s'.bad = true := by
        by_cases h : k = n
        · exact .inl h
        · right
          cases hb : s'.bad
          · exact absurd ⟨by omega, hb⟩ hgo
          · rfl
      have hN := hN.out
      have hR := hR.out
      rw [← hN] at hR
      clear hN
      have hLm : L.length ≤ maxLen := by have := hLk.out; unfold maxLen; omega
      have hsl := Sl.ofOwns hown
      have hfin : (colsV L = 0 ∧ s'.bad = false ∧ R = (L, s')) ∨ ((colsV L ≠ 0 ∨ s'.bad = true) ∧ R = ([], CS.fail)) := by
        cases hb : s'.bad
        · have hk' : k = n := by rcases hcase with h | h; exact h; rw [hb] at h; cases h
          subst hk'
          rw [Nat.sub_self, colsN] at hR
          by_cases hv : colsV L = 0
          · left
            exact ⟨hv, rfl, by rw [hR, gotC, if_neg (by rintro (h | h); exact h hv; rw [hb] at h; cases h)]⟩
          · right
            exact ⟨.inl hv, by rw [hR, gotC, if_pos (.inl hv)]⟩
        · right
          exact ⟨.inr rfl, by rw [hR, gotC, if_pos (.inr (colsN_bad _ _ _ hb))]⟩
      clear hR hgo
      obtain ⟨aL, cL, rfl⟩ := own_shape hown
      have tail : ∀ (w4 : World), Chg [] wr w4 → RCur B w4 p s' ∧ w4.ownsRow w.heap.size 52 3 (.slice aL L.length cL) L.length (L.flatMap colc) ∧ Chg [p] w w4 := fun w4 g4 => ⟨hcur.tr g4 (by simp) (by simp), own_tr hown g4 (by simp), hch.t0 g4⟩
      have hok' : ∀ c ∈ L, c.name.length ≤ maxLen ∧ -9223372036854775808 ≤ c.typ ∧ c.typ ≤ 9223372036854775807 := fun c hc => by obtain ⟨q0, q1, q2⟩ := hok c hc; unfold maxLen; omega
      clear hcur hown hch hok
      by_cases hkn : k = n
      all_goals
        first
          | (subst hkn; go_wp2_with fail)
          | (have hb : s'.bad = true := by rcases hcase with h | h; exact absurd h hkn; exact h
             rw [hb] at his
             have hltn : k < n := by omega
             go_wp2_with fail)
        refine (rcols_ok wr _ L hok' hsl hLm).mono ?_
        rintro e w4 ⟨rfl, g4⟩
        obtain ⟨c4, o4, hch4⟩ := tail w4 g4
        have his4 := c4.is
        clear tail hok' his g4 hsl
        rcases hfin with ⟨hv, hb, hRe⟩ | ⟨hv, hRe⟩
        · subst hRe
          rw [hv]
          rw [hb] at his4
          go_wp2
          go_ret
          exact ⟨_, rfl, o4, c4, hch4⟩
        · subst hRe
          generalize colsV L = V at *
          cases hb : s'.bad
          · rw [hb] at his4
            replace hv : V ≠ 0 := by rcases hv with h | h; exact h; rw [hb] at h; cases h
            go_wp2_with fail
            refine (rfail_ok B w4 p s' c4).mono ?_
            rintro e w5 ⟨rfl, c5, g5⟩
            have hch5 := hch4.t1 g5
            go_wp2
            go_ret
            exact ⟨_, rfl, World.ownsRow_nil _ _ _ _, c5, hch5⟩
          · rw [hb] at his4
            go_wp2_with fail
            refine (rfail_ok B w4 p s' c4).mono ?_
            rintro e w5 ⟨rfl, c5, g5⟩
            have hch5 := hch4.t1 g5
            go_wp2
            go_ret
            exact ⟨_, rfl, World.ownsRow_nil _ _ _ _, c5, hch5⟩
end Go.Proofs.Ytllidfhdklfkmaa
