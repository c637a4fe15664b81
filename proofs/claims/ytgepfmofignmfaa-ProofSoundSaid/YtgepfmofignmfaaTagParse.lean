/-
  The contract of tag.Parse.
-/
import Derived.Test.YtgepfmofignmfaaTagCut
namespace Go.Proofs.Ytgepfmofignmfaa
set_option linter.unusedSimpArgs false
set_option linter.unusedVariables false
open Go.RowKit

theorem el_row : ElemT Try.prog 28 22 1 24 := by
  obtain ⟨i, hi, hz, h1, h2⟩ := info_parts (P := Try.prog) (e := 22) (z := .slice none 0 0) (size := 1) (bytes := 24) (by kernel_rfl)
  exact ⟨Try.underlying28, ⟨i, _, hi, hz, h1, h2, rfl⟩, by decide, by decide⟩
theorem ownB_type {w : World} {base e size n : Nat} {v : Value} {xs : List Value} (h : w.ownsRow base e size v n xs) : ∀ k, v.ownBlock = some k → ∃ cs f, w.heap[k]? = some (.cells cs e f) := by
  obtain ⟨_, ⟨rfl, rfl⟩ | ⟨g, cap, cur, rfl, _, hg, _⟩⟩ := h
  · intro k hk; simp [Value.ownBlock] at hk
  · intro k hk; simp [Value.ownBlock] at hk; subst hk; exact ⟨_, _, hg⟩
theorem ownB_apart {w : World} {b1 b2 e1 e2 s1 s2 n1 n2 : Nat} {v1 v2 : Value} {x1 x2 : List Value} (h1 : w.ownsRow b1 e1 s1 v1 n1 x1) (h2 : w.ownsRow b2 e2 s2 v2 n2 x2) (he : e1 ≠ e2) : ∀ k ∈ v1.ownBlock.toList, v2.ownBlock ≠ some k := by
  intro k hk hk2
  obtain ⟨c1, f1, h1⟩ := ownB_type h1 k (by simpa using hk)
  obtain ⟨c2, f2, h2⟩ := ownB_type h2 k hk2
  rw [h1] at h2
  simp at h2
  exact he h2.2.1
theorem ownB_trD {w w' : World} {base e size n : Nat} {v : Value} {xs : List Value} {S : List Nat} (h : w.ownsRow base e size v n xs) (hc : Chg S w w') (hn : ∀ k ∈ S, v.ownBlock ≠ some k) : w'.ownsRow base e size v n xs := by
  obtain ⟨h1, h2 | ⟨g, cap, cur, rfl, hb, hg, r⟩⟩ := h
  · exact ⟨h1, .inl h2⟩
  · exact ⟨h1, .inr ⟨g, cap, cur, rfl, hb, hc.heap hg (fun hm => hn g hm (by simp [Value.ownBlock])), r⟩⟩
theorem own_one {w : World} {base e size n : Nat} {v : Value} {xs : List Value} (h : w.ownsRow base e size v n xs) : v.oneCell' = true := by
  obtain ⟨_, _, rfl⟩ := own_shape h; rfl
/-- A row of rows of bytes, all of it the call's own. -/
def OwnsB (w : World) (base : Nat) (v : Value) (D : RowsB) : Prop := w.ownsRow base 22 1 v D.length (D.map (·.1)) ∧ ∀ x ∈ D, w.ownsRow base 5 1 x.1 x.2.length (bcs x.2)
theorem OwnsB.nil (w : World) (base : Nat) : OwnsB w base (.slice none 0 0) [] := ⟨World.ownsRow_nil _ _ _ _, by simp⟩
theorem OwnsB.tr {w w' : World} {base : Nat} {v : Value} {D : RowsB} {S : List Nat} (h : OwnsB w base v D) (g : Chg S w w') (hS : ∀ k ∈ S, k < base) : OwnsB w' base v D := ⟨own_tr h.1 g hS, fun x hx => own_tr (h.2 x hx) g hS⟩
theorem OwnsB.tr0 {w w' : World} {base : Nat} {v : Value} {D : RowsB} (h : OwnsB w base v D) (g : Chg [] w w') : OwnsB w' base v D := h.tr g (by simp)
theorem OwnsB.lower {w : World} {base base' : Nat} {v : Value} {D : RowsB} (h : OwnsB w base v D) (hb : base' ≤ base) : OwnsB w base' v D := ⟨own_lower h.1 hb, fun x hx => own_lower (h.2 x hx) hb⟩
theorem OwnsB.sl {w : World} {base : Nat} {v : Value} {D : RowsB} (h : OwnsB w base v D) : SlB w v D := ⟨Sl.ofOwns h.1, fun x hx => Sl.ofOwns (h.2 x hx)⟩
theorem OwnsB.shape {w : World} {base : Nat} {v : Value} {D : RowsB} (h : OwnsB w base v D) : ∃ a c, v = .slice a D.length c := own_shape h.1
/-- A row more, that is the call's own. -/
theorem OwnsB.push {w w' : World} {base : Nat} {v v' u : Value} {D : RowsB} {p : Bytes} (h : OwnsB w base v D) (hu : w.ownsRow base 5 1 u p.length (bcs p)) (ho : w'.ownsRow base 22 1 v' (D.length + 1) (D.map (·.1) ++ [u])) (hg : w.grownBy w' v.ownBlock) : OwnsB w' base v' (D ++ [(u, p)]) := by
  have hc := Chg.grown hg
  refine ⟨by simpa using ho, fun x hx => ?_⟩
  rcases List.mem_append.1 hx with hx | hx
  · exact ownB_trD (h.2 x hx) hc (ownB_apart h.1 (h.2 x hx) (by decide))
  · rw [List.mem_singleton.1 hx]
    exact ownB_trD hu hc (ownB_apart h.1 hu (by decide))

/-- What .Parse tells. -/
def parseT (l : Bytes) : Bytes × List Bytes × Bool := match parseV l with | some (s, ps) => (s, ps, true) | none => ([], [], false)
theorem parseT_one {h : UInt8} {t : Bytes} (h0 : h = 0) : parseT (h :: t) = ([], [], false) := by simp [parseT, parseV, h0]
theorem parseT_two {h : UInt8} {t : Bytes} (h1 : ¬ h.toNat ≤ t.length) : parseT (h :: t) = ([], [], false) := by
  unfold parseT parseV
  simp only [h1, if_false]
  split
  · rename_i h; split at h <;> cases h
  · rfl
theorem parseT_three {h : UInt8} {t : Bytes} (h2 : t.drop h.toNat = []) : parseT (h :: t) = ([], [], false) := by
  unfold parseT parseV
  simp only [h2]
  split
  · rename_i h; split at h
    · cases h
    · split at h <;> cases h
  · rfl
theorem parseT_four {h m : UInt8} {t r : Bytes} (h0 : ¬ h = 0) (h1 : h.toNat ≤ t.length) (h2 : t.drop h.toNat = m :: r) :
    parseT (h :: t) = match partsV m.toNat r with | some (l, []) => (t.take h.toNat, l, true) | _ => ([], [], false) := by
  unfold parseT parseV
  simp only [h0, if_false, h1, if_true, h2]
  cases hp : partsV m.toNat r with
  | none => rfl
  | some x =>
    obtain ⟨l, b⟩ := x
    cases b <;> rfl

theorem cutV_yes {b : Bytes} {n : Nat} (h : n ≤ b.length) : cutV b n = (b.take n, b.drop n, true) := if_pos h
theorem cutV_no {b : Bytes} {n : Nat} (h : ¬ n ≤ b.length) : cutV b n = ([], [], false) := if_neg h
/-- What is left to read of parts. -/
theorem partsV_step {m k : Nat} {R r : Bytes} {P : List Bytes} (hk : k < m) (h : partsV m R = (partsV (m - k) r).map fun x => (P ++ x.1, x.2)) :
    ((partV r).2.2 = false → partsV m R = none) ∧ ((partV r).2.2 = true → partsV m R = (partsV (m - (k + 1)) (partV r).2.1).map fun x => (P ++ [(partV r).1] ++ x.1, x.2)) := by
  obtain ⟨d, hd⟩ : ∃ d, m - k = d + 1 := ⟨m - k - 1, by omega⟩
  have hd' : m - (k + 1) = d := by omega
  rw [hd] at h
  rw [hd']
  constructor
  · intro hf
    rw [h, partsV, hf]; simp
  · intro ht
    rw [h, partsV, if_pos ht]
    cases partsV d (partV r).2.1 with
    | none => rfl
    | some x => simp

set_option maxHeartbeats 8000000 in
set_option maxRecDepth 100000 in
theorem parse_ok (w : World) (v : Value) (l : Bytes) (hs : Sl w v l.length (bcs l)) (hb : l.length ≤ 2147483647) :
    Calls Try.prog 34 #[v] w fun e w' => ∃ v', e = .returned (.tuple #[.string (bstr (parseT l).1), v', .bool (parseT l).2.2]) ∧ ∃ D, OwnsB w' w.heap.size v' D ∧ D.map (·.2) = (parseT l).2.1 ∧ Chg [] w w' := by
  obtain ⟨R, hR⟩ : ∃ R, R = parseT l := ⟨_, rfl⟩
  rw [← hR]
  replace hR := Lib.hid hR
  have hno : ∀ w' : World, OwnsB w' w.heap.size (.slice none 0 0) [] := fun w' => OwnsB.nil _ _
  have hb0 : bstr [] = { data := #[] } := rfl
  go_enter Try.func34, Try.ntmps34
  go_wp2_with fail
  refine (cut_ok w v l 1 hs (by decide)).mono ?_
  cases l with
  | nil =>
    rw [cutV_no (by decide)]
    rintro e w1 ⟨v1, v2, rfl, s1, s2, i1, i2, g1⟩
    have hR1 : R = ([], [], false) := by rw [hR.out]; rfl
    subst hR1
    go_wp2
    go_ret3
    exact ⟨_, rfl, [], hno _, rfl, g1⟩
  | cons h t =>
    rw [cutV_yes (by simp)]
    rintro e w1 ⟨v1, v2, rfl, s1, s2, i1, i2, g1⟩
    rw [show (h :: t).take 1 = [h] from rfl] at s1
    rw [show (h :: t).drop 1 = t from rfl] at s2
    obtain ⟨b, off, c, e, hbl, x1⟩ := byte_cell s1 0 (by simp)
    subst e
    simp only [List.getElem_cons_zero, Nat.add_zero] at x1
    have hts : t.length ≤ 2147483647 := by simp at hb; omega
    dsimp only
    by_cases h0 : h = 0
    · have hR1 := hR.out
      rw [parseT_one h0] at hR1
      subst hR1 h0
      go_wp2
      go_ret3
      exact ⟨_, rfl, [], hno _, rfl, g1⟩
    · have h0' : ((h.toNat : Int) == 0) = false := by
        simp only [beq_eq_false_iff_ne]
        intro e
        exact h0 (UInt8.toNat_inj.1 (by simpa using e))
      have h0'' : ¬ (h.toNat : Int) = 0 := by simpa using h0'
      have h255 := h.toNat_lt
      go_wp2_with fail
      refine (cut_ok w1 v2 t h.toNat s2 (by omega)).mono ?_
      by_cases h1 : h.toNat ≤ t.length
      · rw [cutV_yes h1]
        rintro e w2 ⟨v3, v4, rfl, s3, s4, i3, i4, g2⟩
        dsimp only
        go_wp2_with fail
        refine (cut_ok w2 v4 _ 1 s4 (by decide)).mono ?_
        cases h2 : t.drop h.toNat with
        | nil =>
          rw [cutV_no (by decide)]
          rintro e w3 ⟨v5, v6, rfl, s5, s6, i5, i6, g3⟩
          have hR1 := hR.out
          rw [parseT_three h2] at hR1
          subst hR1
          go_wp2
          go_ret3
          exact ⟨_, rfl, [], hno _, rfl, (g1.t0 g2).t0 g3⟩
        | cons m r =>
          rw [cutV_yes (by simp)]
          rintro e w3 ⟨v5, v6, rfl, s5, s6, i5, i6, g3⟩
          rw [show (m :: r).take 1 = [m] from rfl] at s5
          rw [show (m :: r).drop 1 = r from rfl] at s6
          obtain ⟨b5, off5, c5, e, hbl5, x5⟩ := byte_cell s5 0 (by simp)
          subst e
          simp only [List.getElem_cons_zero, Nat.add_zero] at x5
          have hR1 := hR.out
          rw [parseT_four h0 h1 h2] at hR1
          replace hR1 := Lib.hid hR1
          have hrs : r.length ≤ 2147483647 := by
            have := congrArg List.length h2
            simp at this; omega
          have hm255 := m.toNat_lt
          have G3 : Chg [] w w3 := (g1.t0 g2).t0 g3
          have ST := (s3.tr0 g3)
          generalize t.take h.toNat = T at *
          have OT : Old w v3 := (i3.trans i2).old hs.lt
          have Or : Old w v6 := (i6.trans (i4.trans i2)).old hs.lt
          clear hR h0' h0'' h2 hs s1 s2 s3 s4 s5 x1 g1 g2 g3 h1 hts hb
          have hm0 : ((m.toNat : Nat) : Int) < 256 := by omega
          go_wp2_with fail
          go_loopw [6, 9, 48] (fun rv ov iv wr => ∃ (k : Nat) (rr : Bytes) (D : RowsB), k ≤ m.toNat ∧ iv = .int .u8 k ∧ Sl wr rv rr.length (bcs rr) ∧ Old w rv ∧ OwnsB wr w.heap.size ov D ∧ D.length = k ∧ partsV m.toNat r = (partsV (m.toNat - k) rr).map (fun x => (D.map (·.2) ++ x.1, x.2)) ∧ rr.length ≤ 2147483647 ∧ Chg [] w wr ∧ w3.heap.size ≤ wr.heap.size) (fun _ _ iv _ => m.toNat - (intOf iv).toNat)
          case atStart => exact ⟨0, r, [], Nat.zero_le _, rfl, s6, Or, OwnsB.nil _ _, rfl, by simp, hrs, G3, Nat.le_refl _⟩
          case round =>
            clear s6 x5 Or
            obtain ⟨k, rr, D, hk, rfl, sr, oR, oD, hDl, hpv, hrl, hc, hc3⟩ := hrel
            by_cases hlt : k < m.toNat
            · have hki : (k : Int) < m.toNat := by omega
              obtain ⟨hF, hT⟩ := partsV_step hlt hpv
              go_wp2_with fail
              refine (part_ok wr _ rr sr).mono ?_
              rintro e w4 ⟨u1, u2, rfl, t1, t2, j1, j2, g4⟩
              have hp1 : (partV rr).1.length ≤ 2147483647 ∧ (partV rr).2.1.length ≤ 2147483647 := by
                unfold partV cutV
                split
                · split
                  · simp; omega
                  · simp
                · simp
              obtain ⟨hp1, hp2⟩ := hp1
              cases hok : (partV rr).2.2
              · have hN := hF hok
                have hR2 := hR1.out
                rw [hN] at hR2
                dsimp only at hR2
                subst hR2
                go_wp2
                go_ret3
                exact ⟨_, rfl, [], hno _, rfl, hc.t0 g4⟩
              · have hS := hT hok
                have oD4 := oD.tr0 g4
                have hc4 := hc.t0 g4
                have hc34 := Nat.le_trans hc3 g4.size
                have oU := j2.old oR
                generalize (partV rr).1 = p at *
                generalize (partV rr).2.1 = q at *
                clear hF hT hpv hok oD g4 hc hc3
                go_wp2_with fail
                refine (cloneb_ok w4 _ p t1 (by unfold big; omega)).mono ?_
                rintro e w5 ⟨u5, rfl, o5, g5⟩
                obtain ⟨a5, c5', rfl⟩ := own_shape o5
                have ga := Chg.alloc [] w5 (.cells #[.slice a5 p.length c5'] 22)
                have oD5 := oD4.tr0 (g5.t0 ga)
                have hc5 := hc4.t0 (g5.t0 ga)
                have hc35 := Nat.le_trans hc34 (g5.t0 ga).size
                have o5' := own_lower (own_tr o5 ga (by simp)) hc4.size
                subst hDl
                go_wp2_with (at_builtin; go_must (refine wpList_append_sl _ rfl (.tmp 58) (.tmp 61) 28 22 1 24 rfl el_row w.heap.size _ _ _ rfl oD5.1 _ 1 [.slice a5 p.length c5'] rfl (Sl.lit w5 #[.slice a5 p.length c5'] _ 1 (by decide)) rfl (by intro u hu; rw [List.mem_singleton.1 hu]; rfl) (by unfold big; omega) hc5.size ?_))
                intro v6 w6 o6 g6
                have oD6 := oD5.push o5' o6 g6
                have hc6 : Chg [] w w6 := hc5.grownOwn g6 oD5.1 (Nat.le_refl _)
                have hc36 := Nat.le_trans hc35 g6.size
                have q6 := t2.side hc4 hc6 (Nat.le_trans (g5.t0 ga).size g6.size) oU
                clear o6 g6 o5 o5' oD5 oD4 ga g5 t1 t2 hc35 hc5 hc34 hc4
                go_wp2
                go_roundw
                case rel => exact ⟨D.length + 1, q, D ++ [(.slice a5 p.length c5', p)], by omega, by go_num, q6, oU, oD6, by simp, by rw [hS]; simp, hp2, hc6, hc36⟩
                case measure => simp [intOf]; omega
            · obtain rfl : k = m.toNat := by omega
              have sT := ST.side G3 hc hc3 OT
              rw [Nat.sub_self, partsV] at hpv
              have hR2 := hR1.out
              rw [hpv] at hR2
              obtain ⟨ar, cr, rfl⟩ := sr.shape
              clear hpv hR1 ST hDl
              cases rr with
              | nil =>
                simp only [Option.map_some, List.append_nil] at hR2
                subst hR2
                go_wp2_with (refine wpList_str rfl 22 9 _ rfl _ rfl 5 Try.underlying22 Try.underlying5 Try.underlying9 _ T sT rfl ?_)
                go_wp2
                go_ret3
                exact ⟨_, rfl, D, oD, rfl, hc⟩
              | cons y rr =>
                simp only [Option.map_some] at hR2
                subst hR2
                go_wp2
                go_ret3
                exact ⟨_, rfl, [], hno _, rfl, hc⟩
      · rw [cutV_no h1]
        rintro e w2 ⟨v3, v4, rfl, s3, s4, i3, i4, g2⟩
        have hR1 := hR.out
        rw [parseT_two h1] at hR1
        subst hR1
        go_wp2
        go_ret3
        exact ⟨_, rfl, [], hno _, rfl, g1.t0 g2⟩
end Go.Proofs.Ytgepfmofignmfaa
