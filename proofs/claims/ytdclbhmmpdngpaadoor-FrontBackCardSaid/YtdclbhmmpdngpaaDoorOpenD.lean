/-
  How arguments that are slices of structs, slices of slices and the like are opened: what the cells of a type hold, part by part (Dec); the form's reach bounds every slice and string inside.
-/
import Derived.Test.YtdclbhmmpdngpaaDoorOpen
namespace Go.Proofs.YtdclbhmmpdngpaaDoor
set_option linter.unusedSimpArgs false
set_option linter.unusedVariables false
open Go.RowKit Go.ChangeShapes Go.WideShapes Go.Deep

section
variable {H : Type} {enc : TypeId × Value → H} {P : Program} {w : World}

theorem weights_all {e : TypeId} : ∀ {l : List (DataW H)} {d : DataW H}, d ∈ l → ∀ n ∈ d.weights P e, n ∈ DataW.weightsAll P e l
  | d' :: r, d, hd, n, hn => by
    simp only [DataW.weightsAll, List.mem_append]
    rcases List.mem_cons.1 hd with rfl | h
    · exact Or.inl hn
    · exact Or.inr (weights_all h n hn)

/-- All sizes inside lie within the form's reach. -/
def Small (P : Program) (t : TypeId) (d : DataW H) : Prop := ∀ n ∈ d.weights P t, n ≤ reachBytes
theorem small_of {ts : List TypeId} {ds : List (DataW H)} (h : (DataW.weightsEach P ts ds).all (· ≤ reachBytes) = true) {j : Nat} {t : TypeId} {d : DataW H} (ht : ts[j]? = some t) (hd : ds[j]? = some d) : Small P t d :=
  fun n hn => of_decide_eq_true (List.all_eq_true.1 h n (DataW.weights_mem_each ht hd n hn))
theorem Small.slice {t e : TypeId} {el sp : List (DataW H)} (h : Small P t (.slice el sp)) (hu : P.underlying t = some (.slice e)) : el.length * P.bytesOf e ≤ 140737488351232 ∧ ∀ d ∈ el, Small P e d := by
  constructor
  · have h1 := h ((el.length + sp.length) * P.bytesOf e) (by simp [DataW.weights, hu])
    have h2 : el.length * P.bytesOf e ≤ (el.length + sp.length) * P.bytesOf e := Nat.mul_le_mul_right _ (by omega)
    have h3 : reachBytes = 140737488351232 := by decide
    omega
  · intro d hd n hn
    refine h n ?_
    simp only [DataW.weights, hu, List.mem_cons, List.mem_append]
    exact Or.inr (Or.inl (weights_all hd n hn))
theorem small_each {l : List Nat} (h : ∀ n ∈ l, n ≤ reachBytes) {m : List Nat} (hm : ∀ n ∈ m, n ∈ l) : ∀ n ∈ m, n ≤ reachBytes := fun n hn => h n (hm n hn)

/-- What the cells of a type hold: those of some a. -/
def Dec {α : Type} (enc : TypeId × Value → H) (P : Program) (w : World) (t : TypeId) (size : Nat) (f : α → List Value) (ok : α → Prop) : Prop :=
  ∀ cs n y, DataW.trod enc P w 0 (fun _ => true) true n t cs = some y → cs.length = size → Small P t y.1 → ∃ a, cs = f a ∧ ok a

def I64 (n : Int) : Prop := -9223372036854775808 ≤ n ∧ n ≤ 9223372036854775807
theorem dec_int {t : TypeId} (ht : P.underlying t = some (.int .i64)) : Dec enc P w t 1 (fun n : Int => [.int .i64 n]) I64 := by
  intro cs n y h _ _
  obtain ⟨n, rfl, _, hw⟩ := DataW.trod_int ht h
  exact ⟨n, rfl, i64_wf hw⟩
theorem dec_bool {t : TypeId} (ht : P.underlying t = some .bool) : Dec enc P w t 1 (fun b : Bool => [.bool b]) (fun _ => True) := by
  intro cs n y h _ _
  obtain ⟨b, rfl, _⟩ := DataW.trod_bool ht h
  exact ⟨b, rfl, trivial⟩
theorem dec_byte {t : TypeId} (ht : P.underlying t = some (.int .u8)) : Dec enc P w t 1 (fun b : UInt8 => [.int .u8 (b.toNat : Int)]) (fun _ => True) := by
  intro cs n y h _ _
  obtain ⟨n, rfl, _, hw⟩ := DataW.trod_int ht h
  obtain ⟨x, rfl⟩ := u8_wf hw
  exact ⟨x, rfl, trivial⟩
theorem dec_string {t : TypeId} (ht : P.underlying t = some .string) : Dec enc P w t 1 (fun s : List UInt8 => [.string (bstr s)]) (fun s => s.length ≤ 140737488351232) := by
  intro cs n y h _ hs
  obtain ⟨s, rfl, e, _⟩ := DataW.trod_string ht h
  refine ⟨s.data.toList, rfl, ?_⟩
  have h3 : reachBytes = 140737488351232 := by decide
  rw [← h3]
  rw [e] at hs
  exact hs _ (by simp [DataW.weights])

/-- A slice whose elements are told. -/
theorem open_sl0 {α : Type} {t e size bytes fuel : Nat} {f : α → List Value} {ok : α → Prop} (hdec : Dec enc P w e size f ok) (ht : P.underlying t = some (.slice e)) (hc : P.cellsOf e = size) (hb : P.bytesOf e = bytes) (hs0 : 0 < size) {cs : List Value} {y : DataW H × List MemPlace}
    (h : DataW.trod enc P w 0 (fun _ => true) true fuel t cs = some y) (hsm : Small P t y.1) :
    ∃ (v : Value) (l : List α), cs = [v] ∧ Sl w v l.length (l.flatMap f) ∧ (∀ a ∈ l, ok a) ∧ l.length * bytes ≤ 140737488351232 := by
  rcases open_slice ht h with ⟨rfl, rfl⟩ | ⟨a, len, cap, m, n, D, Pl, rfl, hbl, hl, hm, hmm, rfl, hel⟩
  · exact ⟨_, [], rfl, by simpa using Sl.nil w, by simp, by simp⟩
  · simp only [if_true] at hmm
    subst hmm
    obtain ⟨hlen, hsub⟩ := hsm.slice ht
    rw [hb] at hlen
    have each : ∀ i, i < len → ∃ y : α, (w.cells? 0 (a.add (i * P.cellsOf e)) (P.cellsOf e) = some (f y) ∧ ok y) ∧ (f y).length = size := by
      intro i hi
      obtain ⟨cs', h1, h2⟩ := hel i (by omega)
      have hlen := (World.cells?_some h1).2.1
      rw [hc] at hlen
      obtain ⟨y, rfl, hok⟩ := hdec cs' n _ h2 hlen (hsub _ (List.mem_map.2 ⟨i, List.mem_range.2 hi, rfl⟩))
      exact ⟨y, ⟨h1, hok⟩, hlen⟩
    obtain ⟨l, hll, hp⟩ := list_of each
    have hfl : ∀ b ∈ l, (f b).length = size := by
      intro b hb
      obtain ⟨i, hi, rfl⟩ := List.getElem_of_mem hb
      exact (hp i hi).2
    refine ⟨_, l, rfl, ⟨some a, m, by rw [hll], by omega, hm, fun h => (by cases h), fun y hy h0 => ?_, fun h => ?_, fun j u hj => ?_⟩, fun b hb => ?_, by simpa [hll] using hlen⟩
    · cases hy
      obtain ⟨cs', h1, _⟩ := hel 0 h0
      have hcell := (World.cells?_some h1).2.2 0 (by omega)
      have hlen := (World.cells?_some h1).2.1
      have := World.cells?_block h1 (by omega)
      simpa [Addr.add_block] using this
    · have : l = [] := by have : l.length = 0 := by omega
                          simpa using this
      rw [this]; rfl
    · obtain ⟨i, r, hi, rfl, hr, hu⟩ := flat_get f size l hfl j u hj
      refine ⟨a, rfl, ?_⟩
      have h1 := (hp i hi).1.1
      have h2 := (World.cells?_some h1).2.2 r (by omega)
      rw [Addr.add_add, hc] at h2
      rw [h2, hu]
    · obtain ⟨i, hi, rfl⟩ := List.getElem_of_mem hb
      exact (hp i hi).1.2
/-- A cell that is a slice. -/
theorem dec_slice {α : Type} {t e size bytes : Nat} {f : α → List Value} {ok : α → Prop} (hdec : Dec enc P w e size f ok) (ht : P.underlying t = some (.slice e)) (hc : P.cellsOf e = size) (hb : P.bytesOf e = bytes) (hs0 : 0 < size) :
    Dec enc P w t 1 (fun x : Value × List α => [x.1]) (fun x => Sl w x.1 x.2.length (x.2.flatMap f) ∧ (∀ a ∈ x.2, ok a) ∧ x.2.length * bytes ≤ 140737488351232) := by
  intro cs n y h _ hs
  obtain ⟨v, l, rfl, h1, h2, h3⟩ := open_sl0 hdec ht hc hb hs0 h hs
  exact ⟨(v, l), rfl, h1, h2, h3⟩
/-- An argument that is a slice. -/
theorem open_sl {α : Type} {t e size bytes base : Nat} {f : α → List Value} {ok : α → Prop} (hdec : Dec enc P w e size f ok) (ht : P.underlying t = some (.slice e)) (hc : P.cellsOf e = size) (hb : P.bytesOf e = bytes) (hs0 : 0 < size) {v : Value} {d : DataW H} {ps : List MemPlace}
    (hv : Value.okWide P w .any base t v) (h : DataW.Trod enc P w 0 (fun _ => true) true t v d ps) (hsm : Small P t d) : ∃ l : List α, Sl w v l.length (l.flatMap f) ∧ (∀ a ∈ l, ok a) ∧ l.length * bytes ≤ 140737488351232 := by
  obtain ⟨y, cy, e1⟩ := okWide_slice ht hv
  obtain ⟨fuel, hf⟩ := h
  obtain ⟨u, l, eu, h1, h2, h3⟩ := open_sl0 hdec ht hc hb hs0 hf hsm
  obtain rfl : u = v := by
    obtain ⟨cc, ee⟩ := e1
    rw [ee] at eu ⊢
    simpa [Value.cells] using eu.symm
  exact ⟨l, h1, h2, h3⟩

theorem dec_struct2 {α β : Type} {t : TypeId} {f0 f1 : Field} {s0 s1 : Nat} {g0 : α → List Value} {g1 : β → List Value} {k0 : α → Prop} {k1 : β → Prop} (ht : P.underlying t = some (.struct #[f0, f1]))
    (d0 : Dec enc P w f0.type s0 g0 k0) (d1 : Dec enc P w f1.type s1 g1 k1) (hs : (P.cellsOf f0.type, P.cellsOf f1.type, f0.offset, f1.offset) = (s0, s1, 0, s0)) : Dec enc P w t (s0 + s1) (fun x : α × β => g0 x.1 ++ g1 x.2) (fun x => k0 x.1 ∧ k1 x.2) := by
  simp only [Prod.mk.injEq] at hs
  obtain ⟨c0, c1, o0, o1⟩ := hs
  intro cs n y h hl hsm
  obtain ⟨y0, y1, m, rfl, _, h0, h1⟩ := trod_struct2 ht h
  rw [c0, o0, List.drop_zero] at h0
  rw [c1, o1] at h1
  have hw : ∀ n ∈ DataW.weightsEach P [f0.type, f1.type] [y0.1, y1.1], n ≤ reachBytes := by simpa [Small, DataW.weights, ht] using hsm
  obtain ⟨a, e0, ok0⟩ := d0 _ _ _ h0 (by simp; omega) (fun n hn => hw n (by simp [DataW.weightsEach, hn]))
  obtain ⟨b, e1, ok1⟩ := d1 _ _ _ h1 (by simp; omega) (fun n hn => hw n (by simp [DataW.weightsEach, hn]))
  refine ⟨(a, b), ?_, ok0, ok1⟩
  dsimp only
  rw [← e0, ← e1, List.take_of_length_le (l := cs.drop s0) (by simp; omega), List.take_append_drop]
theorem dec_struct3 {α β γ : Type} {t : TypeId} {f0 f1 f2 : Field} {s0 s1 s2 : Nat} {g0 : α → List Value} {g1 : β → List Value} {g2 : γ → List Value} {k0 : α → Prop} {k1 : β → Prop} {k2 : γ → Prop} (ht : P.underlying t = some (.struct #[f0, f1, f2]))
    (d0 : Dec enc P w f0.type s0 g0 k0) (d1 : Dec enc P w f1.type s1 g1 k1) (d2 : Dec enc P w f2.type s2 g2 k2) (hs : (P.cellsOf f0.type, P.cellsOf f1.type, P.cellsOf f2.type, f0.offset, f1.offset, f2.offset) = (s0, s1, s2, 0, s0, s0 + s1)) :
    Dec enc P w t (s0 + s1 + s2) (fun x : α × β × γ => g0 x.1 ++ (g1 x.2.1 ++ g2 x.2.2)) (fun x => k0 x.1 ∧ k1 x.2.1 ∧ k2 x.2.2) := by
  simp only [Prod.mk.injEq] at hs
  obtain ⟨c0, c1, c2, o0, o1, o2⟩ := hs
  intro cs n y h hl hsm
  obtain ⟨y0, y1, y2, m, rfl, _, h0, h1, h2⟩ := trod_struct3 ht h
  rw [c0, o0, List.drop_zero] at h0
  rw [c1, o1] at h1
  rw [c2, o2] at h2
  have hw : ∀ n ∈ DataW.weightsEach P [f0.type, f1.type, f2.type] [y0.1, y1.1, y2.1], n ≤ reachBytes := by simpa [Small, DataW.weights, ht] using hsm
  obtain ⟨a, e0, ok0⟩ := d0 _ _ _ h0 (by simp; omega) (fun n hn => hw n (by simp [DataW.weightsEach, hn]))
  obtain ⟨b, e1, ok1⟩ := d1 _ _ _ h1 (by simp; omega) (fun n hn => hw n (by simp [DataW.weightsEach, hn]))
  obtain ⟨c, e2, ok2⟩ := d2 _ _ _ h2 (by simp; omega) (fun n hn => hw n (by simp [DataW.weightsEach, hn]))
  refine ⟨(a, b, c), ?_, ok0, ok1, ok2⟩
  dsimp only
  rw [← e0, ← e1, ← e2]
  rw [List.take_of_length_le (l := cs.drop (s0 + s1)) (by simp; omega)]
  rw [← List.drop_drop, List.take_append_drop, List.take_append_drop]
theorem Dec.mapD {α β : Type} {t : TypeId} {s : Nat} {g : α → List Value} {k : α → Prop} (d : Dec enc P w t s g k) {g' : β → List Value} {k' : β → Prop} (h : ∀ a, k a → ∃ b, g a = g' b ∧ k' b) : Dec enc P w t s g' k' := by
  intro cs n y h1 h2 h3
  obtain ⟨a, rfl, ha⟩ := d cs n y h1 h2 h3
  obtain ⟨b, e, hb⟩ := h a ha
  exact ⟨b, e, hb⟩
/-- An argument that is a struct, by value. -/
theorem open_st {α : Type} {t size base : Nat} {fs : Array Field} {f : α → List Value} {ok : α → Prop} (hdec : Dec enc P w t size f ok) (ht : P.underlying t = some (.struct fs)) (hc : P.cellsOf t = size) {v : Value} {d : DataW H} {ps : List MemPlace}
    (hv : Value.okWide P w .any base t v) (h : DataW.Trod enc P w 0 (fun _ => true) true t v d ps) (hsm : Small P t d) : ∃ a : α, v = .agg (f a).toArray ∧ ok a := by
  obtain ⟨fuel, hf⟩ := h
  simp only [Value.okWide, ht] at hv
  obtain ⟨cs, rfl, hsz, _⟩ := hv
  obtain ⟨a, e, hok⟩ := hdec _ _ _ hf (by simp [Value.cells, hsz, hc]) hsm
  refine ⟨a, ?_, hok⟩
  rw [← e]
  simp [Value.cells]
end
end Go.Proofs.YtdclbhmmpdngpaaDoor
