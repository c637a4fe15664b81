/-
  How an argument that came in is opened: from what the form reads to what the walks ask (Sl).
-/
import Derived.Test.YtdclbhmmpdngpaaDoorBase
import Derived.ProofKit
import Derived.OpenShut
import Derived.ShutString
import Derived.ChangeOld
import Derived.SizedLaws
import Derived.Deep.Slices
import Derived.Deep.Strs
namespace Go.Proofs.YtdclbhmmpdngpaaDoor
set_option linter.unusedSimpArgs false
set_option linter.unusedVariables false
open Go.RowKit Go.ChangeShapes Go.WideShapes Go.Deep

theorem flat_get {α : Type} (f : α → List Value) (size : Nat) : ∀ (l : List α), (∀ a ∈ l, (f a).length = size) → ∀ (j : Nat) (u : Value), (l.flatMap f)[j]? = some u →
    ∃ (i r : Nat) (h : i < l.length), j = i * size + r ∧ r < size ∧ (f l[i])[r]? = some u
  | [], _, j, u, h => by simp at h
  | a :: l, hl, j, u, h => by
    have ha := hl a (by simp)
    rw [List.flatMap_cons] at h
    by_cases hj : j < size
    · rw [List.getElem?_append_left (by omega)] at h
      exact ⟨0, j, by simp, by simp, hj, by simpa using h⟩
    · rw [List.getElem?_append_right (by omega), ha] at h
      obtain ⟨i, r, hi, e, hr, hu⟩ := flat_get f size l (fun b hb => hl b (by simp [hb])) _ u h
      exact ⟨i + 1, r, by simpa using hi, by rw [Nat.add_mul]; omega, hr, by simpa using hu⟩
theorem flat_length {α : Type} (f : α → List Value) (size : Nat) : ∀ (l : List α), (∀ a ∈ l, (f a).length = size) → (l.flatMap f).length = l.length * size
  | [], _ => by simp
  | a :: l, h => by
    rw [List.flatMap_cons, List.length_append, h a (by simp), flat_length f size l (fun b hb => h b (by simp [hb])), List.length_cons, Nat.add_mul]; omega
theorem flat_at {α : Type} (f : α → List Value) (size : Nat) : ∀ (l : List α), (∀ a ∈ l, (f a).length = size) → ∀ (i r : Nat) (h : i < l.length), r < size → (l.flatMap f)[i * size + r]? = (f l[i])[r]?
  | [], _, i, r, h, _ => by simp at h
  | a :: l, hl, i, r, h, hr => by
    have ha := hl a (by simp)
    rw [List.flatMap_cons]
    cases i with
    | zero => rw [List.getElem?_append_left (by omega)]; simp
    | succ i =>
      rw [List.getElem?_append_right (by rw [ha, Nat.add_mul]; omega), ha]
      have e : (i + 1) * size + r - size = i * size + r := by rw [Nat.add_mul]; omega
      rw [e, flat_at f size l (fun b hb => hl b (by simp [hb])) i r (by simpa using h) hr]
      simp

theorem list_of {α : Type} {p : Nat → α → Prop} : ∀ {n : Nat}, (∀ i, i < n → ∃ a, p i a) → ∃ l : List α, l.length = n ∧ ∀ i (h : i < l.length), p i l[i]
  | 0, _ => ⟨[], rfl, fun i h => absurd h (by simp)⟩
  | n + 1, h => by
    obtain ⟨l, hl, hp⟩ := list_of (n := n) (p := p) (fun i hi => h i (by omega))
    obtain ⟨a, ha⟩ := h n (by omega)
    refine ⟨l ++ [a], by simp [hl], fun i hi => ?_⟩
    by_cases hin : i < l.length
    · rw [List.getElem_append_left hin]; exact hp i hin
    · have : i = n := by simp at hi; omega
      subst this
      rw [List.getElem_append_right (by omega)]
      simpa using ha

section
variable {H : Type} {enc : TypeId × Value → H} {P : Program} {w : World}

/-- A slice whatever its elements: 'dec' says what the cells of one are. -/
theorem open_cells {t e fuel : Nat} {cs : List Value} {x : DataW H × List MemPlace} {α : Type} (f : α → List Value) (ok : α → Prop) (size : Nat) (hs0 : 0 < size) (ht : P.underlying t = some (.slice e)) (hc : P.cellsOf e = size)
    (dec : ∀ cs n y, DataW.trod enc P w 0 (fun _ => true) true n e cs = some y → cs.length = size → ∃ a, cs = f a ∧ ok a)
    (h : DataW.trod enc P w 0 (fun _ => true) true fuel t cs = some x) :
    ∃ (v : Value) (l : List α), cs = [v] ∧ Sl w v l.length (l.flatMap f) ∧ (∀ a ∈ l, ok a) ∧ (∀ a ∈ l, (f a).length = size) ∧ (x.1 = .nil ∧ l = [] ∨ ∃ el sp, x.1 = .slice el sp ∧ el.length = l.length) := by
  rcases open_slice ht h with ⟨rfl, rfl⟩ | ⟨a, len, cap, m, n, D, Pl, rfl, hb, hl, hm, hmm, rfl, hel⟩
  · exact ⟨_, [], rfl, by simpa using Sl.nil w, by simp, by simp, .inl ⟨rfl, rfl⟩⟩
  · simp only [if_true] at hmm
    subst hmm
    have each : ∀ i, i < len → ∃ y : α, (w.cells? 0 (a.add (i * P.cellsOf e)) (P.cellsOf e) = some (f y) ∧ ok y) ∧ (f y).length = size := by
      intro i hi
      obtain ⟨cs', h1, h2⟩ := hel i (by omega)
      have hlen := (World.cells?_some h1).2.1
      rw [hc] at hlen
      obtain ⟨y, rfl, hok⟩ := dec cs' n _ h2 hlen
      exact ⟨y, ⟨h1, hok⟩, hlen⟩
    obtain ⟨l, hll, hp⟩ := list_of each
    have hfl : ∀ b ∈ l, (f b).length = size := by
      intro b hb
      obtain ⟨i, hi, rfl⟩ := List.getElem_of_mem hb
      exact (hp i hi).2
    refine ⟨_, l, rfl, ⟨some a, m, by rw [hll], by omega, hm, fun h => (by cases h), fun y hy h0 => ?_, fun h => ?_, fun j u hj => ?_⟩, fun b hb => ?_, hfl, .inr ⟨_, _, rfl, by simp [hll]⟩⟩
    · cases hy
      obtain ⟨cs', h1, _⟩ := hel 0 h0
      have hcell := (World.cells?_some h1).2.2 0 (by omega)
      have hlen := (World.cells?_some h1).2.1
      have := World.cells?_block h1 (by omega)
      simpa [Addr.add_block] using this
    · have : l = [] := by have : l.length = 0 := by omega
                          simpa using this
      rw [this]; rfl
    · obtain ⟨i, r, hi, rfl, hr, hu⟩ := flat_get f size l hfl j u hj
      refine ⟨a, rfl, ?_⟩
      have h1 := (hp i hi).1.1
      have h2 := (World.cells?_some h1).2.2 r (by omega)
      rw [Addr.add_add, hc] at h2
      rw [h2, hu]
    · obtain ⟨i, hi, rfl⟩ := List.getElem_of_mem hb
      exact (hp i hi).1.2

theorem flatMap_single {α : Type} (f : α → Value) (l : List α) : l.flatMap (fun a => [f a]) = l.map f := by
  induction l with
  | nil => rfl
  | cons a l ih => simp [ih]

theorem u8_wf {n : Int} (h : (Lit.int .u8 n).wf = true) : ∃ x : UInt8, n = x.toNat := by
  have := bounds_u8 h
  exact ⟨UInt8.ofNat n.toNat, by simp; omega⟩
theorem u32_wf {n : Int} (h : (Lit.int .u32 n).wf = true) : ∃ x : Nat, n = x ∧ x < 2 ^ 32 := by
  have := bounds_u32 h
  exact ⟨n.toNat, by omega, by omega⟩
theorem u64_wf {n : Int} (h : (Lit.int .u64 n).wf = true) : ∃ x : Nat, n = x ∧ x < 2 ^ 64 := by
  have := bounds_u64 h
  exact ⟨n.toNat, by omega, by omega⟩
theorem i64_wf {n : Int} (h : (Lit.int .i64 n).wf = true) : -9223372036854775808 ≤ n ∧ n ≤ 9223372036854775807 := by
  have := bounds_i64 h; omega

theorem open_bytes {t e fuel : Nat} {cs : List Value} {x : DataW H × List MemPlace} (ht : P.underlying t = some (.slice e)) (he : P.underlying e = some (.int .u8)) (hc : P.cellsOf e = 1) (h : DataW.trod enc P w 0 (fun _ => true) true fuel t cs = some x) :
    ∃ (v : Value) (l : List UInt8), cs = [v] ∧ Sl w v l.length (bcs l) ∧ (x.1 = .nil ∧ l = [] ∨ ∃ el sp, x.1 = .slice el sp ∧ el.length = l.length) := by
  obtain ⟨v, l, h1, h2, _, _, h3⟩ := open_cells (α := UInt8) (fun x => [.int .u8 (x.toNat : Int)]) (fun _ => True) 1 (by decide) ht hc (fun cs n y hy _ => by
    obtain ⟨n, rfl, _, hw⟩ := DataW.trod_int he hy
    obtain ⟨x, rfl⟩ := u8_wf hw
    exact ⟨x, rfl, trivial⟩) h
  exact ⟨v, l, h1, by rw [flatMap_single] at h2; exact h2, h3⟩
theorem open_u64s {t e fuel : Nat} {cs : List Value} {x : DataW H × List MemPlace} (ht : P.underlying t = some (.slice e)) (he : P.underlying e = some (.int .u64)) (hc : P.cellsOf e = 1) (h : DataW.trod enc P w 0 (fun _ => true) true fuel t cs = some x) :
    ∃ (v : Value) (l : List Nat), cs = [v] ∧ Sl w v l.length (ncs .u64 l) ∧ (∀ n ∈ l, n < 2 ^ 64) ∧ (x.1 = .nil ∧ l = [] ∨ ∃ el sp, x.1 = .slice el sp ∧ el.length = l.length) := by
  obtain ⟨v, l, h1, h2, h4, _, h3⟩ := open_cells (α := Nat) (fun x => [.int .u64 (x : Int)]) (fun n => n < 2 ^ 64) 1 (by decide) ht hc (fun cs n y hy _ => by
    obtain ⟨n, rfl, _, hw⟩ := DataW.trod_int he hy
    obtain ⟨x, rfl, hx⟩ := u64_wf hw
    exact ⟨x, rfl, hx⟩) h
  exact ⟨v, l, h1, by rw [flatMap_single] at h2; exact h2, h4, h3⟩
theorem open_ints64 {t e fuel : Nat} {cs : List Value} {x : DataW H × List MemPlace} (ht : P.underlying t = some (.slice e)) (he : P.underlying e = some (.int .i64)) (hc : P.cellsOf e = 1) (h : DataW.trod enc P w 0 (fun _ => true) true fuel t cs = some x) :
    ∃ (v : Value) (l : List Int), cs = [v] ∧ Sl w v l.length (ics .i64 l) ∧ (∀ n ∈ l, -9223372036854775808 ≤ n ∧ n ≤ 9223372036854775807) ∧ (x.1 = .nil ∧ l = [] ∨ ∃ el sp, x.1 = .slice el sp ∧ el.length = l.length) := by
  obtain ⟨v, l, h1, h2, h4, _, h3⟩ := open_cells (α := Int) (fun x => [.int .i64 x]) (fun n => -9223372036854775808 ≤ n ∧ n ≤ 9223372036854775807) 1 (by decide) ht hc (fun cs n y hy _ => by
    obtain ⟨n, rfl, _, hw⟩ := DataW.trod_int he hy
    exact ⟨n, rfl, i64_wf hw⟩) h
  exact ⟨v, l, h1, by rw [flatMap_single] at h2; exact h2, h4, h3⟩

/-- An array of bytes, by value. -/
theorem open_byteArr {t e n base : Nat} {v : Value} {d : DataW H} {ps : List MemPlace} (ht : P.underlying t = some (.array n e)) (he : P.underlying e = some (.int .u8)) (hc : P.cellsOf e = 1) (hct : P.cellsOf t = n) (hv : Value.okWide P w .any base t v) (h : DataW.Trod enc P w 0 (fun _ => true) true t v d ps) :
    ∃ b : List UInt8, b.length = n ∧ v = .agg (bcs b).toArray := by
  obtain ⟨fuel, hf⟩ := h
  simp only [Value.okWide, ht] at hv
  obtain ⟨cs, rfl, hsz, _⟩ := hv
  obtain ⟨xs, m, _, _, hl, hxl, hel⟩ := DataW.trod_array ht hf
  simp only [Value.cells, hct] at hl hsz hel
  have each : ∀ i, i < n → ∃ x : UInt8, cs.toList[i]? = some (.int .u8 (x.toNat : Int)) := by
    intro i hi
    have h1 := hel i hi
    rw [hc, Nat.mul_one] at h1
    have hx : xs[i]? = some xs[i] := List.getElem?_eq_getElem (by omega)
    rw [hx] at h1
    obtain ⟨z, hz, _, hw⟩ := DataW.trod_int he h1
    obtain ⟨x, rfl⟩ := u8_wf hw
    refine ⟨x, ?_⟩
    have h2 := congrArg (fun l => l[0]?) hz
    simp only [List.getElem?_take, List.getElem?_drop] at h2
    simpa using h2
  obtain ⟨b, hb, hp⟩ := list_of each
  refine ⟨b, hb, ?_⟩
  congr 1
  apply Array.ext'
  apply List.ext_getElem?
  intro i
  by_cases hi : i < n
  · rw [hp i (by omega), bcs_get b i (by omega)]
  · rw [List.getElem?_eq_none (by rw [hl]; omega), List.getElem?_eq_none (by simp [bcs]; omega)]

/-- What the form's reach says of a slice's length. -/
theorem sized_le {ts : List TypeId} {ds : List (DataW H)} (hsz : (DataW.weightsEach P ts ds).all (· ≤ reachBytes) = true) {j t e : Nat} {x : DataW H × List MemPlace} {n b : Nat} (ht : ts[j]? = some t) (hd : ds[j]? = some x.1) (hu : P.underlying t = some (.slice e)) (hb : P.bytesOf e = b)
    (h : x.1 = .nil ∧ n = 0 ∨ ∃ el sp, x.1 = .slice el sp ∧ el.length = n) : n * b ≤ 140737488351232 := by
  rcases h with ⟨_, rfl⟩ | ⟨el, sp, e1, rfl⟩
  · omega
  · rw [e1] at hd
    have h1 := sized_slice hsz ht hd hu
    rw [hb] at h1
    have h2 : el.length * b ≤ (el.length + sp.length) * b := Nat.mul_le_mul_right _ (by omega)
    have h3 : reachBytes = 140737488351232 := by decide
    omega
end

end Go.Proofs.YtdclbhmmpdngpaaDoor
