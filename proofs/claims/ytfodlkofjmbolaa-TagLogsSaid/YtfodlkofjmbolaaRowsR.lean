/-
  Rows of tags and parts: what is logged of them.
-/
import Derived.Test.YtfodlkofjmbolaaOpenB
import Derived.Test.YtfodlkofjmbolaaTagFrames
namespace Go.Proofs.Ytfodlkofjmbolaa
set_option linter.unusedSimpArgs false
set_option linter.unusedVariables false
open Go.RowKit

def partsR (r : RowR) : List Bytes := r.2.2.map (·.2)
def logsB (L : List RowR) : List Bytes := L.flatMap fun r => logB r.1 (partsR r)
theorem logsB_take (L : List RowR) (k : Nat) (h : k < L.length) : logsB (L.take (k + 1)) = logsB (L.take k) ++ logB L[k].1 (partsR L[k]) := by
  unfold logsB
  rw [List.take_succ_eq_append_getElem h, List.flatMap_append]
  simp only [List.flatMap_cons, List.flatMap_nil, List.append_nil]
theorem logB_len (s : Bytes) (ps : List Bytes) : (logB s ps).length ≤ 1 := by
  unfold logB; split <;> simp
theorem logsB_len : ∀ L : List RowR, (logsB L).length ≤ L.length
  | [] => by simp [logsB]
  | r :: L => by
    have := logsB_len L
    have := logB_len r.1 (partsR r)
    simp only [logsB, List.flatMap_cons, List.length_append, List.length_cons] at *
    omega
theorem row_cells {w : World} {v : Value} {L : List RowR} (h : Sl w v L.length (L.flatMap rowc)) (k : Nat) (hk : k < L.length) :
    ∃ b off c, v = .slice (some ⟨b, off, none⟩) L.length c ∧ b < w.heap.size ∧ w.cell? ⟨b, off + k * 2, none⟩ = some (.string (bstr L[k].1)) ∧ w.cell? ⟨b, off + k * 2 + 1, none⟩ = some L[k].2.1 := by
  have hf : ∀ a ∈ L, (rowc a).length = 2 := fun _ _ => rfl
  obtain ⟨b, off, c, rfl, _, _, hb, hc⟩ := h.at (by rw [flat_length rowc 2 L hf]; omega)
  refine ⟨b, off, c, rfl, hb, hc (k * 2) _ ?_, hc (k * 2 + 1) _ ?_⟩
  · rw [show k * 2 = k * 2 + 0 by omega, flat_at rowc 2 L hf k 0 hk (by decide)]; rfl
  · rw [flat_at rowc 2 L hf k 1 hk (by decide)]; rfl
/-- A log, while another one is written. -/
theorem LogAt.other {w w' : World} {p q bp bq : Nat} {v u : Value} {F G : RowsB} (h : LogAt w p bp v F) (k : LogAt w q bq u G) (hpq : p ≠ q) (hu : ∀ j, u.ownBlock = some j → v.ownBlock ≠ some j ∧ ∀ x ∈ F, x.1.ownBlock ≠ some j) (g : Chg (q :: u.ownBlock.toList) w w') : LogAt w' p bp v F := by
  have hq := k.cell
  refine ⟨g.heap h.cell ?_, ?_, fun x hx => ?_⟩
  · simp only [List.mem_cons, Option.mem_toList, Option.mem_def, not_or]
    exact ⟨hpq, ownB_not k.rows.1 h.cell (by decide)⟩
  · refine ownB_trD h.rows.1 g fun j hj => ?_
    rcases List.mem_cons.1 hj with rfl | hj
    · exact ownB_not h.rows.1 hq (by decide)
    · exact (hu j (by simpa using hj)).1
  · refine ownB_trD (h.rows.2 x hx) g fun j hj => ?_
    rcases List.mem_cons.1 hj with rfl | hj
    · exact ownB_not (h.rows.2 x hx) hq (by decide)
    · exact (hu j (by simpa using hj)).2 x hx
/-- How long frames are that were logged. -/
def ShortB (L : List Bytes) : Prop := ∀ f ∈ L, f.length ≤ 10000
theorem ShortB.add {L : List Bytes} {s : Bytes} {ps : List Bytes} (h : ShortB L) (hs : sumL ps ≤ 1500) : ShortB (L ++ logB s ps) := by
  intro f hf
  rcases List.mem_append.1 hf with hf | hf
  · exact h f hf
  · unfold logB at hf
    split at hf
    · rename_i hok
      rw [List.mem_singleton.1 hf, frame_len, flatB_len]
      simp only [frameOk, Bool.and_eq_true, decide_eq_true_eq] at hok
      omega
    · cases hf
theorem ShortB.rows {F : RowsB} (h : ShortB (F.map (·.2))) : ∀ x ∈ F, x.2.length ≤ 2147483647 := fun x hx => Nat.le_trans (h x.2 (List.mem_map.2 ⟨x, hx, rfl⟩)) (by decide)
end Go.Proofs.Ytfodlkofjmbolaa
