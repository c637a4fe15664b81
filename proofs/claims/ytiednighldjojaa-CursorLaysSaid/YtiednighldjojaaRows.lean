/-
  No cell of these rows narrows 'for every input' (looked for: loops, veiled, ifaces, maps, wideKeys, modest, calm, conditions, laid).
  DERIVED. THE GIVEN ROWS OF THIS SEAT. 6 by the template 'for every input the law returns true; each argument reads behind the call as it read before'; 0 by the template 'total and deterministic' (their statements: YtiednighldjojaaTotals.lean).
  GIVEN WITH THE SEED: the statements are not yours to turn. If you find one false, say at which input.
  Laid BY PROGRAM, IN A SANDBOX (cutbox-rows.mjs): the forced cells as the released guide's own fill.sh prints them over the translation fad0e6c6bccbbe19… (all of the seat's roots in one cut). By AI agents, Wed Nov 11 2026. No macro, syntax, notation, axiom, sorry.
-/
import Derived.Test.YtiednighldjojaaChecked
import GoSem.Claim
import GoSem.ClaimJoined
import GoSem.ClaimMapViews
import Derived.JoinedTies
import Derived.KernelRfl
namespace Go.Proofs.Ytiednighldjojaa
/- THE CELL 'sum', in the pinned program and in every row, IS THE sha256 OF THE DUMP (.gsa) THAT YtiednighldjojaaProg.lean LOADS. Nothing in Lean hashes anything: it is a label: what it is worth is what the hold of that sum in a sandbox is worth. -/
noncomputable def Try.pinned : Pinned := { name := "ytiednighldjojaa", sum := "fad0e6c6bccbbe198bf34b4e19114a4fd3809531cd2f248987c52ec647795664", checked := Try.checked }
namespace Rows
def none {H : Type} : Left H := { results := [], args := [] }

/-- 'hypostylelaw03.CursorReads': WHATEVER THE INPUT: true; the input reads as it did. -/
def cursorReadsSpec : ChangeSpec := { name := "cursorReads", fn := fun _ => fun
  | [d1, d2] => { results := [.lit (.bool true)], args := [d1, d2] }
  | _ => none }
def cursorReadsRow : OpenClaim := { program := "ytiednighldjojaa", sum := "fad0e6c6bccbbe198bf34b4e19114a4fd3809531cd2f248987c52ec647795664", func := "hypostyle/hypostylelaw03.CursorReads", spec := "cursorReads", apart := false }
def CursorReadsSaid : Prop := cursorReadsRow.holds Try.pinned (OpenSpec.ofChange cursorReadsSpec)

/-- ITS FALSE NEIGHBOUR: 'it returns false'. Refute it at one input. -/
def cursorReadsWrong : ChangeSpec := { name := "cursorReads", fn := fun _ => fun
  | [d1, d2] => { results := [.lit (.bool false)], args := [d1, d2] }
  | _ => none }
def CursorReadsWrongFalsely : Prop := cursorReadsRow.holds Try.pinned (OpenSpec.ofChange cursorReadsWrong)

/-- 'hypostylelaw03.CursorLays': WHATEVER THE INPUT: true; the input reads as it did. -/
def cursorLaysSpec : ChangeSpec := { name := "cursorLays", fn := fun _ => fun
  | [d1, d2, d3] => { results := [.lit (.bool true)], args := [d1, d2, d3] }
  | _ => none }
def cursorLaysRow : OpenClaim := { program := "ytiednighldjojaa", sum := "fad0e6c6bccbbe198bf34b4e19114a4fd3809531cd2f248987c52ec647795664", func := "hypostyle/hypostylelaw03.CursorLays", spec := "cursorLays", apart := false }
def CursorLaysSaid : Prop := cursorLaysRow.holds Try.pinned (OpenSpec.ofChange cursorLaysSpec)

/-- ITS FALSE NEIGHBOUR: 'it returns false'. Refute it at one input. -/
def cursorLaysWrong : ChangeSpec := { name := "cursorLays", fn := fun _ => fun
  | [d1, d2, d3] => { results := [.lit (.bool false)], args := [d1, d2, d3] }
  | _ => none }
def CursorLaysWrongFalsely : Prop := cursorLaysRow.holds Try.pinned (OpenSpec.ofChange cursorLaysWrong)

/-- 'hypostylelaw03.CursorBack': WHATEVER THE INPUT: true; the input reads as it did. -/
def cursorBackSpec : ChangeSpec := { name := "cursorBack", fn := fun _ => fun
  | [d1, d2, d3] => { results := [.lit (.bool true)], args := [d1, d2, d3] }
  | _ => none }
def cursorBackRow : OpenClaim := { program := "ytiednighldjojaa", sum := "fad0e6c6bccbbe198bf34b4e19114a4fd3809531cd2f248987c52ec647795664", func := "hypostyle/hypostylelaw03.CursorBack", spec := "cursorBack", apart := false }
def CursorBackSaid : Prop := cursorBackRow.holds Try.pinned (OpenSpec.ofChange cursorBackSpec)

/-- ITS FALSE NEIGHBOUR: 'it returns false'. Refute it at one input. -/
def cursorBackWrong : ChangeSpec := { name := "cursorBack", fn := fun _ => fun
  | [d1, d2, d3] => { results := [.lit (.bool false)], args := [d1, d2, d3] }
  | _ => none }
def CursorBackWrongFalsely : Prop := cursorBackRow.holds Try.pinned (OpenSpec.ofChange cursorBackWrong)

/-- 'hypostylelaw03.CursorBad': WHATEVER THE INPUT: true; the input reads as it did. -/
def cursorBadSpec : ChangeSpec := { name := "cursorBad", fn := fun _ => fun
  | [d1, d2] => { results := [.lit (.bool true)], args := [d1, d2] }
  | _ => none }
def cursorBadRow : OpenClaim := { program := "ytiednighldjojaa", sum := "fad0e6c6bccbbe198bf34b4e19114a4fd3809531cd2f248987c52ec647795664", func := "hypostyle/hypostylelaw03.CursorBad", spec := "cursorBad", apart := false }
def CursorBadSaid : Prop := cursorBadRow.holds Try.pinned (OpenSpec.ofChange cursorBadSpec)

/-- ITS FALSE NEIGHBOUR: 'it returns false'. Refute it at one input. -/
def cursorBadWrong : ChangeSpec := { name := "cursorBad", fn := fun _ => fun
  | [d1, d2] => { results := [.lit (.bool false)], args := [d1, d2] }
  | _ => none }
def CursorBadWrongFalsely : Prop := cursorBadRow.holds Try.pinned (OpenSpec.ofChange cursorBadWrong)

/-- 'hypostylelaw03.CursorParts': WHATEVER THE INPUT: true; the input reads as it did. -/
def cursorPartsSpec : ChangeSpec := { name := "cursorParts", fn := fun _ => fun
  | [d] => { results := [.lit (.bool true)], args := [d] }
  | _ => none }
def cursorPartsRow : OpenClaim := { program := "ytiednighldjojaa", sum := "fad0e6c6bccbbe198bf34b4e19114a4fd3809531cd2f248987c52ec647795664", func := "hypostyle/hypostylelaw03.CursorParts", spec := "cursorParts", apart := false }
def CursorPartsSaid : Prop := cursorPartsRow.holds Try.pinned (OpenSpec.ofChange cursorPartsSpec)

/-- ITS FALSE NEIGHBOUR: 'it returns false'. Refute it at one input. -/
def cursorPartsWrong : ChangeSpec := { name := "cursorParts", fn := fun _ => fun
  | [d] => { results := [.lit (.bool false)], args := [d] }
  | _ => none }
def CursorPartsWrongFalsely : Prop := cursorPartsRow.holds Try.pinned (OpenSpec.ofChange cursorPartsWrong)

/-- 'hypostylelaw03.CursorTakes': WHATEVER THE INPUT: true; the input reads as it did. -/
def cursorTakesSpec : ChangeSpec := { name := "cursorTakes", fn := fun _ => fun
  | [d1, d2] => { results := [.lit (.bool true)], args := [d1, d2] }
  | _ => none }
def cursorTakesRow : OpenClaim := { program := "ytiednighldjojaa", sum := "fad0e6c6bccbbe198bf34b4e19114a4fd3809531cd2f248987c52ec647795664", func := "hypostyle/hypostylelaw03.CursorTakes", spec := "cursorTakes", apart := false }
def CursorTakesSaid : Prop := cursorTakesRow.holds Try.pinned (OpenSpec.ofChange cursorTakesSpec)

/-- ITS FALSE NEIGHBOUR: 'it returns false'. Refute it at one input. -/
def cursorTakesWrong : ChangeSpec := { name := "cursorTakes", fn := fun _ => fun
  | [d1, d2] => { results := [.lit (.bool false)], args := [d1, d2] }
  | _ => none }
def CursorTakesWrongFalsely : Prop := cursorTakesRow.holds Try.pinned (OpenSpec.ofChange cursorTakesWrong)

/- THE SECOND FORM. 'bulk': how many values and letters a reading holds, each counted each time it is reached (what is shared counts as often as it is met; a slice's spare places count too). A statement '..UptoSaid' is the law's where the arguments, and the package variables that the reading takes, are together of bulk at most 1048576: NARROWER than '..Said'. Prove '..Said' where nothing that the law and all that it calls make is longer than what came in: it says more and counts as full. Else prove '..UptoSaid'. A law counts once. -/
mutual
def uptoBulk {H : Type} : DataW H → Nat
  | .lit (.string bytes) => bytes.length + 1
  | .lit _ => 1
  | .nil => 1
  | .ptr d => uptoBulk d + 1
  | .slice elems spare => uptoBulkAll elems + uptoBulkAll spare + 1
  | .agg parts => uptoBulkAll parts + 1
  | .iface _ d => uptoBulk d + 1
  | .map entries => uptoBulkEntries entries + 1
  | .held _ => 1
def uptoBulkAll {H : Type} : List (DataW H) → Nat
  | [] => 0
  | d :: r => uptoBulk d + uptoBulkAll r
def uptoBulkEntries {H : Type} : List (Lit × DataW H) → Nat
  | [] => 0
  | x :: r => uptoBulkEntry x + uptoBulkEntries r
def uptoBulkEntry {H : Type} : Lit × DataW H → Nat
  | (.string bytes, d) => bytes.length + uptoBulk d + 1
  | (_, d) => uptoBulk d + 1
 end
def uptoSmall : (H : Type) → List (DataW H) → Bool := fun _ ds => decide (uptoBulkAll ds ≤ 1048576)
def OpenSpec.upto (s : _root_.Go.ChangeSpec) : _root_.Go.OpenSpec := { _root_.Go.OpenSpec.ofChange s with cond := some uptoSmall }

/-- 'hypostylelaw03.CursorReads', WHERE WHAT IT READS IS OF BULK AT MOST 1048576: true; the input reads as it did. -/
def cursorReadsUptoRow : OpenClaim := { program := "ytiednighldjojaa", sum := "fad0e6c6bccbbe198bf34b4e19114a4fd3809531cd2f248987c52ec647795664", func := "hypostyle/hypostylelaw03.CursorReads", spec := "cursorReads", apart := false, narrowed := true }
def CursorReadsUptoSaid : Prop := cursorReadsUptoRow.holds Try.pinned (OpenSpec.upto cursorReadsSpec)

/-- 'hypostylelaw03.CursorLays', WHERE WHAT IT READS IS OF BULK AT MOST 1048576: true; the input reads as it did. -/
def cursorLaysUptoRow : OpenClaim := { program := "ytiednighldjojaa", sum := "fad0e6c6bccbbe198bf34b4e19114a4fd3809531cd2f248987c52ec647795664", func := "hypostyle/hypostylelaw03.CursorLays", spec := "cursorLays", apart := false, narrowed := true }
def CursorLaysUptoSaid : Prop := cursorLaysUptoRow.holds Try.pinned (OpenSpec.upto cursorLaysSpec)

/-- 'hypostylelaw03.CursorBack', WHERE WHAT IT READS IS OF BULK AT MOST 1048576: true; the input reads as it did. -/
def cursorBackUptoRow : OpenClaim := { program := "ytiednighldjojaa", sum := "fad0e6c6bccbbe198bf34b4e19114a4fd3809531cd2f248987c52ec647795664", func := "hypostyle/hypostylelaw03.CursorBack", spec := "cursorBack", apart := false, narrowed := true }
def CursorBackUptoSaid : Prop := cursorBackUptoRow.holds Try.pinned (OpenSpec.upto cursorBackSpec)

/-- 'hypostylelaw03.CursorBad', WHERE WHAT IT READS IS OF BULK AT MOST 1048576: true; the input reads as it did. -/
def cursorBadUptoRow : OpenClaim := { program := "ytiednighldjojaa", sum := "fad0e6c6bccbbe198bf34b4e19114a4fd3809531cd2f248987c52ec647795664", func := "hypostyle/hypostylelaw03.CursorBad", spec := "cursorBad", apart := false, narrowed := true }
def CursorBadUptoSaid : Prop := cursorBadUptoRow.holds Try.pinned (OpenSpec.upto cursorBadSpec)

/-- 'hypostylelaw03.CursorParts', WHERE WHAT IT READS IS OF BULK AT MOST 1048576: true; the input reads as it did. -/
def cursorPartsUptoRow : OpenClaim := { program := "ytiednighldjojaa", sum := "fad0e6c6bccbbe198bf34b4e19114a4fd3809531cd2f248987c52ec647795664", func := "hypostyle/hypostylelaw03.CursorParts", spec := "cursorParts", apart := false, narrowed := true }
def CursorPartsUptoSaid : Prop := cursorPartsUptoRow.holds Try.pinned (OpenSpec.upto cursorPartsSpec)

/-- 'hypostylelaw03.CursorTakes', WHERE WHAT IT READS IS OF BULK AT MOST 1048576: true; the input reads as it did. -/
def cursorTakesUptoRow : OpenClaim := { program := "ytiednighldjojaa", sum := "fad0e6c6bccbbe198bf34b4e19114a4fd3809531cd2f248987c52ec647795664", func := "hypostyle/hypostylelaw03.CursorTakes", spec := "cursorTakes", apart := false, narrowed := true }
def CursorTakesUptoSaid : Prop := cursorTakesUptoRow.holds Try.pinned (OpenSpec.upto cursorTakesSpec)

end Rows
end Go.Proofs.Ytiednighldjojaa
