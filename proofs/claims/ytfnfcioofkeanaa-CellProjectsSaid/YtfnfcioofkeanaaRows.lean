/-
  No cell of these rows narrows 'for every input' (looked for: loops, veiled, ifaces, maps, wideKeys, modest, calm, conditions, laid).
  DERIVED. THE GIVEN ROWS OF THIS SEAT. 11 by the template 'for every input the law returns true; each argument reads behind the call as it read before'; 0 by the template 'total and deterministic' (their statements: YtfnfcioofkeanaaTotals.lean).
  GIVEN WITH THE SEED: the statements are not yours to turn. If you find one false, say at which input.
  Laid BY PROGRAM, IN A SANDBOX (cutbox-rows.mjs): the forced cells as the released guide's own fill.sh prints them over the translation 02e8762adabea992… (all of the seat's roots in one cut). By AI agents, Wed Nov 11 2026. No macro, syntax, notation, axiom, sorry.
-/
import Derived.Test.YtfnfcioofkeanaaChecked
import GoSem.Claim
import GoSem.ClaimJoined
import GoSem.ClaimMapViews
import Derived.JoinedTies
import Derived.KernelRfl
namespace Go.Proofs.Ytfnfcioofkeanaa
/- THE CELL 'sum', in the pinned program and in every row, IS THE sha256 OF THE DUMP (.gsa) THAT YtfnfcioofkeanaaProg.lean LOADS. Nothing in Lean hashes anything: it is a label: what it is worth is what the hold of that sum in a sandbox is worth. -/
noncomputable def Try.pinned : Pinned := { name := "ytfnfcioofkeanaa", sum := "02e8762adabea992f8b22f8638059bd2726ef178e979c77c6ebba0d7d76f42d6", checked := Try.checked }
namespace Rows
def none {H : Type} : Left H := { results := [], args := [] }

/-- 'hypostylelaw24.QueryEncodes': WHATEVER THE INPUT: true; the input reads as it did. -/
def queryEncodesSpec : ChangeSpec := { name := "queryEncodes", fn := fun _ => fun
  | [d1, d2] => { results := [.lit (.bool true)], args := [d1, d2] }
  | _ => none }
def queryEncodesRow : OpenClaim := { program := "ytfnfcioofkeanaa", sum := "02e8762adabea992f8b22f8638059bd2726ef178e979c77c6ebba0d7d76f42d6", func := "hypostyle/hypostylelaw24.QueryEncodes", spec := "queryEncodes", unfollowed := true, recurses := true, apart := false }
def QueryEncodesSaid : Prop := queryEncodesRow.holds Try.pinned (OpenSpec.ofChange queryEncodesSpec)

/-- ITS FALSE NEIGHBOUR: 'it returns false'. Refute it at one input. -/
def queryEncodesWrong : ChangeSpec := { name := "queryEncodes", fn := fun _ => fun
  | [d1, d2] => { results := [.lit (.bool false)], args := [d1, d2] }
  | _ => none }
def QueryEncodesWrongFalsely : Prop := queryEncodesRow.holds Try.pinned (OpenSpec.ofChange queryEncodesWrong)

/-- 'hypostylelaw24.QueryDecodes': WHATEVER THE INPUT: true; the input reads as it did. -/
def queryDecodesSpec : ChangeSpec := { name := "queryDecodes", fn := fun _ => fun
  | [d] => { results := [.lit (.bool true)], args := [d] }
  | _ => none }
def queryDecodesRow : OpenClaim := { program := "ytfnfcioofkeanaa", sum := "02e8762adabea992f8b22f8638059bd2726ef178e979c77c6ebba0d7d76f42d6", func := "hypostyle/hypostylelaw24.QueryDecodes", spec := "queryDecodes", unfollowed := true, recurses := true, apart := false }
def QueryDecodesSaid : Prop := queryDecodesRow.holds Try.pinned (OpenSpec.ofChange queryDecodesSpec)

/-- ITS FALSE NEIGHBOUR: 'it returns false'. Refute it at one input. -/
def queryDecodesWrong : ChangeSpec := { name := "queryDecodes", fn := fun _ => fun
  | [d] => { results := [.lit (.bool false)], args := [d] }
  | _ => none }
def QueryDecodesWrongFalsely : Prop := queryDecodesRow.holds Try.pinned (OpenSpec.ofChange queryDecodesWrong)

/-- 'hypostylelaw24.QueryBack': WHATEVER THE INPUT: true; the input reads as it did. -/
def queryBackSpec : ChangeSpec := { name := "queryBack", fn := fun _ => fun
  | [d1, d2] => { results := [.lit (.bool true)], args := [d1, d2] }
  | _ => none }
def queryBackRow : OpenClaim := { program := "ytfnfcioofkeanaa", sum := "02e8762adabea992f8b22f8638059bd2726ef178e979c77c6ebba0d7d76f42d6", func := "hypostyle/hypostylelaw24.QueryBack", spec := "queryBack", unfollowed := true, recurses := true, apart := false }
def QueryBackSaid : Prop := queryBackRow.holds Try.pinned (OpenSpec.ofChange queryBackSpec)

/-- ITS FALSE NEIGHBOUR: 'it returns false'. Refute it at one input. -/
def queryBackWrong : ChangeSpec := { name := "queryBack", fn := fun _ => fun
  | [d1, d2] => { results := [.lit (.bool false)], args := [d1, d2] }
  | _ => none }
def QueryBackWrongFalsely : Prop := queryBackRow.holds Try.pinned (OpenSpec.ofChange queryBackWrong)

/-- 'hypostylelaw24.QueryTwice': WHATEVER THE INPUT: true; the input reads as it did. -/
def queryTwiceSpec : ChangeSpec := { name := "queryTwice", fn := fun _ => fun
  | [d] => { results := [.lit (.bool true)], args := [d] }
  | _ => none }
def queryTwiceRow : OpenClaim := { program := "ytfnfcioofkeanaa", sum := "02e8762adabea992f8b22f8638059bd2726ef178e979c77c6ebba0d7d76f42d6", func := "hypostyle/hypostylelaw24.QueryTwice", spec := "queryTwice", unfollowed := true, recurses := true, apart := false }
def QueryTwiceSaid : Prop := queryTwiceRow.holds Try.pinned (OpenSpec.ofChange queryTwiceSpec)

/-- ITS FALSE NEIGHBOUR: 'it returns false'. Refute it at one input. -/
def queryTwiceWrong : ChangeSpec := { name := "queryTwice", fn := fun _ => fun
  | [d] => { results := [.lit (.bool false)], args := [d] }
  | _ => none }
def QueryTwiceWrongFalsely : Prop := queryTwiceRow.holds Try.pinned (OpenSpec.ofChange queryTwiceWrong)

/-- 'hypostylelaw24.QueryApart': WHATEVER THE INPUT: true; the input reads as it did. -/
def queryApartSpec : ChangeSpec := { name := "queryApart", fn := fun _ => fun
  | [d1, d2] => { results := [.lit (.bool true)], args := [d1, d2] }
  | _ => none }
def queryApartRow : OpenClaim := { program := "ytfnfcioofkeanaa", sum := "02e8762adabea992f8b22f8638059bd2726ef178e979c77c6ebba0d7d76f42d6", func := "hypostyle/hypostylelaw24.QueryApart", spec := "queryApart", unfollowed := true, recurses := true, apart := false }
def QueryApartSaid : Prop := queryApartRow.holds Try.pinned (OpenSpec.ofChange queryApartSpec)

/-- ITS FALSE NEIGHBOUR: 'it returns false'. Refute it at one input. -/
def queryApartWrong : ChangeSpec := { name := "queryApart", fn := fun _ => fun
  | [d1, d2] => { results := [.lit (.bool false)], args := [d1, d2] }
  | _ => none }
def QueryApartWrongFalsely : Prop := queryApartRow.holds Try.pinned (OpenSpec.ofChange queryApartWrong)

/-- 'hypostylelaw07.CellChecks': WHATEVER THE INPUT: true; the input reads as it did. -/
def cellChecksSpec : ChangeSpec := { name := "cellChecks", fn := fun _ => fun
  | [d] => { results := [.lit (.bool true)], args := [d] }
  | _ => none }
def cellChecksRow : OpenClaim := { program := "ytfnfcioofkeanaa", sum := "02e8762adabea992f8b22f8638059bd2726ef178e979c77c6ebba0d7d76f42d6", func := "hypostyle/hypostylelaw07.CellChecks", spec := "cellChecks", inPlace := ["internal/bytealg.abigen_runtime_cmpstring"], unfollowed := true, recurses := true, apart := false }
def CellChecksSaid : Prop := cellChecksRow.holds Try.pinned (OpenSpec.ofChange cellChecksSpec)

/-- ITS FALSE NEIGHBOUR: 'it returns false'. Refute it at one input. -/
def cellChecksWrong : ChangeSpec := { name := "cellChecks", fn := fun _ => fun
  | [d] => { results := [.lit (.bool false)], args := [d] }
  | _ => none }
def CellChecksWrongFalsely : Prop := cellChecksRow.holds Try.pinned (OpenSpec.ofChange cellChecksWrong)

/-- 'hypostylelaw07.CellProjects': WHATEVER THE INPUT: true; the input reads as it did. -/
def cellProjectsSpec : ChangeSpec := { name := "cellProjects", fn := fun _ => fun
  | [d1, d2, d3, d4] => { results := [.lit (.bool true)], args := [d1, d2, d3, d4] }
  | _ => none }
def cellProjectsRow : OpenClaim := { program := "ytfnfcioofkeanaa", sum := "02e8762adabea992f8b22f8638059bd2726ef178e979c77c6ebba0d7d76f42d6", func := "hypostyle/hypostylelaw07.CellProjects", spec := "cellProjects", inPlace := ["internal/bytealg.abigen_runtime_cmpstring"], unfollowed := true, recurses := true, apart := false }
def CellProjectsSaid : Prop := cellProjectsRow.holds Try.pinned (OpenSpec.ofChange cellProjectsSpec)

/-- ITS FALSE NEIGHBOUR: 'it returns false'. Refute it at one input. -/
def cellProjectsWrong : ChangeSpec := { name := "cellProjects", fn := fun _ => fun
  | [d1, d2, d3, d4] => { results := [.lit (.bool false)], args := [d1, d2, d3, d4] }
  | _ => none }
def CellProjectsWrongFalsely : Prop := cellProjectsRow.holds Try.pinned (OpenSpec.ofChange cellProjectsWrong)

/-- 'hypostylelaw07.CellTwice': WHATEVER THE INPUT: true; the input reads as it did. -/
def cellTwiceSpec : ChangeSpec := { name := "cellTwice", fn := fun _ => fun
  | [d1, d2, d3, d4, d5, d6, d7] => { results := [.lit (.bool true)], args := [d1, d2, d3, d4, d5, d6, d7] }
  | _ => none }
def cellTwiceRow : OpenClaim := { program := "ytfnfcioofkeanaa", sum := "02e8762adabea992f8b22f8638059bd2726ef178e979c77c6ebba0d7d76f42d6", func := "hypostyle/hypostylelaw07.CellTwice", spec := "cellTwice", inPlace := ["internal/bytealg.abigen_runtime_cmpstring"], unfollowed := true, recurses := true, apart := false }
def CellTwiceSaid : Prop := cellTwiceRow.holds Try.pinned (OpenSpec.ofChange cellTwiceSpec)

/-- ITS FALSE NEIGHBOUR: 'it returns false'. Refute it at one input. -/
def cellTwiceWrong : ChangeSpec := { name := "cellTwice", fn := fun _ => fun
  | [d1, d2, d3, d4, d5, d6, d7] => { results := [.lit (.bool false)], args := [d1, d2, d3, d4, d5, d6, d7] }
  | _ => none }
def CellTwiceWrongFalsely : Prop := cellTwiceRow.holds Try.pinned (OpenSpec.ofChange cellTwiceWrong)

/-- 'hypostylelaw07.CellOrder': WHATEVER THE INPUT: true; the input reads as it did. -/
def cellOrderSpec : ChangeSpec := { name := "cellOrder", fn := fun _ => fun
  | [d1, d2, d3, d4] => { results := [.lit (.bool true)], args := [d1, d2, d3, d4] }
  | _ => none }
def cellOrderRow : OpenClaim := { program := "ytfnfcioofkeanaa", sum := "02e8762adabea992f8b22f8638059bd2726ef178e979c77c6ebba0d7d76f42d6", func := "hypostyle/hypostylelaw07.CellOrder", spec := "cellOrder", inPlace := ["internal/bytealg.abigen_runtime_cmpstring"], unfollowed := true, recurses := true, apart := false }
def CellOrderSaid : Prop := cellOrderRow.holds Try.pinned (OpenSpec.ofChange cellOrderSpec)

/-- ITS FALSE NEIGHBOUR: 'it returns false'. Refute it at one input. -/
def cellOrderWrong : ChangeSpec := { name := "cellOrder", fn := fun _ => fun
  | [d1, d2, d3, d4] => { results := [.lit (.bool false)], args := [d1, d2, d3, d4] }
  | _ => none }
def CellOrderWrongFalsely : Prop := cellOrderRow.holds Try.pinned (OpenSpec.ofChange cellOrderWrong)

/-- 'hypostylelaw07.CellCols': WHATEVER THE INPUT: true; the input reads as it did. -/
def cellColsSpec : ChangeSpec := { name := "cellCols", fn := fun _ => fun
  | [d1, d2] => { results := [.lit (.bool true)], args := [d1, d2] }
  | _ => none }
def cellColsRow : OpenClaim := { program := "ytfnfcioofkeanaa", sum := "02e8762adabea992f8b22f8638059bd2726ef178e979c77c6ebba0d7d76f42d6", func := "hypostyle/hypostylelaw07.CellCols", spec := "cellCols", inPlace := ["internal/bytealg.abigen_runtime_cmpstring"], unfollowed := true, recurses := true, apart := false }
def CellColsSaid : Prop := cellColsRow.holds Try.pinned (OpenSpec.ofChange cellColsSpec)

/-- ITS FALSE NEIGHBOUR: 'it returns false'. Refute it at one input. -/
def cellColsWrong : ChangeSpec := { name := "cellCols", fn := fun _ => fun
  | [d1, d2] => { results := [.lit (.bool false)], args := [d1, d2] }
  | _ => none }
def CellColsWrongFalsely : Prop := cellColsRow.holds Try.pinned (OpenSpec.ofChange cellColsWrong)

/-- 'hypostylelaw24.QueryFits': WHATEVER THE INPUT: true; the input reads as it did. -/
def queryFitsSpec : ChangeSpec := { name := "queryFits", fn := fun _ => fun
  | [d1, d2] => { results := [.lit (.bool true)], args := [d1, d2] }
  | _ => none }
def queryFitsRow : OpenClaim := { program := "ytfnfcioofkeanaa", sum := "02e8762adabea992f8b22f8638059bd2726ef178e979c77c6ebba0d7d76f42d6", func := "hypostyle/hypostylelaw24.QueryFits", spec := "queryFits", unfollowed := true, recurses := true, apart := false }
def QueryFitsSaid : Prop := queryFitsRow.holds Try.pinned (OpenSpec.ofChange queryFitsSpec)

/-- ITS FALSE NEIGHBOUR: 'it returns false'. Refute it at one input. -/
def queryFitsWrong : ChangeSpec := { name := "queryFits", fn := fun _ => fun
  | [d1, d2] => { results := [.lit (.bool false)], args := [d1, d2] }
  | _ => none }
def QueryFitsWrongFalsely : Prop := queryFitsRow.holds Try.pinned (OpenSpec.ofChange queryFitsWrong)

/- THE SECOND FORM. 'bulk': how many values and letters a reading holds, each counted each time it is reached (what is shared counts as often as it is met; a slice's spare places count too). A statement '..UptoSaid' is the law's where the arguments, and the package variables that the reading takes, are together of bulk at most 1048576: NARROWER than '..Said'. Prove '..Said' where nothing that the law and all that it calls make is longer than what came in: it says more and counts as full. Else prove '..UptoSaid'. A law counts once. -/
mutual
def uptoBulk {H : Type} : DataW H → Nat
  | .lit (.string bytes) => bytes.length + 1
  | .lit _ => 1
  | .nil => 1
  | .ptr d => uptoBulk d + 1
  | .slice elems spare => uptoBulkAll elems + uptoBulkAll spare + 1
  | .agg parts => uptoBulkAll parts + 1
  | .iface _ d => uptoBulk d + 1
  | .map entries => uptoBulkEntries entries + 1
  | .held _ => 1
def uptoBulkAll {H : Type} : List (DataW H) → Nat
  | [] => 0
  | d :: r => uptoBulk d + uptoBulkAll r
def uptoBulkEntries {H : Type} : List (Lit × DataW H) → Nat
  | [] => 0
  | x :: r => uptoBulkEntry x + uptoBulkEntries r
def uptoBulkEntry {H : Type} : Lit × DataW H → Nat
  | (.string bytes, d) => bytes.length + uptoBulk d + 1
  | (_, d) => uptoBulk d + 1
 end
def uptoSmall : (H : Type) → List (DataW H) → Bool := fun _ ds => decide (uptoBulkAll ds ≤ 1048576)
def OpenSpec.upto (s : _root_.Go.ChangeSpec) : _root_.Go.OpenSpec := { _root_.Go.OpenSpec.ofChange s with cond := some uptoSmall }

/-- 'hypostylelaw24.QueryEncodes', WHERE WHAT IT READS IS OF BULK AT MOST 1048576: true; the input reads as it did. -/
def queryEncodesUptoRow : OpenClaim := { program := "ytfnfcioofkeanaa", sum := "02e8762adabea992f8b22f8638059bd2726ef178e979c77c6ebba0d7d76f42d6", func := "hypostyle/hypostylelaw24.QueryEncodes", spec := "queryEncodes", unfollowed := true, recurses := true, apart := false, narrowed := true }
def QueryEncodesUptoSaid : Prop := queryEncodesUptoRow.holds Try.pinned (OpenSpec.upto queryEncodesSpec)

/-- 'hypostylelaw24.QueryDecodes', WHERE WHAT IT READS IS OF BULK AT MOST 1048576: true; the input reads as it did. -/
def queryDecodesUptoRow : OpenClaim := { program := "ytfnfcioofkeanaa", sum := "02e8762adabea992f8b22f8638059bd2726ef178e979c77c6ebba0d7d76f42d6", func := "hypostyle/hypostylelaw24.QueryDecodes", spec := "queryDecodes", unfollowed := true, recurses := true, apart := false, narrowed := true }
def QueryDecodesUptoSaid : Prop := queryDecodesUptoRow.holds Try.pinned (OpenSpec.upto queryDecodesSpec)

/-- 'hypostylelaw24.QueryBack', WHERE WHAT IT READS IS OF BULK AT MOST 1048576: true; the input reads as it did. -/
def queryBackUptoRow : OpenClaim := { program := "ytfnfcioofkeanaa", sum := "02e8762adabea992f8b22f8638059bd2726ef178e979c77c6ebba0d7d76f42d6", func := "hypostyle/hypostylelaw24.QueryBack", spec := "queryBack", unfollowed := true, recurses := true, apart := false, narrowed := true }
def QueryBackUptoSaid : Prop := queryBackUptoRow.holds Try.pinned (OpenSpec.upto queryBackSpec)

/-- 'hypostylelaw24.QueryTwice', WHERE WHAT IT READS IS OF BULK AT MOST 1048576: true; the input reads as it did. -/
def queryTwiceUptoRow : OpenClaim := { program := "ytfnfcioofkeanaa", sum := "02e8762adabea992f8b22f8638059bd2726ef178e979c77c6ebba0d7d76f42d6", func := "hypostyle/hypostylelaw24.QueryTwice", spec := "queryTwice", unfollowed := true, recurses := true, apart := false, narrowed := true }
def QueryTwiceUptoSaid : Prop := queryTwiceUptoRow.holds Try.pinned (OpenSpec.upto queryTwiceSpec)

/-- 'hypostylelaw24.QueryApart', WHERE WHAT IT READS IS OF BULK AT MOST 1048576: true; the input reads as it did. -/
def queryApartUptoRow : OpenClaim := { program := "ytfnfcioofkeanaa", sum := "02e8762adabea992f8b22f8638059bd2726ef178e979c77c6ebba0d7d76f42d6", func := "hypostyle/hypostylelaw24.QueryApart", spec := "queryApart", unfollowed := true, recurses := true, apart := false, narrowed := true }
def QueryApartUptoSaid : Prop := queryApartUptoRow.holds Try.pinned (OpenSpec.upto queryApartSpec)

/-- 'hypostylelaw07.CellChecks', WHERE WHAT IT READS IS OF BULK AT MOST 1048576: true; the input reads as it did. -/
def cellChecksUptoRow : OpenClaim := { program := "ytfnfcioofkeanaa", sum := "02e8762adabea992f8b22f8638059bd2726ef178e979c77c6ebba0d7d76f42d6", func := "hypostyle/hypostylelaw07.CellChecks", spec := "cellChecks", inPlace := ["internal/bytealg.abigen_runtime_cmpstring"], unfollowed := true, recurses := true, apart := false, narrowed := true }
def CellChecksUptoSaid : Prop := cellChecksUptoRow.holds Try.pinned (OpenSpec.upto cellChecksSpec)

/-- 'hypostylelaw07.CellProjects', WHERE WHAT IT READS IS OF BULK AT MOST 1048576: true; the input reads as it did. -/
def cellProjectsUptoRow : OpenClaim := { program := "ytfnfcioofkeanaa", sum := "02e8762adabea992f8b22f8638059bd2726ef178e979c77c6ebba0d7d76f42d6", func := "hypostyle/hypostylelaw07.CellProjects", spec := "cellProjects", inPlace := ["internal/bytealg.abigen_runtime_cmpstring"], unfollowed := true, recurses := true, apart := false, narrowed := true }
def CellProjectsUptoSaid : Prop := cellProjectsUptoRow.holds Try.pinned (OpenSpec.upto cellProjectsSpec)

/-- 'hypostylelaw07.CellTwice', WHERE WHAT IT READS IS OF BULK AT MOST 1048576: true; the input reads as it did. -/
def cellTwiceUptoRow : OpenClaim := { program := "ytfnfcioofkeanaa", sum := "02e8762adabea992f8b22f8638059bd2726ef178e979c77c6ebba0d7d76f42d6", func := "hypostyle/hypostylelaw07.CellTwice", spec := "cellTwice", inPlace := ["internal/bytealg.abigen_runtime_cmpstring"], unfollowed := true, recurses := true, apart := false, narrowed := true }
def CellTwiceUptoSaid : Prop := cellTwiceUptoRow.holds Try.pinned (OpenSpec.upto cellTwiceSpec)

/-- 'hypostylelaw07.CellOrder', WHERE WHAT IT READS IS OF BULK AT MOST 1048576: true; the input reads as it did. -/
def cellOrderUptoRow : OpenClaim := { program := "ytfnfcioofkeanaa", sum := "02e8762adabea992f8b22f8638059bd2726ef178e979c77c6ebba0d7d76f42d6", func := "hypostyle/hypostylelaw07.CellOrder", spec := "cellOrder", inPlace := ["internal/bytealg.abigen_runtime_cmpstring"], unfollowed := true, recurses := true, apart := false, narrowed := true }
def CellOrderUptoSaid : Prop := cellOrderUptoRow.holds Try.pinned (OpenSpec.upto cellOrderSpec)

/-- 'hypostylelaw07.CellCols', WHERE WHAT IT READS IS OF BULK AT MOST 1048576: true; the input reads as it did. -/
def cellColsUptoRow : OpenClaim := { program := "ytfnfcioofkeanaa", sum := "02e8762adabea992f8b22f8638059bd2726ef178e979c77c6ebba0d7d76f42d6", func := "hypostyle/hypostylelaw07.CellCols", spec := "cellCols", inPlace := ["internal/bytealg.abigen_runtime_cmpstring"], unfollowed := true, recurses := true, apart := false, narrowed := true }
def CellColsUptoSaid : Prop := cellColsUptoRow.holds Try.pinned (OpenSpec.upto cellColsSpec)

/-- 'hypostylelaw24.QueryFits', WHERE WHAT IT READS IS OF BULK AT MOST 1048576: true; the input reads as it did. -/
def queryFitsUptoRow : OpenClaim := { program := "ytfnfcioofkeanaa", sum := "02e8762adabea992f8b22f8638059bd2726ef178e979c77c6ebba0d7d76f42d6", func := "hypostyle/hypostylelaw24.QueryFits", spec := "queryFits", unfollowed := true, recurses := true, apart := false, narrowed := true }
def QueryFitsUptoSaid : Prop := queryFitsUptoRow.holds Try.pinned (OpenSpec.upto queryFitsSpec)

end Rows
end Go.Proofs.Ytfnfcioofkeanaa
