/-
  No cell of these rows narrows 'for every input' (looked for: loops, veiled, ifaces, maps, wideKeys, modest, calm, conditions, laid).
  DERIVED. THE GIVEN ROWS OF THIS SEAT. 3 by the template 'for every input the law returns true; each argument reads behind the call as it read before'; 0 by the template 'total and deterministic' (their statements: YtdfjpdgamahicaaTotals.lean).
  GIVEN WITH THE SEED: the statements are not yours to turn. If you find one false, say at which input.
  Laid BY PROGRAM, IN A SANDBOX (cutbox-rows.mjs): the forced cells as the released guide's own fill.sh prints them over the translation 914ccbe7a3b01d2b… (all of the seat's roots in one cut). By AI agents, Wed Nov 11 2026. No macro, syntax, notation, axiom, sorry.
-/
import Derived.Test.YtdfjpdgamahicaaChecked
import GoSem.Claim
import GoSem.ClaimJoined
import GoSem.ClaimMapViews
import Derived.JoinedTies
import Derived.KernelRfl
namespace Go.Proofs.Ytdfjpdgamahicaa
/- THE CELL 'sum', in the pinned program and in every row, IS THE sha256 OF THE DUMP (.gsa) THAT YtdfjpdgamahicaaProg.lean LOADS. Nothing in Lean hashes anything: it is a label: what it is worth is what the hold of that sum in a sandbox is worth. -/
noncomputable def Try.pinned : Pinned := { name := "ytdfjpdgamahicaa", sum := "914ccbe7a3b01d2b427fa2f412afc7acc881c96d21ec9dd141f68b75b285dac9", checked := Try.checked }
namespace Rows
def none {H : Type} : Left H := { results := [], args := [] }

/-- 'hypostylelaw06.PointReckons': WHATEVER THE INPUT: true; the input reads as it did. -/
def pointReckonsSpec : ChangeSpec := { name := "pointReckons", fn := fun _ => fun
  | [d1, d2, d3] => { results := [.lit (.bool true)], args := [d1, d2, d3] }
  | _ => none }
def pointReckonsRow : OpenClaim := { program := "ytdfjpdgamahicaa", sum := "914ccbe7a3b01d2b427fa2f412afc7acc881c96d21ec9dd141f68b75b285dac9", func := "hypostyle/hypostylelaw06.PointReckons", spec := "pointReckons", apart := false }
def PointReckonsSaid : Prop := pointReckonsRow.holds Try.pinned (OpenSpec.ofChange pointReckonsSpec)

/-- ITS FALSE NEIGHBOUR: 'it returns false'. Refute it at one input. -/
def pointReckonsWrong : ChangeSpec := { name := "pointReckons", fn := fun _ => fun
  | [d1, d2, d3] => { results := [.lit (.bool false)], args := [d1, d2, d3] }
  | _ => none }
def PointReckonsWrongFalsely : Prop := pointReckonsRow.holds Try.pinned (OpenSpec.ofChange pointReckonsWrong)

/-- 'hypostylelaw06.PointNorms': WHATEVER THE INPUT: true; the input reads as it did. -/
def pointNormsSpec : ChangeSpec := { name := "pointNorms", fn := fun _ => fun
  | [d1, d2, d3, d4] => { results := [.lit (.bool true)], args := [d1, d2, d3, d4] }
  | _ => none }
def pointNormsRow : OpenClaim := { program := "ytdfjpdgamahicaa", sum := "914ccbe7a3b01d2b427fa2f412afc7acc881c96d21ec9dd141f68b75b285dac9", func := "hypostyle/hypostylelaw06.PointNorms", spec := "pointNorms", apart := false }
def PointNormsSaid : Prop := pointNormsRow.holds Try.pinned (OpenSpec.ofChange pointNormsSpec)

/-- ITS FALSE NEIGHBOUR: 'it returns false'. Refute it at one input. -/
def pointNormsWrong : ChangeSpec := { name := "pointNorms", fn := fun _ => fun
  | [d1, d2, d3, d4] => { results := [.lit (.bool false)], args := [d1, d2, d3, d4] }
  | _ => none }
def PointNormsWrongFalsely : Prop := pointNormsRow.holds Try.pinned (OpenSpec.ofChange pointNormsWrong)

/-- 'hypostylelaw06.PointOrder': WHATEVER THE INPUT: true; the input reads as it did. -/
def pointOrderSpec : ChangeSpec := { name := "pointOrder", fn := fun _ => fun
  | [d1, d2, d3] => { results := [.lit (.bool true)], args := [d1, d2, d3] }
  | _ => none }
def pointOrderRow : OpenClaim := { program := "ytdfjpdgamahicaa", sum := "914ccbe7a3b01d2b427fa2f412afc7acc881c96d21ec9dd141f68b75b285dac9", func := "hypostyle/hypostylelaw06.PointOrder", spec := "pointOrder", apart := false }
def PointOrderSaid : Prop := pointOrderRow.holds Try.pinned (OpenSpec.ofChange pointOrderSpec)

/-- ITS FALSE NEIGHBOUR: 'it returns false'. Refute it at one input. -/
def pointOrderWrong : ChangeSpec := { name := "pointOrder", fn := fun _ => fun
  | [d1, d2, d3] => { results := [.lit (.bool false)], args := [d1, d2, d3] }
  | _ => none }
def PointOrderWrongFalsely : Prop := pointOrderRow.holds Try.pinned (OpenSpec.ofChange pointOrderWrong)

/- THE SECOND FORM. 'bulk': how many values and letters a reading holds, each counted each time it is reached (what is shared counts as often as it is met; a slice's spare places count too). A statement '..UptoSaid' is the law's where the arguments, and the package variables that the reading takes, are together of bulk at most 1048576: NARROWER than '..Said'. Prove '..Said' where nothing that the law and all that it calls make is longer than what came in: it says more and counts as full. Else prove '..UptoSaid'. A law counts once. -/
mutual
def uptoBulk {H : Type} : DataW H → Nat
  | .lit (.string bytes) => bytes.length + 1
  | .lit _ => 1
  | .nil => 1
  | .ptr d => uptoBulk d + 1
  | .slice elems spare => uptoBulkAll elems + uptoBulkAll spare + 1
  | .agg parts => uptoBulkAll parts + 1
  | .iface _ d => uptoBulk d + 1
  | .map entries => uptoBulkEntries entries + 1
  | .held _ => 1
def uptoBulkAll {H : Type} : List (DataW H) → Nat
  | [] => 0
  | d :: r => uptoBulk d + uptoBulkAll r
def uptoBulkEntries {H : Type} : List (Lit × DataW H) → Nat
  | [] => 0
  | x :: r => uptoBulkEntry x + uptoBulkEntries r
def uptoBulkEntry {H : Type} : Lit × DataW H → Nat
  | (.string bytes, d) => bytes.length + uptoBulk d + 1
  | (_, d) => uptoBulk d + 1
 end
def uptoSmall : (H : Type) → List (DataW H) → Bool := fun _ ds => decide (uptoBulkAll ds ≤ 1048576)
def OpenSpec.upto (s : _root_.Go.ChangeSpec) : _root_.Go.OpenSpec := { _root_.Go.OpenSpec.ofChange s with cond := some uptoSmall }

/-- 'hypostylelaw06.PointReckons', WHERE WHAT IT READS IS OF BULK AT MOST 1048576: true; the input reads as it did. -/
def pointReckonsUptoRow : OpenClaim := { program := "ytdfjpdgamahicaa", sum := "914ccbe7a3b01d2b427fa2f412afc7acc881c96d21ec9dd141f68b75b285dac9", func := "hypostyle/hypostylelaw06.PointReckons", spec := "pointReckons", apart := false, narrowed := true }
def PointReckonsUptoSaid : Prop := pointReckonsUptoRow.holds Try.pinned (OpenSpec.upto pointReckonsSpec)

/-- 'hypostylelaw06.PointNorms', WHERE WHAT IT READS IS OF BULK AT MOST 1048576: true; the input reads as it did. -/
def pointNormsUptoRow : OpenClaim := { program := "ytdfjpdgamahicaa", sum := "914ccbe7a3b01d2b427fa2f412afc7acc881c96d21ec9dd141f68b75b285dac9", func := "hypostyle/hypostylelaw06.PointNorms", spec := "pointNorms", apart := false, narrowed := true }
def PointNormsUptoSaid : Prop := pointNormsUptoRow.holds Try.pinned (OpenSpec.upto pointNormsSpec)

/-- 'hypostylelaw06.PointOrder', WHERE WHAT IT READS IS OF BULK AT MOST 1048576: true; the input reads as it did. -/
def pointOrderUptoRow : OpenClaim := { program := "ytdfjpdgamahicaa", sum := "914ccbe7a3b01d2b427fa2f412afc7acc881c96d21ec9dd141f68b75b285dac9", func := "hypostyle/hypostylelaw06.PointOrder", spec := "pointOrder", apart := false, narrowed := true }
def PointOrderUptoSaid : Prop := pointOrderUptoRow.holds Try.pinned (OpenSpec.upto pointOrderSpec)

end Rows
end Go.Proofs.Ytdfjpdgamahicaa
