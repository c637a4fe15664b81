/-
  NARROWER THAN 'FOR EVERY INPUT', by the rows' own cells (each row's printed sentence says how): FrontEncodes: laid · FrontDecodes: laid · FrontBack: laid · FrontOnce: laid · FrontShares: laid.
  DERIVED. THE GIVEN ROWS OF THIS SEAT. 5 by the template 'for every input the law returns true; each argument reads behind the call as it read before'; 0 by the template 'total and deterministic' (their statements: YtdclbhmmpdngpaaDoorTotals.lean).
  GIVEN WITH THE SEED: the statements are not yours to turn. If you find one false, say at which input.
  Laid BY PROGRAM, IN A SANDBOX (cutbox-rows.mjs): the forced cells as the released guide's own fill.sh prints them over the translation 41f20d68f8173b1d… (all of the seat's roots in one cut). By AI agents, Wed Nov 11 2026. No macro, syntax, notation, axiom, sorry.
-/
import Derived.Test.YtdclbhmmpdngpaaDoorChecked
import GoSem.Claim
import GoSem.ClaimJoined
import GoSem.ClaimMapViews
import Derived.JoinedTies
import Derived.KernelRfl
namespace Go.Proofs.YtdclbhmmpdngpaaDoor
/- THE CELL 'sum', in the pinned program and in every row, IS THE sha256 OF THE DUMP (.gsa) THAT YtdclbhmmpdngpaaDoorProg.lean LOADS. Nothing in Lean hashes anything: it is a label: what it is worth is what the hold of that sum in a sandbox is worth. -/
noncomputable def Tryd.pinned : Pinned := { name := "ytdclbhmmpdngpaadoor", sum := "41f20d68f8173b1dc0c2afad7791e142c11568b00cd97ed4a1c7d3b1d91540a7", checked := Tryd.checked }
namespace Rows
def none {H : Type} : Left H := { results := [], args := [] }

/- WHAT THE LISTED PACKAGE-LEVEL VARIABLES READ AS WHEN THE CALL BEGINS. Each datum BY PROGRAM (the guide's laid-datum.mjs) off the statement by which the dump's own 'gosem.cut.vars' lays the variable. In a bare row this is a premise. The card (YtdclbhmmpdngpaaDoorCards.lean) ties it to the program's text. -/
def laid_bytes_ErrTooLarge {H : Type} : DataW H := .iface "*errors.errorString" (.ptr (.agg [.lit (.string [98, 121, 116, 101, 115, 46, 66, 117, 102, 102, 101, 114, 58, 32, 116, 111, 111, 32, 108, 97, 114, 103, 101])]))

/-- 'hypostylelaw13.FrontEncodes': WHATEVER THE INPUT: true; the input reads as it did. -/
def frontEncodesSpec : ChangeSpec := { name := "frontEncodes", fn := fun _ => fun
  | [d1, d2, d3] => { results := [.lit (.bool true)], args := [d1, d2, d3] }
  | _ => none }
def frontEncodesRow : OpenClaim := { program := "ytdclbhmmpdngpaadoor", sum := "41f20d68f8173b1dc0c2afad7791e142c11568b00cd97ed4a1c7d3b1d91540a7", func := "hypostyle/hypostylelaw13.FrontEncodes", spec := "frontEncodes", unfollowed := true, recurses := true, named := ["bytes.ErrTooLarge"], apart := false, laid := [("bytes.ErrTooLarge", laid_bytes_ErrTooLarge)] }
def FrontEncodesSaid : Prop := frontEncodesRow.holds Tryd.pinned (OpenSpec.ofChange frontEncodesSpec)

/-- ITS FALSE NEIGHBOUR: 'it returns false'. Refute it at one input. -/
def frontEncodesWrong : ChangeSpec := { name := "frontEncodes", fn := fun _ => fun
  | [d1, d2, d3] => { results := [.lit (.bool false)], args := [d1, d2, d3] }
  | _ => none }
def FrontEncodesWrongFalsely : Prop := frontEncodesRow.holds Tryd.pinned (OpenSpec.ofChange frontEncodesWrong)

/-- 'hypostylelaw13.FrontDecodes': WHATEVER THE INPUT: true; the input reads as it did. -/
def frontDecodesSpec : ChangeSpec := { name := "frontDecodes", fn := fun _ => fun
  | [d1, d2] => { results := [.lit (.bool true)], args := [d1, d2] }
  | _ => none }
def frontDecodesRow : OpenClaim := { program := "ytdclbhmmpdngpaadoor", sum := "41f20d68f8173b1dc0c2afad7791e142c11568b00cd97ed4a1c7d3b1d91540a7", func := "hypostyle/hypostylelaw13.FrontDecodes", spec := "frontDecodes", unfollowed := true, recurses := true, named := ["bytes.ErrTooLarge"], apart := false, laid := [("bytes.ErrTooLarge", laid_bytes_ErrTooLarge)] }
def FrontDecodesSaid : Prop := frontDecodesRow.holds Tryd.pinned (OpenSpec.ofChange frontDecodesSpec)

/-- ITS FALSE NEIGHBOUR: 'it returns false'. Refute it at one input. -/
def frontDecodesWrong : ChangeSpec := { name := "frontDecodes", fn := fun _ => fun
  | [d1, d2] => { results := [.lit (.bool false)], args := [d1, d2] }
  | _ => none }
def FrontDecodesWrongFalsely : Prop := frontDecodesRow.holds Tryd.pinned (OpenSpec.ofChange frontDecodesWrong)

/-- 'hypostylelaw13.FrontBack': WHATEVER THE INPUT: true; the input reads as it did. -/
def frontBackSpec : ChangeSpec := { name := "frontBack", fn := fun _ => fun
  | [d] => { results := [.lit (.bool true)], args := [d] }
  | _ => none }
def frontBackRow : OpenClaim := { program := "ytdclbhmmpdngpaadoor", sum := "41f20d68f8173b1dc0c2afad7791e142c11568b00cd97ed4a1c7d3b1d91540a7", func := "hypostyle/hypostylelaw13.FrontBack", spec := "frontBack", unfollowed := true, recurses := true, named := ["bytes.ErrTooLarge"], apart := false, laid := [("bytes.ErrTooLarge", laid_bytes_ErrTooLarge)] }
def FrontBackSaid : Prop := frontBackRow.holds Tryd.pinned (OpenSpec.ofChange frontBackSpec)

/-- ITS FALSE NEIGHBOUR: 'it returns false'. Refute it at one input. -/
def frontBackWrong : ChangeSpec := { name := "frontBack", fn := fun _ => fun
  | [d] => { results := [.lit (.bool false)], args := [d] }
  | _ => none }
def FrontBackWrongFalsely : Prop := frontBackRow.holds Tryd.pinned (OpenSpec.ofChange frontBackWrong)

/-- 'hypostylelaw13.FrontOnce': WHATEVER THE INPUT: true; the input reads as it did. -/
def frontOnceSpec : ChangeSpec := { name := "frontOnce", fn := fun _ => fun
  | [d1, d2] => { results := [.lit (.bool true)], args := [d1, d2] }
  | _ => none }
def frontOnceRow : OpenClaim := { program := "ytdclbhmmpdngpaadoor", sum := "41f20d68f8173b1dc0c2afad7791e142c11568b00cd97ed4a1c7d3b1d91540a7", func := "hypostyle/hypostylelaw13.FrontOnce", spec := "frontOnce", unfollowed := true, recurses := true, named := ["bytes.ErrTooLarge"], apart := false, laid := [("bytes.ErrTooLarge", laid_bytes_ErrTooLarge)] }
def FrontOnceSaid : Prop := frontOnceRow.holds Tryd.pinned (OpenSpec.ofChange frontOnceSpec)

/-- ITS FALSE NEIGHBOUR: 'it returns false'. Refute it at one input. -/
def frontOnceWrong : ChangeSpec := { name := "frontOnce", fn := fun _ => fun
  | [d1, d2] => { results := [.lit (.bool false)], args := [d1, d2] }
  | _ => none }
def FrontOnceWrongFalsely : Prop := frontOnceRow.holds Tryd.pinned (OpenSpec.ofChange frontOnceWrong)

/-- 'hypostylelaw13.FrontShares': WHATEVER THE INPUT: true; the input reads as it did. -/
def frontSharesSpec : ChangeSpec := { name := "frontShares", fn := fun _ => fun
  | [d1, d2, d3] => { results := [.lit (.bool true)], args := [d1, d2, d3] }
  | _ => none }
def frontSharesRow : OpenClaim := { program := "ytdclbhmmpdngpaadoor", sum := "41f20d68f8173b1dc0c2afad7791e142c11568b00cd97ed4a1c7d3b1d91540a7", func := "hypostyle/hypostylelaw13.FrontShares", spec := "frontShares", unfollowed := true, recurses := true, named := ["bytes.ErrTooLarge"], apart := false, laid := [("bytes.ErrTooLarge", laid_bytes_ErrTooLarge)] }
def FrontSharesSaid : Prop := frontSharesRow.holds Tryd.pinned (OpenSpec.ofChange frontSharesSpec)

/-- ITS FALSE NEIGHBOUR: 'it returns false'. Refute it at one input. -/
def frontSharesWrong : ChangeSpec := { name := "frontShares", fn := fun _ => fun
  | [d1, d2, d3] => { results := [.lit (.bool false)], args := [d1, d2, d3] }
  | _ => none }
def FrontSharesWrongFalsely : Prop := frontSharesRow.holds Tryd.pinned (OpenSpec.ofChange frontSharesWrong)

/- THE SECOND FORM. 'bulk': how many values and letters a reading holds, each counted each time it is reached (what is shared counts as often as it is met; a slice's spare places count too). A statement '..UptoSaid' is the law's where the arguments, and the package variables that the reading takes, are together of bulk at most 1048576: NARROWER than '..Said'. Prove '..Said' where nothing that the law and all that it calls make is longer than what came in: it says more and counts as full. Else prove '..UptoSaid'. A law counts once. -/
mutual
def uptoBulk {H : Type} : DataW H → Nat
  | .lit (.string bytes) => bytes.length + 1
  | .lit _ => 1
  | .nil => 1
  | .ptr d => uptoBulk d + 1
  | .slice elems spare => uptoBulkAll elems + uptoBulkAll spare + 1
  | .agg parts => uptoBulkAll parts + 1
  | .iface _ d => uptoBulk d + 1
  | .map entries => uptoBulkEntries entries + 1
  | .held _ => 1
def uptoBulkAll {H : Type} : List (DataW H) → Nat
  | [] => 0
  | d :: r => uptoBulk d + uptoBulkAll r
def uptoBulkEntries {H : Type} : List (Lit × DataW H) → Nat
  | [] => 0
  | x :: r => uptoBulkEntry x + uptoBulkEntries r
def uptoBulkEntry {H : Type} : Lit × DataW H → Nat
  | (.string bytes, d) => bytes.length + uptoBulk d + 1
  | (_, d) => uptoBulk d + 1
 end
def uptoSmall : (H : Type) → List (DataW H) → Bool := fun _ ds => decide (uptoBulkAll ds ≤ 1048576)
def OpenSpec.upto (s : _root_.Go.ChangeSpec) : _root_.Go.OpenSpec := { _root_.Go.OpenSpec.ofChange s with cond := some uptoSmall }

/-- 'hypostylelaw13.FrontEncodes', WHERE WHAT IT READS IS OF BULK AT MOST 1048576: true; the input reads as it did. -/
def frontEncodesUptoRow : OpenClaim := { program := "ytdclbhmmpdngpaadoor", sum := "41f20d68f8173b1dc0c2afad7791e142c11568b00cd97ed4a1c7d3b1d91540a7", func := "hypostyle/hypostylelaw13.FrontEncodes", spec := "frontEncodes", unfollowed := true, recurses := true, named := ["bytes.ErrTooLarge"], apart := false, laid := [("bytes.ErrTooLarge", laid_bytes_ErrTooLarge)], narrowed := true }
def FrontEncodesUptoSaid : Prop := frontEncodesUptoRow.holds Tryd.pinned (OpenSpec.upto frontEncodesSpec)

/-- 'hypostylelaw13.FrontDecodes', WHERE WHAT IT READS IS OF BULK AT MOST 1048576: true; the input reads as it did. -/
def frontDecodesUptoRow : OpenClaim := { program := "ytdclbhmmpdngpaadoor", sum := "41f20d68f8173b1dc0c2afad7791e142c11568b00cd97ed4a1c7d3b1d91540a7", func := "hypostyle/hypostylelaw13.FrontDecodes", spec := "frontDecodes", unfollowed := true, recurses := true, named := ["bytes.ErrTooLarge"], apart := false, laid := [("bytes.ErrTooLarge", laid_bytes_ErrTooLarge)], narrowed := true }
def FrontDecodesUptoSaid : Prop := frontDecodesUptoRow.holds Tryd.pinned (OpenSpec.upto frontDecodesSpec)

/-- 'hypostylelaw13.FrontBack', WHERE WHAT IT READS IS OF BULK AT MOST 1048576: true; the input reads as it did. -/
def frontBackUptoRow : OpenClaim := { program := "ytdclbhmmpdngpaadoor", sum := "41f20d68f8173b1dc0c2afad7791e142c11568b00cd97ed4a1c7d3b1d91540a7", func := "hypostyle/hypostylelaw13.FrontBack", spec := "frontBack", unfollowed := true, recurses := true, named := ["bytes.ErrTooLarge"], apart := false, laid := [("bytes.ErrTooLarge", laid_bytes_ErrTooLarge)], narrowed := true }
def FrontBackUptoSaid : Prop := frontBackUptoRow.holds Tryd.pinned (OpenSpec.upto frontBackSpec)

/-- 'hypostylelaw13.FrontOnce', WHERE WHAT IT READS IS OF BULK AT MOST 1048576: true; the input reads as it did. -/
def frontOnceUptoRow : OpenClaim := { program := "ytdclbhmmpdngpaadoor", sum := "41f20d68f8173b1dc0c2afad7791e142c11568b00cd97ed4a1c7d3b1d91540a7", func := "hypostyle/hypostylelaw13.FrontOnce", spec := "frontOnce", unfollowed := true, recurses := true, named := ["bytes.ErrTooLarge"], apart := false, laid := [("bytes.ErrTooLarge", laid_bytes_ErrTooLarge)], narrowed := true }
def FrontOnceUptoSaid : Prop := frontOnceUptoRow.holds Tryd.pinned (OpenSpec.upto frontOnceSpec)

/-- 'hypostylelaw13.FrontShares', WHERE WHAT IT READS IS OF BULK AT MOST 1048576: true; the input reads as it did. -/
def frontSharesUptoRow : OpenClaim := { program := "ytdclbhmmpdngpaadoor", sum := "41f20d68f8173b1dc0c2afad7791e142c11568b00cd97ed4a1c7d3b1d91540a7", func := "hypostyle/hypostylelaw13.FrontShares", spec := "frontShares", unfollowed := true, recurses := true, named := ["bytes.ErrTooLarge"], apart := false, laid := [("bytes.ErrTooLarge", laid_bytes_ErrTooLarge)], narrowed := true }
def FrontSharesUptoSaid : Prop := frontSharesUptoRow.holds Tryd.pinned (OpenSpec.upto frontSharesSpec)

end Rows
end Go.Proofs.YtdclbhmmpdngpaaDoor
