/-
  No cell of these rows narrows 'for every input' (looked for: loops, veiled, ifaces, maps, wideKeys, modest, calm, conditions, laid).
  DERIVED. THE GIVEN ROWS OF THIS SEAT. 11 by the template 'for every input the law returns true; each argument reads behind the call as it read before'; 0 by the template 'total and deterministic' (their statements: YtllidfhdklfkmaaTotals.lean).
  GIVEN WITH THE SEED: the statements are not yours to turn. If you find one false, say at which input.
  Laid BY PROGRAM, IN A SANDBOX (cutbox-rows.mjs): the forced cells as the released guide's own fill.sh prints them over the translation 5fda0d3045f7f485… (all of the seat's roots in one cut). By AI agents, Wed Nov 11 2026. No macro, syntax, notation, axiom, sorry.
-/
import Derived.Test.YtllidfhdklfkmaaChecked
import GoSem.Claim
import GoSem.ClaimJoined
import GoSem.ClaimMapViews
import Derived.JoinedTies
import Derived.KernelRfl
namespace Go.Proofs.Ytllidfhdklfkmaa
/- THE CELL 'sum', in the pinned program and in every row, IS THE sha256 OF THE DUMP (.gsa) THAT YtllidfhdklfkmaaProg.lean LOADS. Nothing in Lean hashes anything: it is a label: what it is worth is what the hold of that sum in a sandbox is worth. -/
noncomputable def Try.pinned : Pinned := { name := "ytllidfhdklfkmaa", sum := "5fda0d3045f7f485ccb47a0ca3800d2da0909e4a824acc43830287398b415b29", checked := Try.checked }
namespace Rows
def none {H : Type} : Left H := { results := [], args := [] }

/-- 'hypostylelaw04.VarintPuts': WHATEVER THE INPUT: true; the input reads as it did. -/
def varintPutsSpec : ChangeSpec := { name := "varintPuts", fn := fun _ => fun
  | [d1, d2, d3] => { results := [.lit (.bool true)], args := [d1, d2, d3] }
  | _ => none }
def varintPutsRow : OpenClaim := { program := "ytllidfhdklfkmaa", sum := "5fda0d3045f7f485ccb47a0ca3800d2da0909e4a824acc43830287398b415b29", func := "hypostyle/hypostylelaw04.VarintPuts", spec := "varintPuts", apart := false }
def VarintPutsSaid : Prop := varintPutsRow.holds Try.pinned (OpenSpec.ofChange varintPutsSpec)

/-- ITS FALSE NEIGHBOUR: 'it returns false'. Refute it at one input. -/
def varintPutsWrong : ChangeSpec := { name := "varintPuts", fn := fun _ => fun
  | [d1, d2, d3] => { results := [.lit (.bool false)], args := [d1, d2, d3] }
  | _ => none }
def VarintPutsWrongFalsely : Prop := varintPutsRow.holds Try.pinned (OpenSpec.ofChange varintPutsWrong)

/-- 'hypostylelaw04.VarintBack': WHATEVER THE INPUT: true; the input reads as it did. -/
def varintBackSpec : ChangeSpec := { name := "varintBack", fn := fun _ => fun
  | [d] => { results := [.lit (.bool true)], args := [d] }
  | _ => none }
def varintBackRow : OpenClaim := { program := "ytllidfhdklfkmaa", sum := "5fda0d3045f7f485ccb47a0ca3800d2da0909e4a824acc43830287398b415b29", func := "hypostyle/hypostylelaw04.VarintBack", spec := "varintBack", apart := false }
def VarintBackSaid : Prop := varintBackRow.holds Try.pinned (OpenSpec.ofChange varintBackSpec)

/-- ITS FALSE NEIGHBOUR: 'it returns false'. Refute it at one input. -/
def varintBackWrong : ChangeSpec := { name := "varintBack", fn := fun _ => fun
  | [d] => { results := [.lit (.bool false)], args := [d] }
  | _ => none }
def VarintBackWrongFalsely : Prop := varintBackRow.holds Try.pinned (OpenSpec.ofChange varintBackWrong)

/-- 'hypostylelaw04.VarintZigs': WHATEVER THE INPUT: true; the input reads as it did. -/
def varintZigsSpec : ChangeSpec := { name := "varintZigs", fn := fun _ => fun
  | [d1, d2] => { results := [.lit (.bool true)], args := [d1, d2] }
  | _ => none }
def varintZigsRow : OpenClaim := { program := "ytllidfhdklfkmaa", sum := "5fda0d3045f7f485ccb47a0ca3800d2da0909e4a824acc43830287398b415b29", func := "hypostyle/hypostylelaw04.VarintZigs", spec := "varintZigs", apart := false }
def VarintZigsSaid : Prop := varintZigsRow.holds Try.pinned (OpenSpec.ofChange varintZigsSpec)

/-- ITS FALSE NEIGHBOUR: 'it returns false'. Refute it at one input. -/
def varintZigsWrong : ChangeSpec := { name := "varintZigs", fn := fun _ => fun
  | [d1, d2] => { results := [.lit (.bool false)], args := [d1, d2] }
  | _ => none }
def VarintZigsWrongFalsely : Prop := varintZigsRow.holds Try.pinned (OpenSpec.ofChange varintZigsWrong)

/-- 'hypostylelaw04.VarintOrder': WHATEVER THE INPUT: true; the input reads as it did. -/
def varintOrderSpec : ChangeSpec := { name := "varintOrder", fn := fun _ => fun
  | [d1, d2] => { results := [.lit (.bool true)], args := [d1, d2] }
  | _ => none }
def varintOrderRow : OpenClaim := { program := "ytllidfhdklfkmaa", sum := "5fda0d3045f7f485ccb47a0ca3800d2da0909e4a824acc43830287398b415b29", func := "hypostyle/hypostylelaw04.VarintOrder", spec := "varintOrder", apart := false }
def VarintOrderSaid : Prop := varintOrderRow.holds Try.pinned (OpenSpec.ofChange varintOrderSpec)

/-- ITS FALSE NEIGHBOUR: 'it returns false'. Refute it at one input. -/
def varintOrderWrong : ChangeSpec := { name := "varintOrder", fn := fun _ => fun
  | [d1, d2] => { results := [.lit (.bool false)], args := [d1, d2] }
  | _ => none }
def VarintOrderWrongFalsely : Prop := varintOrderRow.holds Try.pinned (OpenSpec.ofChange varintOrderWrong)

/-- 'hypostylelaw04.VarintGets': WHATEVER THE INPUT: true; the input reads as it did. -/
def varintGetsSpec : ChangeSpec := { name := "varintGets", fn := fun _ => fun
  | [d1, d2] => { results := [.lit (.bool true)], args := [d1, d2] }
  | _ => none }
def varintGetsRow : OpenClaim := { program := "ytllidfhdklfkmaa", sum := "5fda0d3045f7f485ccb47a0ca3800d2da0909e4a824acc43830287398b415b29", func := "hypostyle/hypostylelaw04.VarintGets", spec := "varintGets", apart := false }
def VarintGetsSaid : Prop := varintGetsRow.holds Try.pinned (OpenSpec.ofChange varintGetsSpec)

/-- ITS FALSE NEIGHBOUR: 'it returns false'. Refute it at one input. -/
def varintGetsWrong : ChangeSpec := { name := "varintGets", fn := fun _ => fun
  | [d1, d2] => { results := [.lit (.bool false)], args := [d1, d2] }
  | _ => none }
def VarintGetsWrongFalsely : Prop := varintGetsRow.holds Try.pinned (OpenSpec.ofChange varintGetsWrong)

/-- 'hypostylelaw04.VarintOnce': WHATEVER THE INPUT: true; the input reads as it did. -/
def varintOnceSpec : ChangeSpec := { name := "varintOnce", fn := fun _ => fun
  | [d] => { results := [.lit (.bool true)], args := [d] }
  | _ => none }
def varintOnceRow : OpenClaim := { program := "ytllidfhdklfkmaa", sum := "5fda0d3045f7f485ccb47a0ca3800d2da0909e4a824acc43830287398b415b29", func := "hypostyle/hypostylelaw04.VarintOnce", spec := "varintOnce", apart := false }
def VarintOnceSaid : Prop := varintOnceRow.holds Try.pinned (OpenSpec.ofChange varintOnceSpec)

/-- ITS FALSE NEIGHBOUR: 'it returns false'. Refute it at one input. -/
def varintOnceWrong : ChangeSpec := { name := "varintOnce", fn := fun _ => fun
  | [d] => { results := [.lit (.bool false)], args := [d] }
  | _ => none }
def VarintOnceWrongFalsely : Prop := varintOnceRow.holds Try.pinned (OpenSpec.ofChange varintOnceWrong)

/-- 'hypostylelaw16.SchemaPuts': WHATEVER THE INPUT: true; the input reads as it did. -/
def schemaPutsSpec : ChangeSpec := { name := "schemaPuts", fn := fun _ => fun
  | [d1, d2] => { results := [.lit (.bool true)], args := [d1, d2] }
  | _ => none }
def schemaPutsRow : OpenClaim := { program := "ytllidfhdklfkmaa", sum := "5fda0d3045f7f485ccb47a0ca3800d2da0909e4a824acc43830287398b415b29", func := "hypostyle/hypostylelaw16.SchemaPuts", spec := "schemaPuts", apart := false }
def SchemaPutsSaid : Prop := schemaPutsRow.holds Try.pinned (OpenSpec.ofChange schemaPutsSpec)

/-- ITS FALSE NEIGHBOUR: 'it returns false'. Refute it at one input. -/
def schemaPutsWrong : ChangeSpec := { name := "schemaPuts", fn := fun _ => fun
  | [d1, d2] => { results := [.lit (.bool false)], args := [d1, d2] }
  | _ => none }
def SchemaPutsWrongFalsely : Prop := schemaPutsRow.holds Try.pinned (OpenSpec.ofChange schemaPutsWrong)

/-- 'hypostylelaw16.SchemaTwice': WHATEVER THE INPUT: true; the input reads as it did. -/
def schemaTwiceSpec : ChangeSpec := { name := "schemaTwice", fn := fun _ => fun
  | [d1, d2, d3] => { results := [.lit (.bool true)], args := [d1, d2, d3] }
  | _ => none }
def schemaTwiceRow : OpenClaim := { program := "ytllidfhdklfkmaa", sum := "5fda0d3045f7f485ccb47a0ca3800d2da0909e4a824acc43830287398b415b29", func := "hypostyle/hypostylelaw16.SchemaTwice", spec := "schemaTwice", apart := false }
def SchemaTwiceSaid : Prop := schemaTwiceRow.holds Try.pinned (OpenSpec.ofChange schemaTwiceSpec)

/-- ITS FALSE NEIGHBOUR: 'it returns false'. Refute it at one input. -/
def schemaTwiceWrong : ChangeSpec := { name := "schemaTwice", fn := fun _ => fun
  | [d1, d2, d3] => { results := [.lit (.bool false)], args := [d1, d2, d3] }
  | _ => none }
def SchemaTwiceWrongFalsely : Prop := schemaTwiceRow.holds Try.pinned (OpenSpec.ofChange schemaTwiceWrong)

/-- 'hypostylelaw16.SchemaGets': WHATEVER THE INPUT: true; the input reads as it did. -/
def schemaGetsSpec : ChangeSpec := { name := "schemaGets", fn := fun _ => fun
  | [d] => { results := [.lit (.bool true)], args := [d] }
  | _ => none }
def schemaGetsRow : OpenClaim := { program := "ytllidfhdklfkmaa", sum := "5fda0d3045f7f485ccb47a0ca3800d2da0909e4a824acc43830287398b415b29", func := "hypostyle/hypostylelaw16.SchemaGets", spec := "schemaGets", apart := false }
def SchemaGetsSaid : Prop := schemaGetsRow.holds Try.pinned (OpenSpec.ofChange schemaGetsSpec)

/-- ITS FALSE NEIGHBOUR: 'it returns false'. Refute it at one input. -/
def schemaGetsWrong : ChangeSpec := { name := "schemaGets", fn := fun _ => fun
  | [d] => { results := [.lit (.bool false)], args := [d] }
  | _ => none }
def SchemaGetsWrongFalsely : Prop := schemaGetsRow.holds Try.pinned (OpenSpec.ofChange schemaGetsWrong)

/-- 'hypostylelaw16.SchemaBack': WHATEVER THE INPUT: true; the input reads as it did. -/
def schemaBackSpec : ChangeSpec := { name := "schemaBack", fn := fun _ => fun
  | [d1, d2] => { results := [.lit (.bool true)], args := [d1, d2] }
  | _ => none }
def schemaBackRow : OpenClaim := { program := "ytllidfhdklfkmaa", sum := "5fda0d3045f7f485ccb47a0ca3800d2da0909e4a824acc43830287398b415b29", func := "hypostyle/hypostylelaw16.SchemaBack", spec := "schemaBack", apart := false }
def SchemaBackSaid : Prop := schemaBackRow.holds Try.pinned (OpenSpec.ofChange schemaBackSpec)

/-- ITS FALSE NEIGHBOUR: 'it returns false'. Refute it at one input. -/
def schemaBackWrong : ChangeSpec := { name := "schemaBack", fn := fun _ => fun
  | [d1, d2] => { results := [.lit (.bool false)], args := [d1, d2] }
  | _ => none }
def SchemaBackWrongFalsely : Prop := schemaBackRow.holds Try.pinned (OpenSpec.ofChange schemaBackWrong)

/-- 'hypostylelaw16.SchemaOnce': WHATEVER THE INPUT: true; the input reads as it did. -/
def schemaOnceSpec : ChangeSpec := { name := "schemaOnce", fn := fun _ => fun
  | [d] => { results := [.lit (.bool true)], args := [d] }
  | _ => none }
def schemaOnceRow : OpenClaim := { program := "ytllidfhdklfkmaa", sum := "5fda0d3045f7f485ccb47a0ca3800d2da0909e4a824acc43830287398b415b29", func := "hypostyle/hypostylelaw16.SchemaOnce", spec := "schemaOnce", apart := false }
def SchemaOnceSaid : Prop := schemaOnceRow.holds Try.pinned (OpenSpec.ofChange schemaOnceSpec)

/-- ITS FALSE NEIGHBOUR: 'it returns false'. Refute it at one input. -/
def schemaOnceWrong : ChangeSpec := { name := "schemaOnce", fn := fun _ => fun
  | [d] => { results := [.lit (.bool false)], args := [d] }
  | _ => none }
def SchemaOnceWrongFalsely : Prop := schemaOnceRow.holds Try.pinned (OpenSpec.ofChange schemaOnceWrong)

/- THE SECOND FORM. 'bulk': how many values and letters a reading holds, each counted each time it is reached (what is shared counts as often as it is met; a slice's spare places count too). A statement '..UptoSaid' is the law's where the arguments, and the package variables that the reading takes, are together of bulk at most 1048576: NARROWER than '..Said'. Prove '..Said' where nothing that the law and all that it calls make is longer than what came in: it says more and counts as full. Else prove '..UptoSaid'. A law counts once. -/
mutual
def uptoBulk {H : Type} : DataW H → Nat
  | .lit (.string bytes) => bytes.length + 1
  | .lit _ => 1
  | .nil => 1
  | .ptr d => uptoBulk d + 1
  | .slice elems spare => uptoBulkAll elems + uptoBulkAll spare + 1
  | .agg parts => uptoBulkAll parts + 1
  | .iface _ d => uptoBulk d + 1
  | .map entries => uptoBulkEntries entries + 1
  | .held _ => 1
def uptoBulkAll {H : Type} : List (DataW H) → Nat
  | [] => 0
  | d :: r => uptoBulk d + uptoBulkAll r
def uptoBulkEntries {H : Type} : List (Lit × DataW H) → Nat
  | [] => 0
  | x :: r => uptoBulkEntry x + uptoBulkEntries r
def uptoBulkEntry {H : Type} : Lit × DataW H → Nat
  | (.string bytes, d) => bytes.length + uptoBulk d + 1
  | (_, d) => uptoBulk d + 1
 end
def uptoSmall : (H : Type) → List (DataW H) → Bool := fun _ ds => decide (uptoBulkAll ds ≤ 1048576)
def OpenSpec.upto (s : _root_.Go.ChangeSpec) : _root_.Go.OpenSpec := { _root_.Go.OpenSpec.ofChange s with cond := some uptoSmall }

/-- 'hypostylelaw04.VarintPuts', WHERE WHAT IT READS IS OF BULK AT MOST 1048576: true; the input reads as it did. -/
def varintPutsUptoRow : OpenClaim := { program := "ytllidfhdklfkmaa", sum := "5fda0d3045f7f485ccb47a0ca3800d2da0909e4a824acc43830287398b415b29", func := "hypostyle/hypostylelaw04.VarintPuts", spec := "varintPuts", apart := false, narrowed := true }
def VarintPutsUptoSaid : Prop := varintPutsUptoRow.holds Try.pinned (OpenSpec.upto varintPutsSpec)

/-- 'hypostylelaw04.VarintBack', WHERE WHAT IT READS IS OF BULK AT MOST 1048576: true; the input reads as it did. -/
def varintBackUptoRow : OpenClaim := { program := "ytllidfhdklfkmaa", sum := "5fda0d3045f7f485ccb47a0ca3800d2da0909e4a824acc43830287398b415b29", func := "hypostyle/hypostylelaw04.VarintBack", spec := "varintBack", apart := false, narrowed := true }
def VarintBackUptoSaid : Prop := varintBackUptoRow.holds Try.pinned (OpenSpec.upto varintBackSpec)

/-- 'hypostylelaw04.VarintZigs', WHERE WHAT IT READS IS OF BULK AT MOST 1048576: true; the input reads as it did. -/
def varintZigsUptoRow : OpenClaim := { program := "ytllidfhdklfkmaa", sum := "5fda0d3045f7f485ccb47a0ca3800d2da0909e4a824acc43830287398b415b29", func := "hypostyle/hypostylelaw04.VarintZigs", spec := "varintZigs", apart := false, narrowed := true }
def VarintZigsUptoSaid : Prop := varintZigsUptoRow.holds Try.pinned (OpenSpec.upto varintZigsSpec)

/-- 'hypostylelaw04.VarintOrder', WHERE WHAT IT READS IS OF BULK AT MOST 1048576: true; the input reads as it did. -/
def varintOrderUptoRow : OpenClaim := { program := "ytllidfhdklfkmaa", sum := "5fda0d3045f7f485ccb47a0ca3800d2da0909e4a824acc43830287398b415b29", func := "hypostyle/hypostylelaw04.VarintOrder", spec := "varintOrder", apart := false, narrowed := true }
def VarintOrderUptoSaid : Prop := varintOrderUptoRow.holds Try.pinned (OpenSpec.upto varintOrderSpec)

/-- 'hypostylelaw04.VarintGets', WHERE WHAT IT READS IS OF BULK AT MOST 1048576: true; the input reads as it did. -/
def varintGetsUptoRow : OpenClaim := { program := "ytllidfhdklfkmaa", sum := "5fda0d3045f7f485ccb47a0ca3800d2da0909e4a824acc43830287398b415b29", func := "hypostyle/hypostylelaw04.VarintGets", spec := "varintGets", apart := false, narrowed := true }
def VarintGetsUptoSaid : Prop := varintGetsUptoRow.holds Try.pinned (OpenSpec.upto varintGetsSpec)

/-- 'hypostylelaw04.VarintOnce', WHERE WHAT IT READS IS OF BULK AT MOST 1048576: true; the input reads as it did. -/
def varintOnceUptoRow : OpenClaim := { program := "ytllidfhdklfkmaa", sum := "5fda0d3045f7f485ccb47a0ca3800d2da0909e4a824acc43830287398b415b29", func := "hypostyle/hypostylelaw04.VarintOnce", spec := "varintOnce", apart := false, narrowed := true }
def VarintOnceUptoSaid : Prop := varintOnceUptoRow.holds Try.pinned (OpenSpec.upto varintOnceSpec)

/-- 'hypostylelaw16.SchemaPuts', WHERE WHAT IT READS IS OF BULK AT MOST 1048576: true; the input reads as it did. -/
def schemaPutsUptoRow : OpenClaim := { program := "ytllidfhdklfkmaa", sum := "5fda0d3045f7f485ccb47a0ca3800d2da0909e4a824acc43830287398b415b29", func := "hypostyle/hypostylelaw16.SchemaPuts", spec := "schemaPuts", apart := false, narrowed := true }
def SchemaPutsUptoSaid : Prop := schemaPutsUptoRow.holds Try.pinned (OpenSpec.upto schemaPutsSpec)

/-- 'hypostylelaw16.SchemaTwice', WHERE WHAT IT READS IS OF BULK AT MOST 1048576: true; the input reads as it did. -/
def schemaTwiceUptoRow : OpenClaim := { program := "ytllidfhdklfkmaa", sum := "5fda0d3045f7f485ccb47a0ca3800d2da0909e4a824acc43830287398b415b29", func := "hypostyle/hypostylelaw16.SchemaTwice", spec := "schemaTwice", apart := false, narrowed := true }
def SchemaTwiceUptoSaid : Prop := schemaTwiceUptoRow.holds Try.pinned (OpenSpec.upto schemaTwiceSpec)

/-- 'hypostylelaw16.SchemaGets', WHERE WHAT IT READS IS OF BULK AT MOST 1048576: true; the input reads as it did. -/
def schemaGetsUptoRow : OpenClaim := { program := "ytllidfhdklfkmaa", sum := "5fda0d3045f7f485ccb47a0ca3800d2da0909e4a824acc43830287398b415b29", func := "hypostyle/hypostylelaw16.SchemaGets", spec := "schemaGets", apart := false, narrowed := true }
def SchemaGetsUptoSaid : Prop := schemaGetsUptoRow.holds Try.pinned (OpenSpec.upto schemaGetsSpec)

/-- 'hypostylelaw16.SchemaBack', WHERE WHAT IT READS IS OF BULK AT MOST 1048576: true; the input reads as it did. -/
def schemaBackUptoRow : OpenClaim := { program := "ytllidfhdklfkmaa", sum := "5fda0d3045f7f485ccb47a0ca3800d2da0909e4a824acc43830287398b415b29", func := "hypostyle/hypostylelaw16.SchemaBack", spec := "schemaBack", apart := false, narrowed := true }
def SchemaBackUptoSaid : Prop := schemaBackUptoRow.holds Try.pinned (OpenSpec.upto schemaBackSpec)

/-- 'hypostylelaw16.SchemaOnce', WHERE WHAT IT READS IS OF BULK AT MOST 1048576: true; the input reads as it did. -/
def schemaOnceUptoRow : OpenClaim := { program := "ytllidfhdklfkmaa", sum := "5fda0d3045f7f485ccb47a0ca3800d2da0909e4a824acc43830287398b415b29", func := "hypostyle/hypostylelaw16.SchemaOnce", spec := "schemaOnce", apart := false, narrowed := true }
def SchemaOnceUptoSaid : Prop := schemaOnceUptoRow.holds Try.pinned (OpenSpec.upto schemaOnceSpec)

end Rows
end Go.Proofs.Ytllidfhdklfkmaa
