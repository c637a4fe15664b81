/-
  No cell of these rows narrows 'for every input' (looked for: loops, veiled, ifaces, maps, wideKeys, modest, calm, conditions, laid).
  DERIVED. THE GIVEN ROWS OF THIS SEAT. 11 by the template 'for every input the law returns true; each argument reads behind the call as it read before'; 0 by the template 'total and deterministic' (their statements: YtfodlkofjmbolaaTotals.lean).
  GIVEN WITH THE SEED: the statements are not yours to turn. If you find one false, say at which input.
  Laid BY PROGRAM, IN A SANDBOX (cutbox-rows.mjs): the forced cells as the released guide's own fill.sh prints them over the translation 5f5bf2ed55ca16db… (all of the seat's roots in one cut). By AI agents, Wed Nov 11 2026. No macro, syntax, notation, axiom, sorry.
-/
import Derived.Test.YtfodlkofjmbolaaChecked
import GoSem.Claim
import GoSem.ClaimJoined
import GoSem.ClaimMapViews
import Derived.JoinedTies
import Derived.KernelRfl
namespace Go.Proofs.Ytfodlkofjmbolaa
/- THE CELL 'sum', in the pinned program and in every row, IS THE sha256 OF THE DUMP (.gsa) THAT YtfodlkofjmbolaaProg.lean LOADS. Nothing in Lean hashes anything: it is a label: what it is worth is what the hold of that sum in a sandbox is worth. -/
noncomputable def Try.pinned : Pinned := { name := "ytfodlkofjmbolaa", sum := "5f5bf2ed55ca16dbf47edff3d7ee8d9edb4e8321e20411f34e9647f09af66ab3", checked := Try.checked }
namespace Rows
def none {H : Type} : Left H := { results := [], args := [] }

/-- 'hypostylelaw01.ShaSums': WHATEVER THE INPUT: true; the input reads as it did. -/
def shaSumsSpec : ChangeSpec := { name := "shaSums", fn := fun _ => fun
  | [d] => { results := [.lit (.bool true)], args := [d] }
  | _ => none }
def shaSumsRow : OpenClaim := { program := "ytfodlkofjmbolaa", sum := "5f5bf2ed55ca16dbf47edff3d7ee8d9edb4e8321e20411f34e9647f09af66ab3", func := "hypostyle/hypostylelaw01.ShaSums", spec := "shaSums", plainKeys := false, apart := false }
def ShaSumsSaid : Prop := shaSumsRow.holds Try.pinned (OpenSpec.ofChange shaSumsSpec)

/-- ITS FALSE NEIGHBOUR: 'it returns false'. Refute it at one input. -/
def shaSumsWrong : ChangeSpec := { name := "shaSums", fn := fun _ => fun
  | [d] => { results := [.lit (.bool false)], args := [d] }
  | _ => none }
def ShaSumsWrongFalsely : Prop := shaSumsRow.holds Try.pinned (OpenSpec.ofChange shaSumsWrong)

/-- 'hypostylelaw01.ShaSteps': WHATEVER THE INPUT: true; the input reads as it did. -/
def shaStepsSpec : ChangeSpec := { name := "shaSteps", fn := fun _ => fun
  | [d1, d2] => { results := [.lit (.bool true)], args := [d1, d2] }
  | _ => none }
def shaStepsRow : OpenClaim := { program := "ytfodlkofjmbolaa", sum := "5f5bf2ed55ca16dbf47edff3d7ee8d9edb4e8321e20411f34e9647f09af66ab3", func := "hypostyle/hypostylelaw01.ShaSteps", spec := "shaSteps", plainKeys := false, apart := false }
def ShaStepsSaid : Prop := shaStepsRow.holds Try.pinned (OpenSpec.ofChange shaStepsSpec)

/-- ITS FALSE NEIGHBOUR: 'it returns false'. Refute it at one input. -/
def shaStepsWrong : ChangeSpec := { name := "shaSteps", fn := fun _ => fun
  | [d1, d2] => { results := [.lit (.bool false)], args := [d1, d2] }
  | _ => none }
def ShaStepsWrongFalsely : Prop := shaStepsRow.holds Try.pinned (OpenSpec.ofChange shaStepsWrong)

/-- 'hypostylelaw01.ShaPads': WHATEVER THE INPUT: true; the input reads as it did. -/
def shaPadsSpec : ChangeSpec := { name := "shaPads", fn := fun _ => fun
  | [d] => { results := [.lit (.bool true)], args := [d] }
  | _ => none }
def shaPadsRow : OpenClaim := { program := "ytfodlkofjmbolaa", sum := "5f5bf2ed55ca16dbf47edff3d7ee8d9edb4e8321e20411f34e9647f09af66ab3", func := "hypostyle/hypostylelaw01.ShaPads", spec := "shaPads", plainKeys := false, apart := false }
def ShaPadsSaid : Prop := shaPadsRow.holds Try.pinned (OpenSpec.ofChange shaPadsSpec)

/-- ITS FALSE NEIGHBOUR: 'it returns false'. Refute it at one input. -/
def shaPadsWrong : ChangeSpec := { name := "shaPads", fn := fun _ => fun
  | [d] => { results := [.lit (.bool false)], args := [d] }
  | _ => none }
def ShaPadsWrongFalsely : Prop := shaPadsRow.holds Try.pinned (OpenSpec.ofChange shaPadsWrong)

/-- 'hypostylelaw01.ShaBlocks': WHATEVER THE INPUT: true; the input reads as it did. -/
def shaBlocksSpec : ChangeSpec := { name := "shaBlocks", fn := fun _ => fun
  | [d] => { results := [.lit (.bool true)], args := [d] }
  | _ => none }
def shaBlocksRow : OpenClaim := { program := "ytfodlkofjmbolaa", sum := "5f5bf2ed55ca16dbf47edff3d7ee8d9edb4e8321e20411f34e9647f09af66ab3", func := "hypostyle/hypostylelaw01.ShaBlocks", spec := "shaBlocks", plainKeys := false, apart := false }
def ShaBlocksSaid : Prop := shaBlocksRow.holds Try.pinned (OpenSpec.ofChange shaBlocksSpec)

/-- ITS FALSE NEIGHBOUR: 'it returns false'. Refute it at one input. -/
def shaBlocksWrong : ChangeSpec := { name := "shaBlocks", fn := fun _ => fun
  | [d] => { results := [.lit (.bool false)], args := [d] }
  | _ => none }
def ShaBlocksWrongFalsely : Prop := shaBlocksRow.holds Try.pinned (OpenSpec.ofChange shaBlocksWrong)

/-- 'hypostylelaw01.ShaLong': WHATEVER THE INPUT: true; the input reads as it did. -/
def shaLongSpec : ChangeSpec := { name := "shaLong", fn := fun _ => fun
  | [d1, d2] => { results := [.lit (.bool true)], args := [d1, d2] }
  | _ => none }
def shaLongRow : OpenClaim := { program := "ytfodlkofjmbolaa", sum := "5f5bf2ed55ca16dbf47edff3d7ee8d9edb4e8321e20411f34e9647f09af66ab3", func := "hypostyle/hypostylelaw01.ShaLong", spec := "shaLong", plainKeys := false, apart := false }
def ShaLongSaid : Prop := shaLongRow.holds Try.pinned (OpenSpec.ofChange shaLongSpec)

/-- ITS FALSE NEIGHBOUR: 'it returns false'. Refute it at one input. -/
def shaLongWrong : ChangeSpec := { name := "shaLong", fn := fun _ => fun
  | [d1, d2] => { results := [.lit (.bool false)], args := [d1, d2] }
  | _ => none }
def ShaLongWrongFalsely : Prop := shaLongRow.holds Try.pinned (OpenSpec.ofChange shaLongWrong)

/-- 'hypostylelaw02.TagFrames': WHATEVER THE INPUT: true; the input reads as it did. -/
def tagFramesSpec : ChangeSpec := { name := "tagFrames", fn := fun _ => fun
  | [d1, d2, d3] => { results := [.lit (.bool true)], args := [d1, d2, d3] }
  | _ => none }
def tagFramesRow : OpenClaim := { program := "ytfodlkofjmbolaa", sum := "5f5bf2ed55ca16dbf47edff3d7ee8d9edb4e8321e20411f34e9647f09af66ab3", func := "hypostyle/hypostylelaw02.TagFrames", spec := "tagFrames", plainKeys := false, apart := false }
def TagFramesSaid : Prop := tagFramesRow.holds Try.pinned (OpenSpec.ofChange tagFramesSpec)

/-- ITS FALSE NEIGHBOUR: 'it returns false'. Refute it at one input. -/
def tagFramesWrong : ChangeSpec := { name := "tagFrames", fn := fun _ => fun
  | [d1, d2, d3] => { results := [.lit (.bool false)], args := [d1, d2, d3] }
  | _ => none }
def TagFramesWrongFalsely : Prop := tagFramesRow.holds Try.pinned (OpenSpec.ofChange tagFramesWrong)

/-- 'hypostylelaw02.TagBack': WHATEVER THE INPUT: true; the input reads as it did. -/
def tagBackSpec : ChangeSpec := { name := "tagBack", fn := fun _ => fun
  | [d1, d2, d3] => { results := [.lit (.bool true)], args := [d1, d2, d3] }
  | _ => none }
def tagBackRow : OpenClaim := { program := "ytfodlkofjmbolaa", sum := "5f5bf2ed55ca16dbf47edff3d7ee8d9edb4e8321e20411f34e9647f09af66ab3", func := "hypostyle/hypostylelaw02.TagBack", spec := "tagBack", plainKeys := false, apart := false }
def TagBackSaid : Prop := tagBackRow.holds Try.pinned (OpenSpec.ofChange tagBackSpec)

/-- ITS FALSE NEIGHBOUR: 'it returns false'. Refute it at one input. -/
def tagBackWrong : ChangeSpec := { name := "tagBack", fn := fun _ => fun
  | [d1, d2, d3] => { results := [.lit (.bool false)], args := [d1, d2, d3] }
  | _ => none }
def TagBackWrongFalsely : Prop := tagBackRow.holds Try.pinned (OpenSpec.ofChange tagBackWrong)

/-- 'hypostylelaw02.TagLogs': WHATEVER THE INPUT: true; the input reads as it did. -/
def tagLogsSpec : ChangeSpec := { name := "tagLogs", fn := fun _ => fun
  | [d] => { results := [.lit (.bool true)], args := [d] }
  | _ => none }
def tagLogsRow : OpenClaim := { program := "ytfodlkofjmbolaa", sum := "5f5bf2ed55ca16dbf47edff3d7ee8d9edb4e8321e20411f34e9647f09af66ab3", func := "hypostyle/hypostylelaw02.TagLogs", spec := "tagLogs", plainKeys := false, apart := false }
def TagLogsSaid : Prop := tagLogsRow.holds Try.pinned (OpenSpec.ofChange tagLogsSpec)

/-- ITS FALSE NEIGHBOUR: 'it returns false'. Refute it at one input. -/
def tagLogsWrong : ChangeSpec := { name := "tagLogs", fn := fun _ => fun
  | [d] => { results := [.lit (.bool false)], args := [d] }
  | _ => none }
def TagLogsWrongFalsely : Prop := tagLogsRow.holds Try.pinned (OpenSpec.ofChange tagLogsWrong)

/-- 'hypostylelaw02.TagExtracts': WHATEVER THE INPUT: true; the input reads as it did. -/
def tagExtractsSpec : ChangeSpec := { name := "tagExtracts", fn := fun _ => fun
  | [d1, d2] => { results := [.lit (.bool true)], args := [d1, d2] }
  | _ => none }
def tagExtractsRow : OpenClaim := { program := "ytfodlkofjmbolaa", sum := "5f5bf2ed55ca16dbf47edff3d7ee8d9edb4e8321e20411f34e9647f09af66ab3", func := "hypostyle/hypostylelaw02.TagExtracts", spec := "tagExtracts", plainKeys := false, apart := false }
def TagExtractsSaid : Prop := tagExtractsRow.holds Try.pinned (OpenSpec.ofChange tagExtractsSpec)

/-- ITS FALSE NEIGHBOUR: 'it returns false'. Refute it at one input. -/
def tagExtractsWrong : ChangeSpec := { name := "tagExtracts", fn := fun _ => fun
  | [d1, d2] => { results := [.lit (.bool false)], args := [d1, d2] }
  | _ => none }
def TagExtractsWrongFalsely : Prop := tagExtractsRow.holds Try.pinned (OpenSpec.ofChange tagExtractsWrong)

/-- 'hypostylelaw02.TagApart': WHATEVER THE INPUT: true; the input reads as it did. -/
def tagApartSpec : ChangeSpec := { name := "tagApart", fn := fun _ => fun
  | [d1, d2] => { results := [.lit (.bool true)], args := [d1, d2] }
  | _ => none }
def tagApartRow : OpenClaim := { program := "ytfodlkofjmbolaa", sum := "5f5bf2ed55ca16dbf47edff3d7ee8d9edb4e8321e20411f34e9647f09af66ab3", func := "hypostyle/hypostylelaw02.TagApart", spec := "tagApart", plainKeys := false, apart := false }
def TagApartSaid : Prop := tagApartRow.holds Try.pinned (OpenSpec.ofChange tagApartSpec)

/-- ITS FALSE NEIGHBOUR: 'it returns false'. Refute it at one input. -/
def tagApartWrong : ChangeSpec := { name := "tagApart", fn := fun _ => fun
  | [d1, d2] => { results := [.lit (.bool false)], args := [d1, d2] }
  | _ => none }
def TagApartWrongFalsely : Prop := tagApartRow.holds Try.pinned (OpenSpec.ofChange tagApartWrong)

/-- 'hypostylelaw02.TagMany': WHATEVER THE INPUT: true; the input reads as it did. -/
def tagManySpec : ChangeSpec := { name := "tagMany", fn := fun _ => fun
  | [d] => { results := [.lit (.bool true)], args := [d] }
  | _ => none }
def tagManyRow : OpenClaim := { program := "ytfodlkofjmbolaa", sum := "5f5bf2ed55ca16dbf47edff3d7ee8d9edb4e8321e20411f34e9647f09af66ab3", func := "hypostyle/hypostylelaw02.TagMany", spec := "tagMany", plainKeys := false, apart := false }
def TagManySaid : Prop := tagManyRow.holds Try.pinned (OpenSpec.ofChange tagManySpec)

/-- ITS FALSE NEIGHBOUR: 'it returns false'. Refute it at one input. -/
def tagManyWrong : ChangeSpec := { name := "tagMany", fn := fun _ => fun
  | [d] => { results := [.lit (.bool false)], args := [d] }
  | _ => none }
def TagManyWrongFalsely : Prop := tagManyRow.holds Try.pinned (OpenSpec.ofChange tagManyWrong)

/- THE SECOND FORM. 'bulk': how many values and letters a reading holds, each counted each time it is reached (what is shared counts as often as it is met; a slice's spare places count too). A statement '..UptoSaid' is the law's where the arguments, and the package variables that the reading takes, are together of bulk at most 1048576: NARROWER than '..Said'. Prove '..Said' where nothing that the law and all that it calls make is longer than what came in: it says more and counts as full. Else prove '..UptoSaid'. A law counts once. -/
mutual
def uptoBulk {H : Type} : DataW H → Nat
  | .lit (.string bytes) => bytes.length + 1
  | .lit _ => 1
  | .nil => 1
  | .ptr d => uptoBulk d + 1
  | .slice elems spare => uptoBulkAll elems + uptoBulkAll spare + 1
  | .agg parts => uptoBulkAll parts + 1
  | .iface _ d => uptoBulk d + 1
  | .map entries => uptoBulkEntries entries + 1
  | .held _ => 1
def uptoBulkAll {H : Type} : List (DataW H) → Nat
  | [] => 0
  | d :: r => uptoBulk d + uptoBulkAll r
def uptoBulkEntries {H : Type} : List (Lit × DataW H) → Nat
  | [] => 0
  | x :: r => uptoBulkEntry x + uptoBulkEntries r
def uptoBulkEntry {H : Type} : Lit × DataW H → Nat
  | (.string bytes, d) => bytes.length + uptoBulk d + 1
  | (_, d) => uptoBulk d + 1
 end
def uptoSmall : (H : Type) → List (DataW H) → Bool := fun _ ds => decide (uptoBulkAll ds ≤ 1048576)
def OpenSpec.upto (s : _root_.Go.ChangeSpec) : _root_.Go.OpenSpec := { _root_.Go.OpenSpec.ofChange s with cond := some uptoSmall }

/-- 'hypostylelaw01.ShaSums', WHERE WHAT IT READS IS OF BULK AT MOST 1048576: true; the input reads as it did. -/
def shaSumsUptoRow : OpenClaim := { program := "ytfodlkofjmbolaa", sum := "5f5bf2ed55ca16dbf47edff3d7ee8d9edb4e8321e20411f34e9647f09af66ab3", func := "hypostyle/hypostylelaw01.ShaSums", spec := "shaSums", plainKeys := false, apart := false, narrowed := true }
def ShaSumsUptoSaid : Prop := shaSumsUptoRow.holds Try.pinned (OpenSpec.upto shaSumsSpec)

/-- 'hypostylelaw01.ShaSteps', WHERE WHAT IT READS IS OF BULK AT MOST 1048576: true; the input reads as it did. -/
def shaStepsUptoRow : OpenClaim := { program := "ytfodlkofjmbolaa", sum := "5f5bf2ed55ca16dbf47edff3d7ee8d9edb4e8321e20411f34e9647f09af66ab3", func := "hypostyle/hypostylelaw01.ShaSteps", spec := "shaSteps", plainKeys := false, apart := false, narrowed := true }
def ShaStepsUptoSaid : Prop := shaStepsUptoRow.holds Try.pinned (OpenSpec.upto shaStepsSpec)

/-- 'hypostylelaw01.ShaPads', WHERE WHAT IT READS IS OF BULK AT MOST 1048576: true; the input reads as it did. -/
def shaPadsUptoRow : OpenClaim := { program := "ytfodlkofjmbolaa", sum := "5f5bf2ed55ca16dbf47edff3d7ee8d9edb4e8321e20411f34e9647f09af66ab3", func := "hypostyle/hypostylelaw01.ShaPads", spec := "shaPads", plainKeys := false, apart := false, narrowed := true }
def ShaPadsUptoSaid : Prop := shaPadsUptoRow.holds Try.pinned (OpenSpec.upto shaPadsSpec)

/-- 'hypostylelaw01.ShaBlocks', WHERE WHAT IT READS IS OF BULK AT MOST 1048576: true; the input reads as it did. -/
def shaBlocksUptoRow : OpenClaim := { program := "ytfodlkofjmbolaa", sum := "5f5bf2ed55ca16dbf47edff3d7ee8d9edb4e8321e20411f34e9647f09af66ab3", func := "hypostyle/hypostylelaw01.ShaBlocks", spec := "shaBlocks", plainKeys := false, apart := false, narrowed := true }
def ShaBlocksUptoSaid : Prop := shaBlocksUptoRow.holds Try.pinned (OpenSpec.upto shaBlocksSpec)

/-- 'hypostylelaw01.ShaLong', WHERE WHAT IT READS IS OF BULK AT MOST 1048576: true; the input reads as it did. -/
def shaLongUptoRow : OpenClaim := { program := "ytfodlkofjmbolaa", sum := "5f5bf2ed55ca16dbf47edff3d7ee8d9edb4e8321e20411f34e9647f09af66ab3", func := "hypostyle/hypostylelaw01.ShaLong", spec := "shaLong", plainKeys := false, apart := false, narrowed := true }
def ShaLongUptoSaid : Prop := shaLongUptoRow.holds Try.pinned (OpenSpec.upto shaLongSpec)

/-- 'hypostylelaw02.TagFrames', WHERE WHAT IT READS IS OF BULK AT MOST 1048576: true; the input reads as it did. -/
def tagFramesUptoRow : OpenClaim := { program := "ytfodlkofjmbolaa", sum := "5f5bf2ed55ca16dbf47edff3d7ee8d9edb4e8321e20411f34e9647f09af66ab3", func := "hypostyle/hypostylelaw02.TagFrames", spec := "tagFrames", plainKeys := false, apart := false, narrowed := true }
def TagFramesUptoSaid : Prop := tagFramesUptoRow.holds Try.pinned (OpenSpec.upto tagFramesSpec)

/-- 'hypostylelaw02.TagBack', WHERE WHAT IT READS IS OF BULK AT MOST 1048576: true; the input reads as it did. -/
def tagBackUptoRow : OpenClaim := { program := "ytfodlkofjmbolaa", sum := "5f5bf2ed55ca16dbf47edff3d7ee8d9edb4e8321e20411f34e9647f09af66ab3", func := "hypostyle/hypostylelaw02.TagBack", spec := "tagBack", plainKeys := false, apart := false, narrowed := true }
def TagBackUptoSaid : Prop := tagBackUptoRow.holds Try.pinned (OpenSpec.upto tagBackSpec)

/-- 'hypostylelaw02.TagLogs', WHERE WHAT IT READS IS OF BULK AT MOST 1048576: true; the input reads as it did. -/
def tagLogsUptoRow : OpenClaim := { program := "ytfodlkofjmbolaa", sum := "5f5bf2ed55ca16dbf47edff3d7ee8d9edb4e8321e20411f34e9647f09af66ab3", func := "hypostyle/hypostylelaw02.TagLogs", spec := "tagLogs", plainKeys := false, apart := false, narrowed := true }
def TagLogsUptoSaid : Prop := tagLogsUptoRow.holds Try.pinned (OpenSpec.upto tagLogsSpec)

/-- 'hypostylelaw02.TagExtracts', WHERE WHAT IT READS IS OF BULK AT MOST 1048576: true; the input reads as it did. -/
def tagExtractsUptoRow : OpenClaim := { program := "ytfodlkofjmbolaa", sum := "5f5bf2ed55ca16dbf47edff3d7ee8d9edb4e8321e20411f34e9647f09af66ab3", func := "hypostyle/hypostylelaw02.TagExtracts", spec := "tagExtracts", plainKeys := false, apart := false, narrowed := true }
def TagExtractsUptoSaid : Prop := tagExtractsUptoRow.holds Try.pinned (OpenSpec.upto tagExtractsSpec)

/-- 'hypostylelaw02.TagApart', WHERE WHAT IT READS IS OF BULK AT MOST 1048576: true; the input reads as it did. -/
def tagApartUptoRow : OpenClaim := { program := "ytfodlkofjmbolaa", sum := "5f5bf2ed55ca16dbf47edff3d7ee8d9edb4e8321e20411f34e9647f09af66ab3", func := "hypostyle/hypostylelaw02.TagApart", spec := "tagApart", plainKeys := false, apart := false, narrowed := true }
def TagApartUptoSaid : Prop := tagApartUptoRow.holds Try.pinned (OpenSpec.upto tagApartSpec)

/-- 'hypostylelaw02.TagMany', WHERE WHAT IT READS IS OF BULK AT MOST 1048576: true; the input reads as it did. -/
def tagManyUptoRow : OpenClaim := { program := "ytfodlkofjmbolaa", sum := "5f5bf2ed55ca16dbf47edff3d7ee8d9edb4e8321e20411f34e9647f09af66ab3", func := "hypostyle/hypostylelaw02.TagMany", spec := "tagMany", plainKeys := false, apart := false, narrowed := true }
def TagManyUptoSaid : Prop := tagManyUptoRow.holds Try.pinned (OpenSpec.upto tagManySpec)

end Rows
end Go.Proofs.Ytfodlkofjmbolaa
