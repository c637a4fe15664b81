/-
  No cell of these rows narrows 'for every input' (looked for: loops, veiled, ifaces, maps, wideKeys, modest, calm, conditions, laid).
  DERIVED. THE GIVEN ROWS OF THIS SEAT. 10 by the template 'for every input the law returns true; each argument reads behind the call as it read before'; 0 by the template 'total and deterministic' (their statements: YtgepfmofignmfaaTotals.lean).
  GIVEN WITH THE SEED: the statements are not yours to turn. If you find one false, say at which input.
  Laid BY PROGRAM, IN A SANDBOX (cutbox-rows.mjs): the forced cells as the released guide's own fill.sh prints them over the translation e53e9c0e6ec0250b… (all of the seat's roots in one cut). By AI agents, Wed Nov 11 2026. No macro, syntax, notation, axiom, sorry.
-/
import Derived.Test.YtgepfmofignmfaaChecked
import GoSem.Claim
import GoSem.ClaimJoined
import GoSem.ClaimMapViews
import Derived.JoinedTies
import Derived.KernelRfl
namespace Go.Proofs.Ytgepfmofignmfaa
/- THE CELL 'sum', in the pinned program and in every row, IS THE sha256 OF THE DUMP (.gsa) THAT YtgepfmofignmfaaProg.lean LOADS. Nothing in Lean hashes anything: it is a label: what it is worth is what the hold of that sum in a sandbox is worth. -/
noncomputable def Try.pinned : Pinned := { name := "ytgepfmofignmfaa", sum := "e53e9c0e6ec0250ba2a573625f80fbd01336cdda750e9032d8d45699a18cd5d0", checked := Try.checked }
namespace Rows
def none {H : Type} : Left H := { results := [], args := [] }

/-- 'hypostylelaw21.TreeRoots': WHATEVER THE INPUT: true; the input reads as it did. -/
def treeRootsSpec : ChangeSpec := { name := "treeRoots", fn := fun _ => fun
  | [d1, d2, d3, d4, d5] => { results := [.lit (.bool true)], args := [d1, d2, d3, d4, d5] }
  | _ => none }
def treeRootsRow : OpenClaim := { program := "ytgepfmofignmfaa", sum := "e53e9c0e6ec0250ba2a573625f80fbd01336cdda750e9032d8d45699a18cd5d0", func := "hypostyle/hypostylelaw21.TreeRoots", spec := "treeRoots", recurses := true, plainKeys := false, apart := false }
def TreeRootsSaid : Prop := treeRootsRow.holds Try.pinned (OpenSpec.ofChange treeRootsSpec)

/-- ITS FALSE NEIGHBOUR: 'it returns false'. Refute it at one input. -/
def treeRootsWrong : ChangeSpec := { name := "treeRoots", fn := fun _ => fun
  | [d1, d2, d3, d4, d5] => { results := [.lit (.bool false)], args := [d1, d2, d3, d4, d5] }
  | _ => none }
def TreeRootsWrongFalsely : Prop := treeRootsRow.holds Try.pinned (OpenSpec.ofChange treeRootsWrong)

/-- 'hypostylelaw21.TreeSplits': WHATEVER THE INPUT: true; the input reads as it did. -/
def treeSplitsSpec : ChangeSpec := { name := "treeSplits", fn := fun _ => fun
  | [d] => { results := [.lit (.bool true)], args := [d] }
  | _ => none }
def treeSplitsRow : OpenClaim := { program := "ytgepfmofignmfaa", sum := "e53e9c0e6ec0250ba2a573625f80fbd01336cdda750e9032d8d45699a18cd5d0", func := "hypostyle/hypostylelaw21.TreeSplits", spec := "treeSplits", recurses := true, plainKeys := false, apart := false }
def TreeSplitsSaid : Prop := treeSplitsRow.holds Try.pinned (OpenSpec.ofChange treeSplitsSpec)

/-- ITS FALSE NEIGHBOUR: 'it returns false'. Refute it at one input. -/
def treeSplitsWrong : ChangeSpec := { name := "treeSplits", fn := fun _ => fun
  | [d] => { results := [.lit (.bool false)], args := [d] }
  | _ => none }
def TreeSplitsWrongFalsely : Prop := treeSplitsRow.holds Try.pinned (OpenSpec.ofChange treeSplitsWrong)

/-- 'hypostylelaw21.TreeHalves': WHATEVER THE INPUT: true; the input reads as it did. -/
def treeHalvesSpec : ChangeSpec := { name := "treeHalves", fn := fun _ => fun
  | [d] => { results := [.lit (.bool true)], args := [d] }
  | _ => none }
def treeHalvesRow : OpenClaim := { program := "ytgepfmofignmfaa", sum := "e53e9c0e6ec0250ba2a573625f80fbd01336cdda750e9032d8d45699a18cd5d0", func := "hypostyle/hypostylelaw21.TreeHalves", spec := "treeHalves", recurses := true, plainKeys := false, apart := false }
def TreeHalvesSaid : Prop := treeHalvesRow.holds Try.pinned (OpenSpec.ofChange treeHalvesSpec)

/-- ITS FALSE NEIGHBOUR: 'it returns false'. Refute it at one input. -/
def treeHalvesWrong : ChangeSpec := { name := "treeHalves", fn := fun _ => fun
  | [d] => { results := [.lit (.bool false)], args := [d] }
  | _ => none }
def TreeHalvesWrongFalsely : Prop := treeHalvesRow.holds Try.pinned (OpenSpec.ofChange treeHalvesWrong)

/-- 'hypostylelaw21.TreeTells': WHATEVER THE INPUT: true; the input reads as it did. -/
def treeTellsSpec : ChangeSpec := { name := "treeTells", fn := fun _ => fun
  | [d1, d2] => { results := [.lit (.bool true)], args := [d1, d2] }
  | _ => none }
def treeTellsRow : OpenClaim := { program := "ytgepfmofignmfaa", sum := "e53e9c0e6ec0250ba2a573625f80fbd01336cdda750e9032d8d45699a18cd5d0", func := "hypostyle/hypostylelaw21.TreeTells", spec := "treeTells", recurses := true, plainKeys := false, apart := false }
def TreeTellsSaid : Prop := treeTellsRow.holds Try.pinned (OpenSpec.ofChange treeTellsSpec)

/-- ITS FALSE NEIGHBOUR: 'it returns false'. Refute it at one input. -/
def treeTellsWrong : ChangeSpec := { name := "treeTells", fn := fun _ => fun
  | [d1, d2] => { results := [.lit (.bool false)], args := [d1, d2] }
  | _ => none }
def TreeTellsWrongFalsely : Prop := treeTellsRow.holds Try.pinned (OpenSpec.ofChange treeTellsWrong)

/-- 'hypostylelaw21.TreePlaces': WHATEVER THE INPUT: true; the input reads as it did. -/
def treePlacesSpec : ChangeSpec := { name := "treePlaces", fn := fun _ => fun
  | [d1, d2, d3, d4, d5, d6, d7, d8] => { results := [.lit (.bool true)], args := [d1, d2, d3, d4, d5, d6, d7, d8] }
  | _ => none }
def treePlacesRow : OpenClaim := { program := "ytgepfmofignmfaa", sum := "e53e9c0e6ec0250ba2a573625f80fbd01336cdda750e9032d8d45699a18cd5d0", func := "hypostyle/hypostylelaw21.TreePlaces", spec := "treePlaces", recurses := true, plainKeys := false, apart := false }
def TreePlacesSaid : Prop := treePlacesRow.holds Try.pinned (OpenSpec.ofChange treePlacesSpec)

/-- ITS FALSE NEIGHBOUR: 'it returns false'. Refute it at one input. -/
def treePlacesWrong : ChangeSpec := { name := "treePlaces", fn := fun _ => fun
  | [d1, d2, d3, d4, d5, d6, d7, d8] => { results := [.lit (.bool false)], args := [d1, d2, d3, d4, d5, d6, d7, d8] }
  | _ => none }
def TreePlacesWrongFalsely : Prop := treePlacesRow.holds Try.pinned (OpenSpec.ofChange treePlacesWrong)

/-- 'hypostylelaw22.ProofNeeds': WHATEVER THE INPUT: true; the input reads as it did. -/
def proofNeedsSpec : ChangeSpec := { name := "proofNeeds", fn := fun _ => fun
  | [d1, d2, d3] => { results := [.lit (.bool true)], args := [d1, d2, d3] }
  | _ => none }
def proofNeedsRow : OpenClaim := { program := "ytgepfmofignmfaa", sum := "e53e9c0e6ec0250ba2a573625f80fbd01336cdda750e9032d8d45699a18cd5d0", func := "hypostyle/hypostylelaw22.ProofNeeds", spec := "proofNeeds", unfollowed := true, recurses := true, plainKeys := false, apart := false }
def ProofNeedsSaid : Prop := proofNeedsRow.holds Try.pinned (OpenSpec.ofChange proofNeedsSpec)

/-- ITS FALSE NEIGHBOUR: 'it returns false'. Refute it at one input. -/
def proofNeedsWrong : ChangeSpec := { name := "proofNeeds", fn := fun _ => fun
  | [d1, d2, d3] => { results := [.lit (.bool false)], args := [d1, d2, d3] }
  | _ => none }
def ProofNeedsWrongFalsely : Prop := proofNeedsRow.holds Try.pinned (OpenSpec.ofChange proofNeedsWrong)

/-- 'hypostylelaw22.ProofJoins': WHATEVER THE INPUT: true; the input reads as it did. -/
def proofJoinsSpec : ChangeSpec := { name := "proofJoins", fn := fun _ => fun
  | [d1, d2, d3] => { results := [.lit (.bool true)], args := [d1, d2, d3] }
  | _ => none }
def proofJoinsRow : OpenClaim := { program := "ytgepfmofignmfaa", sum := "e53e9c0e6ec0250ba2a573625f80fbd01336cdda750e9032d8d45699a18cd5d0", func := "hypostyle/hypostylelaw22.ProofJoins", spec := "proofJoins", unfollowed := true, recurses := true, plainKeys := false, apart := false }
def ProofJoinsSaid : Prop := proofJoinsRow.holds Try.pinned (OpenSpec.ofChange proofJoinsSpec)

/-- ITS FALSE NEIGHBOUR: 'it returns false'. Refute it at one input. -/
def proofJoinsWrong : ChangeSpec := { name := "proofJoins", fn := fun _ => fun
  | [d1, d2, d3] => { results := [.lit (.bool false)], args := [d1, d2, d3] }
  | _ => none }
def ProofJoinsWrongFalsely : Prop := proofJoinsRow.holds Try.pinned (OpenSpec.ofChange proofJoinsWrong)

/-- 'hypostylelaw22.ProofFew': WHATEVER THE INPUT: true; the input reads as it did. -/
def proofFewSpec : ChangeSpec := { name := "proofFew", fn := fun _ => fun
  | [d1, d2, d3] => { results := [.lit (.bool true)], args := [d1, d2, d3] }
  | _ => none }
def proofFewRow : OpenClaim := { program := "ytgepfmofignmfaa", sum := "e53e9c0e6ec0250ba2a573625f80fbd01336cdda750e9032d8d45699a18cd5d0", func := "hypostyle/hypostylelaw22.ProofFew", spec := "proofFew", unfollowed := true, recurses := true, plainKeys := false, apart := false }
def ProofFewSaid : Prop := proofFewRow.holds Try.pinned (OpenSpec.ofChange proofFewSpec)

/-- ITS FALSE NEIGHBOUR: 'it returns false'. Refute it at one input. -/
def proofFewWrong : ChangeSpec := { name := "proofFew", fn := fun _ => fun
  | [d1, d2, d3] => { results := [.lit (.bool false)], args := [d1, d2, d3] }
  | _ => none }
def ProofFewWrongFalsely : Prop := proofFewRow.holds Try.pinned (OpenSpec.ofChange proofFewWrong)

/-- 'hypostylelaw22.ProofSound': WHATEVER THE INPUT: true; the input reads as it did. -/
def proofSoundSpec : ChangeSpec := { name := "proofSound", fn := fun _ => fun
  | [d1, d2, d3, d4] => { results := [.lit (.bool true)], args := [d1, d2, d3, d4] }
  | _ => none }
def proofSoundRow : OpenClaim := { program := "ytgepfmofignmfaa", sum := "e53e9c0e6ec0250ba2a573625f80fbd01336cdda750e9032d8d45699a18cd5d0", func := "hypostyle/hypostylelaw22.ProofSound", spec := "proofSound", unfollowed := true, recurses := true, plainKeys := false, apart := false }
def ProofSoundSaid : Prop := proofSoundRow.holds Try.pinned (OpenSpec.ofChange proofSoundSpec)

/-- ITS FALSE NEIGHBOUR: 'it returns false'. Refute it at one input. -/
def proofSoundWrong : ChangeSpec := { name := "proofSound", fn := fun _ => fun
  | [d1, d2, d3, d4] => { results := [.lit (.bool false)], args := [d1, d2, d3, d4] }
  | _ => none }
def ProofSoundWrongFalsely : Prop := proofSoundRow.holds Try.pinned (OpenSpec.ofChange proofSoundWrong)

/-- 'hypostylelaw21.TreeCounts': WHATEVER THE INPUT: true; the input reads as it did. -/
def treeCountsSpec : ChangeSpec := { name := "treeCounts", fn := fun _ => fun
  | [d] => { results := [.lit (.bool true)], args := [d] }
  | _ => none }
def treeCountsRow : OpenClaim := { program := "ytgepfmofignmfaa", sum := "e53e9c0e6ec0250ba2a573625f80fbd01336cdda750e9032d8d45699a18cd5d0", func := "hypostyle/hypostylelaw21.TreeCounts", spec := "treeCounts", recurses := true, plainKeys := false, apart := false }
def TreeCountsSaid : Prop := treeCountsRow.holds Try.pinned (OpenSpec.ofChange treeCountsSpec)

/-- ITS FALSE NEIGHBOUR: 'it returns false'. Refute it at one input. -/
def treeCountsWrong : ChangeSpec := { name := "treeCounts", fn := fun _ => fun
  | [d] => { results := [.lit (.bool false)], args := [d] }
  | _ => none }
def TreeCountsWrongFalsely : Prop := treeCountsRow.holds Try.pinned (OpenSpec.ofChange treeCountsWrong)

/- THE SECOND FORM. 'bulk': how many values and letters a reading holds, each counted each time it is reached (what is shared counts as often as it is met; a slice's spare places count too). A statement '..UptoSaid' is the law's where the arguments, and the package variables that the reading takes, are together of bulk at most 1048576: NARROWER than '..Said'. Prove '..Said' where nothing that the law and all that it calls make is longer than what came in: it says more and counts as full. Else prove '..UptoSaid'. A law counts once. -/
mutual
def uptoBulk {H : Type} : DataW H → Nat
  | .lit (.string bytes) => bytes.length + 1
  | .lit _ => 1
  | .nil => 1
  | .ptr d => uptoBulk d + 1
  | .slice elems spare => uptoBulkAll elems + uptoBulkAll spare + 1
  | .agg parts => uptoBulkAll parts + 1
  | .iface _ d => uptoBulk d + 1
  | .map entries => uptoBulkEntries entries + 1
  | .held _ => 1
def uptoBulkAll {H : Type} : List (DataW H) → Nat
  | [] => 0
  | d :: r => uptoBulk d + uptoBulkAll r
def uptoBulkEntries {H : Type} : List (Lit × DataW H) → Nat
  | [] => 0
  | x :: r => uptoBulkEntry x + uptoBulkEntries r
def uptoBulkEntry {H : Type} : Lit × DataW H → Nat
  | (.string bytes, d) => bytes.length + uptoBulk d + 1
  | (_, d) => uptoBulk d + 1
 end
def uptoSmall : (H : Type) → List (DataW H) → Bool := fun _ ds => decide (uptoBulkAll ds ≤ 1048576)
def OpenSpec.upto (s : _root_.Go.ChangeSpec) : _root_.Go.OpenSpec := { _root_.Go.OpenSpec.ofChange s with cond := some uptoSmall }

/-- 'hypostylelaw21.TreeRoots', WHERE WHAT IT READS IS OF BULK AT MOST 1048576: true; the input reads as it did. -/
def treeRootsUptoRow : OpenClaim := { program := "ytgepfmofignmfaa", sum := "e53e9c0e6ec0250ba2a573625f80fbd01336cdda750e9032d8d45699a18cd5d0", func := "hypostyle/hypostylelaw21.TreeRoots", spec := "treeRoots", recurses := true, plainKeys := false, apart := false, narrowed := true }
def TreeRootsUptoSaid : Prop := treeRootsUptoRow.holds Try.pinned (OpenSpec.upto treeRootsSpec)

/-- 'hypostylelaw21.TreeSplits', WHERE WHAT IT READS IS OF BULK AT MOST 1048576: true; the input reads as it did. -/
def treeSplitsUptoRow : OpenClaim := { program := "ytgepfmofignmfaa", sum := "e53e9c0e6ec0250ba2a573625f80fbd01336cdda750e9032d8d45699a18cd5d0", func := "hypostyle/hypostylelaw21.TreeSplits", spec := "treeSplits", recurses := true, plainKeys := false, apart := false, narrowed := true }
def TreeSplitsUptoSaid : Prop := treeSplitsUptoRow.holds Try.pinned (OpenSpec.upto treeSplitsSpec)

/-- 'hypostylelaw21.TreeHalves', WHERE WHAT IT READS IS OF BULK AT MOST 1048576: true; the input reads as it did. -/
def treeHalvesUptoRow : OpenClaim := { program := "ytgepfmofignmfaa", sum := "e53e9c0e6ec0250ba2a573625f80fbd01336cdda750e9032d8d45699a18cd5d0", func := "hypostyle/hypostylelaw21.TreeHalves", spec := "treeHalves", recurses := true, plainKeys := false, apart := false, narrowed := true }
def TreeHalvesUptoSaid : Prop := treeHalvesUptoRow.holds Try.pinned (OpenSpec.upto treeHalvesSpec)

/-- 'hypostylelaw21.TreeTells', WHERE WHAT IT READS IS OF BULK AT MOST 1048576: true; the input reads as it did. -/
def treeTellsUptoRow : OpenClaim := { program := "ytgepfmofignmfaa", sum := "e53e9c0e6ec0250ba2a573625f80fbd01336cdda750e9032d8d45699a18cd5d0", func := "hypostyle/hypostylelaw21.TreeTells", spec := "treeTells", recurses := true, plainKeys := false, apart := false, narrowed := true }
def TreeTellsUptoSaid : Prop := treeTellsUptoRow.holds Try.pinned (OpenSpec.upto treeTellsSpec)

/-- 'hypostylelaw21.TreePlaces', WHERE WHAT IT READS IS OF BULK AT MOST 1048576: true; the input reads as it did. -/
def treePlacesUptoRow : OpenClaim := { program := "ytgepfmofignmfaa", sum := "e53e9c0e6ec0250ba2a573625f80fbd01336cdda750e9032d8d45699a18cd5d0", func := "hypostyle/hypostylelaw21.TreePlaces", spec := "treePlaces", recurses := true, plainKeys := false, apart := false, narrowed := true }
def TreePlacesUptoSaid : Prop := treePlacesUptoRow.holds Try.pinned (OpenSpec.upto treePlacesSpec)

/-- 'hypostylelaw22.ProofNeeds', WHERE WHAT IT READS IS OF BULK AT MOST 1048576: true; the input reads as it did. -/
def proofNeedsUptoRow : OpenClaim := { program := "ytgepfmofignmfaa", sum := "e53e9c0e6ec0250ba2a573625f80fbd01336cdda750e9032d8d45699a18cd5d0", func := "hypostyle/hypostylelaw22.ProofNeeds", spec := "proofNeeds", unfollowed := true, recurses := true, plainKeys := false, apart := false, narrowed := true }
def ProofNeedsUptoSaid : Prop := proofNeedsUptoRow.holds Try.pinned (OpenSpec.upto proofNeedsSpec)

/-- 'hypostylelaw22.ProofJoins', WHERE WHAT IT READS IS OF BULK AT MOST 1048576: true; the input reads as it did. -/
def proofJoinsUptoRow : OpenClaim := { program := "ytgepfmofignmfaa", sum := "e53e9c0e6ec0250ba2a573625f80fbd01336cdda750e9032d8d45699a18cd5d0", func := "hypostyle/hypostylelaw22.ProofJoins", spec := "proofJoins", unfollowed := true, recurses := true, plainKeys := false, apart := false, narrowed := true }
def ProofJoinsUptoSaid : Prop := proofJoinsUptoRow.holds Try.pinned (OpenSpec.upto proofJoinsSpec)

/-- 'hypostylelaw22.ProofFew', WHERE WHAT IT READS IS OF BULK AT MOST 1048576: true; the input reads as it did. -/
def proofFewUptoRow : OpenClaim := { program := "ytgepfmofignmfaa", sum := "e53e9c0e6ec0250ba2a573625f80fbd01336cdda750e9032d8d45699a18cd5d0", func := "hypostyle/hypostylelaw22.ProofFew", spec := "proofFew", unfollowed := true, recurses := true, plainKeys := false, apart := false, narrowed := true }
def ProofFewUptoSaid : Prop := proofFewUptoRow.holds Try.pinned (OpenSpec.upto proofFewSpec)

/-- 'hypostylelaw22.ProofSound', WHERE WHAT IT READS IS OF BULK AT MOST 1048576: true; the input reads as it did. -/
def proofSoundUptoRow : OpenClaim := { program := "ytgepfmofignmfaa", sum := "e53e9c0e6ec0250ba2a573625f80fbd01336cdda750e9032d8d45699a18cd5d0", func := "hypostyle/hypostylelaw22.ProofSound", spec := "proofSound", unfollowed := true, recurses := true, plainKeys := false, apart := false, narrowed := true }
def ProofSoundUptoSaid : Prop := proofSoundUptoRow.holds Try.pinned (OpenSpec.upto proofSoundSpec)

/-- 'hypostylelaw21.TreeCounts', WHERE WHAT IT READS IS OF BULK AT MOST 1048576: true; the input reads as it did. -/
def treeCountsUptoRow : OpenClaim := { program := "ytgepfmofignmfaa", sum := "e53e9c0e6ec0250ba2a573625f80fbd01336cdda750e9032d8d45699a18cd5d0", func := "hypostyle/hypostylelaw21.TreeCounts", spec := "treeCounts", recurses := true, plainKeys := false, apart := false, narrowed := true }
def TreeCountsUptoSaid : Prop := treeCountsUptoRow.holds Try.pinned (OpenSpec.upto treeCountsSpec)

end Rows
end Go.Proofs.Ytgepfmofignmfaa
