/-
  No cell of these rows narrows 'for every input' (looked for: loops, veiled, ifaces, maps, wideKeys, modest, calm, conditions, laid).
  DERIVED. THE GIVEN ROWS OF THIS SEAT. 15 by the template 'for every input the law returns true; each argument reads behind the call as it read before'; 0 by the template 'total and deterministic' (their statements: YtodckaioeomccaaGreatTotals.lean).
  GIVEN WITH THE SEED: the statements are not yours to turn. If you find one false, say at which input.
  Laid BY PROGRAM, IN A SANDBOX (cutbox-rows.mjs): the forced cells as the released guide's own fill.sh prints them over the translation 24f2324d634f77fc… (all of the seat's roots in one cut). By AI agents, Wed Nov 11 2026. No macro, syntax, notation, axiom, sorry.
-/
import Derived.Test.YtodckaioeomccaaGreatChecked
import GoSem.Claim
import GoSem.ClaimJoined
import GoSem.ClaimMapViews
import Derived.JoinedTies
import Derived.KernelRfl
namespace Go.Proofs.YtodckaioeomccaaGreat
/- THE CELL 'sum', in the pinned program and in every row, IS THE sha256 OF THE DUMP (.gsa) THAT YtodckaioeomccaaGreatProg.lean LOADS. Nothing in Lean hashes anything: it is a label: what it is worth is what the hold of that sum in a sandbox is worth. -/
noncomputable def Tryz.pinned : Pinned := { name := "ytodckaioeomccaagreat", sum := "24f2324d634f77fc86ee86fce42b29d02947bc6d9c5a49b241007147858f1063", checked := Tryz.checked }
namespace Rows
def none {H : Type} : Left H := { results := [], args := [] }

/-- 'tyreworkslaw05.BuildPlaces': WHATEVER THE INPUT: true; the input reads as it did. -/
def buildPlacesSpec : ChangeSpec := { name := "buildPlaces", fn := fun _ => fun
  | [d1, d2, d3] => { results := [.lit (.bool true)], args := [d1, d2, d3] }
  | _ => none }
def buildPlacesRow : OpenClaim := { program := "ytodckaioeomccaagreat", sum := "24f2324d634f77fc86ee86fce42b29d02947bc6d9c5a49b241007147858f1063", func := "tyreworks/tyreworkslaw05.BuildPlaces", spec := "buildPlaces", inPlace := ["math/bits.Add64", "math/bits.Sub64", "math.sqrt", "math.Float64bits", "math.Float64frombits", "internal/abi.NoEscape", "internal/bytealg.MakeNoZero"], unfollowed := true, recurses := true, named := ["math/bits.divideError", "math/bits.overflowError"], apart := false }
def BuildPlacesSaid : Prop := buildPlacesRow.holds Tryz.pinned (OpenSpec.ofChange buildPlacesSpec)

/-- ITS FALSE NEIGHBOUR: 'it returns false'. Refute it at one input. -/
def buildPlacesWrong : ChangeSpec := { name := "buildPlaces", fn := fun _ => fun
  | [d1, d2, d3] => { results := [.lit (.bool false)], args := [d1, d2, d3] }
  | _ => none }
def BuildPlacesWrongFalsely : Prop := buildPlacesRow.holds Tryz.pinned (OpenSpec.ofChange buildPlacesWrong)

/-- 'tyreworkslaw05.BuildSequences': WHATEVER THE INPUT: true; the input reads as it did. -/
def buildSequencesSpec : ChangeSpec := { name := "buildSequences", fn := fun _ => fun
  | [d] => { results := [.lit (.bool true)], args := [d] }
  | _ => none }
def buildSequencesRow : OpenClaim := { program := "ytodckaioeomccaagreat", sum := "24f2324d634f77fc86ee86fce42b29d02947bc6d9c5a49b241007147858f1063", func := "tyreworks/tyreworkslaw05.BuildSequences", spec := "buildSequences", inPlace := ["math/bits.Add64", "math/bits.Sub64", "math.sqrt", "math.Float64bits", "math.Float64frombits", "internal/abi.NoEscape", "internal/bytealg.MakeNoZero"], unfollowed := true, recurses := true, named := ["math/bits.divideError", "math/bits.overflowError"], apart := false }
def BuildSequencesSaid : Prop := buildSequencesRow.holds Tryz.pinned (OpenSpec.ofChange buildSequencesSpec)

/-- ITS FALSE NEIGHBOUR: 'it returns false'. Refute it at one input. -/
def buildSequencesWrong : ChangeSpec := { name := "buildSequences", fn := fun _ => fun
  | [d] => { results := [.lit (.bool false)], args := [d] }
  | _ => none }
def BuildSequencesWrongFalsely : Prop := buildSequencesRow.holds Tryz.pinned (OpenSpec.ofChange buildSequencesWrong)

/-- 'tyreworkslaw05.BuildLifts': WHATEVER THE INPUT: true; the input reads as it did. -/
def buildLiftsSpec : ChangeSpec := { name := "buildLifts", fn := fun _ => fun
  | [d1, d2, d3, d4] => { results := [.lit (.bool true)], args := [d1, d2, d3, d4] }
  | _ => none }
def buildLiftsRow : OpenClaim := { program := "ytodckaioeomccaagreat", sum := "24f2324d634f77fc86ee86fce42b29d02947bc6d9c5a49b241007147858f1063", func := "tyreworks/tyreworkslaw05.BuildLifts", spec := "buildLifts", inPlace := ["math/bits.Add64", "math/bits.Sub64", "internal/abi.NoEscape", "internal/bytealg.MakeNoZero", "math.sqrt", "math.Float64bits", "math.Float64frombits"], unfollowed := true, recurses := true, named := ["math/bits.divideError", "math/bits.overflowError"], apart := false }
def BuildLiftsSaid : Prop := buildLiftsRow.holds Tryz.pinned (OpenSpec.ofChange buildLiftsSpec)

/-- ITS FALSE NEIGHBOUR: 'it returns false'. Refute it at one input. -/
def buildLiftsWrong : ChangeSpec := { name := "buildLifts", fn := fun _ => fun
  | [d1, d2, d3, d4] => { results := [.lit (.bool false)], args := [d1, d2, d3, d4] }
  | _ => none }
def BuildLiftsWrongFalsely : Prop := buildLiftsRow.holds Tryz.pinned (OpenSpec.ofChange buildLiftsWrong)

/-- 'tyreworkslaw05.BuildApart': WHATEVER THE INPUT: true; the input reads as it did. -/
def buildApartSpec : ChangeSpec := { name := "buildApart", fn := fun _ => fun
  | [d] => { results := [.lit (.bool true)], args := [d] }
  | _ => none }
def buildApartRow : OpenClaim := { program := "ytodckaioeomccaagreat", sum := "24f2324d634f77fc86ee86fce42b29d02947bc6d9c5a49b241007147858f1063", func := "tyreworks/tyreworkslaw05.BuildApart", spec := "buildApart", inPlace := ["math/bits.Add64", "math/bits.Sub64", "math.sqrt", "math.Float64bits", "math.Float64frombits", "internal/abi.NoEscape", "internal/bytealg.MakeNoZero"], unfollowed := true, recurses := true, named := ["math/bits.divideError", "math/bits.overflowError"], apart := false }
def BuildApartSaid : Prop := buildApartRow.holds Tryz.pinned (OpenSpec.ofChange buildApartSpec)

/-- ITS FALSE NEIGHBOUR: 'it returns false'. Refute it at one input. -/
def buildApartWrong : ChangeSpec := { name := "buildApart", fn := fun _ => fun
  | [d] => { results := [.lit (.bool false)], args := [d] }
  | _ => none }
def BuildApartWrongFalsely : Prop := buildApartRow.holds Tryz.pinned (OpenSpec.ofChange buildApartWrong)

/-- 'tyreworkslaw05.BuildNoises': WHATEVER THE INPUT: true; the input reads as it did. -/
def buildNoisesSpec : ChangeSpec := { name := "buildNoises", fn := fun _ => fun
  | [d1, d2] => { results := [.lit (.bool true)], args := [d1, d2] }
  | _ => none }
def buildNoisesRow : OpenClaim := { program := "ytodckaioeomccaagreat", sum := "24f2324d634f77fc86ee86fce42b29d02947bc6d9c5a49b241007147858f1063", func := "tyreworks/tyreworkslaw05.BuildNoises", spec := "buildNoises", inPlace := ["math/bits.Add64", "math/bits.Sub64", "math.sqrt", "math.Float64bits", "math.Float64frombits", "internal/abi.NoEscape", "internal/bytealg.MakeNoZero"], unfollowed := true, recurses := true, named := ["math/bits.divideError", "math/bits.overflowError"], apart := false }
def BuildNoisesSaid : Prop := buildNoisesRow.holds Tryz.pinned (OpenSpec.ofChange buildNoisesSpec)

/-- ITS FALSE NEIGHBOUR: 'it returns false'. Refute it at one input. -/
def buildNoisesWrong : ChangeSpec := { name := "buildNoises", fn := fun _ => fun
  | [d1, d2] => { results := [.lit (.bool false)], args := [d1, d2] }
  | _ => none }
def BuildNoisesWrongFalsely : Prop := buildNoisesRow.holds Tryz.pinned (OpenSpec.ofChange buildNoisesWrong)

/-- 'tyreworkslaw05.BuildCuts': WHATEVER THE INPUT: true; the input reads as it did. -/
def buildCutsSpec : ChangeSpec := { name := "buildCuts", fn := fun _ => fun
  | [d1, d2, d3] => { results := [.lit (.bool true)], args := [d1, d2, d3] }
  | _ => none }
def buildCutsRow : OpenClaim := { program := "ytodckaioeomccaagreat", sum := "24f2324d634f77fc86ee86fce42b29d02947bc6d9c5a49b241007147858f1063", func := "tyreworks/tyreworkslaw05.BuildCuts", spec := "buildCuts", inPlace := ["math/bits.Add64", "math/bits.Sub64", "internal/abi.NoEscape", "internal/bytealg.MakeNoZero", "math.sqrt", "math.Float64bits", "math.Float64frombits"], unfollowed := true, recurses := true, named := ["math/bits.divideError", "math/bits.overflowError"], apart := false }
def BuildCutsSaid : Prop := buildCutsRow.holds Tryz.pinned (OpenSpec.ofChange buildCutsSpec)

/-- ITS FALSE NEIGHBOUR: 'it returns false'. Refute it at one input. -/
def buildCutsWrong : ChangeSpec := { name := "buildCuts", fn := fun _ => fun
  | [d1, d2, d3] => { results := [.lit (.bool false)], args := [d1, d2, d3] }
  | _ => none }
def BuildCutsWrongFalsely : Prop := buildCutsRow.holds Tryz.pinned (OpenSpec.ofChange buildCutsWrong)

/-- 'tyreworkslaw05.BuildImpulses': WHATEVER THE INPUT: true; the input reads as it did. -/
def buildImpulsesSpec : ChangeSpec := { name := "buildImpulses", fn := fun _ => fun
  | [d1, d2] => { results := [.lit (.bool true)], args := [d1, d2] }
  | _ => none }
def buildImpulsesRow : OpenClaim := { program := "ytodckaioeomccaagreat", sum := "24f2324d634f77fc86ee86fce42b29d02947bc6d9c5a49b241007147858f1063", func := "tyreworks/tyreworkslaw05.BuildImpulses", spec := "buildImpulses", inPlace := ["math/bits.Add64", "math/bits.Sub64", "math.sqrt", "math.Float64bits", "math.Float64frombits", "internal/abi.NoEscape", "internal/bytealg.MakeNoZero"], unfollowed := true, recurses := true, named := ["math/bits.divideError", "math/bits.overflowError"], apart := false }
def BuildImpulsesSaid : Prop := buildImpulsesRow.holds Tryz.pinned (OpenSpec.ofChange buildImpulsesSpec)

/-- ITS FALSE NEIGHBOUR: 'it returns false'. Refute it at one input. -/
def buildImpulsesWrong : ChangeSpec := { name := "buildImpulses", fn := fun _ => fun
  | [d1, d2] => { results := [.lit (.bool false)], args := [d1, d2] }
  | _ => none }
def BuildImpulsesWrongFalsely : Prop := buildImpulsesRow.holds Tryz.pinned (OpenSpec.ofChange buildImpulsesWrong)

/-- 'tyreworkslaw05.BuildOrders': WHATEVER THE INPUT: true; the input reads as it did. -/
def buildOrdersSpec : ChangeSpec := { name := "buildOrders", fn := fun _ => fun
  | [d] => { results := [.lit (.bool true)], args := [d] }
  | _ => none }
def buildOrdersRow : OpenClaim := { program := "ytodckaioeomccaagreat", sum := "24f2324d634f77fc86ee86fce42b29d02947bc6d9c5a49b241007147858f1063", func := "tyreworks/tyreworkslaw05.BuildOrders", spec := "buildOrders", inPlace := ["math/bits.Add64", "math/bits.Sub64", "math.sqrt", "math.Float64bits", "math.Float64frombits", "internal/abi.NoEscape", "internal/bytealg.MakeNoZero"], unfollowed := true, recurses := true, named := ["math/bits.divideError", "math/bits.overflowError"], apart := false }
def BuildOrdersSaid : Prop := buildOrdersRow.holds Tryz.pinned (OpenSpec.ofChange buildOrdersSpec)

/-- ITS FALSE NEIGHBOUR: 'it returns false'. Refute it at one input. -/
def buildOrdersWrong : ChangeSpec := { name := "buildOrders", fn := fun _ => fun
  | [d] => { results := [.lit (.bool false)], args := [d] }
  | _ => none }
def BuildOrdersWrongFalsely : Prop := buildOrdersRow.holds Tryz.pinned (OpenSpec.ofChange buildOrdersWrong)

/-- 'tyreworkslaw05.BuildPitches': WHATEVER THE INPUT: true; the input reads as it did. -/
def buildPitchesSpec : ChangeSpec := { name := "buildPitches", fn := fun _ => fun
  | [d1, d2] => { results := [.lit (.bool true)], args := [d1, d2] }
  | _ => none }
def buildPitchesRow : OpenClaim := { program := "ytodckaioeomccaagreat", sum := "24f2324d634f77fc86ee86fce42b29d02947bc6d9c5a49b241007147858f1063", func := "tyreworks/tyreworkslaw05.BuildPitches", spec := "buildPitches", inPlace := ["math/bits.Add64", "math/bits.Sub64", "math.sqrt", "math.Float64bits", "math.Float64frombits", "internal/abi.NoEscape", "internal/bytealg.MakeNoZero"], unfollowed := true, recurses := true, named := ["math/bits.divideError", "math/bits.overflowError"], apart := false }
def BuildPitchesSaid : Prop := buildPitchesRow.holds Tryz.pinned (OpenSpec.ofChange buildPitchesSpec)

/-- ITS FALSE NEIGHBOUR: 'it returns false'. Refute it at one input. -/
def buildPitchesWrong : ChangeSpec := { name := "buildPitches", fn := fun _ => fun
  | [d1, d2] => { results := [.lit (.bool false)], args := [d1, d2] }
  | _ => none }
def BuildPitchesWrongFalsely : Prop := buildPitchesRow.holds Tryz.pinned (OpenSpec.ofChange buildPitchesWrong)

/-- 'tyreworkslaw05.BuildTurns': WHATEVER THE INPUT: true; the input reads as it did. -/
def buildTurnsSpec : ChangeSpec := { name := "buildTurns", fn := fun _ => fun
  | [d1, d2, d3, d4] => { results := [.lit (.bool true)], args := [d1, d2, d3, d4] }
  | _ => none }
def buildTurnsRow : OpenClaim := { program := "ytodckaioeomccaagreat", sum := "24f2324d634f77fc86ee86fce42b29d02947bc6d9c5a49b241007147858f1063", func := "tyreworks/tyreworkslaw05.BuildTurns", spec := "buildTurns", inPlace := ["math/bits.Add64", "math/bits.Sub64", "math.sqrt", "math.Float64bits", "math.Float64frombits", "internal/abi.NoEscape", "internal/bytealg.MakeNoZero"], unfollowed := true, recurses := true, named := ["math/bits.divideError", "math/bits.overflowError"], apart := false }
def BuildTurnsSaid : Prop := buildTurnsRow.holds Tryz.pinned (OpenSpec.ofChange buildTurnsSpec)

/-- ITS FALSE NEIGHBOUR: 'it returns false'. Refute it at one input. -/
def buildTurnsWrong : ChangeSpec := { name := "buildTurns", fn := fun _ => fun
  | [d1, d2, d3, d4] => { results := [.lit (.bool false)], args := [d1, d2, d3, d4] }
  | _ => none }
def BuildTurnsWrongFalsely : Prop := buildTurnsRow.holds Tryz.pinned (OpenSpec.ofChange buildTurnsWrong)

/-- 'tyreworkslaw05.BuildBest': WHATEVER THE INPUT: true; the input reads as it did. -/
def buildBestSpec : ChangeSpec := { name := "buildBest", fn := fun _ => fun
  | [d1, d2, d3, d4] => { results := [.lit (.bool true)], args := [d1, d2, d3, d4] }
  | _ => none }
def buildBestRow : OpenClaim := { program := "ytodckaioeomccaagreat", sum := "24f2324d634f77fc86ee86fce42b29d02947bc6d9c5a49b241007147858f1063", func := "tyreworks/tyreworkslaw05.BuildBest", spec := "buildBest", inPlace := ["math/bits.Add64", "math/bits.Sub64", "math.sqrt", "math.Float64bits", "math.Float64frombits", "internal/abi.NoEscape", "internal/bytealg.MakeNoZero"], unfollowed := true, recurses := true, named := ["math/bits.divideError", "math/bits.overflowError"], apart := false }
def BuildBestSaid : Prop := buildBestRow.holds Tryz.pinned (OpenSpec.ofChange buildBestSpec)

/-- ITS FALSE NEIGHBOUR: 'it returns false'. Refute it at one input. -/
def buildBestWrong : ChangeSpec := { name := "buildBest", fn := fun _ => fun
  | [d1, d2, d3, d4] => { results := [.lit (.bool false)], args := [d1, d2, d3, d4] }
  | _ => none }
def BuildBestWrongFalsely : Prop := buildBestRow.holds Tryz.pinned (OpenSpec.ofChange buildBestWrong)

/-- 'tyreworkslaw05.BuildVectors': WHATEVER THE INPUT: true; the input reads as it did. -/
def buildVectorsSpec : ChangeSpec := { name := "buildVectors", fn := fun _ => fun
  | [d1, d2, d3] => { results := [.lit (.bool true)], args := [d1, d2, d3] }
  | _ => none }
def buildVectorsRow : OpenClaim := { program := "ytodckaioeomccaagreat", sum := "24f2324d634f77fc86ee86fce42b29d02947bc6d9c5a49b241007147858f1063", func := "tyreworks/tyreworkslaw05.BuildVectors", spec := "buildVectors", inPlace := ["math/bits.Add64", "math/bits.Sub64", "math.sqrt", "math.Float64bits", "math.Float64frombits", "internal/abi.NoEscape", "internal/bytealg.MakeNoZero"], unfollowed := true, recurses := true, named := ["math/bits.divideError", "math/bits.overflowError"], apart := false }
def BuildVectorsSaid : Prop := buildVectorsRow.holds Tryz.pinned (OpenSpec.ofChange buildVectorsSpec)

/-- ITS FALSE NEIGHBOUR: 'it returns false'. Refute it at one input. -/
def buildVectorsWrong : ChangeSpec := { name := "buildVectors", fn := fun _ => fun
  | [d1, d2, d3] => { results := [.lit (.bool false)], args := [d1, d2, d3] }
  | _ => none }
def BuildVectorsWrongFalsely : Prop := buildVectorsRow.holds Tryz.pinned (OpenSpec.ofChange buildVectorsWrong)

/-- 'tyreworkslaw05.BuildSections': WHATEVER THE INPUT: true; the input reads as it did. -/
def buildSectionsSpec : ChangeSpec := { name := "buildSections", fn := fun _ => fun
  | [d1, d2, d3] => { results := [.lit (.bool true)], args := [d1, d2, d3] }
  | _ => none }
def buildSectionsRow : OpenClaim := { program := "ytodckaioeomccaagreat", sum := "24f2324d634f77fc86ee86fce42b29d02947bc6d9c5a49b241007147858f1063", func := "tyreworks/tyreworkslaw05.BuildSections", spec := "buildSections", inPlace := ["math/bits.Add64", "math/bits.Sub64", "math.sqrt", "math.Float64bits", "math.Float64frombits", "internal/abi.NoEscape", "internal/bytealg.MakeNoZero"], unfollowed := true, recurses := true, named := ["math/bits.divideError", "math/bits.overflowError"], apart := false }
def BuildSectionsSaid : Prop := buildSectionsRow.holds Tryz.pinned (OpenSpec.ofChange buildSectionsSpec)

/-- ITS FALSE NEIGHBOUR: 'it returns false'. Refute it at one input. -/
def buildSectionsWrong : ChangeSpec := { name := "buildSections", fn := fun _ => fun
  | [d1, d2, d3] => { results := [.lit (.bool false)], args := [d1, d2, d3] }
  | _ => none }
def BuildSectionsWrongFalsely : Prop := buildSectionsRow.holds Tryz.pinned (OpenSpec.ofChange buildSectionsWrong)

/-- 'tyreworkslaw05.BuildLayups': WHATEVER THE INPUT: true; the input reads as it did. -/
def buildLayupsSpec : ChangeSpec := { name := "buildLayups", fn := fun _ => fun
  | [d1, d2, d3] => { results := [.lit (.bool true)], args := [d1, d2, d3] }
  | _ => none }
def buildLayupsRow : OpenClaim := { program := "ytodckaioeomccaagreat", sum := "24f2324d634f77fc86ee86fce42b29d02947bc6d9c5a49b241007147858f1063", func := "tyreworks/tyreworkslaw05.BuildLayups", spec := "buildLayups", inPlace := ["math/bits.Add64", "math/bits.Sub64", "math.sqrt", "math.Float64bits", "math.Float64frombits", "internal/abi.NoEscape", "internal/bytealg.MakeNoZero"], unfollowed := true, recurses := true, named := ["math/bits.divideError", "math/bits.overflowError"], apart := false }
def BuildLayupsSaid : Prop := buildLayupsRow.holds Tryz.pinned (OpenSpec.ofChange buildLayupsSpec)

/-- ITS FALSE NEIGHBOUR: 'it returns false'. Refute it at one input. -/
def buildLayupsWrong : ChangeSpec := { name := "buildLayups", fn := fun _ => fun
  | [d1, d2, d3] => { results := [.lit (.bool false)], args := [d1, d2, d3] }
  | _ => none }
def BuildLayupsWrongFalsely : Prop := buildLayupsRow.holds Tryz.pinned (OpenSpec.ofChange buildLayupsWrong)

/-- 'tyreworkslaw05.BuildFaults': WHATEVER THE INPUT: true; the input reads as it did. -/
def buildFaultsSpec : ChangeSpec := { name := "buildFaults", fn := fun _ => fun
  | [d1, d2, d3, d4] => { results := [.lit (.bool true)], args := [d1, d2, d3, d4] }
  | _ => none }
def buildFaultsRow : OpenClaim := { program := "ytodckaioeomccaagreat", sum := "24f2324d634f77fc86ee86fce42b29d02947bc6d9c5a49b241007147858f1063", func := "tyreworks/tyreworkslaw05.BuildFaults", spec := "buildFaults", inPlace := ["math/bits.Add64", "math/bits.Sub64", "math.sqrt", "math.Float64bits", "math.Float64frombits", "internal/abi.NoEscape", "internal/bytealg.MakeNoZero"], unfollowed := true, recurses := true, named := ["math/bits.divideError", "math/bits.overflowError"], apart := false }
def BuildFaultsSaid : Prop := buildFaultsRow.holds Tryz.pinned (OpenSpec.ofChange buildFaultsSpec)

/-- ITS FALSE NEIGHBOUR: 'it returns false'. Refute it at one input. -/
def buildFaultsWrong : ChangeSpec := { name := "buildFaults", fn := fun _ => fun
  | [d1, d2, d3, d4] => { results := [.lit (.bool false)], args := [d1, d2, d3, d4] }
  | _ => none }
def BuildFaultsWrongFalsely : Prop := buildFaultsRow.holds Tryz.pinned (OpenSpec.ofChange buildFaultsWrong)

/- THE SECOND FORM. 'bulk': how many values and letters a reading holds, each counted each time it is reached (what is shared counts as often as it is met; a slice's spare places count too). A statement '..UptoSaid' is the law's where the arguments, and the package variables that the reading takes, are together of bulk at most 1048576: NARROWER than '..Said'. Prove '..Said' where nothing that the law and all that it calls make is longer than what came in: it says more and counts as full. Else prove '..UptoSaid'. A law counts once. -/
mutual
def uptoBulk {H : Type} : DataW H → Nat
  | .lit (.string bytes) => bytes.length + 1
  | .lit _ => 1
  | .nil => 1
  | .ptr d => uptoBulk d + 1
  | .slice elems spare => uptoBulkAll elems + uptoBulkAll spare + 1
  | .agg parts => uptoBulkAll parts + 1
  | .iface _ d => uptoBulk d + 1
  | .map entries => uptoBulkEntries entries + 1
  | .held _ => 1
def uptoBulkAll {H : Type} : List (DataW H) → Nat
  | [] => 0
  | d :: r => uptoBulk d + uptoBulkAll r
def uptoBulkEntries {H : Type} : List (Lit × DataW H) → Nat
  | [] => 0
  | x :: r => uptoBulkEntry x + uptoBulkEntries r
def uptoBulkEntry {H : Type} : Lit × DataW H → Nat
  | (.string bytes, d) => bytes.length + uptoBulk d + 1
  | (_, d) => uptoBulk d + 1
 end
def uptoSmall : (H : Type) → List (DataW H) → Bool := fun _ ds => decide (uptoBulkAll ds ≤ 1048576)
def OpenSpec.upto (s : _root_.Go.ChangeSpec) : _root_.Go.OpenSpec := { _root_.Go.OpenSpec.ofChange s with cond := some uptoSmall }

/-- 'tyreworkslaw05.BuildPlaces', WHERE WHAT IT READS IS OF BULK AT MOST 1048576: true; the input reads as it did. -/
def buildPlacesUptoRow : OpenClaim := { program := "ytodckaioeomccaagreat", sum := "24f2324d634f77fc86ee86fce42b29d02947bc6d9c5a49b241007147858f1063", func := "tyreworks/tyreworkslaw05.BuildPlaces", spec := "buildPlaces", inPlace := ["math/bits.Add64", "math/bits.Sub64", "math.sqrt", "math.Float64bits", "math.Float64frombits", "internal/abi.NoEscape", "internal/bytealg.MakeNoZero"], unfollowed := true, recurses := true, named := ["math/bits.divideError", "math/bits.overflowError"], apart := false, narrowed := true }
def BuildPlacesUptoSaid : Prop := buildPlacesUptoRow.holds Tryz.pinned (OpenSpec.upto buildPlacesSpec)

/-- 'tyreworkslaw05.BuildSequences', WHERE WHAT IT READS IS OF BULK AT MOST 1048576: true; the input reads as it did. -/
def buildSequencesUptoRow : OpenClaim := { program := "ytodckaioeomccaagreat", sum := "24f2324d634f77fc86ee86fce42b29d02947bc6d9c5a49b241007147858f1063", func := "tyreworks/tyreworkslaw05.BuildSequences", spec := "buildSequences", inPlace := ["math/bits.Add64", "math/bits.Sub64", "math.sqrt", "math.Float64bits", "math.Float64frombits", "internal/abi.NoEscape", "internal/bytealg.MakeNoZero"], unfollowed := true, recurses := true, named := ["math/bits.divideError", "math/bits.overflowError"], apart := false, narrowed := true }
def BuildSequencesUptoSaid : Prop := buildSequencesUptoRow.holds Tryz.pinned (OpenSpec.upto buildSequencesSpec)

/-- 'tyreworkslaw05.BuildLifts', WHERE WHAT IT READS IS OF BULK AT MOST 1048576: true; the input reads as it did. -/
def buildLiftsUptoRow : OpenClaim := { program := "ytodckaioeomccaagreat", sum := "24f2324d634f77fc86ee86fce42b29d02947bc6d9c5a49b241007147858f1063", func := "tyreworks/tyreworkslaw05.BuildLifts", spec := "buildLifts", inPlace := ["math/bits.Add64", "math/bits.Sub64", "internal/abi.NoEscape", "internal/bytealg.MakeNoZero", "math.sqrt", "math.Float64bits", "math.Float64frombits"], unfollowed := true, recurses := true, named := ["math/bits.divideError", "math/bits.overflowError"], apart := false, narrowed := true }
def BuildLiftsUptoSaid : Prop := buildLiftsUptoRow.holds Tryz.pinned (OpenSpec.upto buildLiftsSpec)

/-- 'tyreworkslaw05.BuildApart', WHERE WHAT IT READS IS OF BULK AT MOST 1048576: true; the input reads as it did. -/
def buildApartUptoRow : OpenClaim := { program := "ytodckaioeomccaagreat", sum := "24f2324d634f77fc86ee86fce42b29d02947bc6d9c5a49b241007147858f1063", func := "tyreworks/tyreworkslaw05.BuildApart", spec := "buildApart", inPlace := ["math/bits.Add64", "math/bits.Sub64", "math.sqrt", "math.Float64bits", "math.Float64frombits", "internal/abi.NoEscape", "internal/bytealg.MakeNoZero"], unfollowed := true, recurses := true, named := ["math/bits.divideError", "math/bits.overflowError"], apart := false, narrowed := true }
def BuildApartUptoSaid : Prop := buildApartUptoRow.holds Tryz.pinned (OpenSpec.upto buildApartSpec)

/-- 'tyreworkslaw05.BuildNoises', WHERE WHAT IT READS IS OF BULK AT MOST 1048576: true; the input reads as it did. -/
def buildNoisesUptoRow : OpenClaim := { program := "ytodckaioeomccaagreat", sum := "24f2324d634f77fc86ee86fce42b29d02947bc6d9c5a49b241007147858f1063", func := "tyreworks/tyreworkslaw05.BuildNoises", spec := "buildNoises", inPlace := ["math/bits.Add64", "math/bits.Sub64", "math.sqrt", "math.Float64bits", "math.Float64frombits", "internal/abi.NoEscape", "internal/bytealg.MakeNoZero"], unfollowed := true, recurses := true, named := ["math/bits.divideError", "math/bits.overflowError"], apart := false, narrowed := true }
def BuildNoisesUptoSaid : Prop := buildNoisesUptoRow.holds Tryz.pinned (OpenSpec.upto buildNoisesSpec)

/-- 'tyreworkslaw05.BuildCuts', WHERE WHAT IT READS IS OF BULK AT MOST 1048576: true; the input reads as it did. -/
def buildCutsUptoRow : OpenClaim := { program := "ytodckaioeomccaagreat", sum := "24f2324d634f77fc86ee86fce42b29d02947bc6d9c5a49b241007147858f1063", func := "tyreworks/tyreworkslaw05.BuildCuts", spec := "buildCuts", inPlace := ["math/bits.Add64", "math/bits.Sub64", "internal/abi.NoEscape", "internal/bytealg.MakeNoZero", "math.sqrt", "math.Float64bits", "math.Float64frombits"], unfollowed := true, recurses := true, named := ["math/bits.divideError", "math/bits.overflowError"], apart := false, narrowed := true }
def BuildCutsUptoSaid : Prop := buildCutsUptoRow.holds Tryz.pinned (OpenSpec.upto buildCutsSpec)

/-- 'tyreworkslaw05.BuildImpulses', WHERE WHAT IT READS IS OF BULK AT MOST 1048576: true; the input reads as it did. -/
def buildImpulsesUptoRow : OpenClaim := { program := "ytodckaioeomccaagreat", sum := "24f2324d634f77fc86ee86fce42b29d02947bc6d9c5a49b241007147858f1063", func := "tyreworks/tyreworkslaw05.BuildImpulses", spec := "buildImpulses", inPlace := ["math/bits.Add64", "math/bits.Sub64", "math.sqrt", "math.Float64bits", "math.Float64frombits", "internal/abi.NoEscape", "internal/bytealg.MakeNoZero"], unfollowed := true, recurses := true, named := ["math/bits.divideError", "math/bits.overflowError"], apart := false, narrowed := true }
def BuildImpulsesUptoSaid : Prop := buildImpulsesUptoRow.holds Tryz.pinned (OpenSpec.upto buildImpulsesSpec)

/-- 'tyreworkslaw05.BuildOrders', WHERE WHAT IT READS IS OF BULK AT MOST 1048576: true; the input reads as it did. -/
def buildOrdersUptoRow : OpenClaim := { program := "ytodckaioeomccaagreat", sum := "24f2324d634f77fc86ee86fce42b29d02947bc6d9c5a49b241007147858f1063", func := "tyreworks/tyreworkslaw05.BuildOrders", spec := "buildOrders", inPlace := ["math/bits.Add64", "math/bits.Sub64", "math.sqrt", "math.Float64bits", "math.Float64frombits", "internal/abi.NoEscape", "internal/bytealg.MakeNoZero"], unfollowed := true, recurses := true, named := ["math/bits.divideError", "math/bits.overflowError"], apart := false, narrowed := true }
def BuildOrdersUptoSaid : Prop := buildOrdersUptoRow.holds Tryz.pinned (OpenSpec.upto buildOrdersSpec)

/-- 'tyreworkslaw05.BuildPitches', WHERE WHAT IT READS IS OF BULK AT MOST 1048576: true; the input reads as it did. -/
def buildPitchesUptoRow : OpenClaim := { program := "ytodckaioeomccaagreat", sum := "24f2324d634f77fc86ee86fce42b29d02947bc6d9c5a49b241007147858f1063", func := "tyreworks/tyreworkslaw05.BuildPitches", spec := "buildPitches", inPlace := ["math/bits.Add64", "math/bits.Sub64", "math.sqrt", "math.Float64bits", "math.Float64frombits", "internal/abi.NoEscape", "internal/bytealg.MakeNoZero"], unfollowed := true, recurses := true, named := ["math/bits.divideError", "math/bits.overflowError"], apart := false, narrowed := true }
def BuildPitchesUptoSaid : Prop := buildPitchesUptoRow.holds Tryz.pinned (OpenSpec.upto buildPitchesSpec)

/-- 'tyreworkslaw05.BuildTurns', WHERE WHAT IT READS IS OF BULK AT MOST 1048576: true; the input reads as it did. -/
def buildTurnsUptoRow : OpenClaim := { program := "ytodckaioeomccaagreat", sum := "24f2324d634f77fc86ee86fce42b29d02947bc6d9c5a49b241007147858f1063", func := "tyreworks/tyreworkslaw05.BuildTurns", spec := "buildTurns", inPlace := ["math/bits.Add64", "math/bits.Sub64", "math.sqrt", "math.Float64bits", "math.Float64frombits", "internal/abi.NoEscape", "internal/bytealg.MakeNoZero"], unfollowed := true, recurses := true, named := ["math/bits.divideError", "math/bits.overflowError"], apart := false, narrowed := true }
def BuildTurnsUptoSaid : Prop := buildTurnsUptoRow.holds Tryz.pinned (OpenSpec.upto buildTurnsSpec)

/-- 'tyreworkslaw05.BuildBest', WHERE WHAT IT READS IS OF BULK AT MOST 1048576: true; the input reads as it did. -/
def buildBestUptoRow : OpenClaim := { program := "ytodckaioeomccaagreat", sum := "24f2324d634f77fc86ee86fce42b29d02947bc6d9c5a49b241007147858f1063", func := "tyreworks/tyreworkslaw05.BuildBest", spec := "buildBest", inPlace := ["math/bits.Add64", "math/bits.Sub64", "math.sqrt", "math.Float64bits", "math.Float64frombits", "internal/abi.NoEscape", "internal/bytealg.MakeNoZero"], unfollowed := true, recurses := true, named := ["math/bits.divideError", "math/bits.overflowError"], apart := false, narrowed := true }
def BuildBestUptoSaid : Prop := buildBestUptoRow.holds Tryz.pinned (OpenSpec.upto buildBestSpec)

/-- 'tyreworkslaw05.BuildVectors', WHERE WHAT IT READS IS OF BULK AT MOST 1048576: true; the input reads as it did. -/
def buildVectorsUptoRow : OpenClaim := { program := "ytodckaioeomccaagreat", sum := "24f2324d634f77fc86ee86fce42b29d02947bc6d9c5a49b241007147858f1063", func := "tyreworks/tyreworkslaw05.BuildVectors", spec := "buildVectors", inPlace := ["math/bits.Add64", "math/bits.Sub64", "math.sqrt", "math.Float64bits", "math.Float64frombits", "internal/abi.NoEscape", "internal/bytealg.MakeNoZero"], unfollowed := true, recurses := true, named := ["math/bits.divideError", "math/bits.overflowError"], apart := false, narrowed := true }
def BuildVectorsUptoSaid : Prop := buildVectorsUptoRow.holds Tryz.pinned (OpenSpec.upto buildVectorsSpec)

/-- 'tyreworkslaw05.BuildSections', WHERE WHAT IT READS IS OF BULK AT MOST 1048576: true; the input reads as it did. -/
def buildSectionsUptoRow : OpenClaim := { program := "ytodckaioeomccaagreat", sum := "24f2324d634f77fc86ee86fce42b29d02947bc6d9c5a49b241007147858f1063", func := "tyreworks/tyreworkslaw05.BuildSections", spec := "buildSections", inPlace := ["math/bits.Add64", "math/bits.Sub64", "math.sqrt", "math.Float64bits", "math.Float64frombits", "internal/abi.NoEscape", "internal/bytealg.MakeNoZero"], unfollowed := true, recurses := true, named := ["math/bits.divideError", "math/bits.overflowError"], apart := false, narrowed := true }
def BuildSectionsUptoSaid : Prop := buildSectionsUptoRow.holds Tryz.pinned (OpenSpec.upto buildSectionsSpec)

/-- 'tyreworkslaw05.BuildLayups', WHERE WHAT IT READS IS OF BULK AT MOST 1048576: true; the input reads as it did. -/
def buildLayupsUptoRow : OpenClaim := { program := "ytodckaioeomccaagreat", sum := "24f2324d634f77fc86ee86fce42b29d02947bc6d9c5a49b241007147858f1063", func := "tyreworks/tyreworkslaw05.BuildLayups", spec := "buildLayups", inPlace := ["math/bits.Add64", "math/bits.Sub64", "math.sqrt", "math.Float64bits", "math.Float64frombits", "internal/abi.NoEscape", "internal/bytealg.MakeNoZero"], unfollowed := true, recurses := true, named := ["math/bits.divideError", "math/bits.overflowError"], apart := false, narrowed := true }
def BuildLayupsUptoSaid : Prop := buildLayupsUptoRow.holds Tryz.pinned (OpenSpec.upto buildLayupsSpec)

/-- 'tyreworkslaw05.BuildFaults', WHERE WHAT IT READS IS OF BULK AT MOST 1048576: true; the input reads as it did. -/
def buildFaultsUptoRow : OpenClaim := { program := "ytodckaioeomccaagreat", sum := "24f2324d634f77fc86ee86fce42b29d02947bc6d9c5a49b241007147858f1063", func := "tyreworks/tyreworkslaw05.BuildFaults", spec := "buildFaults", inPlace := ["math/bits.Add64", "math/bits.Sub64", "math.sqrt", "math.Float64bits", "math.Float64frombits", "internal/abi.NoEscape", "internal/bytealg.MakeNoZero"], unfollowed := true, recurses := true, named := ["math/bits.divideError", "math/bits.overflowError"], apart := false, narrowed := true }
def BuildFaultsUptoSaid : Prop := buildFaultsUptoRow.holds Tryz.pinned (OpenSpec.upto buildFaultsSpec)

end Rows
end Go.Proofs.YtodckaioeomccaaGreat
