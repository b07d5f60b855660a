/-
  No cell of these rows narrows 'for every input' (looked for: loops, veiled, ifaces, maps, wideKeys, modest, calm, conditions, laid).
  DERIVED. THE GIVEN ROWS OF THIS SEAT. 12 by the template 'for every input the law returns true; each argument reads behind the call as it read before'; 0 by the template 'total and deterministic' (their statements: YtlanephpmoajiaaTotals.lean).
  GIVEN WITH THE SEED: the statements are not yours to turn. If you find one false, say at which input.
  Laid BY PROGRAM, IN A SANDBOX (cutbox-rows.mjs): the forced cells as the released guide's own fill.sh prints them over the translation c4836a1a1d49798e… (all of the seat's roots in one cut). By AI agents, Wed Nov 11 2026. No macro, syntax, notation, axiom, sorry.
-/
import Derived.Test.YtlanephpmoajiaaChecked
import GoSem.Claim
import GoSem.ClaimJoined
import GoSem.ClaimMapViews
import Derived.JoinedTies
import Derived.KernelRfl
namespace Go.Proofs.Ytlanephpmoajiaa
/- THE CELL 'sum', in the pinned program and in every row, IS THE sha256 OF THE DUMP (.gsa) THAT YtlanephpmoajiaaProg.lean LOADS. Nothing in Lean hashes anything: it is a label: what it is worth is what the hold of that sum in a sandbox is worth. -/
noncomputable def Try.pinned : Pinned := { name := "ytlanephpmoajiaa", sum := "c4836a1a1d49798ea5bd965d547f3359bcce82d1737705404e4057daaa5b83b0", checked := Try.checked }
namespace Rows
def none {H : Type} : Left H := { results := [], args := [] }

/-- 'tyreworkslaw09.PlantFull': WHATEVER THE INPUT: true; the input reads as it did. -/
def plantFullSpec : ChangeSpec := { name := "plantFull", fn := fun _ => fun
  | [d1, d2] => { results := [.lit (.bool true)], args := [d1, d2] }
  | _ => none }
def plantFullRow : OpenClaim := { program := "ytlanephpmoajiaa", sum := "c4836a1a1d49798ea5bd965d547f3359bcce82d1737705404e4057daaa5b83b0", func := "tyreworks/tyreworkslaw09.PlantFull", spec := "plantFull", inPlace := ["internal/bytealg.IndexByteString"], unfollowed := true, recurses := true, apart := false }
def PlantFullSaid : Prop := plantFullRow.holds Try.pinned (OpenSpec.ofChange plantFullSpec)

/-- ITS FALSE NEIGHBOUR: 'it returns false'. Refute it at one input. -/
def plantFullWrong : ChangeSpec := { name := "plantFull", fn := fun _ => fun
  | [d1, d2] => { results := [.lit (.bool false)], args := [d1, d2] }
  | _ => none }
def PlantFullWrongFalsely : Prop := plantFullRow.holds Try.pinned (OpenSpec.ofChange plantFullWrong)

/-- 'tyreworkslaw09.PlantLonger': WHATEVER THE INPUT: true; the input reads as it did. -/
def plantLongerSpec : ChangeSpec := { name := "plantLonger", fn := fun _ => fun
  | [d1, d2, d3] => { results := [.lit (.bool true)], args := [d1, d2, d3] }
  | _ => none }
def plantLongerRow : OpenClaim := { program := "ytlanephpmoajiaa", sum := "c4836a1a1d49798ea5bd965d547f3359bcce82d1737705404e4057daaa5b83b0", func := "tyreworks/tyreworkslaw09.PlantLonger", spec := "plantLonger", inPlace := ["internal/bytealg.IndexByteString"], unfollowed := true, recurses := true, apart := false }
def PlantLongerSaid : Prop := plantLongerRow.holds Try.pinned (OpenSpec.ofChange plantLongerSpec)

/-- ITS FALSE NEIGHBOUR: 'it returns false'. Refute it at one input. -/
def plantLongerWrong : ChangeSpec := { name := "plantLonger", fn := fun _ => fun
  | [d1, d2, d3] => { results := [.lit (.bool false)], args := [d1, d2, d3] }
  | _ => none }
def PlantLongerWrongFalsely : Prop := plantLongerRow.holds Try.pinned (OpenSpec.ofChange plantLongerWrong)

/-- 'tyreworkslaw09.PlantEnters': WHATEVER THE INPUT: true; the input reads as it did. -/
def plantEntersSpec : ChangeSpec := { name := "plantEnters", fn := fun _ => fun
  | [d1, d2, d3] => { results := [.lit (.bool true)], args := [d1, d2, d3] }
  | _ => none }
def plantEntersRow : OpenClaim := { program := "ytlanephpmoajiaa", sum := "c4836a1a1d49798ea5bd965d547f3359bcce82d1737705404e4057daaa5b83b0", func := "tyreworks/tyreworkslaw09.PlantEnters", spec := "plantEnters", inPlace := ["internal/bytealg.IndexByteString"], unfollowed := true, recurses := true, apart := false }
def PlantEntersSaid : Prop := plantEntersRow.holds Try.pinned (OpenSpec.ofChange plantEntersSpec)

/-- ITS FALSE NEIGHBOUR: 'it returns false'. Refute it at one input. -/
def plantEntersWrong : ChangeSpec := { name := "plantEnters", fn := fun _ => fun
  | [d1, d2, d3] => { results := [.lit (.bool false)], args := [d1, d2, d3] }
  | _ => none }
def PlantEntersWrongFalsely : Prop := plantEntersRow.holds Try.pinned (OpenSpec.ofChange plantEntersWrong)

/-- 'tyreworkslaw09.PlantCodes': WHATEVER THE INPUT: true; the input reads as it did. -/
def plantCodesSpec : ChangeSpec := { name := "plantCodes", fn := fun _ => fun
  | [d] => { results := [.lit (.bool true)], args := [d] }
  | _ => none }
def plantCodesRow : OpenClaim := { program := "ytlanephpmoajiaa", sum := "c4836a1a1d49798ea5bd965d547f3359bcce82d1737705404e4057daaa5b83b0", func := "tyreworks/tyreworkslaw09.PlantCodes", spec := "plantCodes", inPlace := ["internal/bytealg.IndexByteString"], unfollowed := true, recurses := true, apart := false }
def PlantCodesSaid : Prop := plantCodesRow.holds Try.pinned (OpenSpec.ofChange plantCodesSpec)

/-- ITS FALSE NEIGHBOUR: 'it returns false'. Refute it at one input. -/
def plantCodesWrong : ChangeSpec := { name := "plantCodes", fn := fun _ => fun
  | [d] => { results := [.lit (.bool false)], args := [d] }
  | _ => none }
def PlantCodesWrongFalsely : Prop := plantCodesRow.holds Try.pinned (OpenSpec.ofChange plantCodesWrong)

/-- 'tyreworkslaw09.PlantSeals': WHATEVER THE INPUT: true; the input reads as it did. -/
def plantSealsSpec : ChangeSpec := { name := "plantSeals", fn := fun _ => fun
  | [d1, d2, d3, d4] => { results := [.lit (.bool true)], args := [d1, d2, d3, d4] }
  | _ => none }
def plantSealsRow : OpenClaim := { program := "ytlanephpmoajiaa", sum := "c4836a1a1d49798ea5bd965d547f3359bcce82d1737705404e4057daaa5b83b0", func := "tyreworks/tyreworkslaw09.PlantSeals", spec := "plantSeals", inPlace := ["internal/bytealg.IndexByteString"], unfollowed := true, recurses := true, apart := false }
def PlantSealsSaid : Prop := plantSealsRow.holds Try.pinned (OpenSpec.ofChange plantSealsSpec)

/-- ITS FALSE NEIGHBOUR: 'it returns false'. Refute it at one input. -/
def plantSealsWrong : ChangeSpec := { name := "plantSeals", fn := fun _ => fun
  | [d1, d2, d3, d4] => { results := [.lit (.bool false)], args := [d1, d2, d3, d4] }
  | _ => none }
def PlantSealsWrongFalsely : Prop := plantSealsRow.holds Try.pinned (OpenSpec.ofChange plantSealsWrong)

/-- 'tyreworkslaw09.PlantWays': WHATEVER THE INPUT: true; the input reads as it did. -/
def plantWaysSpec : ChangeSpec := { name := "plantWays", fn := fun _ => fun
  | [d1, d2] => { results := [.lit (.bool true)], args := [d1, d2] }
  | _ => none }
def plantWaysRow : OpenClaim := { program := "ytlanephpmoajiaa", sum := "c4836a1a1d49798ea5bd965d547f3359bcce82d1737705404e4057daaa5b83b0", func := "tyreworks/tyreworkslaw09.PlantWays", spec := "plantWays", inPlace := ["internal/bytealg.IndexByteString"], unfollowed := true, recurses := true, apart := false }
def PlantWaysSaid : Prop := plantWaysRow.holds Try.pinned (OpenSpec.ofChange plantWaysSpec)

/-- ITS FALSE NEIGHBOUR: 'it returns false'. Refute it at one input. -/
def plantWaysWrong : ChangeSpec := { name := "plantWays", fn := fun _ => fun
  | [d1, d2] => { results := [.lit (.bool false)], args := [d1, d2] }
  | _ => none }
def PlantWaysWrongFalsely : Prop := plantWaysRow.holds Try.pinned (OpenSpec.ofChange plantWaysWrong)

/-- 'tyreworkslaw09.PlantCounts': WHATEVER THE INPUT: true; the input reads as it did. -/
def plantCountsSpec : ChangeSpec := { name := "plantCounts", fn := fun _ => fun
  | [d1, d2, d3, d4] => { results := [.lit (.bool true)], args := [d1, d2, d3, d4] }
  | _ => none }
def plantCountsRow : OpenClaim := { program := "ytlanephpmoajiaa", sum := "c4836a1a1d49798ea5bd965d547f3359bcce82d1737705404e4057daaa5b83b0", func := "tyreworks/tyreworkslaw09.PlantCounts", spec := "plantCounts", inPlace := ["internal/bytealg.IndexByteString"], unfollowed := true, recurses := true, apart := false }
def PlantCountsSaid : Prop := plantCountsRow.holds Try.pinned (OpenSpec.ofChange plantCountsSpec)

/-- ITS FALSE NEIGHBOUR: 'it returns false'. Refute it at one input. -/
def plantCountsWrong : ChangeSpec := { name := "plantCounts", fn := fun _ => fun
  | [d1, d2, d3, d4] => { results := [.lit (.bool false)], args := [d1, d2, d3, d4] }
  | _ => none }
def PlantCountsWrongFalsely : Prop := plantCountsRow.holds Try.pinned (OpenSpec.ofChange plantCountsWrong)

/-- 'tyreworkslaw09.PlantCloses': WHATEVER THE INPUT: true; the input reads as it did. -/
def plantClosesSpec : ChangeSpec := { name := "plantCloses", fn := fun _ => fun
  | [d1, d2, d3, d4, d5] => { results := [.lit (.bool true)], args := [d1, d2, d3, d4, d5] }
  | _ => none }
def plantClosesRow : OpenClaim := { program := "ytlanephpmoajiaa", sum := "c4836a1a1d49798ea5bd965d547f3359bcce82d1737705404e4057daaa5b83b0", func := "tyreworks/tyreworkslaw09.PlantCloses", spec := "plantCloses", inPlace := ["internal/bytealg.IndexByteString"], unfollowed := true, recurses := true, apart := false }
def PlantClosesSaid : Prop := plantClosesRow.holds Try.pinned (OpenSpec.ofChange plantClosesSpec)

/-- ITS FALSE NEIGHBOUR: 'it returns false'. Refute it at one input. -/
def plantClosesWrong : ChangeSpec := { name := "plantCloses", fn := fun _ => fun
  | [d1, d2, d3, d4, d5] => { results := [.lit (.bool false)], args := [d1, d2, d3, d4, d5] }
  | _ => none }
def PlantClosesWrongFalsely : Prop := plantClosesRow.holds Try.pinned (OpenSpec.ofChange plantClosesWrong)

/-- 'tyreworkslaw09.PlantBothWays': WHATEVER THE INPUT: true; the input reads as it did. -/
def plantBothWaysSpec : ChangeSpec := { name := "plantBothWays", fn := fun _ => fun
  | [d] => { results := [.lit (.bool true)], args := [d] }
  | _ => none }
def plantBothWaysRow : OpenClaim := { program := "ytlanephpmoajiaa", sum := "c4836a1a1d49798ea5bd965d547f3359bcce82d1737705404e4057daaa5b83b0", func := "tyreworks/tyreworkslaw09.PlantBothWays", spec := "plantBothWays", inPlace := ["internal/bytealg.IndexByteString"], unfollowed := true, recurses := true, apart := false }
def PlantBothWaysSaid : Prop := plantBothWaysRow.holds Try.pinned (OpenSpec.ofChange plantBothWaysSpec)

/-- ITS FALSE NEIGHBOUR: 'it returns false'. Refute it at one input. -/
def plantBothWaysWrong : ChangeSpec := { name := "plantBothWays", fn := fun _ => fun
  | [d] => { results := [.lit (.bool false)], args := [d] }
  | _ => none }
def PlantBothWaysWrongFalsely : Prop := plantBothWaysRow.holds Try.pinned (OpenSpec.ofChange plantBothWaysWrong)

/-- 'tyreworkslaw09.PlantTouches': WHATEVER THE INPUT: true; the input reads as it did. -/
def plantTouchesSpec : ChangeSpec := { name := "plantTouches", fn := fun _ => fun
  | [d1, d2, d3, d4] => { results := [.lit (.bool true)], args := [d1, d2, d3, d4] }
  | _ => none }
def plantTouchesRow : OpenClaim := { program := "ytlanephpmoajiaa", sum := "c4836a1a1d49798ea5bd965d547f3359bcce82d1737705404e4057daaa5b83b0", func := "tyreworks/tyreworkslaw09.PlantTouches", spec := "plantTouches", inPlace := ["internal/bytealg.IndexByteString"], unfollowed := true, recurses := true, apart := false }
def PlantTouchesSaid : Prop := plantTouchesRow.holds Try.pinned (OpenSpec.ofChange plantTouchesSpec)

/-- ITS FALSE NEIGHBOUR: 'it returns false'. Refute it at one input. -/
def plantTouchesWrong : ChangeSpec := { name := "plantTouches", fn := fun _ => fun
  | [d1, d2, d3, d4] => { results := [.lit (.bool false)], args := [d1, d2, d3, d4] }
  | _ => none }
def PlantTouchesWrongFalsely : Prop := plantTouchesRow.holds Try.pinned (OpenSpec.ofChange plantTouchesWrong)

/-- 'tyreworkslaw09.PlantRecalls': WHATEVER THE INPUT: true; the input reads as it did. -/
def plantRecallsSpec : ChangeSpec := { name := "plantRecalls", fn := fun _ => fun
  | [d1, d2, d3, d4] => { results := [.lit (.bool true)], args := [d1, d2, d3, d4] }
  | _ => none }
def plantRecallsRow : OpenClaim := { program := "ytlanephpmoajiaa", sum := "c4836a1a1d49798ea5bd965d547f3359bcce82d1737705404e4057daaa5b83b0", func := "tyreworks/tyreworkslaw09.PlantRecalls", spec := "plantRecalls", inPlace := ["internal/bytealg.IndexByteString"], unfollowed := true, recurses := true, apart := false }
def PlantRecallsSaid : Prop := plantRecallsRow.holds Try.pinned (OpenSpec.ofChange plantRecallsSpec)

/-- ITS FALSE NEIGHBOUR: 'it returns false'. Refute it at one input. -/
def plantRecallsWrong : ChangeSpec := { name := "plantRecalls", fn := fun _ => fun
  | [d1, d2, d3, d4] => { results := [.lit (.bool false)], args := [d1, d2, d3, d4] }
  | _ => none }
def PlantRecallsWrongFalsely : Prop := plantRecallsRow.holds Try.pinned (OpenSpec.ofChange plantRecallsWrong)

/-- 'tyreworkslaw09.PlantNil': WHATEVER THE INPUT: true; the input reads as it did. -/
def plantNilSpec : ChangeSpec := { name := "plantNil", fn := fun _ => fun
  | [d1, d2, d3] => { results := [.lit (.bool true)], args := [d1, d2, d3] }
  | _ => none }
def plantNilRow : OpenClaim := { program := "ytlanephpmoajiaa", sum := "c4836a1a1d49798ea5bd965d547f3359bcce82d1737705404e4057daaa5b83b0", func := "tyreworks/tyreworkslaw09.PlantNil", spec := "plantNil", inPlace := ["internal/bytealg.IndexByteString"], unfollowed := true, recurses := true, apart := false }
def PlantNilSaid : Prop := plantNilRow.holds Try.pinned (OpenSpec.ofChange plantNilSpec)

/-- ITS FALSE NEIGHBOUR: 'it returns false'. Refute it at one input. -/
def plantNilWrong : ChangeSpec := { name := "plantNil", fn := fun _ => fun
  | [d1, d2, d3] => { results := [.lit (.bool false)], args := [d1, d2, d3] }
  | _ => none }
def PlantNilWrongFalsely : Prop := plantNilRow.holds Try.pinned (OpenSpec.ofChange plantNilWrong)

/- THE SECOND FORM. 'bulk': how many values and letters a reading holds, each counted each time it is reached (what is shared counts as often as it is met; a slice's spare places count too). A statement '..UptoSaid' is the law's where the arguments, and the package variables that the reading takes, are together of bulk at most 1048576: NARROWER than '..Said'. Prove '..Said' where nothing that the law and all that it calls make is longer than what came in: it says more and counts as full. Else prove '..UptoSaid'. A law counts once. -/
mutual
def uptoBulk {H : Type} : DataW H → Nat
  | .lit (.string bytes) => bytes.length + 1
  | .lit _ => 1
  | .nil => 1
  | .ptr d => uptoBulk d + 1
  | .slice elems spare => uptoBulkAll elems + uptoBulkAll spare + 1
  | .agg parts => uptoBulkAll parts + 1
  | .iface _ d => uptoBulk d + 1
  | .map entries => uptoBulkEntries entries + 1
  | .held _ => 1
def uptoBulkAll {H : Type} : List (DataW H) → Nat
  | [] => 0
  | d :: r => uptoBulk d + uptoBulkAll r
def uptoBulkEntries {H : Type} : List (Lit × DataW H) → Nat
  | [] => 0
  | x :: r => uptoBulkEntry x + uptoBulkEntries r
def uptoBulkEntry {H : Type} : Lit × DataW H → Nat
  | (.string bytes, d) => bytes.length + uptoBulk d + 1
  | (_, d) => uptoBulk d + 1
 end
def uptoSmall : (H : Type) → List (DataW H) → Bool := fun _ ds => decide (uptoBulkAll ds ≤ 1048576)
def OpenSpec.upto (s : _root_.Go.ChangeSpec) : _root_.Go.OpenSpec := { _root_.Go.OpenSpec.ofChange s with cond := some uptoSmall }

/-- 'tyreworkslaw09.PlantFull', WHERE WHAT IT READS IS OF BULK AT MOST 1048576: true; the input reads as it did. -/
def plantFullUptoRow : OpenClaim := { program := "ytlanephpmoajiaa", sum := "c4836a1a1d49798ea5bd965d547f3359bcce82d1737705404e4057daaa5b83b0", func := "tyreworks/tyreworkslaw09.PlantFull", spec := "plantFull", inPlace := ["internal/bytealg.IndexByteString"], unfollowed := true, recurses := true, apart := false, narrowed := true }
def PlantFullUptoSaid : Prop := plantFullUptoRow.holds Try.pinned (OpenSpec.upto plantFullSpec)

/-- 'tyreworkslaw09.PlantLonger', WHERE WHAT IT READS IS OF BULK AT MOST 1048576: true; the input reads as it did. -/
def plantLongerUptoRow : OpenClaim := { program := "ytlanephpmoajiaa", sum := "c4836a1a1d49798ea5bd965d547f3359bcce82d1737705404e4057daaa5b83b0", func := "tyreworks/tyreworkslaw09.PlantLonger", spec := "plantLonger", inPlace := ["internal/bytealg.IndexByteString"], unfollowed := true, recurses := true, apart := false, narrowed := true }
def PlantLongerUptoSaid : Prop := plantLongerUptoRow.holds Try.pinned (OpenSpec.upto plantLongerSpec)

/-- 'tyreworkslaw09.PlantEnters', WHERE WHAT IT READS IS OF BULK AT MOST 1048576: true; the input reads as it did. -/
def plantEntersUptoRow : OpenClaim := { program := "ytlanephpmoajiaa", sum := "c4836a1a1d49798ea5bd965d547f3359bcce82d1737705404e4057daaa5b83b0", func := "tyreworks/tyreworkslaw09.PlantEnters", spec := "plantEnters", inPlace := ["internal/bytealg.IndexByteString"], unfollowed := true, recurses := true, apart := false, narrowed := true }
def PlantEntersUptoSaid : Prop := plantEntersUptoRow.holds Try.pinned (OpenSpec.upto plantEntersSpec)

/-- 'tyreworkslaw09.PlantCodes', WHERE WHAT IT READS IS OF BULK AT MOST 1048576: true; the input reads as it did. -/
def plantCodesUptoRow : OpenClaim := { program := "ytlanephpmoajiaa", sum := "c4836a1a1d49798ea5bd965d547f3359bcce82d1737705404e4057daaa5b83b0", func := "tyreworks/tyreworkslaw09.PlantCodes", spec := "plantCodes", inPlace := ["internal/bytealg.IndexByteString"], unfollowed := true, recurses := true, apart := false, narrowed := true }
def PlantCodesUptoSaid : Prop := plantCodesUptoRow.holds Try.pinned (OpenSpec.upto plantCodesSpec)

/-- 'tyreworkslaw09.PlantSeals', WHERE WHAT IT READS IS OF BULK AT MOST 1048576: true; the input reads as it did. -/
def plantSealsUptoRow : OpenClaim := { program := "ytlanephpmoajiaa", sum := "c4836a1a1d49798ea5bd965d547f3359bcce82d1737705404e4057daaa5b83b0", func := "tyreworks/tyreworkslaw09.PlantSeals", spec := "plantSeals", inPlace := ["internal/bytealg.IndexByteString"], unfollowed := true, recurses := true, apart := false, narrowed := true }
def PlantSealsUptoSaid : Prop := plantSealsUptoRow.holds Try.pinned (OpenSpec.upto plantSealsSpec)

/-- 'tyreworkslaw09.PlantWays', WHERE WHAT IT READS IS OF BULK AT MOST 1048576: true; the input reads as it did. -/
def plantWaysUptoRow : OpenClaim := { program := "ytlanephpmoajiaa", sum := "c4836a1a1d49798ea5bd965d547f3359bcce82d1737705404e4057daaa5b83b0", func := "tyreworks/tyreworkslaw09.PlantWays", spec := "plantWays", inPlace := ["internal/bytealg.IndexByteString"], unfollowed := true, recurses := true, apart := false, narrowed := true }
def PlantWaysUptoSaid : Prop := plantWaysUptoRow.holds Try.pinned (OpenSpec.upto plantWaysSpec)

/-- 'tyreworkslaw09.PlantCounts', WHERE WHAT IT READS IS OF BULK AT MOST 1048576: true; the input reads as it did. -/
def plantCountsUptoRow : OpenClaim := { program := "ytlanephpmoajiaa", sum := "c4836a1a1d49798ea5bd965d547f3359bcce82d1737705404e4057daaa5b83b0", func := "tyreworks/tyreworkslaw09.PlantCounts", spec := "plantCounts", inPlace := ["internal/bytealg.IndexByteString"], unfollowed := true, recurses := true, apart := false, narrowed := true }
def PlantCountsUptoSaid : Prop := plantCountsUptoRow.holds Try.pinned (OpenSpec.upto plantCountsSpec)

/-- 'tyreworkslaw09.PlantCloses', WHERE WHAT IT READS IS OF BULK AT MOST 1048576: true; the input reads as it did. -/
def plantClosesUptoRow : OpenClaim := { program := "ytlanephpmoajiaa", sum := "c4836a1a1d49798ea5bd965d547f3359bcce82d1737705404e4057daaa5b83b0", func := "tyreworks/tyreworkslaw09.PlantCloses", spec := "plantCloses", inPlace := ["internal/bytealg.IndexByteString"], unfollowed := true, recurses := true, apart := false, narrowed := true }
def PlantClosesUptoSaid : Prop := plantClosesUptoRow.holds Try.pinned (OpenSpec.upto plantClosesSpec)

/-- 'tyreworkslaw09.PlantBothWays', WHERE WHAT IT READS IS OF BULK AT MOST 1048576: true; the input reads as it did. -/
def plantBothWaysUptoRow : OpenClaim := { program := "ytlanephpmoajiaa", sum := "c4836a1a1d49798ea5bd965d547f3359bcce82d1737705404e4057daaa5b83b0", func := "tyreworks/tyreworkslaw09.PlantBothWays", spec := "plantBothWays", inPlace := ["internal/bytealg.IndexByteString"], unfollowed := true, recurses := true, apart := false, narrowed := true }
def PlantBothWaysUptoSaid : Prop := plantBothWaysUptoRow.holds Try.pinned (OpenSpec.upto plantBothWaysSpec)

/-- 'tyreworkslaw09.PlantTouches', WHERE WHAT IT READS IS OF BULK AT MOST 1048576: true; the input reads as it did. -/
def plantTouchesUptoRow : OpenClaim := { program := "ytlanephpmoajiaa", sum := "c4836a1a1d49798ea5bd965d547f3359bcce82d1737705404e4057daaa5b83b0", func := "tyreworks/tyreworkslaw09.PlantTouches", spec := "plantTouches", inPlace := ["internal/bytealg.IndexByteString"], unfollowed := true, recurses := true, apart := false, narrowed := true }
def PlantTouchesUptoSaid : Prop := plantTouchesUptoRow.holds Try.pinned (OpenSpec.upto plantTouchesSpec)

/-- 'tyreworkslaw09.PlantRecalls', WHERE WHAT IT READS IS OF BULK AT MOST 1048576: true; the input reads as it did. -/
def plantRecallsUptoRow : OpenClaim := { program := "ytlanephpmoajiaa", sum := "c4836a1a1d49798ea5bd965d547f3359bcce82d1737705404e4057daaa5b83b0", func := "tyreworks/tyreworkslaw09.PlantRecalls", spec := "plantRecalls", inPlace := ["internal/bytealg.IndexByteString"], unfollowed := true, recurses := true, apart := false, narrowed := true }
def PlantRecallsUptoSaid : Prop := plantRecallsUptoRow.holds Try.pinned (OpenSpec.upto plantRecallsSpec)

/-- 'tyreworkslaw09.PlantNil', WHERE WHAT IT READS IS OF BULK AT MOST 1048576: true; the input reads as it did. -/
def plantNilUptoRow : OpenClaim := { program := "ytlanephpmoajiaa", sum := "c4836a1a1d49798ea5bd965d547f3359bcce82d1737705404e4057daaa5b83b0", func := "tyreworks/tyreworkslaw09.PlantNil", spec := "plantNil", inPlace := ["internal/bytealg.IndexByteString"], unfollowed := true, recurses := true, apart := false, narrowed := true }
def PlantNilUptoSaid : Prop := plantNilUptoRow.holds Try.pinned (OpenSpec.upto plantNilSpec)

end Rows
end Go.Proofs.Ytlanephpmoajiaa
