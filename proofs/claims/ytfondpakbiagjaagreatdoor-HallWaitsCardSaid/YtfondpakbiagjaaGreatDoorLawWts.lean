/- HallWaits: for every input the law returns true; each argument reads afterwards as it read before. No condition but what the card says of the library's variables. -/
import Derived.Test.YtfondpakbiagjaaGreatDoorRows
import Derived.Test.YtfondpakbiagjaaGreatDoorCards
import Derived.Test.YtfondpakbiagjaaGreatDoorTie
import Derived.WalkKit
import Derived.ProofKit
import Derived.OpenShut
import Derived.ShutString
import Derived.ChangeOld
import Derived.Below
import Derived.LaidMore
import Derived.Lay
import Derived.SevenTiedAt
import Derived.Stop.Joined
import Derived.Test.YtfondpakbiagjaaGreatDoorLWtO
import Derived.Test.YtfondpakbiagjaaGreatDoorLWtQ
namespace Go.Proofs.YtfondpakbiagjaaGreatDoor
open Go.ChangeShapes Go.WideShapes Go.ChangeAt Go.RowKit
set_option linter.unusedVariables false
namespace hallWaits
theorem proved : Rows.HallWaitsCardSaid :=
  Claim7.holds_tied_plain_at .later [] [.data, .data, .data, .data, .sentinel, .sentinel, .pinned] true (true, "b31a0738ad63fcb900355005e36c2cfa67439dd2b88394dd3704aff8e7746a14") true over (fun _ h => by cases h) (by kernel_rfl) (fun _ h => by cases h) hallWaits_row_tie rfl ⟨rfl, rfl⟩ (by kernel_rfl) rfl
    (fun f fn hf hfn => by
      obtain rfl : f = 5 := Option.some.inj ((show Tryz.prog.funcNamed "tyreworks/tyreworkslaw10.HallWaits" = some 5 by kernel_rfl).symm.trans hf) |>.symm
      obtain rfl : fn = Tryz.f5 := (Option.some.inj (Tryz.func5.symm.trans hfn)).symm
      exact ⟨by kernel_rfl, fun j t ht => by
        rw [Tryz.params5] at ht
        have hm : t ∈ [31, 31] := by simpa using Array.mem_of_getElem? ht
        have hall : ([31, 31].all fun u => !Tryz.prog.wantsStandIn u) = true := by kernel_rfl
        exact (show Tryz.prog.wantsStandIn t = false by simpa using List.all_eq_true.1 hall t hm)⟩)
    goes
#print axioms proved
end hallWaits
end Go.Proofs.YtfondpakbiagjaaGreatDoor
