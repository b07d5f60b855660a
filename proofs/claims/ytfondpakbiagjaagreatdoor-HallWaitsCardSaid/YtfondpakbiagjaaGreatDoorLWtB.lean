/- HallWaits: the closed facts of its row. -/
import Derived.Test.YtfondpakbiagjaaGreatDoorRows
import Derived.WalkKit
import Derived.ProofKit
import Derived.OpenShut
import Derived.ShutString
import Derived.ChangeOld
import Derived.Below
import Derived.LaidMore
import Derived.Lay
import Derived.SevenTiedAt
import Derived.Stop.Joined
import Derived.Test.YtfondpakbiagjaaGreatDoorHFac
namespace Go.Proofs.YtfondpakbiagjaaGreatDoor
open Go.ChangeShapes Go.WideShapes Go.ChangeAt Go.RowKit
set_option linter.unusedVariables false
namespace hallWaits
theorem place : (Rows.hallWaitsRow.inPlace == Tryz.prog.inPlace 5) = true := by kernel_rfl
theorem unfol : (Rows.hallWaitsRow.unfollowed == Tryz.prog.unfollowed 5) = true := by kernel_rfl
theorem recur : (Rows.hallWaitsRow.recurses == Tryz.prog.recurses 5) = true := by kernel_rfl
theorem namd : (Rows.hallWaitsRow.named == Tryz.prog.varsNamed 5) = true := by kernel_rfl
theorem closed : joinedFacts Tryz.prog 5 Tryz.f5 Rows.hallWaitsSpec Rows.hallWaitsRow = true :=
  joined_of Facts.laid Facts.rowed Facts.stops Facts.knobs Facts.keys Facts.heard Facts.enter Facts.lifts Facts.make (by kernel_rfl) (by kernel_rfl) (by kernel_rfl) (by kernel_rfl) (by kernel_rfl) place unfol recur namd
    (by kernel_rfl) (by kernel_rfl) (by kernel_rfl) (by kernel_rfl) (by kernel_rfl) (by kernel_rfl) (by kernel_rfl) (by kernel_rfl) (by kernel_rfl) rfl (by kernel_rfl) rfl rfl (by kernel_rfl) (by kernel_rfl) (by kernel_rfl) (by kernel_rfl)
end hallWaits
end Go.Proofs.YtfondpakbiagjaaGreatDoor
