/- HallWaits: how its row goes over the program's text. -/
import Derived.Test.YtfondpakbiagjaaGreatDoorRows
import Derived.SevenTiedAt
namespace Go.Proofs.YtfondpakbiagjaaGreatDoor
open Go
namespace hallWaits
theorem goes : false = Rows.hallWaitsRow.goesBy Tryz.pinned.checked.prog := by kernel_rfl
end hallWaits
end Go.Proofs.YtfondpakbiagjaaGreatDoor
