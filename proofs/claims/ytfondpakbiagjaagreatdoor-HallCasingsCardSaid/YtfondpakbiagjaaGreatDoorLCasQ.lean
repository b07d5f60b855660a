/- HallCasings: how its row goes over the program's text. -/
import Derived.Test.YtfondpakbiagjaaGreatDoorRows
import Derived.SevenTiedAt
namespace Go.Proofs.YtfondpakbiagjaaGreatDoor
open Go
namespace hallCasings
theorem goes : false = Rows.hallCasingsRow.goesBy Tryz.pinned.checked.prog := by kernel_rfl
end hallCasings
end Go.Proofs.YtfondpakbiagjaaGreatDoor
