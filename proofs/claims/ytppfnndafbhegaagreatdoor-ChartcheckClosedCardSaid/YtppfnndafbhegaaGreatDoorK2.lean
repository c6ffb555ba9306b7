/-
  The call starts no goroutine; no condition.
-/
import Derived.Test.YtppfnndafbhegaaGreatDoorRows
import Derived.Test.YtppfnndafbhegaaGreatDoorChecked
import Derived.SevenTiedAt
namespace Go.Proofs.YtppfnndafbhegaaGreatDoor.chartcheckClosed.K2
theorem kg:false=Rows.chartcheckClosedRow.goesBy Tryz.pinned.checked.prog:=by kernel_rfl
end Go.Proofs.YtppfnndafbhegaaGreatDoor.chartcheckClosed.K2
