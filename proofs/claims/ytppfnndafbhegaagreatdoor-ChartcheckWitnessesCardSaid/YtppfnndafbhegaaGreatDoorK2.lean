/-
  The call starts no goroutine; no condition.
-/
import Derived.Test.YtppfnndafbhegaaGreatDoorRows
import Derived.Test.YtppfnndafbhegaaGreatDoorChecked
import Derived.SevenTiedAt
namespace Go.Proofs.YtppfnndafbhegaaGreatDoor.chartcheckWitnesses.K2
theorem kg:false=Rows.chartcheckWitnessesRow.goesBy Tryz.pinned.checked.prog:=by kernel_rfl
end Go.Proofs.YtppfnndafbhegaaGreatDoor.chartcheckWitnesses.K2
