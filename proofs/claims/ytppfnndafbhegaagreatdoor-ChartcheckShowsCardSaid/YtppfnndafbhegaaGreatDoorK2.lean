/-
  The call starts no goroutine; no condition.
-/
import Derived.Test.YtppfnndafbhegaaGreatDoorRows
import Derived.Test.YtppfnndafbhegaaGreatDoorChecked
import Derived.SevenTiedAt
namespace Go.Proofs.YtppfnndafbhegaaGreatDoor.chartcheckShows.K2
theorem kg:false=Rows.chartcheckShowsRow.goesBy Tryz.pinned.checked.prog:=by kernel_rfl
end Go.Proofs.YtppfnndafbhegaaGreatDoor.chartcheckShows.K2
