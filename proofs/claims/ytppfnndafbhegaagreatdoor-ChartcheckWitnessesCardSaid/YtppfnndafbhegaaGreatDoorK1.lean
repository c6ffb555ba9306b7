/-
  The head of the program's dump names the harness file; no condition.
-/
import Derived.Test.YtppfnndafbhegaaGreatDoorRows
import Derived.Test.YtppfnndafbhegaaGreatDoorChecked
import Derived.SevenTiedAt
namespace Go.Proofs.YtppfnndafbhegaaGreatDoor.chartcheckWitnesses.K1
theorem km:Tryz.pinned.checked.prog.mainIs=some (true,"16bcb538407a7e34d49705c629878eda5941c7b367ca5cd21dbf7ccba097e956".toList):=by kernel_rfl
end Go.Proofs.YtppfnndafbhegaaGreatDoor.chartcheckWitnesses.K1
