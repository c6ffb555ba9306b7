/- The chart of an axis is read from its text. -/
import Derived.Test.YtlpdcjbkbcmahaaGreatDoorMoC
set_option maxRecDepth 1000000
namespace Go.Av.Mo
theorem read3 : (m19 3) = some (C3, 0) := by kernel_rfl
end Go.Av.Mo
