/- The chart of an axis is read from its text. -/
import Derived.Test.YtlpdcjbkbcmahaaGreatDoorMoC
set_option maxRecDepth 1000000
namespace Go.Av.Mo
theorem read2 : (m19 2) = some (C2, 0) := by kernel_rfl
end Go.Av.Mo
