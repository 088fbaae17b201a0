/- A part of the proof. -/
import Derived.Test.YtldfbnbckiifeaaGreatDoorFgBm
set_option maxHeartbeats 4000000
set_option linter.all false
namespace Go.Fu
open Go Go.Mx
set_option maxRecDepth 10000
end Go.Fu
