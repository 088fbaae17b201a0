/-
 A line of code,as the document prints it: the walk.
-/
import Derived.Test.YtldfbnbckiifeaaGreatDoorFgBm
set_option maxHeartbeats 4000000
set_option linter.unusedSimpArgs false
set_option linter.unusedVariables false
set_option linter.unusedSectionVars false
namespace Go.Fu
open Go Go.Mx
set_option maxRecDepth 10000
set_option maxHeartbeats 4000000
end Go.Fu
