/- Part of a proof, in few files: G13cW. -/
import Derived.Test.YtdbfgnpobfbfmaaGreatDoorMSaK30
import Derived.Test.YtdbfgnpobfbfmaaGreatDoorMSaK33
import Derived.Test.YtdbfgnpobfbfmaaGreatDoorMSaK47

section
/- Printed by gen.py: the functions do what these conditions say. -/
namespace Go.Abs
open Go.Proofs
set_option maxHeartbeats 4000000
set_option maxRecDepth 20000
set_option linter.unusedVariables false
set_option linter.unusedSimpArgs false
set_option linter.unnecessarySimpa false

end Go.Abs
end
