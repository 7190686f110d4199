/- Part of a proof, in few files: M13x. -/
import Derived.Test.YtdbfgnpobfbfmaaGreatDoorMPaK41
import Derived.Test.YtdbfgnpobfbfmaaGreatDoorMPaK42
import Derived.Test.YtdbfgnpobfbfmaaGreatDoorMPaK32

section
namespace Go.Abs
open Go.RowKit Go.Proofs
set_option maxRecDepth 100000
set_option linter.unusedVariables false
end Go.Abs
end
