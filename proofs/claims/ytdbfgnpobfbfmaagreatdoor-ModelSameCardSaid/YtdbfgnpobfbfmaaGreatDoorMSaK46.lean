/- Part of a proof, in few files: M13x. -/
import Derived.Test.YtdbfgnpobfbfmaaGreatDoorMSaK44
import Derived.Test.YtdbfgnpobfbfmaaGreatDoorMSaK45
import Derived.Test.YtdbfgnpobfbfmaaGreatDoorMSaK33

section
/- Chapter 13: awake answers yes: run by the interpreter, in parts. -/
namespace Go.Abs
open Go.RowKit Go.Proofs
set_option maxRecDepth 100000
set_option linter.unusedVariables false

end Go.Abs
end
