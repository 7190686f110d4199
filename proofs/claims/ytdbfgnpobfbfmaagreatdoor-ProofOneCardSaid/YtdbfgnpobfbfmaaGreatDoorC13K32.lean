/- Part of a proof, in few files: GLinW. -/
import Derived.Test.YtdbfgnpobfbfmaaGreatDoorC13K30
import Derived.Test.YtdbfgnpobfbfmaaGreatDoorC13K31
import Derived.Test.YtdbfgnpobfbfmaaGreatDoorC13K27

section
/- Printed by gen.py: the functions do what these conditions say. -/
namespace Go.Abs
open Go.Proofs
set_option maxRecDepth 20000
set_option linter.unusedVariables false
set_option linter.unusedSimpArgs false
set_option linter.unnecessarySimpa false

end Go.Abs
end
