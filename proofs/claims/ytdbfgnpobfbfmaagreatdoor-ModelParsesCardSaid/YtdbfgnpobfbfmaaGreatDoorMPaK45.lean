/- Part of a proof, in few files: G13cW. -/
import Derived.Test.YtdbfgnpobfbfmaaGreatDoorMPaK29
import Derived.Test.YtdbfgnpobfbfmaaGreatDoorMPaK31
import Derived.Test.YtdbfgnpobfbfmaaGreatDoorMPaK32
import Derived.Test.YtdbfgnpobfbfmaaGreatDoorMPaK44

section
namespace Go.Abs
open Go.Proofs
set_option maxHeartbeats 4000000
set_option maxRecDepth 20000
set_option linter.unusedVariables false
set_option linter.unusedSimpArgs false
set_option linter.unnecessarySimpa false
def lvI64 (x : Int) : List PD := [.int .i64 x]
theorem okI64 : LVok lvI64 1 := fun _ => ⟨rfl, rfl⟩
end Go.Abs
end
