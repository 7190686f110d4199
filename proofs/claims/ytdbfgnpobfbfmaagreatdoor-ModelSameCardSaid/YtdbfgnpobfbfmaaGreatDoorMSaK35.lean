/- Part of a proof, in few files: GLinW. -/
import Derived.Test.YtdbfgnpobfbfmaaGreatDoorMSaK30
import Derived.Test.YtdbfgnpobfbfmaaGreatDoorMSaK33
import Derived.Test.YtdbfgnpobfbfmaaGreatDoorMSaK27

section
/- Printed by gen.py: the functions do what these conditions say. -/
namespace Go.Abs
open Go.Proofs
set_option maxRecDepth 20000
set_option linter.unusedVariables false
set_option linter.unusedSimpArgs false
set_option linter.unnecessarySimpa false

def lvS (x : List UInt8) : List PD := [.str x]
def elS (x : List UInt8) : PD := .str x
theorem okS : LVok lvS 1 := fun _ => ⟨rfl, rfl⟩
theorem leS : ELok elS lvS := fun _ => rfl
end Go.Abs
end
