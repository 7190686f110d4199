/- Printed by gen.py: what functions come to, as conditions over numbers and lists. -/
import Derived.Test.YtibeobmcanaedaaDoorGW
import Derived.Test.YtibeobmcanaedaaDoorB07i
namespace Go.Abs
set_option linter.unusedVariables false
set_option linter.unusedSimpArgs false
set_option linter.unnecessarySimpa false

/-- strings.ContainsAny -/
def f22p (p0 : List UInt8) (p1 : List UInt8) (r : Bool) : Prop :=
  ∃ (x1 : Int), f47m p0 p1 x1 ∧
  IfB (decide (x1 ≥ (0 : Int)))
    (r = true)
    (r = false)

end Go.Abs
