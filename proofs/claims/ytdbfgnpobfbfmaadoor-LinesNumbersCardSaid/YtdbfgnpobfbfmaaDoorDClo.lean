/- Printed by gen.py: what functions come to, as conditions over numbers and lists. -/
import Derived.Test.YtdbfgnpobfbfmaaDoorGW
namespace Go.Abs
set_option linter.unusedVariables false
set_option linter.unusedSimpArgs false
set_option linter.unnecessarySimpa false

/-- slices.Clone[offcut nat.Nat,uint32] -/
def slices_Clone_nat_Nat_uint32_cons (y0 : Int) (q0 : List Int) (r : (List Int)) : Prop :=
  IfB (y0 :: q0).isEmpty
    (r = ([] : List Int))
    (Fits (([] : List Int).length + (y0 :: q0).length) 4 ∧
    r = (([] : List Int) ++ (y0 :: q0)))

end Go.Abs
