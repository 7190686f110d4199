/- What the library's functions on a number's words come to. -/
import Derived.Test.YtdbfgnpobfbfmaaDoorGW
namespace Go.Abs
/-- slices.Clone. -/
def slices_Clone_nat_Nat_uint32 (l r : List Int) : Prop := Fits l.length 4 ∧ r = l
end Go.Abs
