/- Chapter 07: strings.ContainsAny, told of any text. -/
import Derived.Test.YtibeobmcanaedaaDoorB07e
import Derived.Test.YtibeobmcanaedaaDoorG07hD
namespace Go.Abs
open Go
def f22a (s chars : List UInt8) (r : Bool) : Prop := f22 s chars r ∨ f22p s chars r
end Go.Abs
