/- Chapter 07: strings.IndexByte, told. -/
import Derived.Test.YtibeobmcanaedaaDoorB07d
import Derived.Lib.IndexAny
namespace Go.Abs
open Go
/-- strings.IndexByte. -/
def f110 (s : List UInt8) (c : Int) (r : Int) : Prop := r = Lib.indexByte s c.toNat.toUInt8
end Go.Abs
