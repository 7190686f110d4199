/- Further functions of the library's on texts, told. -/
import Derived.Test.YtdbfgnpobfbfmaaDoorBSd
import Derived.Lib.Strings
namespace Go.Abs
open Go
/-- strings.CutPrefix. -/
def strings_CutPrefix (s p : List UInt8) (r : List UInt8 × Bool) : Prop := r = (Lib.trimPrefix s p, Lib.hasPrefix s p)
end Go.Abs
