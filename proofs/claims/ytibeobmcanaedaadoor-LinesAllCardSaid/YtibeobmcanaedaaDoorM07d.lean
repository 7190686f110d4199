/- Chapter 07: conditions told by hand. -/
import Derived.Test.YtibeobmcanaedaaDoorB07d
namespace Go.Abs
/-- What the document fixes of two lines: it is so. -/
def f9 (r : Bool) : Prop := r = true
end Go.Abs
