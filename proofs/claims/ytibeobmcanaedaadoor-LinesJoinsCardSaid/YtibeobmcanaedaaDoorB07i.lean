/- Chapter 07: strings.IndexAny, told: by the shelf where the text is long, by the printed walk where it is short. -/
import Derived.Test.YtibeobmcanaedaaDoorG07fD
import Derived.Lib.IndexAny
namespace Go.Abs
open Go
def f47m (s chars : List UInt8) (r : Int) : Prop := (8 < s.length ∧ Short s ∧ 2 ≤ chars.length ∧ Short chars ∧ Ascii chars ∧ r = Lib.indexAny s chars) ∨ f47 s chars r
end Go.Abs
