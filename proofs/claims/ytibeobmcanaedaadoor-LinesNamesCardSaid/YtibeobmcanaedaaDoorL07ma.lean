/- Chapter 07: names, told of the walked texts. -/
import Derived.Test.YtibeobmcanaedaaDoorG07aW
import Derived.Test.YtibeobmcanaedaaDoorL07a
namespace Go.Abs
open Go.RowKit Go.Proofs
set_option maxRecDepth 20000
theorem names_main (m : Int) (s : List UInt8) : ASpec Tryd.prog (gt07 m) 4 [.pd (.str s)] (· = .pd (.bool true)) := f4_ok m s (law_names s)
end Go.Abs
