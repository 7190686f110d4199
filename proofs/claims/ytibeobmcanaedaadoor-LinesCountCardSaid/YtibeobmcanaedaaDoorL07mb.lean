/- Chapter 07: counts, told of the walked texts. -/
import Derived.Test.YtibeobmcanaedaaDoorG07aW
import Derived.Test.YtibeobmcanaedaaDoorL07b
namespace Go.Abs
open Go.RowKit Go.Proofs
set_option maxRecDepth 20000
theorem count_main (m : Int) (s : List UInt8) : ASpec Tryd.prog (gt07 m) 5 [.pd (.str s)] (· = .pd (.bool true)) := f5_ok m s (law_count s)
end Go.Abs
