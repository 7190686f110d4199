/- Chapter 07: all lines, told of the walked texts. -/
import Derived.Test.YtibeobmcanaedaaDoorG07dW
import Derived.Test.YtibeobmcanaedaaDoorL07d
namespace Go.Abs
open Go.RowKit Go.Proofs
set_option maxRecDepth 20000
theorem all_main (m : Int) (s : List UInt8) : ASpec Tryd.prog (gt07 m) 3 [.pd (.str s)] (· = .pd (.bool true)) := f3_ok m s (law_all s)
end Go.Abs
