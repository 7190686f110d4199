/- Chapter 07: joins, told of the walked texts. -/
import Derived.Test.YtibeobmcanaedaaDoorG07eW
import Derived.Test.YtibeobmcanaedaaDoorL07e
namespace Go.Abs
open Go.RowKit Go.Proofs
set_option maxRecDepth 20000
theorem joins_main (m : Int) (l : List (List UInt8)) (s : List UInt8) : ASpec Tryd.prog (gt07 m) 7 [.pd (.sl (l.map PD.str)), .pd (.str s)] (· = .pd (.bool true)) := f7_ok m l s (law_joins l s)
end Go.Abs
