/- Chapter 07: strings.ContainsAny does so. -/
import Derived.Test.YtibeobmcanaedaaDoorB07k
import Derived.Test.YtibeobmcanaedaaDoorB07f
import Derived.Test.YtibeobmcanaedaaDoorG07hW
namespace Go.Abs
open Go.RowKit Go.Proofs
set_option maxRecDepth 20000
theorem f22a_ok (m : Int) (s chars : List UInt8) {r : Bool} (h : f22a s chars r) : ASpec Tryd.prog (gt07 m) 22 [.pd (.str s), .pd (.str chars)] (· = .pd (.bool r)) := by
  rcases h with h | h
  · exact f22_ok m s chars h
  · exact f22p_ok m s chars h
end Go.Abs
