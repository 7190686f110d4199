/- Chapter 07: blanks, told of the walked texts. -/
import Derived.Test.YtibeobmcanaedaaDoorG07bW
import Derived.Test.YtibeobmcanaedaaDoorL07c
namespace Go.Abs
open Go.RowKit Go.Proofs
set_option maxRecDepth 20000
theorem blank_main (m : Int) (s : List UInt8) (more : Int) (note : List UInt8) (w : (Lit.int .u8 more).wf = true) : ASpec Tryd.prog (gt07 m) 8 [.pd (.str s), .pd (.int .u8 more), .pd (.str note)] (· = .pd (.bool true)) := by
  simp [Lit.wf, IntKind.min, IntKind.max, IntKind.signed, IntKind.bits] at w
  exact f8_ok m s more note (law_blank s more note w.1 w.2)
end Go.Abs
