/- Part of a proof, in few files: GLiW. -/
import Derived.Test.YtdbfgnpobfbfmaaGreatDoorMPaK29
import Derived.Test.YtdbfgnpobfbfmaaGreatDoorMPaK31
import Derived.Test.YtdbfgnpobfbfmaaGreatDoorMPaK32
import Derived.Test.YtdbfgnpobfbfmaaGreatDoorMPaK34
import Derived.Test.YtdbfgnpobfbfmaaGreatDoorMPaK38

section
namespace Go.Abs
open Go.Proofs
set_option maxRecDepth 20000
set_option linter.unusedVariables false
set_option linter.unusedSimpArgs false
set_option linter.unnecessarySimpa false
theorem lines_Index_ok (m : Tp) (p0 : List (List UInt8)) (p1 : List UInt8) {r : Int} (h : lines_Index p0 p1 r) : ASpec Tryz.prog (gtT m) 124 [.pd (.sl (p0.map elS)), .pd (.str p1)] (· = .pd (.int .i64 r)) := by
 refine ASpec_tree Tryz.f124 mixedT (askG [9, 10, 11] false) (by kernel_rfl) ?_
 unfold lines_Index at h
 obtain ⟨x1, hx2, h⟩ := h
 refine QV (slices_Index_string_string_ok m _ _ hx2) ?_
 subst r; exact QE .ret
end Go.Abs
end
