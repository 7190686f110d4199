/- Printed by gen.py: the functions do what these conditions say. -/
import Derived.Test.YtibeobmcanaedaaDoorAbs28
import Derived.Test.YtibeobmcanaedaaDoorG07hD
import Derived.Test.YtibeobmcanaedaaDoorB07j
namespace Go.Abs
open Go.Proofs
set_option maxHeartbeats 4000000
set_option maxRecDepth 20000
set_option linter.unusedVariables false
set_option linter.unusedSimpArgs false
set_option linter.unnecessarySimpa false


theorem f22p_ok (m : Int) (p0 : List UInt8) (p1 : List UInt8) {r : Bool} (h : f22p p0 p1 r) : ASpec Tryd.prog (gt07 m) 22 [.pd (.str p0), .pd (.str p1)] (· = .pd (.bool r)) := by
  refine ASpec_tree Tryd.f22 mixed07 (askG [9, 10, 11] false) (by kernel_rfl) ?_
  unfold f22p at h
  obtain ⟨x1, hx2, h⟩ := h
  refine H_valW (g := 47) (args := [.pd (.str p0), .pd (.str p1)]) (M := []) (.pd (.int .i64 x1)) (.inl (by kernel_rfl)) (by kernel_rfl) (f47m_ok m _ _ hx2) (by kernel_rfl) (has07 47 (by kernel_rfl)) ?_
  refine H_split (decide (x1 ≥ (0 : Int))) (by kernel_rfl) (fun hc => ?_) (fun hc => ?_)
  · replace h := h.t hc; clear hc
    exact H_end .ret (.pd (.bool true)) (by kernel_rfl) rfl (by kernel_rfl) (by subst h; rfl)
  · replace h := h.f hc; clear hc
    exact H_end .ret (.pd (.bool false)) (by kernel_rfl) rfl (by kernel_rfl) (by subst h; rfl)

end Go.Abs
