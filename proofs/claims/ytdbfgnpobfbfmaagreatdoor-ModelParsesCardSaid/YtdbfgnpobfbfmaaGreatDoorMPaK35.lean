/- Part of a proof, in few files: DClo GCloW. -/
import Derived.Test.YtdbfgnpobfbfmaaGreatDoorMPaK19
import Derived.Test.YtdbfgnpobfbfmaaGreatDoorMPaK29
import Derived.Test.YtdbfgnpobfbfmaaGreatDoorMPaK31
import Derived.Test.YtdbfgnpobfbfmaaGreatDoorMPaK34

section
namespace Go.Abs
set_option linter.unusedVariables false
set_option linter.unusedSimpArgs false
set_option linter.unnecessarySimpa false
def slices_Clone_nat_Nat_uint32_cons (y0 : Int) (q0 : List Int) (r : (List Int)) : Prop :=
  IfB (y0 :: q0).isEmpty
    (r = [])
    (Fits (([] : List Int).length + (y0 :: q0).length) 4 ∧
    r = (([] : List Int) ++ (y0 :: q0)))
end Go.Abs
end

section
namespace Go.Abs
open Go.Proofs
set_option maxRecDepth 20000
set_option linter.unusedVariables false
set_option linter.unusedSimpArgs false
set_option linter.unnecessarySimpa false
def lvU32 (x : Int) : List PD := [.int .u32 x]
def elU32 (x : Int) : PD := .int .u32 x
theorem okU32 : LVok lvU32 1 := fun _ => ⟨rfl, rfl⟩
theorem leU32 : ELok elU32 lvU32 := fun _ => rfl
theorem lgU32 : ELg elU32 lvU32 1 := fun _ => rfl
theorem slices_Clone_nat_Nat_uint32_cons_ok (m : Tp) (y0 : Int) (q0 : List Int) {r : (List Int)} (h : slices_Clone_nat_Nat_uint32_cons y0 q0 r) : ASpec Tryz.prog (gtT m) 146 [.pd (.sl ((y0 :: q0).map elU32))] (· = .pd (.sl (r.map elU32))) := by
 refine ASpec_tree Tryz.f146 mixedT (askG [9, 10, 11] false) (by kernel_rfl) ?_
 unfold slices_Clone_nat_Nat_uint32_cons at h
 refine QK 1 ?_
 cases hx1 : ((y0 :: q0)).isEmpty
 ·replace h := h.f hx1
  obtain ⟨hx2, h⟩ := h
  refine QZ (ask_appF (P := Tryz.prog) (M := []) (lv := lvU32) (s := 1) (e := ([] : List Int)) (e2 := (y0 :: q0)) (sT := 40) (xT := 40) (by_ := 4) okU32 leU32 (by kernel_rfl) (src_pd (M := []) okU32 leU32) (ne_of_isEmpty hx1) hx2) ?_
  subst r; exact QX .ret (.own 0 ((([] : List Int) ++ (y0 :: q0)).length) 0) [.cells (rowC lvU32 (([] : List Int) ++ (y0 :: q0))) 1 0 false] (pure_2to3 (pure_1to2 (pure1_own okU32 (by decide) lgU32 (M := [.cells (rowC lvU32 (([] : List Int) ++ (y0 :: q0))) 1 0 false]) (b := 0) (o := .cells (rowC lvU32 (([] : List Int) ++ (y0 :: q0))) 1 0 false) (by kernel_rfl) (rowIs_c (lv := lvU32) (s := 1) (e := (([] : List Int) ++ (y0 :: q0))) (ver := 0) (z := false)) (n := (([] : List Int) ++ (y0 :: q0)).length) rfl) rfl) rfl)
 ·replace h := h.t hx1
  refine QZ (ask_app0 (P := Tryz.prog) (M := []) (lv := lvU32) (s := 1) (e := ([] : List Int)) (e2 := (y0 :: q0)) (sT := 40) (xT := 40) (by_ := 4) okU32 leU32 (by kernel_rfl) (src_pd (M := []) okU32 leU32) hx1) ?_
  subst r; exact QE .ret
end Go.Abs
end
