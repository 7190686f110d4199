/- Further functions of the library's on texts do so. -/
import Derived.Test.YtdbfgnpobfbfmaaDoorBCd
import Derived.Test.YtdbfgnpobfbfmaaDoorBSw
namespace Go.Abs
open Go.RowKit Go.Proofs
set_option maxRecDepth 20000
theorem strings_CutPrefix_ok (m : Tp) (s p : List UInt8) {r : List UInt8 × Bool} (h : strings_CutPrefix s p r) : ASpec Tryd.prog (gtT m) 35 [.pd (.str s), .pd (.str p)] (· = .tup [.pd (.str r.1), .pd (.bool r.2)]) := by
  obtain rfl := h
  refine ASpec.of_calls _ (by simp [AV.pure]) fun cx w vs hA hG hlt => ?_
  obtain ⟨v0, h0, r0⟩ := args_at hA 0 rfl
  obtain ⟨v1, h1, r1⟩ := args_at hA 1 rfl
  rw [str_inv r0] at h0; rw [str_inv r1] at h1
  rw [vs2 hA.1 h0 h1]
  refine (Tryd.strings_CutPrefix ⟨s.toArray⟩ ⟨p.toArray⟩ w).mono ?_
  rintro e w' ⟨rfl, rfl⟩
  refine ⟨_, rfl, Below.refl _ _, .tup _ _ rfl fun i v x q1 q2 => ?_⟩
  match i with
  | 0 => simp at q1 q2; subst q1; subst q2; exact .pd _ _ (.str _)
  | 1 => simp at q1 q2; subst q1; subst q2; exact .pd _ _ (.bool _)
  | i + 2 => simp at q1
end Go.Abs
