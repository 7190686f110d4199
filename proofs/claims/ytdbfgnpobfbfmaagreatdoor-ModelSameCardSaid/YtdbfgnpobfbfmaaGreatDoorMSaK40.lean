/- Part of a proof, in few files: BDw. -/
import Derived.Test.YtdbfgnpobfbfmaaGreatDoorMSaK33
import Derived.Test.YtdbfgnpobfbfmaaGreatDoorMSaK27

section
/- CutSuffix, Contains do so. -/
namespace Go.Abs
open Go.RowKit Go.Proofs
set_option maxRecDepth 20000
theorem strings_CutSuffix_ok (m : Tp) (s p : List UInt8) {r : List UInt8 × Bool} (h : strings_CutSuffix s p r) : ASpec Tryz.prog (gtT m) 119 [.pd (.str s), .pd (.str p)] (· = .tup [.pd (.str r.1), .pd (.bool r.2)]) := by
  obtain ⟨hs, rfl⟩ := h
  refine ASpec.of_calls _ (by simp [AV.pure]) fun cx w vs hA hG hlt => ?_
  obtain ⟨v0, h0, r0⟩ := args_at hA 0 rfl
  obtain ⟨v1, h1, r1⟩ := args_at hA 1 rfl
  rw [str_inv r0] at h0; rw [str_inv r1] at h1
  rw [vs2 hA.1 h0 h1]
  refine (Tryz.strings_CutSuffix ⟨s.toArray⟩ ⟨p.toArray⟩ w hs).mono ?_
  rintro e w' ⟨rfl, rfl⟩
  refine ⟨_, rfl, Below.refl _ _, .tup _ _ rfl fun i v x q1 q2 => ?_⟩
  match i with
  | 0 => simp at q1 q2; subst q1; subst q2; exact .pd _ _ (.str _)
  | 1 => simp at q1 q2; subst q1; subst q2; exact .pd _ _ (.bool _)
  | i + 2 => simp at q1
theorem strings_Contains_ok (m : Tp) (s p : List UInt8) {r : Bool} (h : strings_Contains s p r) : ASpec Tryz.prog (gtT m) 150 [.pd (.str s), .pd (.str p)] (· = .pd (.bool r)) := by
  obtain ⟨hs, rfl⟩ := h
  refine ASpec.of_calls _ (by simp [AV.pure]) fun cx w vs hA hG hlt => ?_
  obtain ⟨v0, h0, r0⟩ := args_at hA 0 rfl
  obtain ⟨v1, h1, r1⟩ := args_at hA 1 rfl
  rw [str_inv r0] at h0; rw [str_inv r1] at h1
  rw [vs2 hA.1 h0 h1]
  have hm := glob_int (g := 2) (k := .i64) (m := m.1) hG rfl
  refine (Tryz.strings_Contains ⟨s.toArray⟩ ⟨p.toArray⟩ m.1 w hs hm).mono ?_
  rintro e w' ⟨rfl, rfl⟩
  exact ⟨_, rfl, Below.refl _ _, .pd _ _ (.bool _)⟩
end Go.Abs
end
