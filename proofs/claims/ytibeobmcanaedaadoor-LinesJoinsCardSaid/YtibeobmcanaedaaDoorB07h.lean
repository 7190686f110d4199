/- Chapter 07: strings.IndexByte does so. -/
import Derived.Test.YtibeobmcanaedaaDoorB07g
import Derived.Test.YtibeobmcanaedaaDoorB07w
namespace Go.Abs
open Go.RowKit Go.Proofs
set_option maxRecDepth 20000
theorem f110_ok (m : Int) (s : List UInt8) (c : Int) {r : Int} (h : f110 s c r) : ASpec Tryd.prog (gt07 m) 110 [.pd (.str s), .pd (.int .u8 c)] (· = .pd (.int .i64 r)) := by
  subst h
  refine ASpec.of_calls _ (by simp [AV.pure]) fun cx w vs hA hG hlt => ?_
  obtain ⟨v0, e0, r0⟩ := args_at hA 0 rfl
  obtain ⟨v1, e1, r1⟩ := args_at hA 1 rfl
  rw [str_inv r0] at e0
  obtain rfl : v1 = .int .u8 c := by cases r1 with | pd v x h => cases h; rfl
  rw [vs2 hA.1 e0 e1]
  refine (Tryd.strings_IndexByte ⟨s.toArray⟩ c w).mono ?_
  rintro e w' ⟨rfl, rfl⟩
  exact ⟨_, rfl, Below.refl _ _, .pd _ _ (.int _ _)⟩
end Go.Abs
