/- Chapter 07: the library's further functions do so. -/
import Derived.Test.YtibeobmcanaedaaDoorB07e
import Derived.Test.YtibeobmcanaedaaDoorB07w
namespace Go.Abs
open Go.RowKit Go.Proofs
set_option maxRecDepth 20000

theorem f22_ok (m : Int) (s chars : List UInt8) {r : Bool} (h : f22 s chars r) : ASpec Tryd.prog (gt07 m) 22 [.pd (.str s), .pd (.str chars)] (· = .pd (.bool r)) := by
  obtain ⟨h1, h2, h3, h4, rfl⟩ := h
  refine ASpec.of_calls _ (by simp [AV.pure]) fun cx w vs hA hG hlt => ?_
  obtain ⟨v0, e0, r0⟩ := args_at hA 0 rfl
  obtain ⟨v1, e1, r1⟩ := args_at hA 1 rfl
  rw [str_inv r0] at e0; rw [str_inv r1] at e1
  rw [vs2 hA.1 e0 e1]
  refine (Tryd.strings_ContainsAny_laid ⟨s.toArray⟩ ⟨chars.toArray⟩ w h1 h2 (fun j b hb => h3 b (List.mem_of_getElem? hb)) (fun j b hb => h4 b (List.mem_of_getElem? hb))).mono ?_
  rintro e w' ⟨rfl, hb⟩
  exact ⟨_, rfl, hb, .pd _ _ (.bool _)⟩

theorem f25_ok (m : Int) (s : List UInt8) (c : Int) {r : List UInt8} (h : f25 s c r) : ASpec Tryd.prog (gt07 m) 25 [.pd (.str s), .pd (.int .i64 c)] (· = .pd (.str r)) := by
  obtain ⟨n, rfl, h1, h2, rfl⟩ := h
  refine str_spec fun cx w vs hA hG hlt => ?_
  obtain ⟨v0, e0, r0⟩ := args_at hA 0 rfl
  obtain ⟨v1, e1, r1⟩ := args_at hA 1 rfl
  rw [str_inv r0] at e0
  obtain rfl : v1 = .int .i64 (n : Int) := by cases r1 with | pd v x h => cases h; rfl
  rw [vs2 hA.1 e0 e1]
  exact Tryd.strings_Repeat ⟨s.toArray⟩ n w (by omega) h2
end Go.Abs
