/- Chapter 07: strings.IndexAny does so. -/
import Derived.Test.YtibeobmcanaedaaDoorB07i
import Derived.Test.YtibeobmcanaedaaDoorG07fW
import Derived.Test.YtibeobmcanaedaaDoorB07w
namespace Go.Abs
open Go.RowKit Go.Proofs
set_option maxRecDepth 20000
theorem i122 : (Tryd.prog.info? 122).map (fun i => (i.zero, i.size)) = some (some (.agg (Array.replicate 256 (.bool false))), 256) := by kernel_rfl
theorem f47m_ok (m : Int) (s chars : List UInt8) {r : Int} (h : f47m s chars r) : ASpec Tryd.prog (gt07 m) 47 [.pd (.str s), .pd (.str chars)] (· = .pd (.int .i64 r)) := by
  rcases h with ⟨h8, h1, h2, h3, h4, rfl⟩ | h
  · refine ASpec.of_calls _ (by simp [AV.pure]) fun cx w vs hA hG hlt => ?_
    obtain ⟨v0, e0, r0⟩ := args_at hA 0 rfl
    obtain ⟨v1, e1, r1⟩ := args_at hA 1 rfl
    rw [str_inv r0] at e0; rw [str_inv r1] at e1
    rw [vs2 hA.1 e0 e1]
    refine (Any.strings_IndexAny_long Tryd.lays153 (zero_of_info i122).1 (zero_of_info i122).2 ⟨s.toArray⟩ ⟨chars.toArray⟩ w h2 h8 h1 h3 (fun j b hb => h4 b (List.mem_of_getElem? hb))).mono ?_
    rintro e w' ⟨rfl, rfl⟩
    exact ⟨_, rfl, ((below_alloc _).alloc (by show w.heap.size ≤ (w.heap.push _).size; simp) _), .pd _ _ (.int _ _)⟩
  · exact f47_ok m s chars h
end Go.Abs
