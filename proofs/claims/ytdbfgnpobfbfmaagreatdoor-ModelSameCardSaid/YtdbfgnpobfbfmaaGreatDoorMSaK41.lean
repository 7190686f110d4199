/- Part of a proof, in few files: BIw. -/
import Derived.Test.YtdbfgnpobfbfmaaGreatDoorMSaK27

section
/- slices.Index of texts does so. -/
namespace Go.Abs
open Go.RowKit Go.Proofs
set_option maxRecDepth 20000
theorem slices_Index_string_string_ok (m : Tp) (l : List (List UInt8)) (x : List UInt8) {r : Int} (h : slices_Index_string_string l x r) : ASpec Tryz.prog (gtT m) 153 [.pd (.sl (l.map PD.str)), .pd (.str x)] (· = .pd (.int .i64 r)) := by
  obtain ⟨hn, rfl⟩ := h
  refine ASpec.of_calls _ (by simp [AV.pure]) fun cx w vs hA hG hlt => ?_
  obtain ⟨v0, h0, r0⟩ := args_at hA 0 rfl
  obtain ⟨v1, h1, r1⟩ := args_at hA 1 rfl
  rw [str_inv r1] at h1
  have hp : PRep cx.imm w v0 (.sl (l.map PD.str)) := by cases r0 with | pd v x h => exact h
  rcases strs_inv hp with ⟨rfl, rfl⟩ | ⟨a, cap, rfl, hcap, hI, hc⟩
  · rw [vs2 hA.1 h0 h1]
    refine (Tryz.slices_Index_string_empty none 0 ⟨x.toArray⟩ w).mono ?_
    rintro e w' ⟨rfl, rfl⟩
    exact ⟨_, rfl, Below.refl _ _, .pd _ _ (.int _ _)⟩
  · rw [vs2 hA.1 h0 h1]
    cases l with
    | nil =>
      refine (Tryz.slices_Index_string_empty (some a) cap ⟨x.toArray⟩ w).mono ?_
      rintro e w' ⟨rfl, rfl⟩
      exact ⟨_, rfl, Below.refl _ _, .pd _ _ (.int _ _)⟩
    | cons y t =>
      obtain ⟨hsp, hIa⟩ := hI (by simp)
      have ea : a = ⟨a.block, a.off, none⟩ := by cases a; simp at hsp; subst hsp; rfl
      have := Tryz.slices_Index_string a.block a.off (y :: t).length cap ((y :: t).map fun s => ⟨s.toArray⟩) ⟨x.toArray⟩ w (by simp) (by omega) (fun j hj => ?_)
      · rw [ea]
        refine this.mono ?_
        rintro e w' ⟨rfl, rfl⟩
        rw [List.take_of_length_le (by simp)]
        exact ⟨_, rfl, Below.refl _ _, .pd _ _ (.int _ _)⟩
      · have hj' : j < (y :: t).length := by simpa using hj
        have := hc j _ (List.getElem?_eq_getElem hj')
        rw [this]
        simp only [List.getD_eq_getElem?_getD, List.getElem?_map, List.getElem?_eq_getElem hj', Option.map_some, Option.getD_some]

end Go.Abs
end
