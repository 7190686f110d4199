/- Chapter 07: the library's functions do so. -/
import Derived.Test.YtibeobmcanaedaaDoorB07d
import Derived.Test.YtibeobmcanaedaaDoorAbs29
import Derived.Test.YtibeobmcanaedaaDoorS07
namespace Go.Abs
open Go.RowKit Go.Proofs
set_option maxRecDepth 20000

theorem mixed07 : Tryd.prog.follows .mixedOrders = true := by kernel_rfl
theorem names07 : Tryd.prog.funcs.all (fun fn => !(fn.name == "runtime.NumGoroutine")) = true := by kernel_rfl
theorem has07 (f : Nat) (h : hasBody Tryd.prog f = true) : Enters Tryd.prog f := entersB names07 h

/-- The package-level variables: m stands for what bytealg's MaxLen holds. -/
def gt07 (m : Int) : Tabs := fun g => match g with | 0 => some (Lib.asciiSpaceTab.map (PD.int .u8)) | 1 => some [PD.int .i64 m] | _ => none

theorem toB (s : List UInt8) : (⟨s.toArray⟩ : ByteArray).data.toList = s := rfl
theorem sizeB (s : List UInt8) : (⟨s.toArray⟩ : ByteArray).size = s.length := rfl

theorem f28_ok (m : Int) (s sep : List UInt8) {r : List (List UInt8)} (h : f28 s sep r) : ASpec Tryd.prog (gt07 m) 28 [.pd (.str s), .pd (.str sep)] (· = .pd (.sl (r.map PD.str))) := by
  obtain ⟨hs, c, rfl, rfl⟩ := h
  refine strs_spec fun cx w vs hA hG => ?_
  obtain ⟨v0, h0, r0⟩ := args_at hA 0 rfl
  obtain ⟨v1, h1, r1⟩ := args_at hA 1 rfl
  rw [str_inv r0] at h0; rw [str_inv r1] at h1
  rw [vs2 hA.1 h0 h1]
  have hm := glob_int (g := 1) (k := .i64) (m := m) hG rfl
  have hk := Tryd.strings_Split ⟨s.toArray⟩ ⟨[c].toArray⟩ m w hs hm (Nat.le_refl _)
  have e1 : Lib.countB ⟨s.toArray⟩ ⟨[c].toArray⟩ = s.count c := Lib.count_one c s
  have e2 := Lib.splitB_data ⟨[c].toArray⟩ 0 (s.count c) ⟨s.toArray⟩
  have e3 : (Lib.splitB ⟨[c].toArray⟩ 0 (s.count c) ⟨s.toArray⟩).map (·.data.toList) = splitC c s := by rw [e2]; exact split_one c s
  have e4 := Lib.splitB_all ⟨[c].toArray⟩ (Nat.le_refl _) 0 (s.count c) ⟨s.toArray⟩ e1
  have e5 : (splitC c s).length = s.count c + 1 := by rw [← e3, List.length_map, e4]
  have e6 : (splitC c s).map (fun l => Value.string ⟨l.toArray⟩) = (Lib.splitB ⟨[c].toArray⟩ 0 (s.count c) ⟨s.toArray⟩).map Value.string := by
    rw [← e3, List.map_map]
    refine List.map_congr_left fun x _ => ?_
    simp
  rw [e1] at hk
  exact ⟨9, by rw [e5, e6]; exact hk⟩

theorem f29_ok (m : Int) (s sep : List UInt8) {r : List UInt8 × List UInt8 × Bool} (h : f29 s sep r) : ASpec Tryd.prog (gt07 m) 29 [.pd (.str s), .pd (.str sep)] (· = .tup [.pd (.str r.1), .pd (.str r.2.1), .pd (.bool r.2.2)]) := by
  obtain ⟨hs, c, rfl, rfl⟩ := h
  refine ASpec.of_calls _ (by simp [AV.pure]) fun cx w vs hA hG hlt => ?_
  obtain ⟨v0, h0, r0⟩ := args_at hA 0 rfl
  obtain ⟨v1, h1, r1⟩ := args_at hA 1 rfl
  rw [str_inv r0] at h0; rw [str_inv r1] at h1
  rw [vs2 hA.1 h0 h1]
  have hm := glob_int (g := 1) (k := .i64) (m := m) hG rfl
  refine (Tryd.strings_Cut ⟨s.toArray⟩ ⟨[c].toArray⟩ m w hs hm).mono ?_
  rintro e w' ⟨rfl, n, rfl⟩
  refine ⟨_, rfl, below_drewN _, .tup _ _ rfl fun i v x q1 q2 => ?_⟩
  match i with
  | 0 => simp at q1 q2; subst q1; subst q2; exact .pd _ _ (.str _)
  | 1 => simp at q1 q2; subst q1; subst q2; exact .pd _ _ (.str _)
  | 2 => simp at q1 q2; subst q1; subst q2; exact .pd _ _ (.bool _)
  | i + 3 => simp at q1

theorem f30_ok (m : Int) (s : List UInt8) {r : List (List UInt8)} (h : f30 s r) : ASpec Tryd.prog (gt07 m) 30 [.pd (.str s)] (· = .pd (.sl (r.map PD.str))) := by
  obtain ⟨hs, ha, rfl⟩ := h
  refine strs_spec fun cx w vs hA hG => ?_
  obtain ⟨v0, h0, r0⟩ := args_at hA 0 rfl
  rw [str_inv r0] at h0
  rw [vs1 hA.1 h0]
  exact ⟨9, Tryd.strings_Fields_laid ⟨s.toArray⟩ w hs (fun j b hb => ha b (List.mem_of_getElem? hb)) (glob_tab (g := 0) hG rfl (by kernel_rfl))⟩

theorem f13_ok (m : Int) (l : List (List UInt8)) (sep : List UInt8) {r : List UInt8} (h : f13 l sep r) : ASpec Tryd.prog (gt07 m) 13 [.pd (.sl (l.map PD.str)), .pd (.str sep)] (· = .pd (.str r)) := by
  obtain ⟨hn, hj, rfl⟩ := h
  refine str_spec fun cx w vs hA hG hlt => ?_
  obtain ⟨v0, h0, r0⟩ := args_at hA 0 rfl
  obtain ⟨v1, h1, r1⟩ := args_at hA 1 rfl
  rw [str_inv r1] at h1
  have hp : PRep cx.imm w v0 (.sl (l.map PD.str)) := by cases r0 with | pd v x h => exact h
  rcases strs_inv hp with ⟨rfl, rfl⟩ | ⟨a, cap, rfl, hcap, hI, hc⟩
  · rw [vs2 hA.1 h0 h1]
    refine (Tryd.strings_Join_none none 0 ⟨sep.toArray⟩ w).mono ?_
    rintro e w' ⟨rfl, rfl⟩
    exact ⟨rfl, Below.refl _ _⟩
  · rw [vs2 hA.1 h0 h1]
    cases l with
    | nil =>
      refine (Tryd.strings_Join_none (some a) cap ⟨sep.toArray⟩ w).mono ?_
      rintro e w' ⟨rfl, rfl⟩
      exact ⟨rfl, Below.refl _ _⟩
    | cons x t =>
      obtain ⟨hsp, hIa⟩ := hI (by simp)
      have ea : a = ⟨a.block, a.off, none⟩ := by cases a; simp at hsp; subst hsp; rfl
      have e1 : ((x :: t).map fun s => (⟨s.toArray⟩ : ByteArray)).map (·.data.toList) = x :: t := by rw [List.map_map]; simp [Function.comp_def]
      have := Tryd.strings_Join a.block a.off cap ((x :: t).map fun s => ⟨s.toArray⟩) ⟨sep.toArray⟩ w (fun j b hb => ?_) (hlt _ hIa) (by simpa using hn) (by simpa using hcap) (by rw [e1]; exact hj)
      · rw [e1, List.length_map] at this
        rw [ea]; exact this
      · simp only [List.getElem?_map, Option.map_eq_some_iff] at hb
        obtain ⟨s, hs, rfl⟩ := hb
        exact hc j s hs

theorem f16_ok (m : Int) (s sub : List UInt8) {r : Int} (h : f16 s sub r) : ASpec Tryd.prog (gt07 m) 16 [.pd (.str s), .pd (.str sub)] (· = .pd (.int .i64 r)) := by
  obtain ⟨c, rfl, rfl⟩ := h
  refine ASpec.of_calls _ (by simp [AV.pure]) fun cx w vs hA hG hlt => ?_
  obtain ⟨v0, h0, r0⟩ := args_at hA 0 rfl
  obtain ⟨v1, h1, r1⟩ := args_at hA 1 rfl
  rw [str_inv r0] at h0; rw [str_inv r1] at h1
  rw [vs2 hA.1 h0 h1]
  refine (Tryd.strings_Count_one ⟨s.toArray⟩ c w).mono ?_
  rintro e w' ⟨rfl, rfl⟩
  exact ⟨_, rfl, Below.refl _ _, .pd _ _ (.int _ _)⟩

theorem f48_ok (m : Int) (l : List (List UInt8)) (x : List UInt8) {r : Int} (h : f48 l x r) : ASpec Tryd.prog (gt07 m) 48 [.pd (.sl (l.map PD.str)), .pd (.str x)] (· = .pd (.int .i64 r)) := by
  obtain ⟨hn, rfl⟩ := h
  refine ASpec.of_calls _ (by simp [AV.pure]) fun cx w vs hA hG hlt => ?_
  obtain ⟨v0, h0, r0⟩ := args_at hA 0 rfl
  obtain ⟨v1, h1, r1⟩ := args_at hA 1 rfl
  rw [str_inv r1] at h1
  have hp : PRep cx.imm w v0 (.sl (l.map PD.str)) := by cases r0 with | pd v x h => exact h
  rcases strs_inv hp with ⟨rfl, rfl⟩ | ⟨a, cap, rfl, hcap, hI, hc⟩
  · rw [vs2 hA.1 h0 h1]
    refine (Tryd.slices_Index_string_empty none 0 ⟨x.toArray⟩ w).mono ?_
    rintro e w' ⟨rfl, rfl⟩
    exact ⟨_, rfl, Below.refl _ _, .pd _ _ (.int _ _)⟩
  · rw [vs2 hA.1 h0 h1]
    cases l with
    | nil =>
      refine (Tryd.slices_Index_string_empty (some a) cap ⟨x.toArray⟩ w).mono ?_
      rintro e w' ⟨rfl, rfl⟩
      exact ⟨_, rfl, Below.refl _ _, .pd _ _ (.int _ _)⟩
    | cons y t =>
      obtain ⟨hsp, hIa⟩ := hI (by simp)
      have ea : a = ⟨a.block, a.off, none⟩ := by cases a; simp at hsp; subst hsp; rfl
      have := Tryd.slices_Index_string a.block a.off (y :: t).length cap ((y :: t).map fun s => ⟨s.toArray⟩) ⟨x.toArray⟩ w (by simp) (by omega) (fun j hj => ?_)
      · rw [ea]
        refine this.mono ?_
        rintro e w' ⟨rfl, rfl⟩
        rw [List.take_of_length_le (by simp)]
        exact ⟨_, rfl, Below.refl _ _, .pd _ _ (.int _ _)⟩
      · have hj' : j < (y :: t).length := by simpa using hj
        have := hc j _ (List.getElem?_eq_getElem hj')
        rw [this]
        simp only [List.getD_eq_getElem?_getD, List.getElem?_map, List.getElem?_eq_getElem hj', Option.map_some, Option.getD_some]

end Go.Abs
