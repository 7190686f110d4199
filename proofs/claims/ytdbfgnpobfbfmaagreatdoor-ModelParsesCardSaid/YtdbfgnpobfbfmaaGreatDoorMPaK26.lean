/- Part of a proof, in few files: BSw. -/
import Derived.Test.YtdbfgnpobfbfmaaGreatDoorMPaK21
import Derived.Test.YtdbfgnpobfbfmaaGreatDoorMPaK24
import Derived.Test.YtdbfgnpobfbfmaaGreatDoorMPaK23
import Derived.Test.YtdbfgnpobfbfmaaGreatDoorMPaK25

section
namespace Go.Abs
open Go.RowKit Go.Proofs
set_option maxRecDepth 20000
theorem mixedT : Tryz.prog.follows .mixedOrders = true := by kernel_rfl
theorem namesT : Tryz.prog.funcs.all (fun fn => !(fn.name == "runtime.NumGoroutine")) = true := by kernel_rfl
theorem hasT (f : Nat) (h : hasBody Tryz.prog f = true) : Enters Tryz.prog f := entersB namesT h
theorem strings_Split_ok (m : Tp) (s sep : List UInt8) {r : List (List UInt8)} (h : strings_Split s sep r) : ASpec Tryz.prog (gtT m) 107 [.pd (.str s), .pd (.str sep)] (· = .pd (.sl (r.map PD.str))) := by
  obtain ⟨hs, c, rfl, rfl⟩ := h
  refine strs_spec fun cx w vs hA hG => ?_
  obtain ⟨v0, h0, r0⟩ := args_at hA 0 rfl
  obtain ⟨v1, h1, r1⟩ := args_at hA 1 rfl
  rw [str_inv r0] at h0; rw [str_inv r1] at h1
  rw [vs2 hA.1 h0 h1]
  have hm := glob_int (g := 2) (k := .i64) (m := m.1) hG rfl
  have hk := Tryz.strings_Split ⟨s.toArray⟩ ⟨[c].toArray⟩ m.1 w hs hm (Nat.le_refl _)
  have e1 : Lib.countB ⟨s.toArray⟩ ⟨[c].toArray⟩ = s.count c := Lib.count_one c s
  have e2 := Lib.splitB_data ⟨[c].toArray⟩ 0 (s.count c) ⟨s.toArray⟩
  have e3 : (Lib.splitB ⟨[c].toArray⟩ 0 (s.count c) ⟨s.toArray⟩).map (·.data.toList) = splitC c s := by rw [e2]; exact split_one c s
  have e4 := Lib.splitB_all ⟨[c].toArray⟩ (Nat.le_refl _) 0 (s.count c) ⟨s.toArray⟩ e1
  have e5 : (splitC c s).length = s.count c + 1 := by rw [← e3, List.length_map, e4]
  have e6 : (splitC c s).map (fun l => Value.string ⟨l.toArray⟩) = (Lib.splitB ⟨[c].toArray⟩ 0 (s.count c) ⟨s.toArray⟩).map Value.string := by
    rw [← e3, List.map_map]
    refine List.map_congr_left fun x _ => ?_
    simp
  rw [e1] at hk
  exact ⟨9, by rw [e5, e6]; exact hk⟩
theorem strings_Cut_ok (m : Tp) (s sep : List UInt8) {r : List UInt8 × List UInt8 × Bool} (h : strings_Cut s sep r) : ASpec Tryz.prog (gtT m) 65 [.pd (.str s), .pd (.str sep)] (· = .tup [.pd (.str r.1), .pd (.str r.2.1), .pd (.bool r.2.2)]) := by
  obtain ⟨hs, c, rfl, rfl⟩ := h
  refine ASpec.of_calls _ (by simp [AV.pure]) fun cx w vs hA hG hlt => ?_
  obtain ⟨v0, h0, r0⟩ := args_at hA 0 rfl
  obtain ⟨v1, h1, r1⟩ := args_at hA 1 rfl
  rw [str_inv r0] at h0; rw [str_inv r1] at h1
  rw [vs2 hA.1 h0 h1]
  have hm := glob_int (g := 2) (k := .i64) (m := m.1) hG rfl
  refine (Tryz.strings_Cut ⟨s.toArray⟩ ⟨[c].toArray⟩ m.1 w hs hm).mono ?_
  rintro e w' ⟨rfl, n, rfl⟩
  refine ⟨_, rfl, below_drewN _, .tup _ _ rfl fun i v x q1 q2 => ?_⟩
  match i with
  | 0 => simp at q1 q2; subst q1; subst q2; exact .pd _ _ (.str _)
  | 1 => simp at q1 q2; subst q1; subst q2; exact .pd _ _ (.str _)
  | 2 => simp at q1 q2; subst q1; subst q2; exact .pd _ _ (.bool _)
  | i + 3 => simp at q1
theorem strings_Fields_ok (m : Tp) (s : List UInt8) {r : List (List UInt8)} (h : strings_Fields s r) : ASpec Tryz.prog (gtT m) 108 [.pd (.str s)] (· = .pd (.sl (r.map PD.str))) := by
  obtain ⟨hs, ha, rfl⟩ := h
  refine strs_spec fun cx w vs hA hG => ?_
  obtain ⟨v0, h0, r0⟩ := args_at hA 0 rfl
  rw [str_inv r0] at h0
  rw [vs1 hA.1 h0]
  exact ⟨9, Tryz.strings_Fields_laid ⟨s.toArray⟩ w hs (fun j b hb => ha b (List.mem_of_getElem? hb)) (glob_tab (g := 0) hG rfl (by kernel_rfl))⟩
theorem strings_Join_ok (m : Tp) (l : List (List UInt8)) (sep : List UInt8) {r : List UInt8} (h : strings_Join l sep r) : ASpec Tryz.prog (gtT m) 105 [.pd (.sl (l.map PD.str)), .pd (.str sep)] (· = .pd (.str r)) := by
  obtain ⟨hn, hj, rfl⟩ := h
  refine str_spec fun cx w vs hA hG hlt => ?_
  obtain ⟨v0, h0, r0⟩ := args_at hA 0 rfl
  obtain ⟨v1, h1, r1⟩ := args_at hA 1 rfl
  rw [str_inv r1] at h1
  have hp : PRep cx.imm w v0 (.sl (l.map PD.str)) := by cases r0 with | pd v x h => exact h
  rcases strs_inv hp with ⟨rfl, rfl⟩ | ⟨a, cap, rfl, hcap, hI, hc⟩
  · rw [vs2 hA.1 h0 h1]
    refine (Tryz.strings_Join_none none 0 ⟨sep.toArray⟩ w).mono ?_
    rintro e w' ⟨rfl, rfl⟩
    exact ⟨rfl, Below.refl _ _⟩
  · rw [vs2 hA.1 h0 h1]
    cases l with
    | nil =>
      refine (Tryz.strings_Join_none (some a) cap ⟨sep.toArray⟩ w).mono ?_
      rintro e w' ⟨rfl, rfl⟩
      exact ⟨rfl, Below.refl _ _⟩
    | cons x t =>
      obtain ⟨hsp, hIa⟩ := hI (by simp)
      have ea : a = ⟨a.block, a.off, none⟩ := by cases a; simp at hsp; subst hsp; rfl
      have e1 : ((x :: t).map fun s => (⟨s.toArray⟩ : ByteArray)).map (·.data.toList) = x :: t := by rw [List.map_map]; simp [Function.comp_def]
      have := Tryz.strings_Join a.block a.off cap ((x :: t).map fun s => ⟨s.toArray⟩) ⟨sep.toArray⟩ w (fun j b hb => ?_) (hlt _ hIa) (by simpa using hn) (by simpa using hcap) (by rw [e1]; exact hj)
      · rw [e1, List.length_map] at this
        rw [ea]; exact this
      · simp only [List.getElem?_map, Option.map_eq_some_iff] at hb
        obtain ⟨s, hs, rfl⟩ := hb
        exact hc j s hs
end Go.Abs
end
