/- Chapter 10: the library's functions on numbers' texts do so. -/
import Derived.Test.YtlphadeogdbmmaaGreatDoorB10d
import Derived.Test.YtlphadeogdbmmaaGreatDoorBSw
import Derived.Shelf.Strings.SlTrimAscii
import Derived.Lib.AppendIntMem
import Derived.Lib.AtoiErrMem
namespace Go.Abs
open Go.RowKit Go.Proofs
set_option maxRecDepth 20000

theorem glob_err {GT : Tabs} {c : Ctx} {w : World} {b : Bool} {g : Nat} (h : GRep GT c w) (hg : GT g = some [PD.err b]) : ∃ ev, w.cell? ⟨g, 0, none⟩ = some ev ∧ (ev = .nilIface ∨ ∃ te pe, ev = .iface te pe) := by
  obtain ⟨h1, _⟩ := h g _ hg
  generalize hv : Value.pointer (some ⟨g, 0, none⟩) = v at h1
  cases h1 with
  | rd a l f hsp hI hc hr =>
    cases hv
    have h2 := hc 0 (by simp)
    have hy := hr 0 (.err b) rfl
    refine ⟨f 0, h2, ?_⟩
    generalize f 0 = u at hy
    cases hy
    · exact .inl rfl
    · exact .inr ⟨_, _, rfl⟩

theorem strconv_Itoa_ok (m : Tp) (n : Int) {r : List UInt8} (h : strconv_Itoa n r) : ASpec Tryz.prog (gtT m) 23 [.pd (.int .i64 n)] (· = .pd (.str r)) := by
  obtain ⟨h0, h1, rfl⟩ := h
  refine str_spec fun cx w vs hA hG hlt => ?_
  obtain ⟨v0, e0, r0⟩ := args_at hA 0 rfl
  rw [int_inv r0] at e0
  rw [vs1 hA.1 e0]
  refine (Tryz.strconv_Itoa n h0 h1 w (glob_tab (g := 3) hG rfl (by kernel_rfl))).mono ?_
  rintro e w' ⟨rfl, k, os, rfl⟩
  exact ⟨rfl, Lib.below_grow _ w (Nat.le_refl _) k os⟩

theorem strconv_Atoi_ok (m : Tp) (s : List UInt8) {r : Int × Bool} (h : strconv_Atoi s r) : ASpec Tryz.prog (gtT m) 40 [.pd (.str s)] (· = .tup [.pd (.int .i64 r.1), .pd (.err r.2)]) := by
  obtain ⟨hs, rfl⟩ := h
  refine ASpec.of_calls _ (by simp [AV.pure]) fun cx w vs hA hG hlt => ?_
  obtain ⟨v0, e0, r0⟩ := args_at hA 0 rfl
  rw [str_inv r0] at e0
  rw [vs1 hA.1 e0]
  obtain ⟨ev, q1, q2⟩ := glob_err (g := 4) (b := m.2.1) hG rfl
  obtain ⟨ev2, q3, q4⟩ := glob_err (g := 5) (b := m.2.2) hG rfl
  have tup : ∀ (c : Ctx) (w : World) (z : Int) (v : Value) (b : Bool), PRep c.imm w v (.err b) → ARep c [] w (.tuple #[.int .i64 z, v]) (.tup [.pd (.int .i64 z), .pd (.err b)]) := fun c w z v b hv => .tup _ _ rfl fun i v x q1 q2 => by
    match i with
    | 0 => simp at q1 q2; subst q1; subst q2; exact .pd _ _ (.int _ _)
    | 1 => simp at q1 q2; subst q1; subst q2; exact .pd _ _ hv
    | i + 2 => simp at q1
  cases ha : Lib.atoiAll s with
  | ok v =>
    refine (Tryz.strconv_Atoi_ok ⟨s.toArray⟩ (by rw [sizeB]; omega) v ha w).mono ?_
    rintro e w' ⟨rfl, h⟩
    refine ⟨_, rfl, ?_, tup _ _ _ _ _ .errN⟩
    rcases h with rfl | ⟨t, rfl⟩
    · exact Below.refl _ _
    · exact Lib.bytesWorld_below _ _ _
  | range =>
    refine (Tryz.strconv_Atoi_range ⟨s.toArray⟩ (by rw [sizeB]; exact hs) ha ev2 w q3 q4).mono ?_
    rintro e w' ⟨N, rfl, _, _, hb⟩
    exact ⟨_, rfl, hb, tup _ _ _ _ _ (.errS _ _)⟩
  | _ =>
    refine (Any.strconv_Atoi_syntax Tryz.laysC172 ⟨s.toArray⟩ (by rw [sizeB]; exact hs) ha ev w q1 q2).mono ?_
    rintro e w' ⟨N, rfl, _, _, hb⟩
    exact ⟨_, rfl, hb, tup _ _ _ _ _ (.errS _ _)⟩

theorem strings_Trim_ok (m : Tp) (s cs : List UInt8) {r : List UInt8} (h : strings_Trim s cs r) : ASpec Tryz.prog (gtT m) 41 [.pd (.str s), .pd (.str cs)] (· = .pd (.str r)) := by
  obtain ⟨h0, h1, h2, rfl⟩ := h
  unfold Short at h0 h1
  refine str_spec fun cx w vs hA hG hlt => ?_
  obtain ⟨v0, e0, r0⟩ := args_at hA 0 rfl
  obtain ⟨v1, e1, r1⟩ := args_at hA 1 rfl
  rw [str_inv r0] at e0; rw [str_inv r1] at e1
  rw [vs2 hA.1 e0 e1]
  exact Any.strings_Trim_laid Tryz.lays160 (by kernel_rfl) ⟨s.toArray⟩ ⟨cs.toArray⟩ w (by rw [sizeB]; omega) (by rw [sizeB]; omega) (fun j b hb => h2 b (List.mem_of_getElem? hb))

theorem strings_TrimLeft_ok (m : Tp) (s cs : List UInt8) {r : List UInt8} (h : strings_TrimLeft s cs r) : ASpec Tryz.prog (gtT m) 42 [.pd (.str s), .pd (.str cs)] (· = .pd (.str r)) := by
  obtain ⟨h0, h1, h2, rfl⟩ := h
  unfold Short at h0 h1
  refine str_spec fun cx w vs hA hG hlt => ?_
  obtain ⟨v0, e0, r0⟩ := args_at hA 0 rfl
  obtain ⟨v1, e1, r1⟩ := args_at hA 1 rfl
  rw [str_inv r0] at e0; rw [str_inv r1] at e1
  rw [vs2 hA.1 e0 e1]
  exact Any.strings_TrimLeft_laid Tryz.lays161 (by kernel_rfl) ⟨s.toArray⟩ ⟨cs.toArray⟩ w (by rw [sizeB]; omega) (fun j b hb => h2 b (List.mem_of_getElem? hb))
end Go.Abs
