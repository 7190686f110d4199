/- Part of a proof, in few files: G13mW BIw GLiW G09mW. -/
import Derived.Test.YtojdnnogpffhpaaGreatDoorNPaK14
import Derived.Test.YtojdnnogpffhpaaGreatDoorNPaK15
import Derived.Test.YtojdnnogpffhpaaGreatDoorNPaK17
import Derived.Test.YtojdnnogpffhpaaGreatDoorNPaK13
import Derived.Test.YtojdnnogpffhpaaGreatDoorNPaK16

section
namespace Go.Abs
open Go.Proofs
set_option maxHeartbeats 4000000
set_option maxRecDepth 20000
set_option linter.unusedVariables false
set_option linter.unusedSimpArgs false
set_option linter.unnecessarySimpa false
def lvQ1 (x : Bool × (List Int) × (List Int)) : List PD := [.bool x.1, .sl (x.2.1.map elU32), .sl (x.2.2.map elU32)]
def elQ1 (x : Bool × (List Int) × (List Int)) : PD := .agg [.bool x.1, .sl (x.2.1.map elU32), .sl (x.2.2.map elU32)]
theorem okQ1 : LVok lvQ1 3 := fun _ => ⟨rfl, rfl⟩
theorem leQ1 : ELok elQ1 lvQ1 := fun _ => rfl
theorem offcutlaw05_Few_ok (m : Tp) (p0 : List (Bool × (List Int) × (List Int))) {r : Bool} (h : offcutlaw05_Few p0 r) : ASpec Tryz.prog (gtT m) 23 [.pd (.sl (p0.map elQ1))] (· = .pd (.bool r)) := by
 refine ASpec_tree Tryz.f23 mixedT (askG [9, 10, 11] false) (by kernel_rfl) ?_
 unfold offcutlaw05_Few at h
 refine H_loopP (F := offcutlaw05_Few_L1 p0 r) (s0 := (0 : Int)) h () 34 0
  (fun s100 () => [(0, .pd (.sl (p0.map elQ1))), (3, .pd (.int .i64 s100))])
  (fun s100 () => []) (fun s100 () => True) trivial [] mixedT (askG [9, 10, 11] false)
  (by kernel_rfl) (by kernel_rfl) (by kernel_rfl) (by kernel_rfl) (by kernel_rfl) (fun _ _ => rfl) ?_
 rintro X1 s100 ⟨⟩ - h
 dsimp only [offcutlaw05_Few_L1] at h
 refine QL [] 23 51 elQ1 p0 ?_
 refine QBp h (fun hp1 h => ?_) (fun hp1 h => ?_)
 ·refine QBp h (fun hp2 h => ?_) (fun hp2 h => ?_)
  ·obtain ⟨x3, x4, x5, hx6, h⟩ := h
   refine QI [] 23 51 .i64 okQ1 leQ1 hx6 ?_
   refine QK 3 ?_
   refine QL [] 47 121 elU32 x4 ?_
   refine QBp h (fun hp7 h => ?_) (fun hp7 h => ?_)
   ·refine QR .ret ?_
    subst r; exact QE .ret
   ·obtain ⟨x8, x9, x10, hx11, h⟩ := h
    refine QI [] 23 51 .i64 okQ1 leQ1 hx11 ?_
    refine QK 2 ?_
    refine QL [] 47 121 elU32 x10 ?_
    refine QBp h (fun hp12 h => ?_) (fun hp12 h => ?_)
    ·refine QR .ret ?_
     subst r; exact QE .ret
    ·exact QG () h trivial
  ·refine QR (.exit 0) ?_
   refine QL [] 23 51 elQ1 p0 ?_
   refine QBp h (fun hp13 h => ?_) (fun hp13 h => ?_)
   ·subst r; exact QE .ret
   ·subst r; exact QE .ret
 ·refine QR (.exit 0) ?_
  refine QL [] 23 51 elQ1 p0 ?_
  refine QBp h (fun hp14 h => ?_) (fun hp14 h => ?_)
  ·subst r; exact QE .ret
  ·subst r; exact QE .ret
end Go.Abs
end

section
namespace Go.Abs
open Go.RowKit Go.Proofs
set_option maxRecDepth 20000
theorem slices_Index_string_string_ok (m : Tp) (l : List (List UInt8)) (x : List UInt8) {r : Int} (h : slices_Index_string_string l x r) : ASpec Tryz.prog (gtT m) 65 [.pd (.sl (l.map PD.str)), .pd (.str x)] (· = .pd (.int .i64 r)) := by
  obtain ⟨hn, rfl⟩ := h
  refine ASpec.of_calls _ (by simp [AV.pure]) fun cx w vs hA hG hlt => ?_
  obtain ⟨v0, h0, r0⟩ := args_at hA 0 rfl
  obtain ⟨v1, h1, r1⟩ := args_at hA 1 rfl
  rw [str_inv r1] at h1
  have hp : PRep cx.imm w v0 (.sl (l.map PD.str)) := by cases r0 with | pd v x h => exact h
  rcases strs_inv hp with ⟨rfl, rfl⟩ | ⟨a, cap, rfl, hcap, hI, hc⟩
  · rw [vs2 hA.1 h0 h1]
    refine (Tryz.slices_Index_string_empty none 0 ⟨x.toArray⟩ w).mono ?_
    rintro e w' ⟨rfl, rfl⟩
    exact ⟨_, rfl, Below.refl _ _, .pd _ _ (.int _ _)⟩
  · rw [vs2 hA.1 h0 h1]
    cases l with
    | nil =>
      refine (Tryz.slices_Index_string_empty (some a) cap ⟨x.toArray⟩ w).mono ?_
      rintro e w' ⟨rfl, rfl⟩
      exact ⟨_, rfl, Below.refl _ _, .pd _ _ (.int _ _)⟩
    | cons y t =>
      obtain ⟨hsp, hIa⟩ := hI (by simp)
      have ea : a = ⟨a.block, a.off, none⟩ := by cases a; simp at hsp; subst hsp; rfl
      have := Tryz.slices_Index_string a.block a.off (y :: t).length cap ((y :: t).map fun s => ⟨s.toArray⟩) ⟨x.toArray⟩ w (by simp) (by omega) (fun j hj => ?_)
      · rw [ea]
        refine this.mono ?_
        rintro e w' ⟨rfl, rfl⟩
        rw [List.take_of_length_le (by simp)]
        exact ⟨_, rfl, Below.refl _ _, .pd _ _ (.int _ _)⟩
      · have hj' : j < (y :: t).length := by simpa using hj
        have := hc j _ (List.getElem?_eq_getElem hj')
        rw [this]
        simp only [List.getD_eq_getElem?_getD, List.getElem?_map, List.getElem?_eq_getElem hj', Option.map_some, Option.getD_some]
end Go.Abs
end

section
namespace Go.Abs
open Go.Proofs
set_option maxRecDepth 20000
set_option linter.unusedVariables false
set_option linter.unusedSimpArgs false
set_option linter.unnecessarySimpa false
theorem lines_Index_ok (m : Tp) (p0 : List (List UInt8)) (p1 : List UInt8) {r : Int} (h : lines_Index p0 p1 r) : ASpec Tryz.prog (gtT m) 48 [.pd (.sl (p0.map elS)), .pd (.str p1)] (· = .pd (.int .i64 r)) := by
 refine ASpec_tree Tryz.f48 mixedT (askG [9, 10, 11] false) (by kernel_rfl) ?_
 unfold lines_Index at h
 obtain ⟨x1, hx2, h⟩ := h
 refine QV (slices_Index_string_string_ok m _ _ hx2) ?_
 subst r; exact QE .ret
end Go.Abs
end

section
namespace Go.Abs
open Go.Proofs
set_option maxHeartbeats 4000000
set_option maxRecDepth 20000
set_option linter.unusedVariables false
set_option linter.unusedSimpArgs false
set_option linter.unnecessarySimpa false
def lvQ0 (x : (List UInt8) × (List (Bool × (List Int) × (List Int))) × Int × Bool × (List Int) × (List Int)) : List PD := [.str x.1, .sl (x.2.1.map elQ1), .int .i64 x.2.2.1, .bool x.2.2.2.1, .sl (x.2.2.2.2.1.map elU32), .sl (x.2.2.2.2.2.map elU32)]
def elQ0 (x : (List UInt8) × (List (Bool × (List Int) × (List Int))) × Int × Bool × (List Int) × (List Int)) : PD := .agg [.str x.1, .sl (x.2.1.map elQ1), .int .i64 x.2.2.1, .bool x.2.2.2.1, .sl (x.2.2.2.2.1.map elU32), .sl (x.2.2.2.2.2.map elU32)]
theorem okQ0 : LVok lvQ0 6 := fun _ => ⟨rfl, rfl⟩
theorem leQ0 : ELok elQ0 lvQ0 := fun _ => rfl
theorem model_names_ok (m : Tp) (p0 : List (List UInt8)) {r : Bool} (h : model_names p0 r) : ASpec Tryz.prog (gtT m) 30 [.pd (.sl (p0.map elS))] (· = .pd (.bool r)) := by
 refine ASpec_tree Tryz.f30 mixedT (askG [9, 10, 11] false) (by kernel_rfl) ?_
 unfold model_names at h
 refine QL [] 22 9 elS p0 ?_
 refine H_loopP (F := model_names_L1 p0 r) (s0 := (0 : Int)) h () 23 0
  (fun s100 () => [(0, .pd (.sl (p0.map elS))), (5, .pd (.sl (p0.map elS))), (6, .pd (.int .i64 (p0.length : Int))), (7, .pd (.int .i64 s100))])
  (fun s100 () => []) (fun s100 () => True) trivial [] mixedT (askG [9, 10, 11] false)
  (by kernel_rfl) (by kernel_rfl) (by kernel_rfl) (by kernel_rfl) (by kernel_rfl) (fun _ _ => rfl) ?_
 rintro X1 s100 ⟨⟩ - h
 dsimp only [model_names_L1] at h
 refine QBp h (fun hp1 h => ?_) (fun hp1 h => ?_)
 ·obtain ⟨x2, hx3, h⟩ := h
  refine QI [] 22 9 .i64 okS leS hx3 ?_
  refine QK 1 ?_
  obtain ⟨x4, hx5, h⟩ := h
  refine QV (lines_Name_ok m _ hx5) ?_
  cases x4
  ·replace h := h.f rfl
   refine QR .ret ?_
   subst r; exact QE .ret
  ·replace h := h.t rfl
   obtain ⟨x6, hx7, h⟩ := h
   refine QV (lines_Index_ok m _ _ hx7) ?_
   refine QBp h (fun hp8 h => ?_) (fun hp8 h => ?_)
   ·refine QR .ret ?_
    subst r; exact QE .ret
   ·exact QG () h trivial
 ·refine QR (.exit 0) ?_
  subst r; exact QE .ret
theorem model_Right_ok (m : Tp) (p0 : List (List UInt8)) (p1 : List (Bool × (List Int) × (List Int))) (p2 : List ((List UInt8) × (List (Bool × (List Int) × (List Int))) × Int × Bool × (List Int) × (List Int))) {r : Bool} (h : model_Right p0 p1 p2 r) : ASpec Tryz.prog (gtT m) 11 [.agg [.pd (.sl (p0.map elS)), .pd (.sl (p1.map elQ1)), .pd (.sl (p2.map elQ0))]] (· = .pd (.bool r)) := by
 refine ASpec_tree Tryz.f11 mixedT (askG [9, 10, 11] false) (by kernel_rfl) ?_
 unfold model_Right at h
 let o1 : Ob := .cells [.pd (.sl (p0.map elS)), .pd (.sl (p1.map elQ1)), .pd (.sl (p2.map elQ0))] 1 0 false
 refine QK 3 ?_
 refine QL [o1] 22 9 elS p0 ?_
 let o2 : Ob := .cells [.pd (.int .i64 (p0.length : Int))] 1 0 false
 refine QK 2 ?_
 refine QBp h (fun hp1 h => ?_) (fun hp1 h => ?_)
 ·refine QK 2 ?_
  refine QL [o1, o2] 23 51 elQ1 p1 ?_
  refine QK 1 ?_
  refine QBp h (fun hp2 h => ?_) (fun hp2 h => ?_)
  ·refine QK 2 ?_
   refine QL [o1, o2] 24 53 elQ0 p2 ?_
   refine QBp h (fun hp3 h => ?_) (fun hp3 h => ?_)
   ·refine QK 2 ?_
    obtain ⟨x4, hx5, h⟩ := h
    refine QV (model_names_ok m _ hx5) ?_
    cases x4
    ·replace h := h.f rfl
     subst r; exact QE .ret
    replace h := h.t rfl
    refine QK 2 ?_
    refine H_inl (g := 31) (args := [.pd (.sl (p2.map elQ0))]) (M := [o1, o2]) Tryz.f31 mixedT (askG [9, 10, 11] true) (by kernel_rfl) (by kernel_rfl) (hasT 31 (by kernel_rfl)) ?_
    let o3 : Ob := rowV lvS 1 ([] : List (List UInt8)) 0 false
    refine QL [o1, o2, o3, o3] 24 53 elQ0 p2 ?_
    refine H_loopP (F := model_Right_L1 p0 p2 r) (s0 := ((0 : Int), ([] : List (List UInt8)))) h (0, (([] : List (List UInt8)).length)) 19 4
     (fun (s100, s153) (v103, n103) => [(3, .own 3 n103 v103), (6, .pd (.sl (p2.map elQ0))), (7, .pd (.int .i64 (p2.length : Int))), (8, .pd (.int .i64 s100))])
     (fun (s100, s153) (v103, n103) => [o1, o2, o3, rowV lvS 1 s153 v103 false]) (fun (s100, s153) (v103, n103) => n103 = s153.length) rfl [] mixedT (askG [9, 10, 11] false)
     (by kernel_rfl) (by kernel_rfl) (by kernel_rfl) (by kernel_rfl) (by kernel_rfl) (fun _ _ => rfl) ?_
    rintro X1 ⟨s100, s153⟩ ⟨v103, n103⟩ hn103 h
    dsimp only [model_Right_L1] at h
    refine QBp h (fun hp6 h => ?_) (fun hp6 h => ?_)
    ·obtain ⟨x7, x8, x9, x10, x11, x12, hx13, h⟩ := h
     let m4 : Mem := [o1, o2, o3, rowV lvS 1 s153 v103 false]
     refine QI m4 24 53 .i64 okQ0 leQ0 hx13 ?_
     let o5 : Ob := .cells [.pd (.str x7), .pd (.sl (x8.map elQ1)), .pd (.int .i64 x9), .pd (.bool x10), .pd (.sl (x11.map elU32)), .pd (.sl (x12.map elU32))] 1 0 false
     let m6 : Mem := [o1, o2, o3, rowV lvS 1 s153 v103 false, o5]
     refine QK 4 ?_
     obtain ⟨hx14, h⟩ := h
     refine QA m6 3 s153 [x7] v103 22 22 16 okS (src_fixed okS leS) hn103 hx14 ?_
     exact QGC ((vnext s153 [x7] v103), ((s153 ++ [x7]).length)) h rfl (all_c (by kernel_rfl) (all_c (by kernel_rfl) (all_c (bel_rowV _) (all_c (bel_rowV _) all_n))))
    refine QR (.exit 0) ?_
    let m7 : Mem := [o1, o2, o3, rowV lvS 1 s153 v103 false]
    refine H_endM .ret (.own 3 n103 v103) (m7) (by kernel_rfl) rfl (by kernel_rfl) (by kernel_rfl) (by kernel_rfl) ?_
    obtain ⟨x15, hx16, h⟩ := h
    refine H_valO (g := 30) (args := [.own 3 n103 v103]) (M := m7) (.pd (.bool x15)) (.inl (by kernel_rfl)) (pl_cons (un_own (own_pd okS (by decide) lgS (o := rowV lvS 1 s153 v103 false) (by kernel_rfl) (rowIs_v' (lv := lvS) (s := 1) (e := s153) (ver := v103) (z := false)) (n := n103) hn103)) pl_nil) (model_names_ok m _ hx16) (by kernel_rfl) rfl (hasT 30 (by kernel_rfl)) ?_
    cases x15
    ·replace h := h.f rfl
     subst r; exact QE .ret
    replace h := h.t rfl
    refine QK 2 ?_
    refine H_inl (g := 32) (args := [.pd (.sl (p2.map elQ0)), .fn (.func 29) [] [.ptr 1 0 0]]) (M := m7) Tryz.f32 mixedT (askG [9, 10, 11] false) (by kernel_rfl) (by kernel_rfl) (hasT 32 (by kernel_rfl)) ?_
    refine H_inl (g := 53) (args := [.pd (.sl (p2.map elQ0)), .fn (.func 29) [] [.ptr 1 0 0]]) (M := m7) Tryz.f53 mixedT (askG [9, 10, 11] false) (by kernel_rfl) (by kernel_rfl) (hasT 53 (by kernel_rfl)) ?_
    refine QL m7 24 53 elQ0 p2 ?_
    refine H_loopP (F := model_Right_L2 p0 p2 r) (s0 := (0 : Int)) h () 19 4
     (fun s200 () => [(0, .pd (.sl (p2.map elQ0))), (1, .fn (.func 29) [] [.ptr 1 0 0]), (7, .pd (.int .i64 (p2.length : Int))), (8, .pd (.int .i64 s200))])
     (fun s200 () => [o1, o2, o3, rowV lvS 1 s153 v103 false]) (fun s200 () => True) trivial [] mixedT (askG [9, 10, 11] false)
     (by kernel_rfl) (by kernel_rfl) (by kernel_rfl) (by kernel_rfl) (by kernel_rfl) (fun _ _ => rfl) ?_
    rintro X2 s200 ⟨⟩ - h
    dsimp only [model_Right_L2] at h
    refine QBp h (fun hp17 h => ?_) (fun hp17 h => ?_)
    ·obtain ⟨x18, x19, x20, x21, x22, x23, hx24, h⟩ := h
     refine QI m7 24 53 .i64 okQ0 leQ0 hx24 ?_
     refine QK 1 ?_
     refine H_inl (g := 29) (args := [.agg [.pd (.str x18), .pd (.sl (x19.map elQ1)), .pd (.int .i64 x20), .pd (.bool x21), .pd (.sl (x22.map elU32)), .pd (.sl (x23.map elU32))], .ptr 1 0 0]) (M := m7) Tryz.f29 mixedT (askG [9, 10, 11] false) (by kernel_rfl) (by kernel_rfl) (hasT 29 (by kernel_rfl)) ?_
     let o8 : Ob := .cells [.pd (.str x18), .pd (.sl (x19.map elQ1)), .pd (.int .i64 x20), .pd (.bool x21), .pd (.sl (x22.map elU32)), .pd (.sl (x23.map elU32))] 1 0 false
     let m9 : Mem := [o1, o2, o3, rowV lvS 1 s153 v103 false, o8]
     refine QK 3 ?_
     refine QL m9 23 51 elQ1 x19 ?_
     refine QK 1 ?_
     refine QBp h (fun hp25 h => ?_) (fun hp25 h => ?_)
     ·refine H_endM .ret (.pd (.bool true)) (m9) (by kernel_rfl) rfl (by kernel_rfl) (by kernel_rfl) (by kernel_rfl) ?_
      refine QR .ret ?_
      refine H_endM .ret (.pd (.int .i64 s200)) (m9) (by kernel_rfl) rfl (by kernel_rfl) (by kernel_rfl) (by kernel_rfl) ?_
      refine QBp h (fun hp26 h => ?_) (fun hp26 h => ?_)
      ·refine H_endM .ret (.pd (.bool true)) (m9) (by kernel_rfl) rfl (by kernel_rfl) (by kernel_rfl) (by kernel_rfl) ?_
       subst r; exact QE .ret
      refine H_endM .ret (.pd (.bool false)) (m9) (by kernel_rfl) rfl (by kernel_rfl) (by kernel_rfl) (by kernel_rfl) ?_
      subst r; exact QE .ret
     refine QK 2 ?_
     refine QBp h (fun hp27 h => ?_) (fun hp27 h => ?_)
     ·refine H_endM .ret (.pd (.bool true)) (m9) (by kernel_rfl) rfl (by kernel_rfl) (by kernel_rfl) (by kernel_rfl) ?_
      refine QR .ret ?_
      refine H_endM .ret (.pd (.int .i64 s200)) (m9) (by kernel_rfl) rfl (by kernel_rfl) (by kernel_rfl) (by kernel_rfl) ?_
      refine QBp h (fun hp28 h => ?_) (fun hp28 h => ?_)
      ·refine H_endM .ret (.pd (.bool true)) (m9) (by kernel_rfl) rfl (by kernel_rfl) (by kernel_rfl) (by kernel_rfl) ?_
       subst r; exact QE .ret
      refine H_endM .ret (.pd (.bool false)) (m9) (by kernel_rfl) rfl (by kernel_rfl) (by kernel_rfl) (by kernel_rfl) ?_
      subst r; exact QE .ret
     refine QK 2 ?_
     refine QBp h (fun hp29 h => ?_) (fun hp29 h => ?_)
     ·refine H_endM .ret (.pd (.bool true)) (m9) (by kernel_rfl) rfl (by kernel_rfl) (by kernel_rfl) (by kernel_rfl) ?_
      refine QR .ret ?_
      refine H_endM .ret (.pd (.int .i64 s200)) (m9) (by kernel_rfl) rfl (by kernel_rfl) (by kernel_rfl) (by kernel_rfl) ?_
      refine QBp h (fun hp30 h => ?_) (fun hp30 h => ?_)
      ·refine H_endM .ret (.pd (.bool true)) (m9) (by kernel_rfl) rfl (by kernel_rfl) (by kernel_rfl) (by kernel_rfl) ?_
       subst r; exact QE .ret
      refine H_endM .ret (.pd (.bool false)) (m9) (by kernel_rfl) rfl (by kernel_rfl) (by kernel_rfl) (by kernel_rfl) ?_
      subst r; exact QE .ret
     refine H_endM .ret (.pd (.bool false)) (m9) (by kernel_rfl) rfl (by kernel_rfl) (by kernel_rfl) (by kernel_rfl) ?_
     exact QGC () h trivial (all_c (by kernel_rfl) (all_c (by kernel_rfl) (all_c (bel_rowV _) (all_c (bel_rowV _) all_n))))
    refine QR (.exit 0) ?_
    refine H_endM .ret (.pd (.int .i64 (-1))) (m7) (by kernel_rfl) rfl (by kernel_rfl) (by kernel_rfl) (by kernel_rfl) ?_
    refine QP false (fun hc => by cases hc) (fun _ => ?_)
    refine H_endM .ret (.pd (.bool false)) (m7) (by kernel_rfl) rfl (by kernel_rfl) (by kernel_rfl) (by kernel_rfl) ?_
    subst r; exact QE .ret
   subst r; exact QE .ret
  subst r; exact QE .ret
 subst r; exact QE .ret
theorem offcutlaw08_Few_ok (m : Tp) (p0 : List (List UInt8)) (p1 : List (Bool × (List Int) × (List Int))) (p2 : List ((List UInt8) × (List (Bool × (List Int) × (List Int))) × Int × Bool × (List Int) × (List Int))) {r : Bool} (h : offcutlaw08_Few p0 p1 p2 r) : ASpec Tryz.prog (gtT m) 8 [.agg [.pd (.sl (p0.map elS)), .pd (.sl (p1.map elQ1)), .pd (.sl (p2.map elQ0))]] (· = .pd (.bool r)) := by
 refine ASpec_tree Tryz.f8 mixedT (askG [9, 10, 11] false) (by kernel_rfl) ?_
 unfold offcutlaw08_Few at h
 let o1 : Ob := .cells [.pd (.sl (p0.map elS)), .pd (.sl (p1.map elQ1)), .pd (.sl (p2.map elQ0))] 1 0 false
 refine QK 1 ?_
 refine H_loopP (F := offcutlaw08_Few_L1 p0 p1 p2 r) (s0 := (0 : Int)) h () 78 1
  (fun s100 () => [(1, .ptr 0 0 0), (3, .pd (.int .i64 s100))])
  (fun s100 () => [o1]) (fun s100 () => True) trivial [] mixedT (askG [9, 10, 11] false)
  (by kernel_rfl) (by kernel_rfl) (by kernel_rfl) (by kernel_rfl) (by kernel_rfl) (fun _ _ => rfl) ?_
 rintro X1 s100 ⟨⟩ - h
 dsimp only [offcutlaw08_Few_L1] at h
 refine QK 2 ?_
 refine QL [o1] 22 9 elS p0 ?_
 refine QBp h (fun hp1 h => ?_) (fun hp1 h => ?_)
 ·refine QBp h (fun hp2 h => ?_) (fun hp2 h => ?_)
  ·refine QK 2 ?_
   obtain ⟨x3, hx4, h⟩ := h
   refine QI [o1] 22 9 .i64 okS leS hx4 ?_
   refine QK 2 ?_
   refine QBp h (fun hp5 h => ?_) (fun hp5 h => ?_)
   ·refine QR .ret ?_
    subst r; exact QE .ret
   exact QG () h trivial
  refine QR (.exit 0) ?_
  refine H_loopP (F := offcutlaw08_Few_L2 p0 p1 p2 r) (s0 := (0 : Int)) h () 78 1
   (fun s200 () => [(1, .ptr 0 0 0), (4, .pd (.int .i64 s200))])
   (fun s200 () => [o1]) (fun s200 () => True) trivial [] mixedT (askG [9, 10, 11] false)
   (by kernel_rfl) (by kernel_rfl) (by kernel_rfl) (by kernel_rfl) (by kernel_rfl) (fun _ _ => rfl) ?_
  rintro X2 s200 ⟨⟩ - h
  dsimp only [offcutlaw08_Few_L2] at h
  refine QK 2 ?_
  refine QL [o1] 24 53 elQ0 p2 ?_
  refine QBp h (fun hp6 h => ?_) (fun hp6 h => ?_)
  ·refine QBp h (fun hp7 h => ?_) (fun hp7 h => ?_)
   ·refine QK 2 ?_
    obtain ⟨x8, x9, x10, x11, x12, x13, hx14, h⟩ := h
    refine QI [o1] 24 53 .i64 okQ0 leQ0 hx14 ?_
    refine QK 3 ?_
    refine QBp h (fun hp15 h => ?_) (fun hp15 h => ?_)
    ·refine QR .ret ?_
     subst r; exact QE .ret
    refine QK 2 ?_
    obtain ⟨x16, x17, x18, x19, x20, x21, hx22, h⟩ := h
    refine QI [o1] 24 53 .i64 okQ0 leQ0 hx22 ?_
    refine QK 2 ?_
    obtain ⟨x23, hx24, h⟩ := h
    refine QV (offcutlaw05_Few_ok m _ hx24) ?_
    cases x23
    ·replace h := h.f rfl
     refine QR .ret ?_
     subst r; exact QE .ret
    replace h := h.t rfl
    refine QK 2 ?_
    obtain ⟨x25, x26, x27, x28, x29, x30, hx31, h⟩ := h
    refine QI [o1] 24 53 .i64 okQ0 leQ0 hx31 ?_
    refine QK 2 ?_
    obtain ⟨x32, hx33, h⟩ := h
    refine H_valW (g := 23) (args := [.fixed ([(x28, x29, x30)].map elQ1)]) (M := [o1]) (.pd (.bool x32)) (.inl (by kernel_rfl)) (by kernel_rfl) (offcutlaw05_Few_ok m _ hx33) (by kernel_rfl) (hasT 23 (by kernel_rfl)) ?_
    cases x32
    ·replace h := h.f rfl
     refine QR .ret ?_
     subst r; exact QE .ret
    replace h := h.t rfl
    exact QG () h trivial
   refine QR (.exit 2) ?_
   refine QK 2 ?_
   refine QL [o1] 22 9 elS p0 ?_
   refine QBp h (fun hp34 h => ?_) (fun hp34 h => ?_)
   ·refine QK 2 ?_
    refine QL [o1] 24 53 elQ0 p2 ?_
    refine QBp h (fun hp35 h => ?_) (fun hp35 h => ?_)
    ·refine QK 2 ?_
     obtain ⟨x36, hx37, h⟩ := h
     refine QV (offcutlaw05_Few_ok m _ hx37) ?_
     cases x36
     ·replace h := h.f rfl
      subst r; exact QE .ret
     replace h := h.t rfl
     subst r; exact QE .ret
    subst r; exact QE .ret
   subst r; exact QE .ret
  refine QR (.exit 2) ?_
  refine QK 2 ?_
  refine QL [o1] 22 9 elS p0 ?_
  refine QBp h (fun hp38 h => ?_) (fun hp38 h => ?_)
  ·refine QK 2 ?_
   refine QL [o1] 24 53 elQ0 p2 ?_
   refine QBp h (fun hp39 h => ?_) (fun hp39 h => ?_)
   ·refine QK 2 ?_
    obtain ⟨x40, hx41, h⟩ := h
    refine QV (offcutlaw05_Few_ok m _ hx41) ?_
    cases x40
    ·replace h := h.f rfl
     subst r; exact QE .ret
    replace h := h.t rfl
    subst r; exact QE .ret
   subst r; exact QE .ret
  subst r; exact QE .ret
 refine QR (.exit 0) ?_
 refine H_loopP (F := offcutlaw08_Few_L3 p0 p1 p2 r) (s0 := (0 : Int)) h () 78 1
  (fun s300 () => [(1, .ptr 0 0 0), (4, .pd (.int .i64 s300))])
  (fun s300 () => [o1]) (fun s300 () => True) trivial [] mixedT (askG [9, 10, 11] false)
  (by kernel_rfl) (by kernel_rfl) (by kernel_rfl) (by kernel_rfl) (by kernel_rfl) (fun _ _ => rfl) ?_
 rintro X3 s300 ⟨⟩ - h
 dsimp only [offcutlaw08_Few_L3] at h
 refine QK 2 ?_
 refine QL [o1] 24 53 elQ0 p2 ?_
 refine QBp h (fun hp42 h => ?_) (fun hp42 h => ?_)
 ·refine QBp h (fun hp43 h => ?_) (fun hp43 h => ?_)
  ·refine QK 2 ?_
   obtain ⟨x44, x45, x46, x47, x48, x49, hx50, h⟩ := h
   refine QI [o1] 24 53 .i64 okQ0 leQ0 hx50 ?_
   refine QK 3 ?_
   refine QBp h (fun hp51 h => ?_) (fun hp51 h => ?_)
   ·refine QR .ret ?_
    subst r; exact QE .ret
   refine QK 2 ?_
   obtain ⟨x52, x53, x54, x55, x56, x57, hx58, h⟩ := h
   refine QI [o1] 24 53 .i64 okQ0 leQ0 hx58 ?_
   refine QK 2 ?_
   obtain ⟨x59, hx60, h⟩ := h
   refine QV (offcutlaw05_Few_ok m _ hx60) ?_
   cases x59
   ·replace h := h.f rfl
    refine QR .ret ?_
    subst r; exact QE .ret
   replace h := h.t rfl
   refine QK 2 ?_
   obtain ⟨x61, x62, x63, x64, x65, x66, hx67, h⟩ := h
   refine QI [o1] 24 53 .i64 okQ0 leQ0 hx67 ?_
   refine QK 2 ?_
   obtain ⟨x68, hx69, h⟩ := h
   refine H_valW (g := 23) (args := [.fixed ([(x64, x65, x66)].map elQ1)]) (M := [o1]) (.pd (.bool x68)) (.inl (by kernel_rfl)) (by kernel_rfl) (offcutlaw05_Few_ok m _ hx69) (by kernel_rfl) (hasT 23 (by kernel_rfl)) ?_
   cases x68
   ·replace h := h.f rfl
    refine QR .ret ?_
    subst r; exact QE .ret
   replace h := h.t rfl
   exact QG () h trivial
  refine QR (.exit 2) ?_
  refine QK 2 ?_
  refine QL [o1] 22 9 elS p0 ?_
  refine QBp h (fun hp70 h => ?_) (fun hp70 h => ?_)
  ·refine QK 2 ?_
   refine QL [o1] 24 53 elQ0 p2 ?_
   refine QBp h (fun hp71 h => ?_) (fun hp71 h => ?_)
   ·refine QK 2 ?_
    obtain ⟨x72, hx73, h⟩ := h
    refine QV (offcutlaw05_Few_ok m _ hx73) ?_
    cases x72
    ·replace h := h.f rfl
     subst r; exact QE .ret
    replace h := h.t rfl
    subst r; exact QE .ret
   subst r; exact QE .ret
  subst r; exact QE .ret
 refine QR (.exit 2) ?_
 refine QK 2 ?_
 refine QL [o1] 22 9 elS p0 ?_
 refine QBp h (fun hp74 h => ?_) (fun hp74 h => ?_)
 ·refine QK 2 ?_
  refine QL [o1] 24 53 elQ0 p2 ?_
  refine QBp h (fun hp75 h => ?_) (fun hp75 h => ?_)
  ·refine QK 2 ?_
   obtain ⟨x76, hx77, h⟩ := h
   refine QV (offcutlaw05_Few_ok m _ hx77) ?_
   cases x76
   ·replace h := h.f rfl
    subst r; exact QE .ret
   replace h := h.t rfl
   subst r; exact QE .ret
  subst r; exact QE .ret
 subst r; exact QE .ret
end Go.Abs
end
