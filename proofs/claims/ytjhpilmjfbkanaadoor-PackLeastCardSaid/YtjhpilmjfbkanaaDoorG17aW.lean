/- Printed by gen.py: the functions do what these conditions say. -/
import Derived.Test.YtjhpilmjfbkanaaDoorAbs28
import Derived.Test.YtjhpilmjfbkanaaDoorG17aD
import Derived.Test.YtjhpilmjfbkanaaDoorP17a
import Derived.Test.YtjhpilmjfbkanaaDoorM17w
namespace Go.Abs
open Go.Proofs
set_option maxRecDepth 20000
set_option linter.unusedVariables false
set_option linter.unusedSimpArgs false
set_option linter.unnecessarySimpa false

def lvI64 (x : Int) : List PD := [.int .i64 x]
def elI64 (x : Int) : PD := .int .i64 x
theorem okI64 : LVok lvI64 1 := fun _ => ⟨rfl, rfl⟩
theorem leI64 : ELok elI64 lvI64 := fun _ => rfl
theorem lgI64 : ELg elI64 lvI64 1 := fun _ => rfl
def lvB (x : Bool) : List PD := [.bool x]
def elB (x : Bool) : PD := .bool x
theorem okB : LVok lvB 1 := fun _ => ⟨rfl, rfl⟩
theorem leB : ELok elB lvB := fun _ => rfl
theorem lgB : ELg elB lvB 1 := fun _ => rfl

theorem f18_ok (p0 : List Int) {r : (List Int)} (h : f18 p0 r) : ASpec Tryd.prog gt17 18 [.pd (.sl (p0.map elI64))] (· = .pd (.sl (r.map elI64))) := by
  refine ASpec_tree Tryd.f18 mixed17 (askG [9, 10, 11] true) (by kernel_rfl) ?_
  unfold f18 at h
  refine H_askK (.ptr 0 0 0) ([.cells [.pd (.sl (p0.map elI64))] 1 0 false]) (by kernel_rfl) ?_
  refine H_askK (.pd (.sl (p0.map elI64))) ([.cells [.pd (.sl (p0.map elI64))] 1 0 false, rowV lvI64 1 ([] : List Int) 0 false, rowV lvI64 1 ([] : List Int) 0 false]) (by kernel_rfl) ?_
  refine H_ask _ _ (by kernel_rfl) (ask_len (P := Tryd.prog) (M := [.cells [.pd (.sl (p0.map elI64))] 1 0 false, rowV lvI64 1 ([] : List Int) 0 false, rowV lvI64 1 ([] : List Int) 0 false]) (t := 22) (et := 3) (el := elI64) (by kernel_rfl) (e := p0)) ?_
  refine H_loopP (F := f18_L1 p0 r) (s0 := ((0 : Int), ([] : List Int))) h (0, (([] : List Int).length)) 19 3
    (fun ((s100, s152) : Int × (List Int)) ((v102, n102) : Nat × Nat) => [(1, .ptr 0 0 0), (3, .own 2 n102 v102), (6, .pd (.int .i64 (p0.length : Int))), (7, .pd (.int .i64 s100))])
    (fun ((s100, s152) : Int × (List Int)) ((v102, n102) : Nat × Nat) => [.cells [.pd (.sl (p0.map elI64))] 1 0 false, rowV lvI64 1 ([] : List Int) 0 false, rowV lvI64 1 s152 v102 false]) (fun ((s100, s152) : Int × (List Int)) ((v102, n102) : Nat × Nat) => n102 = s152.length) rfl [] mixed17 (askG [9, 10, 11] true)
    (by kernel_rfl) (by kernel_rfl) (by kernel_rfl) (by kernel_rfl) (by kernel_rfl) (fun _ _ => rfl) ?_
  rintro X1 ⟨s100, s152⟩ ⟨v102, n102⟩ hn102 h
  dsimp only [f18_L1] at h
  refine H_split (decide (s100 < (p0.length : Int))) (by kernel_rfl) (fun hc => ?_) (fun hc => ?_)
  · replace h := h.t hc; clear hc
    obtain ⟨hx1, h⟩ := h
    refine H_ask _ _ (by kernel_rfl) (ask_appV (P := Tryd.prog) (M := [.cells [.pd (.sl (p0.map elI64))] 1 0 false, rowV lvI64 1 ([] : List Int) 0 false, rowV lvI64 1 s152 v102 false]) (lv := lvI64) (s := 1) (b := 2) (e := s152) (e2 := [s100]) (ver := v102) (sT := 22) (xT := 22) (by_ := 8) okI64 (by kernel_rfl) (src_fixed (M := [.cells [.pd (.sl (p0.map elI64))] 1 0 false, rowV lvI64 1 ([] : List Int) 0 false, rowV lvI64 1 s152 v102 false]) okI64 leI64) (by kernel_rfl) (n := n102) hn102 hx1) ?_
    exact H_againP (st := _) ((IntKind.i64.wrap (s100 + 1)), (s152 ++ [s100])) ((vnext s152 [s100] v102), ((s152 ++ [s100]).length)) h rfl (by kernel_rfl) (by kernel_rfl) (by kernel_rfl) (by kernel_rfl) (by kernel_rfl)
  · replace h := h.f hc; clear hc
    refine H_leaveP (.exit 0) (by kernel_rfl) rfl ?_
    refine H_inl (g := 25) (args := [.own 2 n102 v102, .fn (.func 26) [] [.ptr 0 0 0]]) (M := [.cells [.pd (.sl (p0.map elI64))] 1 0 false, rowV lvI64 1 ([] : List Int) 0 false, rowV lvI64 1 s152 v102 false]) Tryd.f25 mixed17 (askG [9, 10, 11] false) (by kernel_rfl) (by kernel_rfl) (has17 25 (by kernel_rfl)) ?_
    refine H_ask _ _ (by kernel_rfl) (ask_olen (P := Tryd.prog) (M := [.cells [.pd (.sl (p0.map elI64))] 1 0 false, rowV lvI64 1 ([] : List Int) 0 false, rowV lvI64 1 s152 v102 false]) (t := 22) (et := 3) (lv := lvI64) (e := s152) (b := 2) (n := n102) (by kernel_rfl) (by kernel_rfl) (rowIs_v' (lv := lvI64) (s := 1) (e := s152) (ver := v102) (z := false)) hn102) ?_
    refine H_inl (g := 28) (args := [.own 2 n102 v102, .pd (.int .i64 (s152.length : Int)), .fn (.func 26) [] [.ptr 0 0 0]]) (M := [.cells [.pd (.sl (p0.map elI64))] 1 0 false, rowV lvI64 1 ([] : List Int) 0 false, rowV lvI64 1 s152 v102 false]) Tryd.f28 mixed17 (askG [9, 10, 11] false) (by kernel_rfl) (by kernel_rfl) (has17 28 (by kernel_rfl)) ?_
    refine H_loopP (F := f18_L2 p0 s152 r) (s0 := ((0 : Int), (20 : Int), s152)) h () 63 3
      (fun ((s200, s201, s252) : Int × Int × (List Int)) (() : Unit) => [(0, .own 2 n102 v102), (1, .pd (.int .i64 (s152.length : Int))), (2, .fn (.func 26) [] [.ptr 0 0 0]), (6, .pd (.int .i64 20)), (7, .pd (.int .i64 s200)), (8, .pd (.int .i64 s201))])
      (fun ((s200, s201, s252) : Int × Int × (List Int)) (() : Unit) => [.cells [.pd (.sl (p0.map elI64))] 1 0 false, rowV lvI64 1 ([] : List Int) 0 false, rowV lvI64 1 s252 v102 false]) (fun ((s200, s201, s252) : Int × Int × (List Int)) (() : Unit) => n102 = s252.length) hn102 [] mixed17 (askG [9, 10, 11] true)
      (by kernel_rfl) (by kernel_rfl) (by kernel_rfl) (by kernel_rfl) (by kernel_rfl) (fun _ _ => rfl) ?_
    rintro X2 ⟨s200, s201, s252⟩ ⟨⟩ hn202 h
    dsimp only [f18_L2] at h
    refine H_split (decide (s201 ≤ (s152.length : Int))) (by kernel_rfl) (fun hc => ?_) (fun hc => ?_)
    · replace h := h.t hc; clear hc
      refine H_inl (g := 31) (args := [.own 2 n102 v102, .pd (.int .i64 s200), .pd (.int .i64 s201), .fn (.func 26) [] [.ptr 0 0 0]]) (M := [.cells [.pd (.sl (p0.map elI64))] 1 0 false, rowV lvI64 1 ([] : List Int) 0 false, rowV lvI64 1 s252 v102 false]) Tryd.f31 mixed17 (askG [9, 10, 11] false) (by kernel_rfl) (by kernel_rfl) (has17 31 (by kernel_rfl)) ?_
      refine H_loopP (F := f18_L3 p0 s200 s201 X2) (s0 := ((IntKind.i64.wrap (s200 + 1)), s252)) h () 53 3
        (fun ((s300, s352) : Int × (List Int)) (() : Unit) => [(0, .own 2 n102 v102), (1, .pd (.int .i64 s200)), (2, .pd (.int .i64 s201)), (3, .fn (.func 26) [] [.ptr 0 0 0]), (8, .pd (.int .i64 s300))])
        (fun ((s300, s352) : Int × (List Int)) (() : Unit) => [.cells [.pd (.sl (p0.map elI64))] 1 0 false, rowV lvI64 1 ([] : List Int) 0 false, rowV lvI64 1 s352 v102 false]) (fun ((s300, s352) : Int × (List Int)) (() : Unit) => n102 = s352.length) hn202 [] mixed17 (askG [9, 10, 11] true)
        (by kernel_rfl) (by kernel_rfl) (by kernel_rfl) (by kernel_rfl) (by kernel_rfl) (fun _ _ => rfl) ?_
      rintro X3 ⟨s300, s352⟩ ⟨⟩ hn302 h
      dsimp only [f18_L3] at h
      refine H_split (decide (s300 < s201)) (by kernel_rfl) (fun hc => ?_) (fun hc => ?_)
      · replace h := h.t hc; clear hc
        refine H_loopP (F := f18_L4 p0 s200 s300 X3) (s0 := (s300, s352)) h () 53 3
          (fun ((s400, s452) : Int × (List Int)) (() : Unit) => [(0, .own 2 n102 v102), (1, .pd (.int .i64 s200)), (2, .pd (.int .i64 s201)), (3, .fn (.func 26) [] [.ptr 0 0 0]), (8, .pd (.int .i64 s300)), (9, .pd (.int .i64 s400))])
          (fun ((s400, s452) : Int × (List Int)) (() : Unit) => [.cells [.pd (.sl (p0.map elI64))] 1 0 false, rowV lvI64 1 ([] : List Int) 0 false, rowV lvI64 1 s452 v102 false]) (fun ((s400, s452) : Int × (List Int)) (() : Unit) => n102 = s452.length) hn302 [] mixed17 (askG [9, 10, 11] true)
          (by kernel_rfl) (by kernel_rfl) (by kernel_rfl) (by kernel_rfl) (by kernel_rfl) (fun _ _ => rfl) ?_
        rintro X4 ⟨s400, s452⟩ ⟨⟩ hn402 h
        dsimp only [f18_L4] at h
        refine H_draw (by kernel_rfl) ?_
        refine H_split (decide (s400 > s200)) (by kernel_rfl) (fun hc => ?_) (fun hc => ?_)
        · replace h := h.t hc; clear hc
          obtain ⟨x2, hx3, h⟩ := h
          refine H_ask _ _ (by kernel_rfl) (ask_oidx (P := Tryd.prog) (M := [.cells [.pd (.sl (p0.map elI64))] 1 0 false, rowV lvI64 1 ([] : List Int) 0 false, rowV lvI64 1 s452 v102 false]) (t := 22) (et := 3) (k := .i64) (lv := lvI64) (e := s452) (s := 1) (b := 2) (by kernel_rfl) (by kernel_rfl) (by kernel_rfl) (rowIs_v' (lv := lvI64) (s := 1) (e := s452) (ver := v102) (z := false)) (n := n102) hn402 hx3) ?_
          refine H_ask _ _ (by kernel_rfl) (ask_oload (P := Tryd.prog) (M := [.cells [.pd (.sl (p0.map elI64))] 1 0 false, rowV lvI64 1 ([] : List Int) 0 false, rowV lvI64 1 s452 v102 false]) (t := 3) (lv := lvI64) (b := 2) (i := s400) okI64 (by kernel_rfl) (by kernel_rfl) (by kernel_rfl) (rowIs_v' (lv := lvI64) (s := 1) (e := s452) (ver := v102) (z := false)) hx3 rfl) ?_
          obtain ⟨x4, hx5, h⟩ := h
          refine H_ask _ _ (by kernel_rfl) (ask_oidx (P := Tryd.prog) (M := [.cells [.pd (.sl (p0.map elI64))] 1 0 false, rowV lvI64 1 ([] : List Int) 0 false, rowV lvI64 1 s452 v102 false]) (t := 22) (et := 3) (k := .i64) (lv := lvI64) (e := s452) (s := 1) (b := 2) (by kernel_rfl) (by kernel_rfl) (by kernel_rfl) (rowIs_v' (lv := lvI64) (s := 1) (e := s452) (ver := v102) (z := false)) (n := n102) hn402 hx5) ?_
          refine H_ask _ _ (by kernel_rfl) (ask_oload (P := Tryd.prog) (M := [.cells [.pd (.sl (p0.map elI64))] 1 0 false, rowV lvI64 1 ([] : List Int) 0 false, rowV lvI64 1 s452 v102 false]) (t := 3) (lv := lvI64) (b := 2) (i := (IntKind.i64.wrap (s400 - 1))) okI64 (by kernel_rfl) (by kernel_rfl) (by kernel_rfl) (rowIs_v' (lv := lvI64) (s := 1) (e := s452) (ver := v102) (z := false)) hx5 rfl) ?_
          obtain ⟨y6, hx7, h⟩ := h
          refine H_dinl (g := 26) (args := [.pd (.int .i64 x2), .pd (.int .i64 x4), .ptr 0 0 0]) (M := [.cells [.pd (.sl (p0.map elI64))] 1 0 false, rowV lvI64 1 ([] : List Int) 0 false, rowV lvI64 1 s452 v102 false]) Tryd.f26 (.pd (.int .i64 y6)) mixed17 (askG [9, 10, 11] false) (by kernel_rfl) (by kernel_rfl) (has17 26 (by kernel_rfl)) ?_ ?_
          · replace h := hx7; clear hx7
            refine H_draw (by kernel_rfl) ?_
            refine H_askK (.pd (.sl (p0.map elI64))) ([.cells [.pd (.sl (p0.map elI64))] 1 0 false, rowV lvI64 1 ([] : List Int) 0 false, rowV lvI64 1 s452 v102 false]) (by kernel_rfl) ?_
            obtain ⟨x8, hx9, h⟩ := h
            refine H_ask _ _ (by kernel_rfl) (ask_idx (P := Tryd.prog) (M := [.cells [.pd (.sl (p0.map elI64))] 1 0 false, rowV lvI64 1 ([] : List Int) 0 false, rowV lvI64 1 s452 v102 false]) (t := 22) (et := 3) (k := .i64) (lv := lvI64) okI64 leI64 (by kernel_rfl) (by kernel_rfl) hx9) ?_
            refine H_askK (.pd (.int .i64 x8)) ([.cells [.pd (.sl (p0.map elI64))] 1 0 false, rowV lvI64 1 ([] : List Int) 0 false, rowV lvI64 1 s452 v102 false]) (by kernel_rfl) ?_
            refine H_askK (.pd (.sl (p0.map elI64))) ([.cells [.pd (.sl (p0.map elI64))] 1 0 false, rowV lvI64 1 ([] : List Int) 0 false, rowV lvI64 1 s452 v102 false]) (by kernel_rfl) ?_
            obtain ⟨x10, hx11, h⟩ := h
            refine H_ask _ _ (by kernel_rfl) (ask_idx (P := Tryd.prog) (M := [.cells [.pd (.sl (p0.map elI64))] 1 0 false, rowV lvI64 1 ([] : List Int) 0 false, rowV lvI64 1 s452 v102 false]) (t := 22) (et := 3) (k := .i64) (lv := lvI64) okI64 leI64 (by kernel_rfl) (by kernel_rfl) hx11) ?_
            refine H_askK (.pd (.int .i64 x10)) ([.cells [.pd (.sl (p0.map elI64))] 1 0 false, rowV lvI64 1 ([] : List Int) 0 false, rowV lvI64 1 s452 v102 false]) (by kernel_rfl) ?_
            refine H_endM .ret (.pd (.int .i64 (IntKind.i64.wrap (x8 - x10)))) ([.cells [.pd (.sl (p0.map elI64))] 1 0 false, rowV lvI64 1 ([] : List Int) 0 false, rowV lvI64 1 s452 v102 false]) (by kernel_rfl) rfl (by kernel_rfl) (by kernel_rfl) (by kernel_rfl) ⟨?_, rfl⟩
            first | rfl | (cases h; rfl) | (subst h; rfl)
          refine H_split (decide (y6 < (0 : Int))) (by kernel_rfl) (fun hc => ?_) (fun hc => ?_)
          · replace h := h.t hc; clear hc
            refine H_draw (by kernel_rfl) ?_
            obtain ⟨x12, hx13, h⟩ := h
            refine H_ask _ _ (by kernel_rfl) (ask_oidx (P := Tryd.prog) (M := [.cells [.pd (.sl (p0.map elI64))] 1 0 false, rowV lvI64 1 ([] : List Int) 0 false, rowV lvI64 1 s452 v102 false]) (t := 22) (et := 3) (k := .i64) (lv := lvI64) (e := s452) (s := 1) (b := 2) (by kernel_rfl) (by kernel_rfl) (by kernel_rfl) (rowIs_v' (lv := lvI64) (s := 1) (e := s452) (ver := v102) (z := false)) (n := n102) hn402 hx13) ?_
            refine H_ask _ _ (by kernel_rfl) (ask_oload (P := Tryd.prog) (M := [.cells [.pd (.sl (p0.map elI64))] 1 0 false, rowV lvI64 1 ([] : List Int) 0 false, rowV lvI64 1 s452 v102 false]) (t := 3) (lv := lvI64) (b := 2) (i := (IntKind.i64.wrap (s400 - 1))) okI64 (by kernel_rfl) (by kernel_rfl) (by kernel_rfl) (rowIs_v' (lv := lvI64) (s := 1) (e := s452) (ver := v102) (z := false)) hx13 rfl) ?_
            obtain ⟨x14, hx15, h⟩ := h
            refine H_ask _ _ (by kernel_rfl) (ask_oidx (P := Tryd.prog) (M := [.cells [.pd (.sl (p0.map elI64))] 1 0 false, rowV lvI64 1 ([] : List Int) 0 false, rowV lvI64 1 s452 v102 false]) (t := 22) (et := 3) (k := .i64) (lv := lvI64) (e := s452) (s := 1) (b := 2) (by kernel_rfl) (by kernel_rfl) (by kernel_rfl) (rowIs_v' (lv := lvI64) (s := 1) (e := s452) (ver := v102) (z := false)) (n := n102) hn402 hx15) ?_
            refine H_ask _ _ (by kernel_rfl) (ask_oload (P := Tryd.prog) (M := [.cells [.pd (.sl (p0.map elI64))] 1 0 false, rowV lvI64 1 ([] : List Int) 0 false, rowV lvI64 1 s452 v102 false]) (t := 3) (lv := lvI64) (b := 2) (i := s400) okI64 (by kernel_rfl) (by kernel_rfl) (by kernel_rfl) (rowIs_v' (lv := lvI64) (s := 1) (e := s452) (ver := v102) (z := false)) hx15 rfl) ?_
            obtain ⟨x16, hx17, h⟩ := h
            refine H_ask _ _ (by kernel_rfl) (ask_oidx (P := Tryd.prog) (M := [.cells [.pd (.sl (p0.map elI64))] 1 0 false, rowV lvI64 1 ([] : List Int) 0 false, rowV lvI64 1 s452 v102 false]) (t := 22) (et := 3) (k := .i64) (lv := lvI64) (e := s452) (s := 1) (b := 2) (by kernel_rfl) (by kernel_rfl) (by kernel_rfl) (rowIs_v' (lv := lvI64) (s := 1) (e := s452) (ver := v102) (z := false)) (n := n102) hn402 hx17) ?_
            refine H_ask _ _ (by kernel_rfl) (ask_ostoreV (P := Tryd.prog) (M := [.cells [.pd (.sl (p0.map elI64))] 1 0 false, rowV lvI64 1 ([] : List Int) 0 false, rowV lvI64 1 s452 v102 false]) (t := 3) (lv := lvI64) (b := 2) (i := s400) (y := x12) (X := .pd (.int .i64 x12)) okI64 (by kernel_rfl) (by kernel_rfl) (rowIs_v (lv := lvI64) (s := 1) (e := s452) (ver := v102)) hx17 (by kernel_rfl)) ?_
            obtain ⟨x18, hx19, h⟩ := h
            refine H_ask _ _ (by kernel_rfl) (ask_oidx (P := Tryd.prog) (M := [.cells [.pd (.sl (p0.map elI64))] 1 0 false, rowV lvI64 1 ([] : List Int) 0 false, rowV lvI64 1 (s452.set (Int.toNat s400) x12) v102 false]) (t := 22) (et := 3) (k := .i64) (lv := lvI64) (e := (s452.set (Int.toNat s400) x12)) (s := 1) (b := 2) (by kernel_rfl) (by kernel_rfl) (by kernel_rfl) (rowIs_v' (lv := lvI64) (s := 1) (e := (s452.set (Int.toNat s400) x12)) (ver := v102) (z := false)) (n := n102) (ls_set hn402) hx19) ?_
            refine H_ask _ _ (by kernel_rfl) (ask_ostoreV (P := Tryd.prog) (M := [.cells [.pd (.sl (p0.map elI64))] 1 0 false, rowV lvI64 1 ([] : List Int) 0 false, rowV lvI64 1 (s452.set (Int.toNat s400) x12) v102 false]) (t := 3) (lv := lvI64) (b := 2) (i := (IntKind.i64.wrap (s400 - 1))) (y := x14) (X := .pd (.int .i64 x14)) okI64 (by kernel_rfl) (by kernel_rfl) (rowIs_v (lv := lvI64) (s := 1) (e := (s452.set (Int.toNat s400) x12)) (ver := v102)) hx19 (by kernel_rfl)) ?_
            exact H_againP (st := _) ((IntKind.i64.wrap (s400 - 1)), ((s452.set (Int.toNat s400) x12).set (Int.toNat (IntKind.i64.wrap (s400 - 1))) x14)) () h (ls_set (ls_set hn402)) (by kernel_rfl) (by kernel_rfl) (by kernel_rfl) (by kernel_rfl) (by kernel_rfl)
          · replace h := h.f hc; clear hc
            refine H_leaveP (.exit 2) (by kernel_rfl) rfl ?_
            exact H_againP (st := _) ((IntKind.i64.wrap (s300 + 1)), s452) () h hn402 (by kernel_rfl) (by kernel_rfl) (by kernel_rfl) (by kernel_rfl) (by kernel_rfl)
        · replace h := h.f hc; clear hc
          refine H_leaveP (.exit 2) (by kernel_rfl) rfl ?_
          exact H_againP (st := _) ((IntKind.i64.wrap (s300 + 1)), s452) () h hn402 (by kernel_rfl) (by kernel_rfl) (by kernel_rfl) (by kernel_rfl) (by kernel_rfl)
      · replace h := h.f hc; clear hc
        refine H_leaveP (.exit 0) (by kernel_rfl) rfl ?_
        refine H_endM .normal (.tup []) ([.cells [.pd (.sl (p0.map elI64))] 1 0 false, rowV lvI64 1 ([] : List Int) 0 false, rowV lvI64 1 s352 v102 false]) (by kernel_rfl) rfl (by kernel_rfl) (by kernel_rfl) (by kernel_rfl) ?_
        exact H_againP (st := _) (s201, (IntKind.i64.wrap (s201 + 20)), s352) () h hn302 (by kernel_rfl) (by kernel_rfl) (by kernel_rfl) (by kernel_rfl) (by kernel_rfl)
    · replace h := h.f hc; clear hc
      refine H_leaveP (.exit 0) (by kernel_rfl) rfl ?_
      refine H_inl (g := 31) (args := [.own 2 n102 v102, .pd (.int .i64 s200), .pd (.int .i64 (s152.length : Int)), .fn (.func 26) [] [.ptr 0 0 0]]) (M := [.cells [.pd (.sl (p0.map elI64))] 1 0 false, rowV lvI64 1 ([] : List Int) 0 false, rowV lvI64 1 s252 v102 false]) Tryd.f31 mixed17 (askG [9, 10, 11] false) (by kernel_rfl) (by kernel_rfl) (has17 31 (by kernel_rfl)) ?_
      refine H_loopP (F := f18_L5 p0 s152 s200 r) (s0 := ((IntKind.i64.wrap (s200 + 1)), s252)) h () 53 3
        (fun ((s500, s552) : Int × (List Int)) (() : Unit) => [(0, .own 2 n102 v102), (1, .pd (.int .i64 s200)), (2, .pd (.int .i64 (s152.length : Int))), (3, .fn (.func 26) [] [.ptr 0 0 0]), (8, .pd (.int .i64 s500))])
        (fun ((s500, s552) : Int × (List Int)) (() : Unit) => [.cells [.pd (.sl (p0.map elI64))] 1 0 false, rowV lvI64 1 ([] : List Int) 0 false, rowV lvI64 1 s552 v102 false]) (fun ((s500, s552) : Int × (List Int)) (() : Unit) => n102 = s552.length) hn202 [] mixed17 (askG [9, 10, 11] true)
        (by kernel_rfl) (by kernel_rfl) (by kernel_rfl) (by kernel_rfl) (by kernel_rfl) (fun _ _ => rfl) ?_
      rintro X5 ⟨s500, s552⟩ ⟨⟩ hn502 h
      dsimp only [f18_L5] at h
      refine H_split (decide (s500 < (s152.length : Int))) (by kernel_rfl) (fun hc => ?_) (fun hc => ?_)
      · replace h := h.t hc; clear hc
        refine H_loopP (F := f18_L6 p0 s200 s500 X5) (s0 := (s500, s552)) h () 53 3
          (fun ((s600, s652) : Int × (List Int)) (() : Unit) => [(0, .own 2 n102 v102), (1, .pd (.int .i64 s200)), (2, .pd (.int .i64 (s152.length : Int))), (3, .fn (.func 26) [] [.ptr 0 0 0]), (8, .pd (.int .i64 s500)), (9, .pd (.int .i64 s600))])
          (fun ((s600, s652) : Int × (List Int)) (() : Unit) => [.cells [.pd (.sl (p0.map elI64))] 1 0 false, rowV lvI64 1 ([] : List Int) 0 false, rowV lvI64 1 s652 v102 false]) (fun ((s600, s652) : Int × (List Int)) (() : Unit) => n102 = s652.length) hn502 [] mixed17 (askG [9, 10, 11] true)
          (by kernel_rfl) (by kernel_rfl) (by kernel_rfl) (by kernel_rfl) (by kernel_rfl) (fun _ _ => rfl) ?_
        rintro X6 ⟨s600, s652⟩ ⟨⟩ hn602 h
        dsimp only [f18_L6] at h
        refine H_draw (by kernel_rfl) ?_
        refine H_split (decide (s600 > s200)) (by kernel_rfl) (fun hc => ?_) (fun hc => ?_)
        · replace h := h.t hc; clear hc
          obtain ⟨x20, hx21, h⟩ := h
          refine H_ask _ _ (by kernel_rfl) (ask_oidx (P := Tryd.prog) (M := [.cells [.pd (.sl (p0.map elI64))] 1 0 false, rowV lvI64 1 ([] : List Int) 0 false, rowV lvI64 1 s652 v102 false]) (t := 22) (et := 3) (k := .i64) (lv := lvI64) (e := s652) (s := 1) (b := 2) (by kernel_rfl) (by kernel_rfl) (by kernel_rfl) (rowIs_v' (lv := lvI64) (s := 1) (e := s652) (ver := v102) (z := false)) (n := n102) hn602 hx21) ?_
          refine H_ask _ _ (by kernel_rfl) (ask_oload (P := Tryd.prog) (M := [.cells [.pd (.sl (p0.map elI64))] 1 0 false, rowV lvI64 1 ([] : List Int) 0 false, rowV lvI64 1 s652 v102 false]) (t := 3) (lv := lvI64) (b := 2) (i := s600) okI64 (by kernel_rfl) (by kernel_rfl) (by kernel_rfl) (rowIs_v' (lv := lvI64) (s := 1) (e := s652) (ver := v102) (z := false)) hx21 rfl) ?_
          obtain ⟨x22, hx23, h⟩ := h
          refine H_ask _ _ (by kernel_rfl) (ask_oidx (P := Tryd.prog) (M := [.cells [.pd (.sl (p0.map elI64))] 1 0 false, rowV lvI64 1 ([] : List Int) 0 false, rowV lvI64 1 s652 v102 false]) (t := 22) (et := 3) (k := .i64) (lv := lvI64) (e := s652) (s := 1) (b := 2) (by kernel_rfl) (by kernel_rfl) (by kernel_rfl) (rowIs_v' (lv := lvI64) (s := 1) (e := s652) (ver := v102) (z := false)) (n := n102) hn602 hx23) ?_
          refine H_ask _ _ (by kernel_rfl) (ask_oload (P := Tryd.prog) (M := [.cells [.pd (.sl (p0.map elI64))] 1 0 false, rowV lvI64 1 ([] : List Int) 0 false, rowV lvI64 1 s652 v102 false]) (t := 3) (lv := lvI64) (b := 2) (i := (IntKind.i64.wrap (s600 - 1))) okI64 (by kernel_rfl) (by kernel_rfl) (by kernel_rfl) (rowIs_v' (lv := lvI64) (s := 1) (e := s652) (ver := v102) (z := false)) hx23 rfl) ?_
          obtain ⟨y24, hx25, h⟩ := h
          refine H_dinl (g := 26) (args := [.pd (.int .i64 x20), .pd (.int .i64 x22), .ptr 0 0 0]) (M := [.cells [.pd (.sl (p0.map elI64))] 1 0 false, rowV lvI64 1 ([] : List Int) 0 false, rowV lvI64 1 s652 v102 false]) Tryd.f26 (.pd (.int .i64 y24)) mixed17 (askG [9, 10, 11] false) (by kernel_rfl) (by kernel_rfl) (has17 26 (by kernel_rfl)) ?_ ?_
          · replace h := hx25; clear hx25
            refine H_draw (by kernel_rfl) ?_
            refine H_askK (.pd (.sl (p0.map elI64))) ([.cells [.pd (.sl (p0.map elI64))] 1 0 false, rowV lvI64 1 ([] : List Int) 0 false, rowV lvI64 1 s652 v102 false]) (by kernel_rfl) ?_
            obtain ⟨x26, hx27, h⟩ := h
            refine H_ask _ _ (by kernel_rfl) (ask_idx (P := Tryd.prog) (M := [.cells [.pd (.sl (p0.map elI64))] 1 0 false, rowV lvI64 1 ([] : List Int) 0 false, rowV lvI64 1 s652 v102 false]) (t := 22) (et := 3) (k := .i64) (lv := lvI64) okI64 leI64 (by kernel_rfl) (by kernel_rfl) hx27) ?_
            refine H_askK (.pd (.int .i64 x26)) ([.cells [.pd (.sl (p0.map elI64))] 1 0 false, rowV lvI64 1 ([] : List Int) 0 false, rowV lvI64 1 s652 v102 false]) (by kernel_rfl) ?_
            refine H_askK (.pd (.sl (p0.map elI64))) ([.cells [.pd (.sl (p0.map elI64))] 1 0 false, rowV lvI64 1 ([] : List Int) 0 false, rowV lvI64 1 s652 v102 false]) (by kernel_rfl) ?_
            obtain ⟨x28, hx29, h⟩ := h
            refine H_ask _ _ (by kernel_rfl) (ask_idx (P := Tryd.prog) (M := [.cells [.pd (.sl (p0.map elI64))] 1 0 false, rowV lvI64 1 ([] : List Int) 0 false, rowV lvI64 1 s652 v102 false]) (t := 22) (et := 3) (k := .i64) (lv := lvI64) okI64 leI64 (by kernel_rfl) (by kernel_rfl) hx29) ?_
            refine H_askK (.pd (.int .i64 x28)) ([.cells [.pd (.sl (p0.map elI64))] 1 0 false, rowV lvI64 1 ([] : List Int) 0 false, rowV lvI64 1 s652 v102 false]) (by kernel_rfl) ?_
            refine H_endM .ret (.pd (.int .i64 (IntKind.i64.wrap (x26 - x28)))) ([.cells [.pd (.sl (p0.map elI64))] 1 0 false, rowV lvI64 1 ([] : List Int) 0 false, rowV lvI64 1 s652 v102 false]) (by kernel_rfl) rfl (by kernel_rfl) (by kernel_rfl) (by kernel_rfl) ⟨?_, rfl⟩
            first | rfl | (cases h; rfl) | (subst h; rfl)
          refine H_split (decide (y24 < (0 : Int))) (by kernel_rfl) (fun hc => ?_) (fun hc => ?_)
          · replace h := h.t hc; clear hc
            refine H_draw (by kernel_rfl) ?_
            obtain ⟨x30, hx31, h⟩ := h
            refine H_ask _ _ (by kernel_rfl) (ask_oidx (P := Tryd.prog) (M := [.cells [.pd (.sl (p0.map elI64))] 1 0 false, rowV lvI64 1 ([] : List Int) 0 false, rowV lvI64 1 s652 v102 false]) (t := 22) (et := 3) (k := .i64) (lv := lvI64) (e := s652) (s := 1) (b := 2) (by kernel_rfl) (by kernel_rfl) (by kernel_rfl) (rowIs_v' (lv := lvI64) (s := 1) (e := s652) (ver := v102) (z := false)) (n := n102) hn602 hx31) ?_
            refine H_ask _ _ (by kernel_rfl) (ask_oload (P := Tryd.prog) (M := [.cells [.pd (.sl (p0.map elI64))] 1 0 false, rowV lvI64 1 ([] : List Int) 0 false, rowV lvI64 1 s652 v102 false]) (t := 3) (lv := lvI64) (b := 2) (i := (IntKind.i64.wrap (s600 - 1))) okI64 (by kernel_rfl) (by kernel_rfl) (by kernel_rfl) (rowIs_v' (lv := lvI64) (s := 1) (e := s652) (ver := v102) (z := false)) hx31 rfl) ?_
            obtain ⟨x32, hx33, h⟩ := h
            refine H_ask _ _ (by kernel_rfl) (ask_oidx (P := Tryd.prog) (M := [.cells [.pd (.sl (p0.map elI64))] 1 0 false, rowV lvI64 1 ([] : List Int) 0 false, rowV lvI64 1 s652 v102 false]) (t := 22) (et := 3) (k := .i64) (lv := lvI64) (e := s652) (s := 1) (b := 2) (by kernel_rfl) (by kernel_rfl) (by kernel_rfl) (rowIs_v' (lv := lvI64) (s := 1) (e := s652) (ver := v102) (z := false)) (n := n102) hn602 hx33) ?_
            refine H_ask _ _ (by kernel_rfl) (ask_oload (P := Tryd.prog) (M := [.cells [.pd (.sl (p0.map elI64))] 1 0 false, rowV lvI64 1 ([] : List Int) 0 false, rowV lvI64 1 s652 v102 false]) (t := 3) (lv := lvI64) (b := 2) (i := s600) okI64 (by kernel_rfl) (by kernel_rfl) (by kernel_rfl) (rowIs_v' (lv := lvI64) (s := 1) (e := s652) (ver := v102) (z := false)) hx33 rfl) ?_
            obtain ⟨x34, hx35, h⟩ := h
            refine H_ask _ _ (by kernel_rfl) (ask_oidx (P := Tryd.prog) (M := [.cells [.pd (.sl (p0.map elI64))] 1 0 false, rowV lvI64 1 ([] : List Int) 0 false, rowV lvI64 1 s652 v102 false]) (t := 22) (et := 3) (k := .i64) (lv := lvI64) (e := s652) (s := 1) (b := 2) (by kernel_rfl) (by kernel_rfl) (by kernel_rfl) (rowIs_v' (lv := lvI64) (s := 1) (e := s652) (ver := v102) (z := false)) (n := n102) hn602 hx35) ?_
            refine H_ask _ _ (by kernel_rfl) (ask_ostoreV (P := Tryd.prog) (M := [.cells [.pd (.sl (p0.map elI64))] 1 0 false, rowV lvI64 1 ([] : List Int) 0 false, rowV lvI64 1 s652 v102 false]) (t := 3) (lv := lvI64) (b := 2) (i := s600) (y := x30) (X := .pd (.int .i64 x30)) okI64 (by kernel_rfl) (by kernel_rfl) (rowIs_v (lv := lvI64) (s := 1) (e := s652) (ver := v102)) hx35 (by kernel_rfl)) ?_
            obtain ⟨x36, hx37, h⟩ := h
            refine H_ask _ _ (by kernel_rfl) (ask_oidx (P := Tryd.prog) (M := [.cells [.pd (.sl (p0.map elI64))] 1 0 false, rowV lvI64 1 ([] : List Int) 0 false, rowV lvI64 1 (s652.set (Int.toNat s600) x30) v102 false]) (t := 22) (et := 3) (k := .i64) (lv := lvI64) (e := (s652.set (Int.toNat s600) x30)) (s := 1) (b := 2) (by kernel_rfl) (by kernel_rfl) (by kernel_rfl) (rowIs_v' (lv := lvI64) (s := 1) (e := (s652.set (Int.toNat s600) x30)) (ver := v102) (z := false)) (n := n102) (ls_set hn602) hx37) ?_
            refine H_ask _ _ (by kernel_rfl) (ask_ostoreV (P := Tryd.prog) (M := [.cells [.pd (.sl (p0.map elI64))] 1 0 false, rowV lvI64 1 ([] : List Int) 0 false, rowV lvI64 1 (s652.set (Int.toNat s600) x30) v102 false]) (t := 3) (lv := lvI64) (b := 2) (i := (IntKind.i64.wrap (s600 - 1))) (y := x32) (X := .pd (.int .i64 x32)) okI64 (by kernel_rfl) (by kernel_rfl) (rowIs_v (lv := lvI64) (s := 1) (e := (s652.set (Int.toNat s600) x30)) (ver := v102)) hx37 (by kernel_rfl)) ?_
            exact H_againP (st := _) ((IntKind.i64.wrap (s600 - 1)), ((s652.set (Int.toNat s600) x30).set (Int.toNat (IntKind.i64.wrap (s600 - 1))) x32)) () h (ls_set (ls_set hn602)) (by kernel_rfl) (by kernel_rfl) (by kernel_rfl) (by kernel_rfl) (by kernel_rfl)
          · replace h := h.f hc; clear hc
            refine H_leaveP (.exit 2) (by kernel_rfl) rfl ?_
            exact H_againP (st := _) ((IntKind.i64.wrap (s500 + 1)), s652) () h hn602 (by kernel_rfl) (by kernel_rfl) (by kernel_rfl) (by kernel_rfl) (by kernel_rfl)
        · replace h := h.f hc; clear hc
          refine H_leaveP (.exit 2) (by kernel_rfl) rfl ?_
          exact H_againP (st := _) ((IntKind.i64.wrap (s500 + 1)), s652) () h hn602 (by kernel_rfl) (by kernel_rfl) (by kernel_rfl) (by kernel_rfl) (by kernel_rfl)
      · replace h := h.f hc; clear hc
        refine H_leaveP (.exit 0) (by kernel_rfl) rfl ?_
        refine H_endM .normal (.tup []) ([.cells [.pd (.sl (p0.map elI64))] 1 0 false, rowV lvI64 1 ([] : List Int) 0 false, rowV lvI64 1 s552 v102 false]) (by kernel_rfl) rfl (by kernel_rfl) (by kernel_rfl) (by kernel_rfl) ?_
        refine H_loopP (F := f18_L7 s152 s552 r) (s0 := (20 : Int)) h () 63 3
          (fun (s700 : Int) (() : Unit) => [(0, .own 2 n102 v102), (1, .pd (.int .i64 (s152.length : Int))), (2, .fn (.func 26) [] [.ptr 0 0 0]), (6, .pd (.int .i64 s700))])
          (fun (s700 : Int) (() : Unit) => [.cells [.pd (.sl (p0.map elI64))] 1 0 false, rowV lvI64 1 ([] : List Int) 0 false, rowV lvI64 1 s552 v102 false]) (fun (s700 : Int) (() : Unit) => True) trivial [] mixed17 (askG [9, 10, 11] true)
          (by kernel_rfl) (by kernel_rfl) (by kernel_rfl) (by kernel_rfl) (by kernel_rfl) (fun _ _ => rfl) ?_
        rintro X7 s700 ⟨⟩ - h
        dsimp only [f18_L7] at h
        refine H_split (decide (s700 < (s152.length : Int))) (by kernel_rfl) (fun hc => ?_) (fun hc => ?_)
        · replace h := h.t hc; clear hc
          refine H_loopP (F := f18_L8 s152 s700 X7) (s0 := ()) h () 63 3
            (fun (() : Unit) (() : Unit) => [(0, .own 2 n102 v102), (1, .pd (.int .i64 (s152.length : Int))), (2, .fn (.func 26) [] [.ptr 0 0 0]), (6, .pd (.int .i64 s700)), (7, .pd (.int .i64 0)), (8, .pd (.int .i64 (IntKind.i64.wrap (2 * s700))))])
            (fun (() : Unit) (() : Unit) => [.cells [.pd (.sl (p0.map elI64))] 1 0 false, rowV lvI64 1 ([] : List Int) 0 false, rowV lvI64 1 s552 v102 false]) (fun (() : Unit) (() : Unit) => True) trivial [] mixed17 (askG [9, 10, 11] true)
            (by kernel_rfl) (by kernel_rfl) (by kernel_rfl) (by kernel_rfl) (by kernel_rfl) (fun _ _ => rfl) ?_
          rintro X8 ⟨⟩ ⟨⟩ - h
          dsimp only [f18_L8] at h
          refine H_split (decide ((IntKind.i64.wrap (2 * s700)) ≤ (s152.length : Int))) (by kernel_rfl) (fun hc => ?_) (fun hc => ?_)
          · replace h := h.t hc; clear hc
            exact h.elim
          · replace h := h.f hc; clear hc
            refine H_leaveP (.exit 4) (by kernel_rfl) rfl ?_
            refine H_split (decide ((IntKind.i64.wrap (0 + s700)) < (s152.length : Int))) (by kernel_rfl) (fun hc => ?_) (fun hc => ?_)
            · replace h := h.t hc; clear hc
              exact h.elim
            · replace h := h.f hc; clear hc
              exact H_againP (st := _) (IntKind.i64.wrap (s700 * 2)) () h trivial (by kernel_rfl) (by kernel_rfl) (by kernel_rfl) (by kernel_rfl) (by kernel_rfl)
        · replace h := h.f hc; clear hc
          refine H_leaveP (.exit 2) (by kernel_rfl) rfl ?_
          refine H_endM .normal (.tup []) ([.cells [.pd (.sl (p0.map elI64))] 1 0 false, rowV lvI64 1 ([] : List Int) 0 false, rowV lvI64 1 s552 v102 false]) (by kernel_rfl) rfl (by kernel_rfl) (by kernel_rfl) (by kernel_rfl) ?_
          refine H_endM .normal (.tup []) ([.cells [.pd (.sl (p0.map elI64))] 1 0 false, rowV lvI64 1 ([] : List Int) 0 false, rowV lvI64 1 s552 v102 false]) (by kernel_rfl) rfl (by kernel_rfl) (by kernel_rfl) (by kernel_rfl) ?_
          exact H_endX .ret (.own 2 n102 v102) (.pd (.sl (s552.map elI64))) ([.cells [.pd (.sl (p0.map elI64))] 1 0 false, rowV lvI64 1 ([] : List Int) 0 false, rowV lvI64 1 s552 v102 false]) (by kernel_rfl) rfl (by kernel_rfl) (by kernel_rfl) (pure_2to3 (pure_1to2 (pure1_own okI64 (by decide) lgI64 (M := [.cells [.pd (.sl (p0.map elI64))] 1 0 false, rowV lvI64 1 ([] : List Int) 0 false, rowV lvI64 1 s552 v102 false]) (b := 2) (o := rowV lvI64 1 s552 v102 false) (by kernel_rfl) (rowIs_v' (lv := lvI64) (s := 1) (e := s552) (ver := v102) (z := false)) (n := n102) hn502) rfl) rfl) (by subst h; rfl)

theorem f11_ok (p0 : Int) (p1 : List Int) {r : Int} (h : f11 p0 p1 r) : ASpec Tryd.prog gt17 11 [.pd (.int .i64 p0), .pd (.sl (p1.map elI64))] (· = .pd (.int .i64 r)) := by
  refine ASpec_tree Tryd.f11 mixed17 (askG [9, 10, 11] false) (by kernel_rfl) ?_
  unfold f11 at h
  obtain ⟨x1, hx2, h⟩ := h
  refine H_valW (g := 9) (args := [.pd (.int .i64 p0), .pd (.sl (p1.map elI64))]) (M := []) (.pd (.bool x1)) (.inl (by kernel_rfl)) (by kernel_rfl) (f9_ok _ _ hx2) (by kernel_rfl) (has17 9 (by kernel_rfl)) ?_
  cases x1
  · replace h := h.f rfl
    exact H_end .ret (.pd (.int .i64 0)) (by kernel_rfl) rfl (by kernel_rfl) (by subst h; rfl)
  · replace h := h.t rfl
    refine H_ask _ _ (by kernel_rfl) (ask_len (P := Tryd.prog) (M := []) (t := 22) (et := 3) (el := elI64) (by kernel_rfl) (e := p1)) ?_
    obtain ⟨hx3, h⟩ := h
    refine H_ask _ _ (by kernel_rfl) (ask_shl (P := Tryd.prog) (M := []) (t := 3) (k := .i64) (k2 := .i64) (a := (1 : Int)) (b := (p1.length : Int)) hx3) ?_
    obtain ⟨x4, hx5, h⟩ := h
    refine H_valW (g := 20) (args := [.pd (.sl (p1.map elI64)), .pd (.int .i64 (IntKind.i64.wrap ((IntKind.i64.wrap ((1 : Int) * 2 ^ (min (Int.toNat (p1.length : Int)) (IntKind.bits .i64)))) - 1)))]) (M := []) (.pd (.int .i64 x4)) (.inl (by kernel_rfl)) (by kernel_rfl) (f20_ok _ _ hx5) (by kernel_rfl) (has17 20 (by kernel_rfl)) ?_
    obtain ⟨hx6, h⟩ := h
    refine H_ask _ _ (by kernel_rfl) (ask_quoK (P := Tryd.prog) (M := []) (t := 3) (k := .i64) (a := (IntKind.i64.wrap ((IntKind.i64.wrap (x4 + p0)) - 1))) (b := p0) hx6) ?_
    exact H_end .ret (.pd (.int .i64 (IntKind.i64.wrap (Int.tdiv (IntKind.i64.wrap ((IntKind.i64.wrap (x4 + p0)) - 1)) p0)))) (by kernel_rfl) rfl (by kernel_rfl) (by subst h; rfl)

theorem f8_ok (p0 : Int) (p1 : List Int) {r : (List Int)} (h : f8 p0 p1 r) : ASpec Tryd.prog gt17 8 [.pd (.int .i64 p0), .pd (.sl (p1.map elI64))] (· = .pd (.sl (r.map elI64))) := by
  refine ASpec_tree Tryd.f8 mixed17 (askG [9, 10, 11] true) (by kernel_rfl) ?_
  unfold f8 at h
  refine H_askK (.ptr 0 0 0) ([.cells [.pd (.int .i64 p0)] 1 0 false]) (by kernel_rfl) ?_
  refine H_askK (.ptr 1 0 0) ([.cells [.pd (.int .i64 p0)] 1 0 false, .cells [.pd (.sl (p1.map elI64))] 1 0 false]) (by kernel_rfl) ?_
  refine H_askK (.pd (.int .i64 p0)) ([.cells [.pd (.int .i64 p0)] 1 0 false, .cells [.pd (.sl (p1.map elI64))] 1 0 false, rowV lvI64 1 ([] : List Int) 0 false]) (by kernel_rfl) ?_
  refine H_askK (.pd (.sl (p1.map elI64))) ([.cells [.pd (.int .i64 p0)] 1 0 false, .cells [.pd (.sl (p1.map elI64))] 1 0 false, rowV lvI64 1 ([] : List Int) 0 false]) (by kernel_rfl) ?_
  obtain ⟨x1, hx2, h⟩ := h
  refine H_valW (g := 9) (args := [.pd (.int .i64 p0), .pd (.sl (p1.map elI64))]) (M := [.cells [.pd (.int .i64 p0)] 1 0 false, .cells [.pd (.sl (p1.map elI64))] 1 0 false, rowV lvI64 1 ([] : List Int) 0 false]) (.pd (.bool x1)) (.inl (by kernel_rfl)) (by kernel_rfl) (f9_ok _ _ hx2) (by kernel_rfl) (has17 9 (by kernel_rfl)) ?_
  cases x1
  · replace h := h.f rfl
    exact H_endX .ret (.own 3 (([] : List Int).length) 0) (.pd (.sl (([] : List Int).map elI64))) ([.cells [.pd (.int .i64 p0)] 1 0 false, .cells [.pd (.sl (p1.map elI64))] 1 0 false, rowV lvI64 1 ([] : List Int) 0 false, rowV lvI64 1 ([] : List Int) 0 false]) (by kernel_rfl) rfl (by kernel_rfl) (by kernel_rfl) (pure_2to3 (pure_1to2 (pure1_own okI64 (by decide) lgI64 (M := [.cells [.pd (.int .i64 p0)] 1 0 false, .cells [.pd (.sl (p1.map elI64))] 1 0 false, rowV lvI64 1 ([] : List Int) 0 false, rowV lvI64 1 ([] : List Int) 0 false]) (b := 3) (o := rowV lvI64 1 ([] : List Int) 0 false) (by kernel_rfl) (rowIs_v' (lv := lvI64) (s := 1) (e := ([] : List Int)) (ver := 0) (z := false)) (n := ([] : List Int).length) rfl) rfl) rfl) (by subst h; rfl)
  · replace h := h.t rfl
    refine H_askK (.pd (.sl (p1.map elI64))) ([.cells [.pd (.int .i64 p0)] 1 0 false, .cells [.pd (.sl (p1.map elI64))] 1 0 false, rowV lvI64 1 ([] : List Int) 0 false, rowV lvI64 1 ([] : List Int) 0 false]) (by kernel_rfl) ?_
    obtain ⟨x3, hx4, h⟩ := h
    refine H_valW (g := 18) (args := [.pd (.sl (p1.map elI64))]) (M := [.cells [.pd (.int .i64 p0)] 1 0 false, .cells [.pd (.sl (p1.map elI64))] 1 0 false, rowV lvI64 1 ([] : List Int) 0 false, rowV lvI64 1 ([] : List Int) 0 false]) (.pd (.sl (x3.map elI64))) (.inl (by kernel_rfl)) (by kernel_rfl) (f18_ok _ hx4) (by kernel_rfl) (has17 18 (by kernel_rfl)) ?_
    refine H_ask _ _ (by kernel_rfl) (ask_len (P := Tryd.prog) (M := [.cells [.pd (.int .i64 p0)] 1 0 false, .cells [.pd (.sl (p1.map elI64))] 1 0 false, rowV lvI64 1 ([] : List Int) 0 false, rowV lvI64 1 ([] : List Int) 0 false]) (t := 22) (et := 3) (el := elI64) (by kernel_rfl) (e := x3)) ?_
    refine H_loopP (F := f8_L1 p0 p1 x3 r) (s0 := ((0 : Int), ([] : List Int))) h (0, (([] : List Int).length)) 42 4
      (fun ((s100, s153) : Int × (List Int)) ((v103, n103) : Nat × Nat) => [(2, .ptr 0 0 0), (3, .ptr 1 0 0), (5, .own 3 n103 v103), (15, .pd (.sl (x3.map elI64))), (16, .pd (.int .i64 (x3.length : Int))), (17, .pd (.int .i64 s100))])
      (fun ((s100, s153) : Int × (List Int)) ((v103, n103) : Nat × Nat) => [.cells [.pd (.int .i64 p0)] 1 0 false, .cells [.pd (.sl (p1.map elI64))] 1 0 false, rowV lvI64 1 ([] : List Int) 0 false, rowV lvI64 1 s153 v103 false]) (fun ((s100, s153) : Int × (List Int)) ((v103, n103) : Nat × Nat) => n103 = s153.length) rfl [] mixed17 (askG [9, 10, 11] true)
      (by kernel_rfl) (by kernel_rfl) (by kernel_rfl) (by kernel_rfl) (by kernel_rfl) (fun _ _ => rfl) ?_
    rintro X1 ⟨s100, s153⟩ ⟨v103, n103⟩ hn103 h
    dsimp only [f8_L1] at h
    refine H_split (decide (s100 < (x3.length : Int))) (by kernel_rfl) (fun hc => ?_) (fun hc => ?_)
    · replace h := h.t hc; clear hc
      obtain ⟨x5, hx6, h⟩ := h
      refine H_ask _ _ (by kernel_rfl) (ask_idx (P := Tryd.prog) (M := [.cells [.pd (.int .i64 p0)] 1 0 false, .cells [.pd (.sl (p1.map elI64))] 1 0 false, rowV lvI64 1 ([] : List Int) 0 false, rowV lvI64 1 s153 v103 false]) (t := 22) (et := 3) (k := .i64) (lv := lvI64) okI64 leI64 (by kernel_rfl) (by kernel_rfl) hx6) ?_
      refine H_askK (.pd (.int .i64 x5)) ([.cells [.pd (.int .i64 p0)] 1 0 false, .cells [.pd (.sl (p1.map elI64))] 1 0 false, rowV lvI64 1 ([] : List Int) 0 false, rowV lvI64 1 s153 v103 false]) (by kernel_rfl) ?_
      refine H_askK (.junk) ([.cells [.pd (.int .i64 p0)] 1 0 false, .cells [.pd (.sl (p1.map elI64))] 1 0 false, rowV lvI64 1 ([] : List Int) 0 false, rowV lvI64 1 s153 v103 false, .cells [.pd (.int .i64 x5)] 1 0 false]) (by kernel_rfl) ?_
      refine H_inl (g := 21) (args := [.own 3 n103 v103, .fn (.func 19) [] [.ptr 1 0 0, .ptr 4 0 0, .ptr 0 0 0]]) (M := [.cells [.pd (.int .i64 p0)] 1 0 false, .cells [.pd (.sl (p1.map elI64))] 1 0 false, rowV lvI64 1 ([] : List Int) 0 false, rowV lvI64 1 s153 v103 false, .cells [.pd (.int .i64 x5)] 1 0 false]) Tryd.f21 mixed17 (askG [9, 10, 11] false) (by kernel_rfl) (by kernel_rfl) (has17 21 (by kernel_rfl)) ?_
      refine H_ask _ _ (by kernel_rfl) (ask_olen (P := Tryd.prog) (M := [.cells [.pd (.int .i64 p0)] 1 0 false, .cells [.pd (.sl (p1.map elI64))] 1 0 false, rowV lvI64 1 ([] : List Int) 0 false, rowV lvI64 1 s153 v103 false, .cells [.pd (.int .i64 x5)] 1 0 false]) (t := 22) (et := 3) (lv := lvI64) (e := s153) (b := 3) (n := n103) (by kernel_rfl) (by kernel_rfl) (rowIs_v' (lv := lvI64) (s := 1) (e := s153) (ver := v103) (z := false)) hn103) ?_
      refine H_loopP (F := f8_L2 p0 p1 s100 s153 X1 x5) (s0 := (0 : Int)) h () 19 5
        (fun (s200 : Int) (() : Unit) => [(0, .own 3 n103 v103), (1, .fn (.func 19) [] [.ptr 1 0 0, .ptr 4 0 0, .ptr 0 0 0]), (7, .pd (.int .i64 (s153.length : Int))), (8, .pd (.int .i64 s200))])
        (fun (s200 : Int) (() : Unit) => [.cells [.pd (.int .i64 p0)] 1 0 false, .cells [.pd (.sl (p1.map elI64))] 1 0 false, rowV lvI64 1 ([] : List Int) 0 false, rowV lvI64 1 s153 v103 false, .cells [.pd (.int .i64 x5)] 1 0 false]) (fun (s200 : Int) (() : Unit) => True) trivial [] mixed17 (askG [9, 10, 11] true)
        (by kernel_rfl) (by kernel_rfl) (by kernel_rfl) (by kernel_rfl) (by kernel_rfl) (fun _ _ => rfl) ?_
      rintro X2 s200 ⟨⟩ - h
      dsimp only [f8_L2] at h
      refine H_split (decide (s200 < (s153.length : Int))) (by kernel_rfl) (fun hc => ?_) (fun hc => ?_)
      · replace h := h.t hc; clear hc
        obtain ⟨x7, hx8, h⟩ := h
        refine H_ask _ _ (by kernel_rfl) (ask_oidx (P := Tryd.prog) (M := [.cells [.pd (.int .i64 p0)] 1 0 false, .cells [.pd (.sl (p1.map elI64))] 1 0 false, rowV lvI64 1 ([] : List Int) 0 false, rowV lvI64 1 s153 v103 false, .cells [.pd (.int .i64 x5)] 1 0 false]) (t := 22) (et := 3) (k := .i64) (lv := lvI64) (e := s153) (s := 1) (b := 3) (by kernel_rfl) (by kernel_rfl) (by kernel_rfl) (rowIs_v' (lv := lvI64) (s := 1) (e := s153) (ver := v103) (z := false)) (n := n103) hn103 hx8) ?_
        refine H_ask _ _ (by kernel_rfl) (ask_oload (P := Tryd.prog) (M := [.cells [.pd (.int .i64 p0)] 1 0 false, .cells [.pd (.sl (p1.map elI64))] 1 0 false, rowV lvI64 1 ([] : List Int) 0 false, rowV lvI64 1 s153 v103 false, .cells [.pd (.int .i64 x5)] 1 0 false]) (t := 3) (lv := lvI64) (b := 3) (i := s200) okI64 (by kernel_rfl) (by kernel_rfl) (by kernel_rfl) (rowIs_v' (lv := lvI64) (s := 1) (e := s153) (ver := v103) (z := false)) hx8 rfl) ?_
        refine H_inl (g := 19) (args := [.pd (.int .i64 x7), .ptr 1 0 0, .ptr 4 0 0, .ptr 0 0 0]) (M := [.cells [.pd (.int .i64 p0)] 1 0 false, .cells [.pd (.sl (p1.map elI64))] 1 0 false, rowV lvI64 1 ([] : List Int) 0 false, rowV lvI64 1 s153 v103 false, .cells [.pd (.int .i64 x5)] 1 0 false]) Tryd.f19 mixed17 (askG [9, 10, 11] false) (by kernel_rfl) (by kernel_rfl) (has17 19 (by kernel_rfl)) ?_
        refine H_draw (by kernel_rfl) ?_
        refine H_askK (.pd (.sl (p1.map elI64))) ([.cells [.pd (.int .i64 p0)] 1 0 false, .cells [.pd (.sl (p1.map elI64))] 1 0 false, rowV lvI64 1 ([] : List Int) 0 false, rowV lvI64 1 s153 v103 false, .cells [.pd (.int .i64 x5)] 1 0 false]) (by kernel_rfl) ?_
        obtain ⟨x9, hx10, h⟩ := h
        refine H_valW (g := 20) (args := [.pd (.sl (p1.map elI64)), .pd (.int .i64 x7)]) (M := [.cells [.pd (.int .i64 p0)] 1 0 false, .cells [.pd (.sl (p1.map elI64))] 1 0 false, rowV lvI64 1 ([] : List Int) 0 false, rowV lvI64 1 s153 v103 false, .cells [.pd (.int .i64 x5)] 1 0 false]) (.pd (.int .i64 x9)) (.inr (by kernel_rfl)) (by kernel_rfl) (f20_ok _ _ hx10) (by kernel_rfl) (has17 20 (by kernel_rfl)) ?_
        refine H_askK (.pd (.sl (p1.map elI64))) ([.cells [.pd (.int .i64 p0)] 1 0 false, .cells [.pd (.sl (p1.map elI64))] 1 0 false, rowV lvI64 1 ([] : List Int) 0 false, rowV lvI64 1 s153 v103 false, .cells [.pd (.int .i64 x5)] 1 0 false]) (by kernel_rfl) ?_
        refine H_askK (.pd (.int .i64 x5)) ([.cells [.pd (.int .i64 p0)] 1 0 false, .cells [.pd (.sl (p1.map elI64))] 1 0 false, rowV lvI64 1 ([] : List Int) 0 false, rowV lvI64 1 s153 v103 false, .cells [.pd (.int .i64 x5)] 1 0 false]) (by kernel_rfl) ?_
        obtain ⟨x11, hx12, h⟩ := h
        refine H_ask _ _ (by kernel_rfl) (ask_idx (P := Tryd.prog) (M := [.cells [.pd (.int .i64 p0)] 1 0 false, .cells [.pd (.sl (p1.map elI64))] 1 0 false, rowV lvI64 1 ([] : List Int) 0 false, rowV lvI64 1 s153 v103 false, .cells [.pd (.int .i64 x5)] 1 0 false]) (t := 22) (et := 3) (k := .i64) (lv := lvI64) okI64 leI64 (by kernel_rfl) (by kernel_rfl) hx12) ?_
        refine H_askK (.pd (.int .i64 x11)) ([.cells [.pd (.int .i64 p0)] 1 0 false, .cells [.pd (.sl (p1.map elI64))] 1 0 false, rowV lvI64 1 ([] : List Int) 0 false, rowV lvI64 1 s153 v103 false, .cells [.pd (.int .i64 x5)] 1 0 false]) (by kernel_rfl) ?_
        refine H_askK (.pd (.int .i64 p0)) ([.cells [.pd (.int .i64 p0)] 1 0 false, .cells [.pd (.sl (p1.map elI64))] 1 0 false, rowV lvI64 1 ([] : List Int) 0 false, rowV lvI64 1 s153 v103 false, .cells [.pd (.int .i64 x5)] 1 0 false]) (by kernel_rfl) ?_
        refine H_split (decide ((IntKind.i64.wrap (x9 + x11)) ≤ p0)) (by kernel_rfl) (fun hc => ?_) (fun hc => ?_)
        · replace h := h.t hc; clear hc
          refine H_endM .ret (.pd (.bool true)) ([.cells [.pd (.int .i64 p0)] 1 0 false, .cells [.pd (.sl (p1.map elI64))] 1 0 false, rowV lvI64 1 ([] : List Int) 0 false, rowV lvI64 1 s153 v103 false, .cells [.pd (.int .i64 x5)] 1 0 false]) (by kernel_rfl) rfl (by kernel_rfl) (by kernel_rfl) (by kernel_rfl) ?_
          refine H_leaveP .ret (by kernel_rfl) rfl ?_
          refine H_endM .ret (.pd (.int .i64 s200)) ([.cells [.pd (.int .i64 p0)] 1 0 false, .cells [.pd (.sl (p1.map elI64))] 1 0 false, rowV lvI64 1 ([] : List Int) 0 false, rowV lvI64 1 s153 v103 false, .cells [.pd (.int .i64 x5)] 1 0 false]) (by kernel_rfl) rfl (by kernel_rfl) (by kernel_rfl) (by kernel_rfl) ?_
          refine H_split (decide (s200 < (0 : Int))) (by kernel_rfl) (fun hc => ?_) (fun hc => ?_)
          · replace h := h.t hc; clear hc
            refine H_ask _ _ (by kernel_rfl) (ask_olen (P := Tryd.prog) (M := [.cells [.pd (.int .i64 p0)] 1 0 false, .cells [.pd (.sl (p1.map elI64))] 1 0 false, rowV lvI64 1 ([] : List Int) 0 false, rowV lvI64 1 s153 v103 false, .cells [.pd (.int .i64 x5)] 1 0 false]) (t := 22) (et := 3) (lv := lvI64) (e := s153) (b := 3) (n := n103) (by kernel_rfl) (by kernel_rfl) (rowIs_v' (lv := lvI64) (s := 1) (e := s153) (ver := v103) (z := false)) hn103) ?_
            obtain ⟨hx13, h⟩ := h
            refine H_ask _ _ (by kernel_rfl) (ask_appV (P := Tryd.prog) (M := [.cells [.pd (.int .i64 p0)] 1 0 false, .cells [.pd (.sl (p1.map elI64))] 1 0 false, rowV lvI64 1 ([] : List Int) 0 false, rowV lvI64 1 s153 v103 false, .cells [.pd (.int .i64 x5)] 1 0 false]) (lv := lvI64) (s := 1) (b := 3) (e := s153) (e2 := [(0 : Int)]) (ver := v103) (sT := 22) (xT := 22) (by_ := 8) okI64 (by kernel_rfl) (src_fixed (M := [.cells [.pd (.int .i64 p0)] 1 0 false, .cells [.pd (.sl (p1.map elI64))] 1 0 false, rowV lvI64 1 ([] : List Int) 0 false, rowV lvI64 1 s153 v103 false, .cells [.pd (.int .i64 x5)] 1 0 false]) okI64 leI64) (by kernel_rfl) (n := n103) hn103 hx13) ?_
            refine H_draw (by kernel_rfl) ?_
            obtain ⟨x14, hx15, h⟩ := h
            refine H_ask _ _ (by kernel_rfl) (ask_oidx (P := Tryd.prog) (M := [.cells [.pd (.int .i64 p0)] 1 0 false, .cells [.pd (.sl (p1.map elI64))] 1 0 false, rowV lvI64 1 ([] : List Int) 0 false, rowV lvI64 1 (s153 ++ [(0 : Int)]) (vnext s153 [(0 : Int)] v103) false, .cells [.pd (.int .i64 x5)] 1 0 false]) (t := 22) (et := 3) (k := .i64) (lv := lvI64) (e := (s153 ++ [(0 : Int)])) (s := 1) (b := 3) (by kernel_rfl) (by kernel_rfl) (by kernel_rfl) (rowIs_v' (lv := lvI64) (s := 1) (e := (s153 ++ [(0 : Int)])) (ver := (vnext s153 [(0 : Int)] v103)) (z := false)) (n := (s153 ++ [(0 : Int)]).length) rfl hx15) ?_
            refine H_ask _ _ (by kernel_rfl) (ask_oload (P := Tryd.prog) (M := [.cells [.pd (.int .i64 p0)] 1 0 false, .cells [.pd (.sl (p1.map elI64))] 1 0 false, rowV lvI64 1 ([] : List Int) 0 false, rowV lvI64 1 (s153 ++ [(0 : Int)]) (vnext s153 [(0 : Int)] v103) false, .cells [.pd (.int .i64 x5)] 1 0 false]) (t := 3) (lv := lvI64) (b := 3) (i := (s153.length : Int)) okI64 (by kernel_rfl) (by kernel_rfl) (by kernel_rfl) (rowIs_v' (lv := lvI64) (s := 1) (e := (s153 ++ [(0 : Int)])) (ver := (vnext s153 [(0 : Int)] v103)) (z := false)) hx15 rfl) ?_
            refine H_askK (.pd (.int .i64 x5)) ([.cells [.pd (.int .i64 p0)] 1 0 false, .cells [.pd (.sl (p1.map elI64))] 1 0 false, rowV lvI64 1 ([] : List Int) 0 false, rowV lvI64 1 (s153 ++ [(0 : Int)]) (vnext s153 [(0 : Int)] v103) false, .cells [.pd (.int .i64 x5)] 1 0 false]) (by kernel_rfl) ?_
            obtain ⟨hx16, h⟩ := h
            refine H_ask _ _ (by kernel_rfl) (ask_shl (P := Tryd.prog) (M := [.cells [.pd (.int .i64 p0)] 1 0 false, .cells [.pd (.sl (p1.map elI64))] 1 0 false, rowV lvI64 1 ([] : List Int) 0 false, rowV lvI64 1 (s153 ++ [(0 : Int)]) (vnext s153 [(0 : Int)] v103) false, .cells [.pd (.int .i64 x5)] 1 0 false]) (t := 3) (k := .i64) (k2 := .i64) (a := (1 : Int)) (b := x5) hx16) ?_
            obtain ⟨x17, hx18, h⟩ := h
            refine H_ask _ _ (by kernel_rfl) (ask_oidx (P := Tryd.prog) (M := [.cells [.pd (.int .i64 p0)] 1 0 false, .cells [.pd (.sl (p1.map elI64))] 1 0 false, rowV lvI64 1 ([] : List Int) 0 false, rowV lvI64 1 (s153 ++ [(0 : Int)]) (vnext s153 [(0 : Int)] v103) false, .cells [.pd (.int .i64 x5)] 1 0 false]) (t := 22) (et := 3) (k := .i64) (lv := lvI64) (e := (s153 ++ [(0 : Int)])) (s := 1) (b := 3) (by kernel_rfl) (by kernel_rfl) (by kernel_rfl) (rowIs_v' (lv := lvI64) (s := 1) (e := (s153 ++ [(0 : Int)])) (ver := (vnext s153 [(0 : Int)] v103)) (z := false)) (n := (s153 ++ [(0 : Int)]).length) rfl hx18) ?_
            refine H_ask _ _ (by kernel_rfl) (ask_ostoreV (P := Tryd.prog) (M := [.cells [.pd (.int .i64 p0)] 1 0 false, .cells [.pd (.sl (p1.map elI64))] 1 0 false, rowV lvI64 1 ([] : List Int) 0 false, rowV lvI64 1 (s153 ++ [(0 : Int)]) (vnext s153 [(0 : Int)] v103) false, .cells [.pd (.int .i64 x5)] 1 0 false]) (t := 3) (lv := lvI64) (b := 3) (i := (s153.length : Int)) (y := (bitO .i64 x14 (IntKind.i64.wrap ((1 : Int) * 2 ^ (min (Int.toNat x5) (IntKind.bits .i64)))))) (X := .pd (.int .i64 (bitO .i64 x14 (IntKind.i64.wrap ((1 : Int) * 2 ^ (min (Int.toNat x5) (IntKind.bits .i64))))))) okI64 (by kernel_rfl) (by kernel_rfl) (rowIs_v (lv := lvI64) (s := 1) (e := (s153 ++ [(0 : Int)])) (ver := (vnext s153 [(0 : Int)] v103))) hx18 (by kernel_rfl)) ?_
            exact H_againC (st := _) ((IntKind.i64.wrap (s100 + 1)), ((s153 ++ [(0 : Int)]).set (Int.toNat (s153.length : Int)) (bitO .i64 x14 (IntKind.i64.wrap ((1 : Int) * 2 ^ (min (Int.toNat x5) (IntKind.bits .i64))))))) ((vnext s153 [(0 : Int)] v103), ((s153 ++ [(0 : Int)]).length)) h (ls_set rfl) (by kernel_rfl) (by kernel_rfl) (by kernel_rfl) (by kernel_rfl) (by kernel_rfl) (by kernel_rfl) (all_c (by kernel_rfl) (all_c (by kernel_rfl) (all_c (bel_rowV _) (all_c (bel_rowV _) all_n)))) (by kernel_rfl) (by kernel_rfl)
          · replace h := h.f hc; clear hc
            refine H_draw (by kernel_rfl) ?_
            obtain ⟨x19, hx20, h⟩ := h
            refine H_ask _ _ (by kernel_rfl) (ask_oidx (P := Tryd.prog) (M := [.cells [.pd (.int .i64 p0)] 1 0 false, .cells [.pd (.sl (p1.map elI64))] 1 0 false, rowV lvI64 1 ([] : List Int) 0 false, rowV lvI64 1 s153 v103 false, .cells [.pd (.int .i64 x5)] 1 0 false]) (t := 22) (et := 3) (k := .i64) (lv := lvI64) (e := s153) (s := 1) (b := 3) (by kernel_rfl) (by kernel_rfl) (by kernel_rfl) (rowIs_v' (lv := lvI64) (s := 1) (e := s153) (ver := v103) (z := false)) (n := n103) hn103 hx20) ?_
            refine H_ask _ _ (by kernel_rfl) (ask_oload (P := Tryd.prog) (M := [.cells [.pd (.int .i64 p0)] 1 0 false, .cells [.pd (.sl (p1.map elI64))] 1 0 false, rowV lvI64 1 ([] : List Int) 0 false, rowV lvI64 1 s153 v103 false, .cells [.pd (.int .i64 x5)] 1 0 false]) (t := 3) (lv := lvI64) (b := 3) (i := s200) okI64 (by kernel_rfl) (by kernel_rfl) (by kernel_rfl) (rowIs_v' (lv := lvI64) (s := 1) (e := s153) (ver := v103) (z := false)) hx20 rfl) ?_
            refine H_askK (.pd (.int .i64 x5)) ([.cells [.pd (.int .i64 p0)] 1 0 false, .cells [.pd (.sl (p1.map elI64))] 1 0 false, rowV lvI64 1 ([] : List Int) 0 false, rowV lvI64 1 s153 v103 false, .cells [.pd (.int .i64 x5)] 1 0 false]) (by kernel_rfl) ?_
            obtain ⟨hx21, h⟩ := h
            refine H_ask _ _ (by kernel_rfl) (ask_shl (P := Tryd.prog) (M := [.cells [.pd (.int .i64 p0)] 1 0 false, .cells [.pd (.sl (p1.map elI64))] 1 0 false, rowV lvI64 1 ([] : List Int) 0 false, rowV lvI64 1 s153 v103 false, .cells [.pd (.int .i64 x5)] 1 0 false]) (t := 3) (k := .i64) (k2 := .i64) (a := (1 : Int)) (b := x5) hx21) ?_
            obtain ⟨x22, hx23, h⟩ := h
            refine H_ask _ _ (by kernel_rfl) (ask_oidx (P := Tryd.prog) (M := [.cells [.pd (.int .i64 p0)] 1 0 false, .cells [.pd (.sl (p1.map elI64))] 1 0 false, rowV lvI64 1 ([] : List Int) 0 false, rowV lvI64 1 s153 v103 false, .cells [.pd (.int .i64 x5)] 1 0 false]) (t := 22) (et := 3) (k := .i64) (lv := lvI64) (e := s153) (s := 1) (b := 3) (by kernel_rfl) (by kernel_rfl) (by kernel_rfl) (rowIs_v' (lv := lvI64) (s := 1) (e := s153) (ver := v103) (z := false)) (n := n103) hn103 hx23) ?_
            refine H_ask _ _ (by kernel_rfl) (ask_ostoreV (P := Tryd.prog) (M := [.cells [.pd (.int .i64 p0)] 1 0 false, .cells [.pd (.sl (p1.map elI64))] 1 0 false, rowV lvI64 1 ([] : List Int) 0 false, rowV lvI64 1 s153 v103 false, .cells [.pd (.int .i64 x5)] 1 0 false]) (t := 3) (lv := lvI64) (b := 3) (i := s200) (y := (bitO .i64 x19 (IntKind.i64.wrap ((1 : Int) * 2 ^ (min (Int.toNat x5) (IntKind.bits .i64)))))) (X := .pd (.int .i64 (bitO .i64 x19 (IntKind.i64.wrap ((1 : Int) * 2 ^ (min (Int.toNat x5) (IntKind.bits .i64))))))) okI64 (by kernel_rfl) (by kernel_rfl) (rowIs_v (lv := lvI64) (s := 1) (e := s153) (ver := v103)) hx23 (by kernel_rfl)) ?_
            exact H_againC (st := _) ((IntKind.i64.wrap (s100 + 1)), (s153.set (Int.toNat s200) (bitO .i64 x19 (IntKind.i64.wrap ((1 : Int) * 2 ^ (min (Int.toNat x5) (IntKind.bits .i64))))))) (v103, n103) h (ls_set hn103) (by kernel_rfl) (by kernel_rfl) (by kernel_rfl) (by kernel_rfl) (by kernel_rfl) (by kernel_rfl) (all_c (by kernel_rfl) (all_c (by kernel_rfl) (all_c (bel_rowV _) (all_c (bel_rowV _) all_n)))) (by kernel_rfl) (by kernel_rfl)
        · replace h := h.f hc; clear hc
          refine H_endM .ret (.pd (.bool false)) ([.cells [.pd (.int .i64 p0)] 1 0 false, .cells [.pd (.sl (p1.map elI64))] 1 0 false, rowV lvI64 1 ([] : List Int) 0 false, rowV lvI64 1 s153 v103 false, .cells [.pd (.int .i64 x5)] 1 0 false]) (by kernel_rfl) rfl (by kernel_rfl) (by kernel_rfl) (by kernel_rfl) ?_
          exact H_againP (st := _) (IntKind.i64.wrap (s200 + 1)) () h trivial (by kernel_rfl) (by kernel_rfl) (by kernel_rfl) (by kernel_rfl) (by kernel_rfl)
      · replace h := h.f hc; clear hc
        refine H_leaveP (.exit 0) (by kernel_rfl) rfl ?_
        refine H_endM .ret (.pd (.int .i64 (-1))) ([.cells [.pd (.int .i64 p0)] 1 0 false, .cells [.pd (.sl (p1.map elI64))] 1 0 false, rowV lvI64 1 ([] : List Int) 0 false, rowV lvI64 1 s153 v103 false, .cells [.pd (.int .i64 x5)] 1 0 false]) (by kernel_rfl) rfl (by kernel_rfl) (by kernel_rfl) (by kernel_rfl) ?_
        refine H_split true (by kernel_rfl) (fun _ => ?_) (fun hc => by cases hc)
        refine H_ask _ _ (by kernel_rfl) (ask_olen (P := Tryd.prog) (M := [.cells [.pd (.int .i64 p0)] 1 0 false, .cells [.pd (.sl (p1.map elI64))] 1 0 false, rowV lvI64 1 ([] : List Int) 0 false, rowV lvI64 1 s153 v103 false, .cells [.pd (.int .i64 x5)] 1 0 false]) (t := 22) (et := 3) (lv := lvI64) (e := s153) (b := 3) (n := n103) (by kernel_rfl) (by kernel_rfl) (rowIs_v' (lv := lvI64) (s := 1) (e := s153) (ver := v103) (z := false)) hn103) ?_
        obtain ⟨hx24, h⟩ := h
        refine H_ask _ _ (by kernel_rfl) (ask_appV (P := Tryd.prog) (M := [.cells [.pd (.int .i64 p0)] 1 0 false, .cells [.pd (.sl (p1.map elI64))] 1 0 false, rowV lvI64 1 ([] : List Int) 0 false, rowV lvI64 1 s153 v103 false, .cells [.pd (.int .i64 x5)] 1 0 false]) (lv := lvI64) (s := 1) (b := 3) (e := s153) (e2 := [(0 : Int)]) (ver := v103) (sT := 22) (xT := 22) (by_ := 8) okI64 (by kernel_rfl) (src_fixed (M := [.cells [.pd (.int .i64 p0)] 1 0 false, .cells [.pd (.sl (p1.map elI64))] 1 0 false, rowV lvI64 1 ([] : List Int) 0 false, rowV lvI64 1 s153 v103 false, .cells [.pd (.int .i64 x5)] 1 0 false]) okI64 leI64) (by kernel_rfl) (n := n103) hn103 hx24) ?_
        refine H_draw (by kernel_rfl) ?_
        obtain ⟨x25, hx26, h⟩ := h
        refine H_ask _ _ (by kernel_rfl) (ask_oidx (P := Tryd.prog) (M := [.cells [.pd (.int .i64 p0)] 1 0 false, .cells [.pd (.sl (p1.map elI64))] 1 0 false, rowV lvI64 1 ([] : List Int) 0 false, rowV lvI64 1 (s153 ++ [(0 : Int)]) (vnext s153 [(0 : Int)] v103) false, .cells [.pd (.int .i64 x5)] 1 0 false]) (t := 22) (et := 3) (k := .i64) (lv := lvI64) (e := (s153 ++ [(0 : Int)])) (s := 1) (b := 3) (by kernel_rfl) (by kernel_rfl) (by kernel_rfl) (rowIs_v' (lv := lvI64) (s := 1) (e := (s153 ++ [(0 : Int)])) (ver := (vnext s153 [(0 : Int)] v103)) (z := false)) (n := (s153 ++ [(0 : Int)]).length) rfl hx26) ?_
        refine H_ask _ _ (by kernel_rfl) (ask_oload (P := Tryd.prog) (M := [.cells [.pd (.int .i64 p0)] 1 0 false, .cells [.pd (.sl (p1.map elI64))] 1 0 false, rowV lvI64 1 ([] : List Int) 0 false, rowV lvI64 1 (s153 ++ [(0 : Int)]) (vnext s153 [(0 : Int)] v103) false, .cells [.pd (.int .i64 x5)] 1 0 false]) (t := 3) (lv := lvI64) (b := 3) (i := (s153.length : Int)) okI64 (by kernel_rfl) (by kernel_rfl) (by kernel_rfl) (rowIs_v' (lv := lvI64) (s := 1) (e := (s153 ++ [(0 : Int)])) (ver := (vnext s153 [(0 : Int)] v103)) (z := false)) hx26 rfl) ?_
        refine H_askK (.pd (.int .i64 x5)) ([.cells [.pd (.int .i64 p0)] 1 0 false, .cells [.pd (.sl (p1.map elI64))] 1 0 false, rowV lvI64 1 ([] : List Int) 0 false, rowV lvI64 1 (s153 ++ [(0 : Int)]) (vnext s153 [(0 : Int)] v103) false, .cells [.pd (.int .i64 x5)] 1 0 false]) (by kernel_rfl) ?_
        obtain ⟨hx27, h⟩ := h
        refine H_ask _ _ (by kernel_rfl) (ask_shl (P := Tryd.prog) (M := [.cells [.pd (.int .i64 p0)] 1 0 false, .cells [.pd (.sl (p1.map elI64))] 1 0 false, rowV lvI64 1 ([] : List Int) 0 false, rowV lvI64 1 (s153 ++ [(0 : Int)]) (vnext s153 [(0 : Int)] v103) false, .cells [.pd (.int .i64 x5)] 1 0 false]) (t := 3) (k := .i64) (k2 := .i64) (a := (1 : Int)) (b := x5) hx27) ?_
        obtain ⟨x28, hx29, h⟩ := h
        refine H_ask _ _ (by kernel_rfl) (ask_oidx (P := Tryd.prog) (M := [.cells [.pd (.int .i64 p0)] 1 0 false, .cells [.pd (.sl (p1.map elI64))] 1 0 false, rowV lvI64 1 ([] : List Int) 0 false, rowV lvI64 1 (s153 ++ [(0 : Int)]) (vnext s153 [(0 : Int)] v103) false, .cells [.pd (.int .i64 x5)] 1 0 false]) (t := 22) (et := 3) (k := .i64) (lv := lvI64) (e := (s153 ++ [(0 : Int)])) (s := 1) (b := 3) (by kernel_rfl) (by kernel_rfl) (by kernel_rfl) (rowIs_v' (lv := lvI64) (s := 1) (e := (s153 ++ [(0 : Int)])) (ver := (vnext s153 [(0 : Int)] v103)) (z := false)) (n := (s153 ++ [(0 : Int)]).length) rfl hx29) ?_
        refine H_ask _ _ (by kernel_rfl) (ask_ostoreV (P := Tryd.prog) (M := [.cells [.pd (.int .i64 p0)] 1 0 false, .cells [.pd (.sl (p1.map elI64))] 1 0 false, rowV lvI64 1 ([] : List Int) 0 false, rowV lvI64 1 (s153 ++ [(0 : Int)]) (vnext s153 [(0 : Int)] v103) false, .cells [.pd (.int .i64 x5)] 1 0 false]) (t := 3) (lv := lvI64) (b := 3) (i := (s153.length : Int)) (y := (bitO .i64 x25 (IntKind.i64.wrap ((1 : Int) * 2 ^ (min (Int.toNat x5) (IntKind.bits .i64)))))) (X := .pd (.int .i64 (bitO .i64 x25 (IntKind.i64.wrap ((1 : Int) * 2 ^ (min (Int.toNat x5) (IntKind.bits .i64))))))) okI64 (by kernel_rfl) (by kernel_rfl) (rowIs_v (lv := lvI64) (s := 1) (e := (s153 ++ [(0 : Int)])) (ver := (vnext s153 [(0 : Int)] v103))) hx29 (by kernel_rfl)) ?_
        exact H_againC (st := _) ((IntKind.i64.wrap (s100 + 1)), ((s153 ++ [(0 : Int)]).set (Int.toNat (s153.length : Int)) (bitO .i64 x25 (IntKind.i64.wrap ((1 : Int) * 2 ^ (min (Int.toNat x5) (IntKind.bits .i64))))))) ((vnext s153 [(0 : Int)] v103), ((s153 ++ [(0 : Int)]).length)) h (ls_set rfl) (by kernel_rfl) (by kernel_rfl) (by kernel_rfl) (by kernel_rfl) (by kernel_rfl) (by kernel_rfl) (all_c (by kernel_rfl) (all_c (by kernel_rfl) (all_c (bel_rowV _) (all_c (bel_rowV _) all_n)))) (by kernel_rfl) (by kernel_rfl)
    · replace h := h.f hc; clear hc
      refine H_leaveP (.exit 0) (by kernel_rfl) rfl ?_
      exact H_endX .ret (.own 3 n103 v103) (.pd (.sl (s153.map elI64))) ([.cells [.pd (.int .i64 p0)] 1 0 false, .cells [.pd (.sl (p1.map elI64))] 1 0 false, rowV lvI64 1 ([] : List Int) 0 false, rowV lvI64 1 s153 v103 false]) (by kernel_rfl) rfl (by kernel_rfl) (by kernel_rfl) (pure_2to3 (pure_1to2 (pure1_own okI64 (by decide) lgI64 (M := [.cells [.pd (.int .i64 p0)] 1 0 false, .cells [.pd (.sl (p1.map elI64))] 1 0 false, rowV lvI64 1 ([] : List Int) 0 false, rowV lvI64 1 s153 v103 false]) (b := 3) (o := rowV lvI64 1 s153 v103 false) (by kernel_rfl) (rowIs_v' (lv := lvI64) (s := 1) (e := s153) (ver := v103) (z := false)) (n := n103) hn103) rfl) rfl) (by subst h; rfl)

theorem f12_ok (p0 : Int) (p1 : List Int) {r : (List Int)} (h : f12 p0 p1 r) : ASpec Tryd.prog gt17 12 [.pd (.int .i64 p0), .pd (.sl (p1.map elI64))] (· = .pd (.sl (r.map elI64))) := by
  refine ASpec_tree Tryd.f12 mixed17 (askG [9, 10, 11] true) (by kernel_rfl) ?_
  unfold f12 at h
  refine H_ask _ _ (by kernel_rfl) (ask_len (P := Tryd.prog) (M := [rowV lvI64 1 ([] : List Int) 0 false, rowV lvI64 1 ([] : List Int) 0 false]) (t := 22) (et := 3) (el := elI64) (by kernel_rfl) (e := p1)) ?_
  obtain ⟨hx1, h⟩ := h
  refine H_ask _ _ (by kernel_rfl) (ask_make (P := Tryd.prog) (M := [rowV lvI64 1 ([] : List Int) 0 false, rowV lvI64 1 ([] : List Int) 0 false]) (t := 36) (k := .i64) (lv := lvB) (by_ := 1) (n := (p1.length : Int)) (z := false) okB ⟨4, .bool false, by kernel_rfl, by kernel_rfl, rfl, by kernel_rfl, by decide, rfl⟩ hx1.1 hx1.2.1 hx1.2.2) ?_
  refine H_loopP (F := f12_L1 p0 p1 r) (s0 := ((0 : Int), ([] : List Int), (List.replicate (Int.toNat (p1.length : Int)) false))) h (0, (([] : List Int).length)) 97 3
    (fun ((s100, s151, s152) : Int × (List Int) × (List Bool)) ((v101, n101) : Nat × Nat) => [(0, .pd (.int .i64 p0)), (1, .pd (.sl (p1.map elI64))), (5, .own 1 n101 v101), (6, .own 2 ((List.replicate (Int.toNat (p1.length : Int)) false).length) 0), (7, .pd (.int .i64 s100))])
    (fun ((s100, s151, s152) : Int × (List Int) × (List Bool)) ((v101, n101) : Nat × Nat) => [rowV lvI64 1 ([] : List Int) 0 false, rowV lvI64 1 s151 v101 false, .cells (rowC lvB s152) 1 0 false]) (fun ((s100, s151, s152) : Int × (List Int) × (List Bool)) ((v101, n101) : Nat × Nat) => n101 = s151.length ∧ (List.replicate (Int.toNat (p1.length : Int)) false).length = s152.length) ⟨rfl, rfl⟩ [] mixed17 (askG [9, 10, 11] true)
    (by kernel_rfl) (by kernel_rfl) (by kernel_rfl) (by kernel_rfl) (by kernel_rfl) (fun _ _ => rfl) ?_
  rintro X1 ⟨s100, s151, s152⟩ ⟨v101, n101⟩ ⟨hn101, hn102⟩ h
  dsimp only [f12_L1] at h
  refine H_ask _ _ (by kernel_rfl) (ask_len (P := Tryd.prog) (M := [rowV lvI64 1 ([] : List Int) 0 false, rowV lvI64 1 s151 v101 false, .cells (rowC lvB s152) 1 0 false]) (t := 22) (et := 3) (el := elI64) (by kernel_rfl) (e := p1)) ?_
  refine H_split (decide (s100 < (p1.length : Int))) (by kernel_rfl) (fun hc => ?_) (fun hc => ?_)
  · replace h := h.t hc; clear hc
    refine H_loopP (F := f12_L2 p0 p1 s100 s151 s152 X1) (s0 := ((-1 : Int), (0 : Int))) h () 97 3
      (fun ((s200, s201) : Int × Int) (() : Unit) => [(0, .pd (.int .i64 p0)), (1, .pd (.sl (p1.map elI64))), (5, .own 1 n101 v101), (6, .own 2 ((List.replicate (Int.toNat (p1.length : Int)) false).length) 0), (7, .pd (.int .i64 s100)), (8, .pd (.int .i64 s200)), (9, .pd (.int .i64 s201))])
      (fun ((s200, s201) : Int × Int) (() : Unit) => [rowV lvI64 1 ([] : List Int) 0 false, rowV lvI64 1 s151 v101 false, .cells (rowC lvB s152) 1 0 false]) (fun ((s200, s201) : Int × Int) (() : Unit) => True) trivial [] mixed17 (askG [9, 10, 11] true)
      (by kernel_rfl) (by kernel_rfl) (by kernel_rfl) (by kernel_rfl) (by kernel_rfl) (fun _ _ => rfl) ?_
    rintro X2 ⟨s200, s201⟩ ⟨⟩ - h
    dsimp only [f12_L2] at h
    refine H_ask _ _ (by kernel_rfl) (ask_len (P := Tryd.prog) (M := [rowV lvI64 1 ([] : List Int) 0 false, rowV lvI64 1 s151 v101 false, .cells (rowC lvB s152) 1 0 false]) (t := 22) (et := 3) (el := elI64) (by kernel_rfl) (e := p1)) ?_
    refine H_split (decide (s201 < (p1.length : Int))) (by kernel_rfl) (fun hc => ?_) (fun hc => ?_)
    · replace h := h.t hc; clear hc
      refine H_draw (by kernel_rfl) ?_
      obtain ⟨x4, hx5, h⟩ := h
      refine H_ask _ _ (by kernel_rfl) (ask_oidx (P := Tryd.prog) (M := [rowV lvI64 1 ([] : List Int) 0 false, rowV lvI64 1 s151 v101 false, .cells (rowC lvB s152) 1 0 false]) (t := 36) (et := 4) (k := .i64) (lv := lvB) (e := s152) (s := 1) (b := 2) (by kernel_rfl) (by kernel_rfl) (by kernel_rfl) (rowIs_c (lv := lvB) (s := 1) (e := s152) (ver := 0) (z := false)) (n := (List.replicate (Int.toNat (p1.length : Int)) false).length) hn102 hx5) ?_
      cases x4
      · replace h := h.f rfl
        refine H_ask _ _ (by kernel_rfl) (ask_oload (P := Tryd.prog) (M := [rowV lvI64 1 ([] : List Int) 0 false, rowV lvI64 1 s151 v101 false, .cells (rowC lvB s152) 1 0 false]) (t := 4) (lv := lvB) (b := 2) (i := s201) okB (by kernel_rfl) (by kernel_rfl) (by kernel_rfl) (rowIs_c (lv := lvB) (s := 1) (e := s152) (ver := 0) (z := false)) hx5 rfl) ?_
        refine H_split (decide (s200 < (0 : Int))) (by kernel_rfl) (fun hc => ?_) (fun hc => ?_)
        · replace h := h.t hc; clear hc
          exact H_againP (st := _) (s201, (IntKind.i64.wrap (s201 + 1))) () h trivial (by kernel_rfl) (by kernel_rfl) (by kernel_rfl) (by kernel_rfl) (by kernel_rfl)
        · replace h := h.f hc; clear hc
          obtain ⟨x6, hx7, h⟩ := h
          refine H_ask _ _ (by kernel_rfl) (ask_idx (P := Tryd.prog) (M := [rowV lvI64 1 ([] : List Int) 0 false, rowV lvI64 1 s151 v101 false, .cells (rowC lvB s152) 1 0 false]) (t := 22) (et := 3) (k := .i64) (lv := lvI64) okI64 leI64 (by kernel_rfl) (by kernel_rfl) hx7) ?_
          refine H_askK (.pd (.int .i64 x6)) ([rowV lvI64 1 ([] : List Int) 0 false, rowV lvI64 1 s151 v101 false, .cells (rowC lvB s152) 1 0 false]) (by kernel_rfl) ?_
          obtain ⟨x8, hx9, h⟩ := h
          refine H_ask _ _ (by kernel_rfl) (ask_idx (P := Tryd.prog) (M := [rowV lvI64 1 ([] : List Int) 0 false, rowV lvI64 1 s151 v101 false, .cells (rowC lvB s152) 1 0 false]) (t := 22) (et := 3) (k := .i64) (lv := lvI64) okI64 leI64 (by kernel_rfl) (by kernel_rfl) hx9) ?_
          refine H_askK (.pd (.int .i64 x8)) ([rowV lvI64 1 ([] : List Int) 0 false, rowV lvI64 1 s151 v101 false, .cells (rowC lvB s152) 1 0 false]) (by kernel_rfl) ?_
          refine H_split (decide (x6 > x8)) (by kernel_rfl) (fun hc => ?_) (fun hc => ?_)
          · replace h := h.t hc; clear hc
            exact H_againP (st := _) (s201, (IntKind.i64.wrap (s201 + 1))) () h trivial (by kernel_rfl) (by kernel_rfl) (by kernel_rfl) (by kernel_rfl) (by kernel_rfl)
          · replace h := h.f hc; clear hc
            exact H_againP (st := _) (s200, (IntKind.i64.wrap (s201 + 1))) () h trivial (by kernel_rfl) (by kernel_rfl) (by kernel_rfl) (by kernel_rfl) (by kernel_rfl)
      · replace h := h.t rfl
        refine H_ask _ _ (by kernel_rfl) (ask_oload (P := Tryd.prog) (M := [rowV lvI64 1 ([] : List Int) 0 false, rowV lvI64 1 s151 v101 false, .cells (rowC lvB s152) 1 0 false]) (t := 4) (lv := lvB) (b := 2) (i := s201) okB (by kernel_rfl) (by kernel_rfl) (by kernel_rfl) (rowIs_c (lv := lvB) (s := 1) (e := s152) (ver := 0) (z := false)) hx5 rfl) ?_
        exact H_againP (st := _) (s200, (IntKind.i64.wrap (s201 + 1))) () h trivial (by kernel_rfl) (by kernel_rfl) (by kernel_rfl) (by kernel_rfl) (by kernel_rfl)
    · replace h := h.f hc; clear hc
      refine H_leaveP (.exit 2) (by kernel_rfl) rfl ?_
      obtain ⟨x10, hx11, h⟩ := h
      refine H_ask _ _ (by kernel_rfl) (ask_oidx (P := Tryd.prog) (M := [rowV lvI64 1 ([] : List Int) 0 false, rowV lvI64 1 s151 v101 false, .cells (rowC lvB s152) 1 0 false]) (t := 36) (et := 4) (k := .i64) (lv := lvB) (e := s152) (s := 1) (b := 2) (by kernel_rfl) (by kernel_rfl) (by kernel_rfl) (rowIs_c (lv := lvB) (s := 1) (e := s152) (ver := 0) (z := false)) (n := (List.replicate (Int.toNat (p1.length : Int)) false).length) hn102 hx11) ?_
      refine H_ask _ _ (by kernel_rfl) (ask_ostore (P := Tryd.prog) (M := [rowV lvI64 1 ([] : List Int) 0 false, rowV lvI64 1 s151 v101 false, .cells (rowC lvB s152) 1 0 false]) (t := 4) (lv := lvB) (b := 2) (i := s200) (y := true) (X := .pd (.bool true)) okB (by kernel_rfl) (by kernel_rfl) (rowIs_c (lv := lvB) (s := 1) (e := s152) (ver := 0) (z := false)) hx11 (by kernel_rfl)) ?_
      refine H_loopP (F := f12_L3 p0 p1 s100 s151 s152 X1 s200) (s0 := ((1 : Int), (0 : Int))) h () 97 3
        (fun ((s300, s301) : Int × Int) (() : Unit) => [(0, .pd (.int .i64 p0)), (1, .pd (.sl (p1.map elI64))), (5, .own 1 n101 v101), (6, .own 2 ((List.replicate (Int.toNat (p1.length : Int)) false).length) 0), (7, .pd (.int .i64 s100)), (8, .pd (.int .i64 s200)), (10, .pd (.int .i64 s300)), (11, .pd (.int .i64 s301))])
        (fun ((s300, s301) : Int × Int) (() : Unit) => [rowV lvI64 1 ([] : List Int) 0 false, rowV lvI64 1 s151 v101 false, .cells (rowC lvB (s152.set (Int.toNat s200) true)) 1 0 false]) (fun ((s300, s301) : Int × Int) (() : Unit) => True) trivial [] mixed17 (askG [9, 10, 11] true)
        (by kernel_rfl) (by kernel_rfl) (by kernel_rfl) (by kernel_rfl) (by kernel_rfl) (fun _ _ => rfl) ?_
      rintro X3 ⟨s300, s301⟩ ⟨⟩ - h
      dsimp only [f12_L3] at h
      refine H_split (decide (s301 < s200)) (by kernel_rfl) (fun hc => ?_) (fun hc => ?_)
      · replace h := h.t hc; clear hc
        exact H_againP (st := _) ((IntKind.i64.wrap (s300 * 2)), (IntKind.i64.wrap (s301 + 1))) () h trivial (by kernel_rfl) (by kernel_rfl) (by kernel_rfl) (by kernel_rfl) (by kernel_rfl)
      · replace h := h.f hc; clear hc
        refine H_leaveP (.exit 4) (by kernel_rfl) rfl ?_
        refine H_loopP (F := f12_L4 p0 p1 s100 s151 s152 X1 s200 s300) (s0 := (0 : Int)) h () 97 3
          (fun (s400 : Int) (() : Unit) => [(0, .pd (.int .i64 p0)), (1, .pd (.sl (p1.map elI64))), (5, .own 1 n101 v101), (6, .own 2 ((List.replicate (Int.toNat (p1.length : Int)) false).length) 0), (7, .pd (.int .i64 s100)), (8, .pd (.int .i64 s200)), (10, .pd (.int .i64 s300)), (12, .pd (.int .i64 s400))])
          (fun (s400 : Int) (() : Unit) => [rowV lvI64 1 ([] : List Int) 0 false, rowV lvI64 1 s151 v101 false, .cells (rowC lvB (s152.set (Int.toNat s200) true)) 1 0 false]) (fun (s400 : Int) (() : Unit) => True) trivial [] mixed17 (askG [9, 10, 11] true)
          (by kernel_rfl) (by kernel_rfl) (by kernel_rfl) (by kernel_rfl) (by kernel_rfl) (fun _ _ => rfl) ?_
        rintro X4 s400 ⟨⟩ - h
        dsimp only [f12_L4] at h
        refine H_draw (by kernel_rfl) ?_
        refine H_ask _ _ (by kernel_rfl) (ask_olen (P := Tryd.prog) (M := [rowV lvI64 1 ([] : List Int) 0 false, rowV lvI64 1 s151 v101 false, .cells (rowC lvB (s152.set (Int.toNat s200) true)) 1 0 false]) (t := 22) (et := 3) (lv := lvI64) (e := s151) (b := 1) (n := n101) (by kernel_rfl) (by kernel_rfl) (rowIs_v' (lv := lvI64) (s := 1) (e := s151) (ver := v101) (z := false)) hn101) ?_
        refine H_split (decide (s400 < (s151.length : Int))) (by kernel_rfl) (fun hc => ?_) (fun hc => ?_)
        · replace h := h.t hc; clear hc
          obtain ⟨x12, hx13, h⟩ := h
          refine H_ask _ _ (by kernel_rfl) (ask_oidx (P := Tryd.prog) (M := [rowV lvI64 1 ([] : List Int) 0 false, rowV lvI64 1 s151 v101 false, .cells (rowC lvB (s152.set (Int.toNat s200) true)) 1 0 false]) (t := 22) (et := 3) (k := .i64) (lv := lvI64) (e := s151) (s := 1) (b := 1) (by kernel_rfl) (by kernel_rfl) (by kernel_rfl) (rowIs_v' (lv := lvI64) (s := 1) (e := s151) (ver := v101) (z := false)) (n := n101) hn101 hx13) ?_
          refine H_ask _ _ (by kernel_rfl) (ask_oload (P := Tryd.prog) (M := [rowV lvI64 1 ([] : List Int) 0 false, rowV lvI64 1 s151 v101 false, .cells (rowC lvB (s152.set (Int.toNat s200) true)) 1 0 false]) (t := 3) (lv := lvI64) (b := 1) (i := s400) okI64 (by kernel_rfl) (by kernel_rfl) (by kernel_rfl) (rowIs_v' (lv := lvI64) (s := 1) (e := s151) (ver := v101) (z := false)) hx13 rfl) ?_
          obtain ⟨x14, hx15, h⟩ := h
          refine H_valW (g := 17) (args := [.pd (.sl (p1.map elI64)), .pd (.int .i64 x12)]) (M := [rowV lvI64 1 ([] : List Int) 0 false, rowV lvI64 1 s151 v101 false, .cells (rowC lvB (s152.set (Int.toNat s200) true)) 1 0 false]) (.pd (.int .i64 x14)) (.inr (by kernel_rfl)) (by kernel_rfl) (f17_ok _ _ hx15) (by kernel_rfl) (has17 17 (by kernel_rfl)) ?_
          obtain ⟨x16, hx17, h⟩ := h
          refine H_ask _ _ (by kernel_rfl) (ask_idx (P := Tryd.prog) (M := [rowV lvI64 1 ([] : List Int) 0 false, rowV lvI64 1 s151 v101 false, .cells (rowC lvB (s152.set (Int.toNat s200) true)) 1 0 false]) (t := 22) (et := 3) (k := .i64) (lv := lvI64) okI64 leI64 (by kernel_rfl) (by kernel_rfl) hx17) ?_
          refine H_askK (.pd (.int .i64 x16)) ([rowV lvI64 1 ([] : List Int) 0 false, rowV lvI64 1 s151 v101 false, .cells (rowC lvB (s152.set (Int.toNat s200) true)) 1 0 false]) (by kernel_rfl) ?_
          refine H_split (decide ((IntKind.i64.wrap (x14 + x16)) > p0)) (by kernel_rfl) (fun hc => ?_) (fun hc => ?_)
          · replace h := h.t hc; clear hc
            exact H_againP (st := _) (IntKind.i64.wrap (s400 + 1)) () h trivial (by kernel_rfl) (by kernel_rfl) (by kernel_rfl) (by kernel_rfl) (by kernel_rfl)
          · replace h := h.f hc; clear hc
            refine H_leaveP (.exit 6) (by kernel_rfl) rfl ?_
            refine H_ask _ _ (by kernel_rfl) (ask_olen (P := Tryd.prog) (M := [rowV lvI64 1 ([] : List Int) 0 false, rowV lvI64 1 s151 v101 false, .cells (rowC lvB (s152.set (Int.toNat s200) true)) 1 0 false]) (t := 22) (et := 3) (lv := lvI64) (e := s151) (b := 1) (n := n101) (by kernel_rfl) (by kernel_rfl) (rowIs_v' (lv := lvI64) (s := 1) (e := s151) (ver := v101) (z := false)) hn101) ?_
            refine H_split (s400 == (s151.length : Int)) (by kernel_rfl) (fun hc => ?_) (fun hc => ?_)
            · replace h := h.t hc; clear hc
              obtain ⟨hx18, h⟩ := h
              refine H_ask _ _ (by kernel_rfl) (ask_appV (P := Tryd.prog) (M := [rowV lvI64 1 ([] : List Int) 0 false, rowV lvI64 1 s151 v101 false, .cells (rowC lvB (s152.set (Int.toNat s200) true)) 1 0 false]) (lv := lvI64) (s := 1) (b := 1) (e := s151) (e2 := [(0 : Int)]) (ver := v101) (sT := 22) (xT := 22) (by_ := 8) okI64 (by kernel_rfl) (src_fixed (M := [rowV lvI64 1 ([] : List Int) 0 false, rowV lvI64 1 s151 v101 false, .cells (rowC lvB (s152.set (Int.toNat s200) true)) 1 0 false]) okI64 leI64) (by kernel_rfl) (n := n101) hn101 hx18) ?_
              obtain ⟨x19, hx20, h⟩ := h
              refine H_ask _ _ (by kernel_rfl) (ask_oidx (P := Tryd.prog) (M := [rowV lvI64 1 ([] : List Int) 0 false, rowV lvI64 1 (s151 ++ [(0 : Int)]) (vnext s151 [(0 : Int)] v101) false, .cells (rowC lvB (s152.set (Int.toNat s200) true)) 1 0 false]) (t := 22) (et := 3) (k := .i64) (lv := lvI64) (e := (s151 ++ [(0 : Int)])) (s := 1) (b := 1) (by kernel_rfl) (by kernel_rfl) (by kernel_rfl) (rowIs_v' (lv := lvI64) (s := 1) (e := (s151 ++ [(0 : Int)])) (ver := (vnext s151 [(0 : Int)] v101)) (z := false)) (n := (s151 ++ [(0 : Int)]).length) rfl hx20) ?_
              refine H_ask _ _ (by kernel_rfl) (ask_oload (P := Tryd.prog) (M := [rowV lvI64 1 ([] : List Int) 0 false, rowV lvI64 1 (s151 ++ [(0 : Int)]) (vnext s151 [(0 : Int)] v101) false, .cells (rowC lvB (s152.set (Int.toNat s200) true)) 1 0 false]) (t := 3) (lv := lvI64) (b := 1) (i := s400) okI64 (by kernel_rfl) (by kernel_rfl) (by kernel_rfl) (rowIs_v' (lv := lvI64) (s := 1) (e := (s151 ++ [(0 : Int)])) (ver := (vnext s151 [(0 : Int)] v101)) (z := false)) hx20 rfl) ?_
              obtain ⟨x21, hx22, h⟩ := h
              refine H_ask _ _ (by kernel_rfl) (ask_oidx (P := Tryd.prog) (M := [rowV lvI64 1 ([] : List Int) 0 false, rowV lvI64 1 (s151 ++ [(0 : Int)]) (vnext s151 [(0 : Int)] v101) false, .cells (rowC lvB (s152.set (Int.toNat s200) true)) 1 0 false]) (t := 22) (et := 3) (k := .i64) (lv := lvI64) (e := (s151 ++ [(0 : Int)])) (s := 1) (b := 1) (by kernel_rfl) (by kernel_rfl) (by kernel_rfl) (rowIs_v' (lv := lvI64) (s := 1) (e := (s151 ++ [(0 : Int)])) (ver := (vnext s151 [(0 : Int)] v101)) (z := false)) (n := (s151 ++ [(0 : Int)]).length) rfl hx22) ?_
              refine H_ask _ _ (by kernel_rfl) (ask_ostoreV (P := Tryd.prog) (M := [rowV lvI64 1 ([] : List Int) 0 false, rowV lvI64 1 (s151 ++ [(0 : Int)]) (vnext s151 [(0 : Int)] v101) false, .cells (rowC lvB (s152.set (Int.toNat s200) true)) 1 0 false]) (t := 3) (lv := lvI64) (b := 1) (i := s400) (y := (IntKind.i64.wrap (x19 + s300))) (X := .pd (.int .i64 (IntKind.i64.wrap (x19 + s300)))) okI64 (by kernel_rfl) (by kernel_rfl) (rowIs_v (lv := lvI64) (s := 1) (e := (s151 ++ [(0 : Int)])) (ver := (vnext s151 [(0 : Int)] v101))) hx22 (by kernel_rfl)) ?_
              exact H_againP (st := _) ((IntKind.i64.wrap (s100 + 1)), ((s151 ++ [(0 : Int)]).set (Int.toNat s400) (IntKind.i64.wrap (x19 + s300))), (s152.set (Int.toNat s200) true)) ((vnext s151 [(0 : Int)] v101), ((s151 ++ [(0 : Int)]).length)) h ⟨(ls_set rfl), (ls_set hn102)⟩ (by kernel_rfl) (by kernel_rfl) (by kernel_rfl) (by kernel_rfl) (by kernel_rfl)
            · replace h := h.f hc; clear hc
              obtain ⟨x23, hx24, h⟩ := h
              refine H_ask _ _ (by kernel_rfl) (ask_oidx (P := Tryd.prog) (M := [rowV lvI64 1 ([] : List Int) 0 false, rowV lvI64 1 s151 v101 false, .cells (rowC lvB (s152.set (Int.toNat s200) true)) 1 0 false]) (t := 22) (et := 3) (k := .i64) (lv := lvI64) (e := s151) (s := 1) (b := 1) (by kernel_rfl) (by kernel_rfl) (by kernel_rfl) (rowIs_v' (lv := lvI64) (s := 1) (e := s151) (ver := v101) (z := false)) (n := n101) hn101 hx24) ?_
              refine H_ask _ _ (by kernel_rfl) (ask_oload (P := Tryd.prog) (M := [rowV lvI64 1 ([] : List Int) 0 false, rowV lvI64 1 s151 v101 false, .cells (rowC lvB (s152.set (Int.toNat s200) true)) 1 0 false]) (t := 3) (lv := lvI64) (b := 1) (i := s400) okI64 (by kernel_rfl) (by kernel_rfl) (by kernel_rfl) (rowIs_v' (lv := lvI64) (s := 1) (e := s151) (ver := v101) (z := false)) hx24 rfl) ?_
              obtain ⟨x25, hx26, h⟩ := h
              refine H_ask _ _ (by kernel_rfl) (ask_oidx (P := Tryd.prog) (M := [rowV lvI64 1 ([] : List Int) 0 false, rowV lvI64 1 s151 v101 false, .cells (rowC lvB (s152.set (Int.toNat s200) true)) 1 0 false]) (t := 22) (et := 3) (k := .i64) (lv := lvI64) (e := s151) (s := 1) (b := 1) (by kernel_rfl) (by kernel_rfl) (by kernel_rfl) (rowIs_v' (lv := lvI64) (s := 1) (e := s151) (ver := v101) (z := false)) (n := n101) hn101 hx26) ?_
              refine H_ask _ _ (by kernel_rfl) (ask_ostoreV (P := Tryd.prog) (M := [rowV lvI64 1 ([] : List Int) 0 false, rowV lvI64 1 s151 v101 false, .cells (rowC lvB (s152.set (Int.toNat s200) true)) 1 0 false]) (t := 3) (lv := lvI64) (b := 1) (i := s400) (y := (IntKind.i64.wrap (x23 + s300))) (X := .pd (.int .i64 (IntKind.i64.wrap (x23 + s300)))) okI64 (by kernel_rfl) (by kernel_rfl) (rowIs_v (lv := lvI64) (s := 1) (e := s151) (ver := v101)) hx26 (by kernel_rfl)) ?_
              exact H_againP (st := _) ((IntKind.i64.wrap (s100 + 1)), (s151.set (Int.toNat s400) (IntKind.i64.wrap (x23 + s300))), (s152.set (Int.toNat s200) true)) (v101, n101) h ⟨(ls_set hn101), (ls_set hn102)⟩ (by kernel_rfl) (by kernel_rfl) (by kernel_rfl) (by kernel_rfl) (by kernel_rfl)
        · replace h := h.f hc; clear hc
          refine H_leaveP (.exit 6) (by kernel_rfl) rfl ?_
          refine H_ask _ _ (by kernel_rfl) (ask_olen (P := Tryd.prog) (M := [rowV lvI64 1 ([] : List Int) 0 false, rowV lvI64 1 s151 v101 false, .cells (rowC lvB (s152.set (Int.toNat s200) true)) 1 0 false]) (t := 22) (et := 3) (lv := lvI64) (e := s151) (b := 1) (n := n101) (by kernel_rfl) (by kernel_rfl) (rowIs_v' (lv := lvI64) (s := 1) (e := s151) (ver := v101) (z := false)) hn101) ?_
          refine H_split (s400 == (s151.length : Int)) (by kernel_rfl) (fun hc => ?_) (fun hc => ?_)
          · replace h := h.t hc; clear hc
            obtain ⟨hx27, h⟩ := h
            refine H_ask _ _ (by kernel_rfl) (ask_appV (P := Tryd.prog) (M := [rowV lvI64 1 ([] : List Int) 0 false, rowV lvI64 1 s151 v101 false, .cells (rowC lvB (s152.set (Int.toNat s200) true)) 1 0 false]) (lv := lvI64) (s := 1) (b := 1) (e := s151) (e2 := [(0 : Int)]) (ver := v101) (sT := 22) (xT := 22) (by_ := 8) okI64 (by kernel_rfl) (src_fixed (M := [rowV lvI64 1 ([] : List Int) 0 false, rowV lvI64 1 s151 v101 false, .cells (rowC lvB (s152.set (Int.toNat s200) true)) 1 0 false]) okI64 leI64) (by kernel_rfl) (n := n101) hn101 hx27) ?_
            obtain ⟨x28, hx29, h⟩ := h
            refine H_ask _ _ (by kernel_rfl) (ask_oidx (P := Tryd.prog) (M := [rowV lvI64 1 ([] : List Int) 0 false, rowV lvI64 1 (s151 ++ [(0 : Int)]) (vnext s151 [(0 : Int)] v101) false, .cells (rowC lvB (s152.set (Int.toNat s200) true)) 1 0 false]) (t := 22) (et := 3) (k := .i64) (lv := lvI64) (e := (s151 ++ [(0 : Int)])) (s := 1) (b := 1) (by kernel_rfl) (by kernel_rfl) (by kernel_rfl) (rowIs_v' (lv := lvI64) (s := 1) (e := (s151 ++ [(0 : Int)])) (ver := (vnext s151 [(0 : Int)] v101)) (z := false)) (n := (s151 ++ [(0 : Int)]).length) rfl hx29) ?_
            refine H_ask _ _ (by kernel_rfl) (ask_oload (P := Tryd.prog) (M := [rowV lvI64 1 ([] : List Int) 0 false, rowV lvI64 1 (s151 ++ [(0 : Int)]) (vnext s151 [(0 : Int)] v101) false, .cells (rowC lvB (s152.set (Int.toNat s200) true)) 1 0 false]) (t := 3) (lv := lvI64) (b := 1) (i := s400) okI64 (by kernel_rfl) (by kernel_rfl) (by kernel_rfl) (rowIs_v' (lv := lvI64) (s := 1) (e := (s151 ++ [(0 : Int)])) (ver := (vnext s151 [(0 : Int)] v101)) (z := false)) hx29 rfl) ?_
            obtain ⟨x30, hx31, h⟩ := h
            refine H_ask _ _ (by kernel_rfl) (ask_oidx (P := Tryd.prog) (M := [rowV lvI64 1 ([] : List Int) 0 false, rowV lvI64 1 (s151 ++ [(0 : Int)]) (vnext s151 [(0 : Int)] v101) false, .cells (rowC lvB (s152.set (Int.toNat s200) true)) 1 0 false]) (t := 22) (et := 3) (k := .i64) (lv := lvI64) (e := (s151 ++ [(0 : Int)])) (s := 1) (b := 1) (by kernel_rfl) (by kernel_rfl) (by kernel_rfl) (rowIs_v' (lv := lvI64) (s := 1) (e := (s151 ++ [(0 : Int)])) (ver := (vnext s151 [(0 : Int)] v101)) (z := false)) (n := (s151 ++ [(0 : Int)]).length) rfl hx31) ?_
            refine H_ask _ _ (by kernel_rfl) (ask_ostoreV (P := Tryd.prog) (M := [rowV lvI64 1 ([] : List Int) 0 false, rowV lvI64 1 (s151 ++ [(0 : Int)]) (vnext s151 [(0 : Int)] v101) false, .cells (rowC lvB (s152.set (Int.toNat s200) true)) 1 0 false]) (t := 3) (lv := lvI64) (b := 1) (i := s400) (y := (IntKind.i64.wrap (x28 + s300))) (X := .pd (.int .i64 (IntKind.i64.wrap (x28 + s300)))) okI64 (by kernel_rfl) (by kernel_rfl) (rowIs_v (lv := lvI64) (s := 1) (e := (s151 ++ [(0 : Int)])) (ver := (vnext s151 [(0 : Int)] v101))) hx31 (by kernel_rfl)) ?_
            exact H_againP (st := _) ((IntKind.i64.wrap (s100 + 1)), ((s151 ++ [(0 : Int)]).set (Int.toNat s400) (IntKind.i64.wrap (x28 + s300))), (s152.set (Int.toNat s200) true)) ((vnext s151 [(0 : Int)] v101), ((s151 ++ [(0 : Int)]).length)) h ⟨(ls_set rfl), (ls_set hn102)⟩ (by kernel_rfl) (by kernel_rfl) (by kernel_rfl) (by kernel_rfl) (by kernel_rfl)
          · replace h := h.f hc; clear hc
            obtain ⟨x32, hx33, h⟩ := h
            refine H_ask _ _ (by kernel_rfl) (ask_oidx (P := Tryd.prog) (M := [rowV lvI64 1 ([] : List Int) 0 false, rowV lvI64 1 s151 v101 false, .cells (rowC lvB (s152.set (Int.toNat s200) true)) 1 0 false]) (t := 22) (et := 3) (k := .i64) (lv := lvI64) (e := s151) (s := 1) (b := 1) (by kernel_rfl) (by kernel_rfl) (by kernel_rfl) (rowIs_v' (lv := lvI64) (s := 1) (e := s151) (ver := v101) (z := false)) (n := n101) hn101 hx33) ?_
            refine H_ask _ _ (by kernel_rfl) (ask_oload (P := Tryd.prog) (M := [rowV lvI64 1 ([] : List Int) 0 false, rowV lvI64 1 s151 v101 false, .cells (rowC lvB (s152.set (Int.toNat s200) true)) 1 0 false]) (t := 3) (lv := lvI64) (b := 1) (i := s400) okI64 (by kernel_rfl) (by kernel_rfl) (by kernel_rfl) (rowIs_v' (lv := lvI64) (s := 1) (e := s151) (ver := v101) (z := false)) hx33 rfl) ?_
            obtain ⟨x34, hx35, h⟩ := h
            refine H_ask _ _ (by kernel_rfl) (ask_oidx (P := Tryd.prog) (M := [rowV lvI64 1 ([] : List Int) 0 false, rowV lvI64 1 s151 v101 false, .cells (rowC lvB (s152.set (Int.toNat s200) true)) 1 0 false]) (t := 22) (et := 3) (k := .i64) (lv := lvI64) (e := s151) (s := 1) (b := 1) (by kernel_rfl) (by kernel_rfl) (by kernel_rfl) (rowIs_v' (lv := lvI64) (s := 1) (e := s151) (ver := v101) (z := false)) (n := n101) hn101 hx35) ?_
            refine H_ask _ _ (by kernel_rfl) (ask_ostoreV (P := Tryd.prog) (M := [rowV lvI64 1 ([] : List Int) 0 false, rowV lvI64 1 s151 v101 false, .cells (rowC lvB (s152.set (Int.toNat s200) true)) 1 0 false]) (t := 3) (lv := lvI64) (b := 1) (i := s400) (y := (IntKind.i64.wrap (x32 + s300))) (X := .pd (.int .i64 (IntKind.i64.wrap (x32 + s300)))) okI64 (by kernel_rfl) (by kernel_rfl) (rowIs_v (lv := lvI64) (s := 1) (e := s151) (ver := v101)) hx35 (by kernel_rfl)) ?_
            exact H_againP (st := _) ((IntKind.i64.wrap (s100 + 1)), (s151.set (Int.toNat s400) (IntKind.i64.wrap (x32 + s300))), (s152.set (Int.toNat s200) true)) (v101, n101) h ⟨(ls_set hn101), (ls_set hn102)⟩ (by kernel_rfl) (by kernel_rfl) (by kernel_rfl) (by kernel_rfl) (by kernel_rfl)
  · replace h := h.f hc; clear hc
    refine H_leaveP (.exit 0) (by kernel_rfl) rfl ?_
    exact H_endX .ret (.own 1 n101 v101) (.pd (.sl (s151.map elI64))) ([rowV lvI64 1 ([] : List Int) 0 false, rowV lvI64 1 s151 v101 false, .cells (rowC lvB s152) 1 0 false]) (by kernel_rfl) rfl (by kernel_rfl) (by kernel_rfl) (pure_2to3 (pure_1to2 (pure1_own okI64 (by decide) lgI64 (M := [rowV lvI64 1 ([] : List Int) 0 false, rowV lvI64 1 s151 v101 false, .cells (rowC lvB s152) 1 0 false]) (b := 1) (o := rowV lvI64 1 s151 v101 false) (by kernel_rfl) (rowIs_v' (lv := lvI64) (s := 1) (e := s151) (ver := v101) (z := false)) (n := n101) hn101) rfl) rfl) (by subst h; rfl)

theorem f3_ok (p0 : Int) (p1 : List Int) {r : Bool} (h : f3 p0 p1 r) : ASpec Tryd.prog gt17 3 [.pd (.int .i64 p0), .pd (.sl (p1.map elI64))] (· = .pd (.bool r)) := by
  refine ASpec_tree Tryd.f3 mixed17 (askG [9, 10, 11] false) (by kernel_rfl) ?_
  unfold f3 at h
  refine H_ask _ _ (by kernel_rfl) (ask_len (P := Tryd.prog) (M := []) (t := 22) (et := 3) (el := elI64) (by kernel_rfl) (e := p1)) ?_
  refine H_split (decide ((p1.length : Int) > (20 : Int))) (by kernel_rfl) (fun hc => ?_) (fun hc => ?_)
  · replace h := h.t hc; clear hc
    obtain ⟨x1, hx2, h⟩ := h
    refine H_valW (g := 7) (args := []) (M := []) (.pd (.bool x1)) (.inl (by kernel_rfl)) (by kernel_rfl) (f7_ok  hx2) (by kernel_rfl) (has17 7 (by kernel_rfl)) ?_
    cases x1
    · replace h := h.f rfl
      exact H_end .ret (.pd (.bool false)) (by kernel_rfl) rfl (by kernel_rfl) (by subst h; rfl)
    · replace h := h.t rfl
      exact H_end .ret (.pd (.bool true)) (by kernel_rfl) rfl (by kernel_rfl) (by subst h; rfl)
  · replace h := h.f hc; clear hc
    obtain ⟨x3, hx4, h⟩ := h
    refine H_valW (g := 8) (args := [.pd (.int .i64 p0), .pd (.sl (p1.map elI64))]) (M := []) (.pd (.sl (x3.map elI64))) (.inl (by kernel_rfl)) (by kernel_rfl) (f8_ok _ _ hx4) (by kernel_rfl) (has17 8 (by kernel_rfl)) ?_
    obtain ⟨x5, hx6, h⟩ := h
    refine H_valW (g := 9) (args := [.pd (.int .i64 p0), .pd (.sl (p1.map elI64))]) (M := []) (.pd (.bool x5)) (.inl (by kernel_rfl)) (by kernel_rfl) (f9_ok _ _ hx6) (by kernel_rfl) (has17 9 (by kernel_rfl)) ?_
    cases x5
    · replace h := h.f rfl
      obtain ⟨x25, hx26, h⟩ := h
      refine H_valW (g := 10) (args := [.pd (.int .i64 p0), .pd (.sl (p1.map elI64))]) (M := []) (.pd (.bool x25)) (.inl (by kernel_rfl)) (by kernel_rfl) (f10_ok _ _ hx26) (by kernel_rfl) (has17 10 (by kernel_rfl)) ?_
      cases x25
      · replace h := h.f rfl
        refine H_split false (by kernel_rfl) (fun hc => by cases hc) (fun _ => ?_)
        obtain ⟨x27, hx28, h⟩ := h
        refine H_valW (g := 10) (args := [.pd (.int .i64 p0), .pd (.sl (p1.map elI64))]) (M := []) (.pd (.bool x27)) (.inl (by kernel_rfl)) (by kernel_rfl) (f10_ok _ _ hx28) (by kernel_rfl) (has17 10 (by kernel_rfl)) ?_
        cases x27
        · replace h := h.f rfl
          refine H_ask _ _ (by kernel_rfl) (ask_len (P := Tryd.prog) (M := []) (t := 22) (et := 3) (el := elI64) (by kernel_rfl) (e := x3)) ?_
          refine H_split ((x3.length : Int) == (0 : Int)) (by kernel_rfl) (fun hc => ?_) (fun hc => ?_)
          · replace h := h.t hc; clear hc
            obtain ⟨x39, hx40, h⟩ := h
            refine H_valW (g := 11) (args := [.pd (.int .i64 p0), .pd (.sl (p1.map elI64))]) (M := []) (.pd (.int .i64 x39)) (.inl (by kernel_rfl)) (by kernel_rfl) (f11_ok _ _ hx40) (by kernel_rfl) (has17 11 (by kernel_rfl)) ?_
            refine H_split (x39 == (0 : Int)) (by kernel_rfl) (fun hc => ?_) (fun hc => ?_)
            · replace h := h.t hc; clear hc
              obtain ⟨x41, hx42, h⟩ := h
              refine H_valW (g := 7) (args := []) (M := []) (.pd (.bool x41)) (.inl (by kernel_rfl)) (by kernel_rfl) (f7_ok  hx42) (by kernel_rfl) (has17 7 (by kernel_rfl)) ?_
              cases x41
              · replace h := h.f rfl
                exact H_end .ret (.pd (.bool false)) (by kernel_rfl) rfl (by kernel_rfl) (by subst h; rfl)
              · replace h := h.t rfl
                exact H_end .ret (.pd (.bool true)) (by kernel_rfl) rfl (by kernel_rfl) (by subst h; rfl)
            · replace h := h.f hc; clear hc
              exact H_end .ret (.pd (.bool false)) (by kernel_rfl) rfl (by kernel_rfl) (by subst h; rfl)
          · replace h := h.f hc; clear hc
            exact H_end .ret (.pd (.bool false)) (by kernel_rfl) rfl (by kernel_rfl) (by subst h; rfl)
        · replace h := h.t rfl
          obtain ⟨x29, hx30, h⟩ := h
          refine H_valW (g := 12) (args := [.pd (.int .i64 p0), .pd (.sl (p1.map elI64))]) (M := []) (.pd (.sl (x29.map elI64))) (.inl (by kernel_rfl)) (by kernel_rfl) (f12_ok _ _ hx30) (by kernel_rfl) (has17 12 (by kernel_rfl)) ?_
          refine H_ask _ _ (by kernel_rfl) (ask_len (P := Tryd.prog) (M := []) (t := 22) (et := 3) (el := elI64) (by kernel_rfl) (e := x3)) ?_
          refine H_ask _ _ (by kernel_rfl) (ask_len (P := Tryd.prog) (M := []) (t := 22) (et := 3) (el := elI64) (by kernel_rfl) (e := x29)) ?_
          refine H_split ((x3.length : Int) != (x29.length : Int)) (by kernel_rfl) (fun hc => ?_) (fun hc => ?_)
          · replace h := h.t hc; clear hc
            exact H_end .ret (.pd (.bool false)) (by kernel_rfl) rfl (by kernel_rfl) (by subst h; rfl)
          · replace h := h.f hc; clear hc
            refine H_ask _ _ (by kernel_rfl) (ask_len (P := Tryd.prog) (M := []) (t := 22) (et := 3) (el := elI64) (by kernel_rfl) (e := x3)) ?_
            refine H_loopP (F := f3_L2 p0 p1 x3 x29 r) (s0 := (0 : Int)) h () 68 0
              (fun (s200 : Int) (() : Unit) => [(0, .pd (.int .i64 p0)), (1, .pd (.sl (p1.map elI64))), (5, .pd (.sl (x3.map elI64))), (6, .pd (.sl (x29.map elI64))), (47, .pd (.int .i64 (x3.length : Int))), (48, .pd (.int .i64 s200))])
              (fun (s200 : Int) (() : Unit) => []) (fun (s200 : Int) (() : Unit) => True) trivial [] mixed17 (askG [9, 10, 11] false)
              (by kernel_rfl) (by kernel_rfl) (by kernel_rfl) (by kernel_rfl) (by kernel_rfl) (fun _ _ => rfl) ?_
            rintro X2 s200 ⟨⟩ - h
            dsimp only [f3_L2] at h
            refine H_split (decide (s200 < (x3.length : Int))) (by kernel_rfl) (fun hc => ?_) (fun hc => ?_)
            · replace h := h.t hc; clear hc
              refine H_draw (by kernel_rfl) ?_
              obtain ⟨x31, hx32, h⟩ := h
              refine H_ask _ _ (by kernel_rfl) (ask_idx (P := Tryd.prog) (M := []) (t := 22) (et := 3) (k := .i64) (lv := lvI64) okI64 leI64 (by kernel_rfl) (by kernel_rfl) hx32) ?_
              refine H_askK (.pd (.int .i64 x31)) ([]) (by kernel_rfl) ?_
              obtain ⟨x33, hx34, h⟩ := h
              refine H_ask _ _ (by kernel_rfl) (ask_idx (P := Tryd.prog) (M := []) (t := 22) (et := 3) (k := .i64) (lv := lvI64) okI64 leI64 (by kernel_rfl) (by kernel_rfl) hx34) ?_
              refine H_askK (.pd (.int .i64 x33)) ([]) (by kernel_rfl) ?_
              refine H_split (x31 != x33) (by kernel_rfl) (fun hc => ?_) (fun hc => ?_)
              · replace h := h.t hc; clear hc
                refine H_leaveP .ret (by kernel_rfl) rfl ?_
                exact H_end .ret (.pd (.bool false)) (by kernel_rfl) rfl (by kernel_rfl) (by subst h; rfl)
              · replace h := h.f hc; clear hc
                exact H_againP (st := _) (IntKind.i64.wrap (s200 + 1)) () h trivial (by kernel_rfl) (by kernel_rfl) (by kernel_rfl) (by kernel_rfl) (by kernel_rfl)
            · replace h := h.f hc; clear hc
              refine H_leaveP (.exit 0) (by kernel_rfl) rfl ?_
              obtain ⟨x35, hx36, h⟩ := h
              refine H_valW (g := 13) (args := [.pd (.int .i64 p0), .pd (.sl (p1.map elI64)), .pd (.sl (x3.map elI64))]) (M := []) (.pd (.bool x35)) (.inl (by kernel_rfl)) (by kernel_rfl) (f13_ok _ _ _ hx36) (by kernel_rfl) (has17 13 (by kernel_rfl)) ?_
              cases x35
              · replace h := h.f rfl
                exact H_end .ret (.pd (.bool false)) (by kernel_rfl) rfl (by kernel_rfl) (by subst h; rfl)
              · replace h := h.t rfl
                obtain ⟨x37, hx38, h⟩ := h
                refine H_valW (g := 7) (args := []) (M := []) (.pd (.bool x37)) (.inl (by kernel_rfl)) (by kernel_rfl) (f7_ok  hx38) (by kernel_rfl) (has17 7 (by kernel_rfl)) ?_
                cases x37
                · replace h := h.f rfl
                  exact H_end .ret (.pd (.bool false)) (by kernel_rfl) rfl (by kernel_rfl) (by subst h; rfl)
                · replace h := h.t rfl
                  exact H_end .ret (.pd (.bool true)) (by kernel_rfl) rfl (by kernel_rfl) (by subst h; rfl)
      · replace h := h.t rfl
        refine H_split true (by kernel_rfl) (fun _ => ?_) (fun hc => by cases hc)
        exact H_end .ret (.pd (.bool false)) (by kernel_rfl) rfl (by kernel_rfl) (by subst h; rfl)
    · replace h := h.t rfl
      obtain ⟨x7, hx8, h⟩ := h
      refine H_valW (g := 10) (args := [.pd (.int .i64 p0), .pd (.sl (p1.map elI64))]) (M := []) (.pd (.bool x7)) (.inl (by kernel_rfl)) (by kernel_rfl) (f10_ok _ _ hx8) (by kernel_rfl) (has17 10 (by kernel_rfl)) ?_
      cases x7
      · replace h := h.f rfl
        refine H_split true (by kernel_rfl) (fun _ => ?_) (fun hc => by cases hc)
        exact H_end .ret (.pd (.bool false)) (by kernel_rfl) rfl (by kernel_rfl) (by subst h; rfl)
      · replace h := h.t rfl
        refine H_split false (by kernel_rfl) (fun hc => by cases hc) (fun _ => ?_)
        obtain ⟨x9, hx10, h⟩ := h
        refine H_valW (g := 10) (args := [.pd (.int .i64 p0), .pd (.sl (p1.map elI64))]) (M := []) (.pd (.bool x9)) (.inl (by kernel_rfl)) (by kernel_rfl) (f10_ok _ _ hx10) (by kernel_rfl) (has17 10 (by kernel_rfl)) ?_
        cases x9
        · replace h := h.f rfl
          refine H_ask _ _ (by kernel_rfl) (ask_len (P := Tryd.prog) (M := []) (t := 22) (et := 3) (el := elI64) (by kernel_rfl) (e := x3)) ?_
          refine H_split ((x3.length : Int) == (0 : Int)) (by kernel_rfl) (fun hc => ?_) (fun hc => ?_)
          · replace h := h.t hc; clear hc
            obtain ⟨x21, hx22, h⟩ := h
            refine H_valW (g := 11) (args := [.pd (.int .i64 p0), .pd (.sl (p1.map elI64))]) (M := []) (.pd (.int .i64 x21)) (.inl (by kernel_rfl)) (by kernel_rfl) (f11_ok _ _ hx22) (by kernel_rfl) (has17 11 (by kernel_rfl)) ?_
            refine H_split (x21 == (0 : Int)) (by kernel_rfl) (fun hc => ?_) (fun hc => ?_)
            · replace h := h.t hc; clear hc
              obtain ⟨x23, hx24, h⟩ := h
              refine H_valW (g := 7) (args := []) (M := []) (.pd (.bool x23)) (.inl (by kernel_rfl)) (by kernel_rfl) (f7_ok  hx24) (by kernel_rfl) (has17 7 (by kernel_rfl)) ?_
              cases x23
              · replace h := h.f rfl
                exact H_end .ret (.pd (.bool false)) (by kernel_rfl) rfl (by kernel_rfl) (by subst h; rfl)
              · replace h := h.t rfl
                exact H_end .ret (.pd (.bool true)) (by kernel_rfl) rfl (by kernel_rfl) (by subst h; rfl)
            · replace h := h.f hc; clear hc
              exact H_end .ret (.pd (.bool false)) (by kernel_rfl) rfl (by kernel_rfl) (by subst h; rfl)
          · replace h := h.f hc; clear hc
            exact H_end .ret (.pd (.bool false)) (by kernel_rfl) rfl (by kernel_rfl) (by subst h; rfl)
        · replace h := h.t rfl
          obtain ⟨x11, hx12, h⟩ := h
          refine H_valW (g := 12) (args := [.pd (.int .i64 p0), .pd (.sl (p1.map elI64))]) (M := []) (.pd (.sl (x11.map elI64))) (.inl (by kernel_rfl)) (by kernel_rfl) (f12_ok _ _ hx12) (by kernel_rfl) (has17 12 (by kernel_rfl)) ?_
          refine H_ask _ _ (by kernel_rfl) (ask_len (P := Tryd.prog) (M := []) (t := 22) (et := 3) (el := elI64) (by kernel_rfl) (e := x3)) ?_
          refine H_ask _ _ (by kernel_rfl) (ask_len (P := Tryd.prog) (M := []) (t := 22) (et := 3) (el := elI64) (by kernel_rfl) (e := x11)) ?_
          refine H_split ((x3.length : Int) != (x11.length : Int)) (by kernel_rfl) (fun hc => ?_) (fun hc => ?_)
          · replace h := h.t hc; clear hc
            exact H_end .ret (.pd (.bool false)) (by kernel_rfl) rfl (by kernel_rfl) (by subst h; rfl)
          · replace h := h.f hc; clear hc
            refine H_ask _ _ (by kernel_rfl) (ask_len (P := Tryd.prog) (M := []) (t := 22) (et := 3) (el := elI64) (by kernel_rfl) (e := x3)) ?_
            refine H_loopP (F := f3_L1 p0 p1 x3 x11 r) (s0 := (0 : Int)) h () 68 0
              (fun (s100 : Int) (() : Unit) => [(0, .pd (.int .i64 p0)), (1, .pd (.sl (p1.map elI64))), (5, .pd (.sl (x3.map elI64))), (6, .pd (.sl (x11.map elI64))), (47, .pd (.int .i64 (x3.length : Int))), (48, .pd (.int .i64 s100))])
              (fun (s100 : Int) (() : Unit) => []) (fun (s100 : Int) (() : Unit) => True) trivial [] mixed17 (askG [9, 10, 11] false)
              (by kernel_rfl) (by kernel_rfl) (by kernel_rfl) (by kernel_rfl) (by kernel_rfl) (fun _ _ => rfl) ?_
            rintro X1 s100 ⟨⟩ - h
            dsimp only [f3_L1] at h
            refine H_split (decide (s100 < (x3.length : Int))) (by kernel_rfl) (fun hc => ?_) (fun hc => ?_)
            · replace h := h.t hc; clear hc
              refine H_draw (by kernel_rfl) ?_
              obtain ⟨x13, hx14, h⟩ := h
              refine H_ask _ _ (by kernel_rfl) (ask_idx (P := Tryd.prog) (M := []) (t := 22) (et := 3) (k := .i64) (lv := lvI64) okI64 leI64 (by kernel_rfl) (by kernel_rfl) hx14) ?_
              refine H_askK (.pd (.int .i64 x13)) ([]) (by kernel_rfl) ?_
              obtain ⟨x15, hx16, h⟩ := h
              refine H_ask _ _ (by kernel_rfl) (ask_idx (P := Tryd.prog) (M := []) (t := 22) (et := 3) (k := .i64) (lv := lvI64) okI64 leI64 (by kernel_rfl) (by kernel_rfl) hx16) ?_
              refine H_askK (.pd (.int .i64 x15)) ([]) (by kernel_rfl) ?_
              refine H_split (x13 != x15) (by kernel_rfl) (fun hc => ?_) (fun hc => ?_)
              · replace h := h.t hc; clear hc
                refine H_leaveP .ret (by kernel_rfl) rfl ?_
                exact H_end .ret (.pd (.bool false)) (by kernel_rfl) rfl (by kernel_rfl) (by subst h; rfl)
              · replace h := h.f hc; clear hc
                exact H_againP (st := _) (IntKind.i64.wrap (s100 + 1)) () h trivial (by kernel_rfl) (by kernel_rfl) (by kernel_rfl) (by kernel_rfl) (by kernel_rfl)
            · replace h := h.f hc; clear hc
              refine H_leaveP (.exit 0) (by kernel_rfl) rfl ?_
              obtain ⟨x17, hx18, h⟩ := h
              refine H_valW (g := 13) (args := [.pd (.int .i64 p0), .pd (.sl (p1.map elI64)), .pd (.sl (x3.map elI64))]) (M := []) (.pd (.bool x17)) (.inl (by kernel_rfl)) (by kernel_rfl) (f13_ok _ _ _ hx18) (by kernel_rfl) (has17 13 (by kernel_rfl)) ?_
              cases x17
              · replace h := h.f rfl
                exact H_end .ret (.pd (.bool false)) (by kernel_rfl) rfl (by kernel_rfl) (by subst h; rfl)
              · replace h := h.t rfl
                obtain ⟨x19, hx20, h⟩ := h
                refine H_valW (g := 7) (args := []) (M := []) (.pd (.bool x19)) (.inl (by kernel_rfl)) (by kernel_rfl) (f7_ok  hx20) (by kernel_rfl) (has17 7 (by kernel_rfl)) ?_
                cases x19
                · replace h := h.f rfl
                  exact H_end .ret (.pd (.bool false)) (by kernel_rfl) rfl (by kernel_rfl) (by subst h; rfl)
                · replace h := h.t rfl
                  exact H_end .ret (.pd (.bool true)) (by kernel_rfl) rfl (by kernel_rfl) (by subst h; rfl)

theorem f6_ok (p0 : Int) (p1 : List Int) {r : Bool} (h : f6 p0 p1 r) : ASpec Tryd.prog gt17 6 [.pd (.int .i64 p0), .pd (.sl (p1.map elI64))] (· = .pd (.bool r)) := by
  refine ASpec_tree Tryd.f6 mixed17 (askG [9, 10, 11] false) (by kernel_rfl) ?_
  unfold f6 at h
  refine H_ask _ _ (by kernel_rfl) (ask_len (P := Tryd.prog) (M := []) (t := 22) (et := 3) (el := elI64) (by kernel_rfl) (e := p1)) ?_
  refine H_split (decide ((p1.length : Int) > (12 : Int))) (by kernel_rfl) (fun hc => ?_) (fun hc => ?_)
  · replace h := h.t hc; clear hc
    obtain ⟨x1, hx2, h⟩ := h
    refine H_valW (g := 7) (args := []) (M := []) (.pd (.bool x1)) (.inl (by kernel_rfl)) (by kernel_rfl) (f7_ok  hx2) (by kernel_rfl) (has17 7 (by kernel_rfl)) ?_
    cases x1
    · replace h := h.f rfl
      exact H_end .ret (.pd (.bool false)) (by kernel_rfl) rfl (by kernel_rfl) (by subst h; rfl)
    · replace h := h.t rfl
      exact H_end .ret (.pd (.bool true)) (by kernel_rfl) rfl (by kernel_rfl) (by subst h; rfl)
  · replace h := h.f hc; clear hc
    obtain ⟨x3, hx4, h⟩ := h
    refine H_valW (g := 10) (args := [.pd (.int .i64 p0), .pd (.sl (p1.map elI64))]) (M := []) (.pd (.bool x3)) (.inl (by kernel_rfl)) (by kernel_rfl) (f10_ok _ _ hx4) (by kernel_rfl) (has17 10 (by kernel_rfl)) ?_
    cases x3
    · replace h := h.f rfl
      obtain ⟨x17, hx18, h⟩ := h
      refine H_valW (g := 7) (args := []) (M := []) (.pd (.bool x17)) (.inl (by kernel_rfl)) (by kernel_rfl) (f7_ok  hx18) (by kernel_rfl) (has17 7 (by kernel_rfl)) ?_
      cases x17
      · replace h := h.f rfl
        exact H_end .ret (.pd (.bool false)) (by kernel_rfl) rfl (by kernel_rfl) (by subst h; rfl)
      · replace h := h.t rfl
        exact H_end .ret (.pd (.bool true)) (by kernel_rfl) rfl (by kernel_rfl) (by subst h; rfl)
    · replace h := h.t rfl
      obtain ⟨x5, hx6, h⟩ := h
      refine H_valW (g := 8) (args := [.pd (.int .i64 p0), .pd (.sl (p1.map elI64))]) (M := []) (.pd (.sl (x5.map elI64))) (.inl (by kernel_rfl)) (by kernel_rfl) (f8_ok _ _ hx6) (by kernel_rfl) (has17 8 (by kernel_rfl)) ?_
      refine H_loopP (F := f6_L1 p0 p1 x5 r) (s0 := (1 : Int)) h () 43 0
        (fun (s100 : Int) (() : Unit) => [(0, .pd (.int .i64 p0)), (1, .pd (.sl (p1.map elI64))), (5, .pd (.sl (x5.map elI64))), (6, .pd (.int .i64 s100))])
        (fun (s100 : Int) (() : Unit) => []) (fun (s100 : Int) (() : Unit) => True) trivial [] mixed17 (askG [9, 10, 11] false)
        (by kernel_rfl) (by kernel_rfl) (by kernel_rfl) (by kernel_rfl) (by kernel_rfl) (fun _ _ => rfl) ?_
      rintro X1 s100 ⟨⟩ - h
      dsimp only [f6_L1] at h
      refine H_ask _ _ (by kernel_rfl) (ask_len (P := Tryd.prog) (M := []) (t := 22) (et := 3) (el := elI64) (by kernel_rfl) (e := x5)) ?_
      refine H_split (decide (s100 < (x5.length : Int))) (by kernel_rfl) (fun hc => ?_) (fun hc => ?_)
      · replace h := h.t hc; clear hc
        refine H_draw (by kernel_rfl) ?_
        obtain ⟨x7, hx8, h⟩ := h
        refine H_ask _ _ (by kernel_rfl) (ask_idx (P := Tryd.prog) (M := []) (t := 22) (et := 3) (k := .i64) (lv := lvI64) okI64 leI64 (by kernel_rfl) (by kernel_rfl) hx8) ?_
        refine H_askK (.pd (.int .i64 x7)) ([]) (by kernel_rfl) ?_
        obtain ⟨x9, hx10, h⟩ := h
        refine H_valW (g := 17) (args := [.pd (.sl (p1.map elI64)), .pd (.int .i64 x7)]) (M := []) (.pd (.int .i64 x9)) (.inr (by kernel_rfl)) (by kernel_rfl) (f17_ok _ _ hx10) (by kernel_rfl) (has17 17 (by kernel_rfl)) ?_
        obtain ⟨x11, hx12, h⟩ := h
        refine H_ask _ _ (by kernel_rfl) (ask_idx (P := Tryd.prog) (M := []) (t := 22) (et := 3) (k := .i64) (lv := lvI64) okI64 leI64 (by kernel_rfl) (by kernel_rfl) hx12) ?_
        refine H_askK (.pd (.int .i64 x11)) ([]) (by kernel_rfl) ?_
        obtain ⟨x13, hx14, h⟩ := h
        refine H_valW (g := 17) (args := [.pd (.sl (p1.map elI64)), .pd (.int .i64 x11)]) (M := []) (.pd (.int .i64 x13)) (.inr (by kernel_rfl)) (by kernel_rfl) (f17_ok _ _ hx14) (by kernel_rfl) (has17 17 (by kernel_rfl)) ?_
        refine H_split (decide ((IntKind.i64.wrap (x9 + x13)) ≤ p0)) (by kernel_rfl) (fun hc => ?_) (fun hc => ?_)
        · replace h := h.t hc; clear hc
          refine H_leaveP .ret (by kernel_rfl) rfl ?_
          exact H_end .ret (.pd (.bool false)) (by kernel_rfl) rfl (by kernel_rfl) (by subst h; rfl)
        · replace h := h.f hc; clear hc
          exact H_againP (st := _) (IntKind.i64.wrap (s100 + 1)) () h trivial (by kernel_rfl) (by kernel_rfl) (by kernel_rfl) (by kernel_rfl) (by kernel_rfl)
      · replace h := h.f hc; clear hc
        refine H_leaveP (.exit 0) (by kernel_rfl) rfl ?_
        obtain ⟨x15, hx16, h⟩ := h
        refine H_valW (g := 7) (args := []) (M := []) (.pd (.bool x15)) (.inl (by kernel_rfl)) (by kernel_rfl) (f7_ok  hx16) (by kernel_rfl) (has17 7 (by kernel_rfl)) ?_
        cases x15
        · replace h := h.f rfl
          exact H_end .ret (.pd (.bool false)) (by kernel_rfl) rfl (by kernel_rfl) (by subst h; rfl)
        · replace h := h.t rfl
          exact H_end .ret (.pd (.bool true)) (by kernel_rfl) rfl (by kernel_rfl) (by subst h; rfl)

def f16_A (s : Int × (List Int) × Int × (List Int) × Int) : Prop := match s with
  | (p0, p1, p2, p3, r) => ASpec Tryd.prog gt17 16 [.pd (.int .i64 p0), .pd (.sl (p1.map elI64)), .pd (.int .i64 p2), .pd (.sl (p3.map elI64))] (· = .pd (.int .i64 r))
theorem f16_ok (p0 : Int) (p1 : List Int) (p2 : Int) (p3 : List Int) {r : Int} (h : f16 p0 p1 p2 p3 r) : ASpec Tryd.prog gt17 16 [.pd (.int .i64 p0), .pd (.sl (p1.map elI64)), .pd (.int .i64 p2), .pd (.sl (p3.map elI64))] (· = .pd (.int .i64 r)) := by
  refine (h f16_A ?_ : f16_A (p0, p1, p2, p3, r))
  rintro ⟨p0, p1, p2, p3, r⟩ h
  refine ASpec_tree Tryd.f16 mixed17 (askG [9, 10, 11] false) (by kernel_rfl) ?_
  dsimp only [f16_F] at h
  refine H_ask _ _ (by kernel_rfl) (ask_len (P := Tryd.prog) (M := []) (t := 22) (et := 3) (el := elI64) (by kernel_rfl) (e := p1)) ?_
  refine H_split (p2 == (p1.length : Int)) (by kernel_rfl) (fun hc => ?_) (fun hc => ?_)
  · replace h := h.t hc; clear hc
    refine H_ask _ _ (by kernel_rfl) (ask_len (P := Tryd.prog) (M := []) (t := 22) (et := 3) (el := elI64) (by kernel_rfl) (e := p3)) ?_
    exact H_end .ret (.pd (.int .i64 (p3.length : Int))) (by kernel_rfl) rfl (by kernel_rfl) (by subst h; rfl)
  · replace h := h.f hc; clear hc
    refine H_drawF [10, 11, 13] (by kernel_rfl) ?_
    cases hx1 : (p3).isEmpty
    · replace h := h.f hx1
      obtain ⟨hx27, h⟩ := h
      refine H_ask _ _ (by kernel_rfl) (ask_appF (P := Tryd.prog) (M := []) (lv := lvI64) (s := 1) (e := ([] : List Int)) (e2 := p3) (sT := 22) (xT := 22) (by_ := 8) okI64 leI64 (by kernel_rfl) (src_pd (M := []) okI64 leI64) (ne_of_isEmpty hx1) hx27) ?_
      obtain ⟨x28, hx29, h⟩ := h
      refine H_askall _ (by kernel_rfl) (fun M' => ask_idx (P := Tryd.prog) (M := M') (t := 22) (et := 3) (k := .i64) (lv := lvI64) okI64 leI64 (by kernel_rfl) (by kernel_rfl) hx29) ?_
      refine H_askall (.pd (.int .i64 x28)) (f := fun M' => some (.pd (.int .i64 x28), M')) (by kernel_rfl) (fun _ => rfl) ?_
      refine H_askall (.fixed ([(IntKind.i64.wrap (p0 - x28))].map elI64)) (f := fun M' => some (.fixed ([(IntKind.i64.wrap (p0 - x28))].map elI64), M')) (by kernel_rfl) (fun _ => rfl) ?_
      obtain ⟨hx30, h⟩ := h
      refine H_ask _ _ (by kernel_rfl) (ask_app (P := Tryd.prog) (M := [.cells (rowC lvI64 (([] : List Int) ++ p3)) 1 0 false]) (lv := lvI64) (s := 1) (b := 0) (e := (([] : List Int) ++ p3)) (e2 := [(IntKind.i64.wrap (p0 - x28))]) (ver := 0) (sT := 22) (xT := 22) (by_ := 8) okI64 (by kernel_rfl) (src_fixed (M := [.cells (rowC lvI64 (([] : List Int) ++ p3)) 1 0 false]) okI64 leI64) (by kernel_rfl) (n := (([] : List Int) ++ p3).length) rfl hx30) ?_
      obtain ⟨x31, hx32, h⟩ := h
      refine H_valO (g := 16) (args := [.pd (.int .i64 p0), .pd (.sl (p1.map elI64)), .pd (.int .i64 (IntKind.i64.wrap (p2 + 1))), .own 0 (((([] : List Int) ++ p3) ++ [(IntKind.i64.wrap (p0 - x28))]).length) (0 + 1)]) (M := [.cells (rowC lvI64 ((([] : List Int) ++ p3) ++ [(IntKind.i64.wrap (p0 - x28))])) 1 (0 + 1) false]) (.pd (.int .i64 x31)) (.inr (by kernel_rfl)) (pl_cons rfl (pl_cons rfl (pl_cons rfl (pl_cons (un_own (own_pd okI64 (by decide) lgI64 (o := .cells (rowC lvI64 ((([] : List Int) ++ p3) ++ [(IntKind.i64.wrap (p0 - x28))])) 1 (0 + 1) false) (by kernel_rfl) (rowIs_c (lv := lvI64) (s := 1) (e := ((([] : List Int) ++ p3) ++ [(IntKind.i64.wrap (p0 - x28))])) (ver := (0 + 1)) (z := false)) (n := ((([] : List Int) ++ p3) ++ [(IntKind.i64.wrap (p0 - x28))]).length) rfl)) pl_nil)))) (hx32) (by kernel_rfl) rfl (has17 16 (by kernel_rfl)) ?_
      refine H_loopP (F := f16_L2 p0 p1 p2 p3 f16_A r) (s0 := (x31, (0 : Int))) h () 76 1
        (fun ((s200, s201) : Int × Int) (() : Unit) => [(0, .pd (.int .i64 p0)), (1, .pd (.sl (p1.map elI64))), (2, .pd (.int .i64 p2)), (3, .pd (.sl (p3.map elI64))), (9, .pd (.int .i64 s200)), (10, .pd (.int .i64 s201))])
        (fun ((s200, s201) : Int × Int) (() : Unit) => [.cells (rowC lvI64 ((([] : List Int) ++ p3) ++ [(IntKind.i64.wrap (p0 - x28))])) 1 (0 + 1) false]) (fun ((s200, s201) : Int × Int) (() : Unit) => True) trivial [] mixed17 (askG [9, 10, 11] false)
        (by kernel_rfl) (by kernel_rfl) (by kernel_rfl) (by kernel_rfl) (by kernel_rfl) (fun _ _ => rfl) ?_
      rintro X2 ⟨s200, s201⟩ ⟨⟩ - h
      dsimp only [f16_L2] at h
      refine H_ask _ _ (by kernel_rfl) (ask_len (P := Tryd.prog) (M := [.cells (rowC lvI64 ((([] : List Int) ++ p3) ++ [(IntKind.i64.wrap (p0 - x28))])) 1 (0 + 1) false]) (t := 22) (et := 3) (el := elI64) (by kernel_rfl) (e := p3)) ?_
      refine H_split (decide (s201 < (p3.length : Int))) (by kernel_rfl) (fun hc => ?_) (fun hc => ?_)
      · replace h := h.t hc; clear hc
        refine H_draw (by kernel_rfl) ?_
        obtain ⟨x33, hx34, h⟩ := h
        refine H_ask _ _ (by kernel_rfl) (ask_idx (P := Tryd.prog) (M := [.cells (rowC lvI64 ((([] : List Int) ++ p3) ++ [(IntKind.i64.wrap (p0 - x28))])) 1 (0 + 1) false]) (t := 22) (et := 3) (k := .i64) (lv := lvI64) okI64 leI64 (by kernel_rfl) (by kernel_rfl) hx34) ?_
        refine H_askK (.pd (.int .i64 x33)) ([.cells (rowC lvI64 ((([] : List Int) ++ p3) ++ [(IntKind.i64.wrap (p0 - x28))])) 1 (0 + 1) false]) (by kernel_rfl) ?_
        obtain ⟨x35, hx36, h⟩ := h
        refine H_ask _ _ (by kernel_rfl) (ask_idx (P := Tryd.prog) (M := [.cells (rowC lvI64 ((([] : List Int) ++ p3) ++ [(IntKind.i64.wrap (p0 - x28))])) 1 (0 + 1) false]) (t := 22) (et := 3) (k := .i64) (lv := lvI64) okI64 leI64 (by kernel_rfl) (by kernel_rfl) hx36) ?_
        refine H_askK (.pd (.int .i64 x35)) ([.cells (rowC lvI64 ((([] : List Int) ++ p3) ++ [(IntKind.i64.wrap (p0 - x28))])) 1 (0 + 1) false]) (by kernel_rfl) ?_
        refine H_split (decide (x33 ≥ x35)) (by kernel_rfl) (fun hc => ?_) (fun hc => ?_)
        · replace h := h.t hc; clear hc
          cases hx37 : (p3).isEmpty
          · replace h := h.f hx37
            obtain ⟨hx44, h⟩ := h
            refine H_ask _ _ (by kernel_rfl) (ask_appF (P := Tryd.prog) (M := [.cells (rowC lvI64 ((([] : List Int) ++ p3) ++ [(IntKind.i64.wrap (p0 - x28))])) 1 (0 + 1) false]) (lv := lvI64) (s := 1) (e := ([] : List Int)) (e2 := p3) (sT := 22) (xT := 22) (by_ := 8) okI64 leI64 (by kernel_rfl) (src_pd (M := [.cells (rowC lvI64 ((([] : List Int) ++ p3) ++ [(IntKind.i64.wrap (p0 - x28))])) 1 (0 + 1) false]) okI64 leI64) (ne_of_isEmpty hx37) hx44) ?_
            refine H_draw (by kernel_rfl) ?_
            obtain ⟨x45, hx46, h⟩ := h
            refine H_ask _ _ (by kernel_rfl) (ask_oidx (P := Tryd.prog) (M := [.cells (rowC lvI64 ((([] : List Int) ++ p3) ++ [(IntKind.i64.wrap (p0 - x28))])) 1 (0 + 1) false, .cells (rowC lvI64 (([] : List Int) ++ p3)) 1 0 false]) (t := 22) (et := 3) (k := .i64) (lv := lvI64) (e := (([] : List Int) ++ p3)) (s := 1) (b := 1) (by kernel_rfl) (by kernel_rfl) (by kernel_rfl) (rowIs_c (lv := lvI64) (s := 1) (e := (([] : List Int) ++ p3)) (ver := 0) (z := false)) (n := (([] : List Int) ++ p3).length) rfl hx46) ?_
            refine H_ask _ _ (by kernel_rfl) (ask_oload (P := Tryd.prog) (M := [.cells (rowC lvI64 ((([] : List Int) ++ p3) ++ [(IntKind.i64.wrap (p0 - x28))])) 1 (0 + 1) false, .cells (rowC lvI64 (([] : List Int) ++ p3)) 1 0 false]) (t := 3) (lv := lvI64) (b := 1) (i := s201) okI64 (by kernel_rfl) (by kernel_rfl) (by kernel_rfl) (rowIs_c (lv := lvI64) (s := 1) (e := (([] : List Int) ++ p3)) (ver := 0) (z := false)) hx46 rfl) ?_
            obtain ⟨x47, hx48, h⟩ := h
            refine H_ask _ _ (by kernel_rfl) (ask_idx (P := Tryd.prog) (M := [.cells (rowC lvI64 ((([] : List Int) ++ p3) ++ [(IntKind.i64.wrap (p0 - x28))])) 1 (0 + 1) false, .cells (rowC lvI64 (([] : List Int) ++ p3)) 1 0 false]) (t := 22) (et := 3) (k := .i64) (lv := lvI64) okI64 leI64 (by kernel_rfl) (by kernel_rfl) hx48) ?_
            refine H_askK (.pd (.int .i64 x47)) ([.cells (rowC lvI64 ((([] : List Int) ++ p3) ++ [(IntKind.i64.wrap (p0 - x28))])) 1 (0 + 1) false, .cells (rowC lvI64 (([] : List Int) ++ p3)) 1 0 false]) (by kernel_rfl) ?_
            obtain ⟨x49, hx50, h⟩ := h
            refine H_ask _ _ (by kernel_rfl) (ask_oidx (P := Tryd.prog) (M := [.cells (rowC lvI64 ((([] : List Int) ++ p3) ++ [(IntKind.i64.wrap (p0 - x28))])) 1 (0 + 1) false, .cells (rowC lvI64 (([] : List Int) ++ p3)) 1 0 false]) (t := 22) (et := 3) (k := .i64) (lv := lvI64) (e := (([] : List Int) ++ p3)) (s := 1) (b := 1) (by kernel_rfl) (by kernel_rfl) (by kernel_rfl) (rowIs_c (lv := lvI64) (s := 1) (e := (([] : List Int) ++ p3)) (ver := 0) (z := false)) (n := (([] : List Int) ++ p3).length) rfl hx50) ?_
            refine H_ask _ _ (by kernel_rfl) (ask_ostore (P := Tryd.prog) (M := [.cells (rowC lvI64 ((([] : List Int) ++ p3) ++ [(IntKind.i64.wrap (p0 - x28))])) 1 (0 + 1) false, .cells (rowC lvI64 (([] : List Int) ++ p3)) 1 0 false]) (t := 3) (lv := lvI64) (b := 1) (i := s201) (y := (IntKind.i64.wrap (x45 - x47))) (X := .pd (.int .i64 (IntKind.i64.wrap (x45 - x47)))) okI64 (by kernel_rfl) (by kernel_rfl) (rowIs_c (lv := lvI64) (s := 1) (e := (([] : List Int) ++ p3)) (ver := 0) (z := false)) hx50 (by kernel_rfl)) ?_
            obtain ⟨x51, hx52, h⟩ := h
            refine H_valO (g := 16) (args := [.pd (.int .i64 p0), .pd (.sl (p1.map elI64)), .pd (.int .i64 (IntKind.i64.wrap (p2 + 1))), .own 1 ((([] : List Int) ++ p3).length) 0]) (M := [.cells (rowC lvI64 ((([] : List Int) ++ p3) ++ [(IntKind.i64.wrap (p0 - x28))])) 1 (0 + 1) false, .cells (rowC lvI64 ((([] : List Int) ++ p3).set (Int.toNat s201) (IntKind.i64.wrap (x45 - x47)))) 1 0 false]) (.pd (.int .i64 x51)) (.inl (by kernel_rfl)) (pl_cons rfl (pl_cons rfl (pl_cons rfl (pl_cons (un_own (own_pd okI64 (by decide) lgI64 (o := .cells (rowC lvI64 ((([] : List Int) ++ p3).set (Int.toNat s201) (IntKind.i64.wrap (x45 - x47)))) 1 0 false) (by kernel_rfl) (rowIs_c (lv := lvI64) (s := 1) (e := ((([] : List Int) ++ p3).set (Int.toNat s201) (IntKind.i64.wrap (x45 - x47)))) (ver := 0) (z := false)) (n := (([] : List Int) ++ p3).length) (ls_set rfl))) pl_nil)))) (hx52) (by kernel_rfl) rfl (has17 16 (by kernel_rfl)) ?_
            refine H_split (decide (x51 < s200)) (by kernel_rfl) (fun hc => ?_) (fun hc => ?_)
            · replace h := h.t hc; clear hc
              exact H_againC (st := _) (x51, (IntKind.i64.wrap (s201 + 1))) () h trivial (by kernel_rfl) (by kernel_rfl) (by kernel_rfl) (by kernel_rfl) (by kernel_rfl) (by kernel_rfl) (all_c (bel_rowO _) all_n) (by kernel_rfl) (by kernel_rfl)
            · replace h := h.f hc; clear hc
              exact H_againC (st := _) (s200, (IntKind.i64.wrap (s201 + 1))) () h trivial (by kernel_rfl) (by kernel_rfl) (by kernel_rfl) (by kernel_rfl) (by kernel_rfl) (by kernel_rfl) (all_c (bel_rowO _) all_n) (by kernel_rfl) (by kernel_rfl)
          · replace h := h.t hx37
            refine H_ask _ _ (by kernel_rfl) (ask_app0 (P := Tryd.prog) (M := [.cells (rowC lvI64 ((([] : List Int) ++ p3) ++ [(IntKind.i64.wrap (p0 - x28))])) 1 (0 + 1) false]) (lv := lvI64) (s := 1) (e := ([] : List Int)) (e2 := p3) (sT := 22) (xT := 22) (by_ := 8) okI64 leI64 (by kernel_rfl) (src_pd (M := [.cells (rowC lvI64 ((([] : List Int) ++ p3) ++ [(IntKind.i64.wrap (p0 - x28))])) 1 (0 + 1) false]) okI64 leI64) hx37) ?_
            refine H_draw (by kernel_rfl) ?_
            obtain ⟨x38, hx39, h⟩ := h
            refine H_ask _ _ (by kernel_rfl) (ask_idxF (P := Tryd.prog) (M := [.cells (rowC lvI64 ((([] : List Int) ++ p3) ++ [(IntKind.i64.wrap (p0 - x28))])) 1 (0 + 1) false]) (t := 22) (et := 3) (k := .i64) (lv := lvI64) okI64 leI64 (by kernel_rfl) (by kernel_rfl) hx39) ?_
            refine H_askK (.pd (.int .i64 x38)) ([.cells (rowC lvI64 ((([] : List Int) ++ p3) ++ [(IntKind.i64.wrap (p0 - x28))])) 1 (0 + 1) false]) (by kernel_rfl) ?_
            obtain ⟨x40, hx41, h⟩ := h
            refine H_ask _ _ (by kernel_rfl) (ask_idx (P := Tryd.prog) (M := [.cells (rowC lvI64 ((([] : List Int) ++ p3) ++ [(IntKind.i64.wrap (p0 - x28))])) 1 (0 + 1) false]) (t := 22) (et := 3) (k := .i64) (lv := lvI64) okI64 leI64 (by kernel_rfl) (by kernel_rfl) hx41) ?_
            refine H_askK (.pd (.int .i64 x40)) ([.cells (rowC lvI64 ((([] : List Int) ++ p3) ++ [(IntKind.i64.wrap (p0 - x28))])) 1 (0 + 1) false]) (by kernel_rfl) ?_
            obtain ⟨x42, hx43, h⟩ := h
            refine H_ask _ _ (by kernel_rfl) (ask_idxF (P := Tryd.prog) (M := [.cells (rowC lvI64 ((([] : List Int) ++ p3) ++ [(IntKind.i64.wrap (p0 - x28))])) 1 (0 + 1) false]) (t := 22) (et := 3) (k := .i64) (lv := lvI64) okI64 leI64 (by kernel_rfl) (by kernel_rfl) hx43) ?_
            exact h.elim
        · replace h := h.f hc; clear hc
          exact H_againP (st := _) (s200, (IntKind.i64.wrap (s201 + 1))) () h trivial (by kernel_rfl) (by kernel_rfl) (by kernel_rfl) (by kernel_rfl) (by kernel_rfl)
      · replace h := h.f hc; clear hc
        refine H_leaveP (.exit 0) (by kernel_rfl) rfl ?_
        exact H_end .ret (.pd (.int .i64 s200)) (by kernel_rfl) rfl (by kernel_rfl) (by subst h; rfl)
    · replace h := h.t hx1
      refine H_ask _ _ (by kernel_rfl) (ask_app0 (P := Tryd.prog) (M := []) (lv := lvI64) (s := 1) (e := ([] : List Int)) (e2 := p3) (sT := 22) (xT := 22) (by_ := 8) okI64 leI64 (by kernel_rfl) (src_pd (M := []) okI64 leI64) hx1) ?_
      obtain ⟨x2, hx3, h⟩ := h
      refine H_askall _ (by kernel_rfl) (fun M' => ask_idx (P := Tryd.prog) (M := M') (t := 22) (et := 3) (k := .i64) (lv := lvI64) okI64 leI64 (by kernel_rfl) (by kernel_rfl) hx3) ?_
      refine H_askall (.pd (.int .i64 x2)) (f := fun M' => some (.pd (.int .i64 x2), M')) (by kernel_rfl) (fun _ => rfl) ?_
      refine H_askall (.fixed ([(IntKind.i64.wrap (p0 - x2))].map elI64)) (f := fun M' => some (.fixed ([(IntKind.i64.wrap (p0 - x2))].map elI64), M')) (by kernel_rfl) (fun _ => rfl) ?_
      obtain ⟨hx4, h⟩ := h
      refine H_ask _ _ (by kernel_rfl) (ask_appF (P := Tryd.prog) (M := []) (lv := lvI64) (s := 1) (e := ([] : List Int)) (e2 := [(IntKind.i64.wrap (p0 - x2))]) (sT := 22) (xT := 22) (by_ := 8) okI64 leI64 (by kernel_rfl) (src_fixed (M := []) okI64 leI64) (Nat.succ_ne_zero _) hx4) ?_
      obtain ⟨x5, hx6, h⟩ := h
      refine H_valO (g := 16) (args := [.pd (.int .i64 p0), .pd (.sl (p1.map elI64)), .pd (.int .i64 (IntKind.i64.wrap (p2 + 1))), .own 0 ((([] : List Int) ++ [(IntKind.i64.wrap (p0 - x2))]).length) 0]) (M := [.cells (rowC lvI64 (([] : List Int) ++ [(IntKind.i64.wrap (p0 - x2))])) 1 0 false]) (.pd (.int .i64 x5)) (.inr (by kernel_rfl)) (pl_cons rfl (pl_cons rfl (pl_cons rfl (pl_cons (un_own (own_pd okI64 (by decide) lgI64 (o := .cells (rowC lvI64 (([] : List Int) ++ [(IntKind.i64.wrap (p0 - x2))])) 1 0 false) (by kernel_rfl) (rowIs_c (lv := lvI64) (s := 1) (e := (([] : List Int) ++ [(IntKind.i64.wrap (p0 - x2))])) (ver := 0) (z := false)) (n := (([] : List Int) ++ [(IntKind.i64.wrap (p0 - x2))]).length) rfl)) pl_nil)))) (hx6) (by kernel_rfl) rfl (has17 16 (by kernel_rfl)) ?_
      refine H_loopP (F := f16_L1 p0 p1 p2 p3 f16_A r) (s0 := (x5, (0 : Int))) h () 76 1
        (fun ((s100, s101) : Int × Int) (() : Unit) => [(0, .pd (.int .i64 p0)), (1, .pd (.sl (p1.map elI64))), (2, .pd (.int .i64 p2)), (3, .pd (.sl (p3.map elI64))), (9, .pd (.int .i64 s100)), (10, .pd (.int .i64 s101))])
        (fun ((s100, s101) : Int × Int) (() : Unit) => [.cells (rowC lvI64 (([] : List Int) ++ [(IntKind.i64.wrap (p0 - x2))])) 1 0 false]) (fun ((s100, s101) : Int × Int) (() : Unit) => True) trivial [] mixed17 (askG [9, 10, 11] false)
        (by kernel_rfl) (by kernel_rfl) (by kernel_rfl) (by kernel_rfl) (by kernel_rfl) (fun _ _ => rfl) ?_
      rintro X1 ⟨s100, s101⟩ ⟨⟩ - h
      dsimp only [f16_L1] at h
      refine H_ask _ _ (by kernel_rfl) (ask_len (P := Tryd.prog) (M := [.cells (rowC lvI64 (([] : List Int) ++ [(IntKind.i64.wrap (p0 - x2))])) 1 0 false]) (t := 22) (et := 3) (el := elI64) (by kernel_rfl) (e := p3)) ?_
      refine H_split (decide (s101 < (p3.length : Int))) (by kernel_rfl) (fun hc => ?_) (fun hc => ?_)
      · replace h := h.t hc; clear hc
        refine H_draw (by kernel_rfl) ?_
        obtain ⟨x7, hx8, h⟩ := h
        refine H_ask _ _ (by kernel_rfl) (ask_idx (P := Tryd.prog) (M := [.cells (rowC lvI64 (([] : List Int) ++ [(IntKind.i64.wrap (p0 - x2))])) 1 0 false]) (t := 22) (et := 3) (k := .i64) (lv := lvI64) okI64 leI64 (by kernel_rfl) (by kernel_rfl) hx8) ?_
        refine H_askK (.pd (.int .i64 x7)) ([.cells (rowC lvI64 (([] : List Int) ++ [(IntKind.i64.wrap (p0 - x2))])) 1 0 false]) (by kernel_rfl) ?_
        obtain ⟨x9, hx10, h⟩ := h
        refine H_ask _ _ (by kernel_rfl) (ask_idx (P := Tryd.prog) (M := [.cells (rowC lvI64 (([] : List Int) ++ [(IntKind.i64.wrap (p0 - x2))])) 1 0 false]) (t := 22) (et := 3) (k := .i64) (lv := lvI64) okI64 leI64 (by kernel_rfl) (by kernel_rfl) hx10) ?_
        refine H_askK (.pd (.int .i64 x9)) ([.cells (rowC lvI64 (([] : List Int) ++ [(IntKind.i64.wrap (p0 - x2))])) 1 0 false]) (by kernel_rfl) ?_
        refine H_split (decide (x7 ≥ x9)) (by kernel_rfl) (fun hc => ?_) (fun hc => ?_)
        · replace h := h.t hc; clear hc
          cases hx11 : (p3).isEmpty
          · replace h := h.f hx11
            obtain ⟨hx18, h⟩ := h
            refine H_ask _ _ (by kernel_rfl) (ask_appF (P := Tryd.prog) (M := [.cells (rowC lvI64 (([] : List Int) ++ [(IntKind.i64.wrap (p0 - x2))])) 1 0 false]) (lv := lvI64) (s := 1) (e := ([] : List Int)) (e2 := p3) (sT := 22) (xT := 22) (by_ := 8) okI64 leI64 (by kernel_rfl) (src_pd (M := [.cells (rowC lvI64 (([] : List Int) ++ [(IntKind.i64.wrap (p0 - x2))])) 1 0 false]) okI64 leI64) (ne_of_isEmpty hx11) hx18) ?_
            refine H_draw (by kernel_rfl) ?_
            obtain ⟨x19, hx20, h⟩ := h
            refine H_ask _ _ (by kernel_rfl) (ask_oidx (P := Tryd.prog) (M := [.cells (rowC lvI64 (([] : List Int) ++ [(IntKind.i64.wrap (p0 - x2))])) 1 0 false, .cells (rowC lvI64 (([] : List Int) ++ p3)) 1 0 false]) (t := 22) (et := 3) (k := .i64) (lv := lvI64) (e := (([] : List Int) ++ p3)) (s := 1) (b := 1) (by kernel_rfl) (by kernel_rfl) (by kernel_rfl) (rowIs_c (lv := lvI64) (s := 1) (e := (([] : List Int) ++ p3)) (ver := 0) (z := false)) (n := (([] : List Int) ++ p3).length) rfl hx20) ?_
            refine H_ask _ _ (by kernel_rfl) (ask_oload (P := Tryd.prog) (M := [.cells (rowC lvI64 (([] : List Int) ++ [(IntKind.i64.wrap (p0 - x2))])) 1 0 false, .cells (rowC lvI64 (([] : List Int) ++ p3)) 1 0 false]) (t := 3) (lv := lvI64) (b := 1) (i := s101) okI64 (by kernel_rfl) (by kernel_rfl) (by kernel_rfl) (rowIs_c (lv := lvI64) (s := 1) (e := (([] : List Int) ++ p3)) (ver := 0) (z := false)) hx20 rfl) ?_
            obtain ⟨x21, hx22, h⟩ := h
            refine H_ask _ _ (by kernel_rfl) (ask_idx (P := Tryd.prog) (M := [.cells (rowC lvI64 (([] : List Int) ++ [(IntKind.i64.wrap (p0 - x2))])) 1 0 false, .cells (rowC lvI64 (([] : List Int) ++ p3)) 1 0 false]) (t := 22) (et := 3) (k := .i64) (lv := lvI64) okI64 leI64 (by kernel_rfl) (by kernel_rfl) hx22) ?_
            refine H_askK (.pd (.int .i64 x21)) ([.cells (rowC lvI64 (([] : List Int) ++ [(IntKind.i64.wrap (p0 - x2))])) 1 0 false, .cells (rowC lvI64 (([] : List Int) ++ p3)) 1 0 false]) (by kernel_rfl) ?_
            obtain ⟨x23, hx24, h⟩ := h
            refine H_ask _ _ (by kernel_rfl) (ask_oidx (P := Tryd.prog) (M := [.cells (rowC lvI64 (([] : List Int) ++ [(IntKind.i64.wrap (p0 - x2))])) 1 0 false, .cells (rowC lvI64 (([] : List Int) ++ p3)) 1 0 false]) (t := 22) (et := 3) (k := .i64) (lv := lvI64) (e := (([] : List Int) ++ p3)) (s := 1) (b := 1) (by kernel_rfl) (by kernel_rfl) (by kernel_rfl) (rowIs_c (lv := lvI64) (s := 1) (e := (([] : List Int) ++ p3)) (ver := 0) (z := false)) (n := (([] : List Int) ++ p3).length) rfl hx24) ?_
            refine H_ask _ _ (by kernel_rfl) (ask_ostore (P := Tryd.prog) (M := [.cells (rowC lvI64 (([] : List Int) ++ [(IntKind.i64.wrap (p0 - x2))])) 1 0 false, .cells (rowC lvI64 (([] : List Int) ++ p3)) 1 0 false]) (t := 3) (lv := lvI64) (b := 1) (i := s101) (y := (IntKind.i64.wrap (x19 - x21))) (X := .pd (.int .i64 (IntKind.i64.wrap (x19 - x21)))) okI64 (by kernel_rfl) (by kernel_rfl) (rowIs_c (lv := lvI64) (s := 1) (e := (([] : List Int) ++ p3)) (ver := 0) (z := false)) hx24 (by kernel_rfl)) ?_
            obtain ⟨x25, hx26, h⟩ := h
            refine H_valO (g := 16) (args := [.pd (.int .i64 p0), .pd (.sl (p1.map elI64)), .pd (.int .i64 (IntKind.i64.wrap (p2 + 1))), .own 1 ((([] : List Int) ++ p3).length) 0]) (M := [.cells (rowC lvI64 (([] : List Int) ++ [(IntKind.i64.wrap (p0 - x2))])) 1 0 false, .cells (rowC lvI64 ((([] : List Int) ++ p3).set (Int.toNat s101) (IntKind.i64.wrap (x19 - x21)))) 1 0 false]) (.pd (.int .i64 x25)) (.inl (by kernel_rfl)) (pl_cons rfl (pl_cons rfl (pl_cons rfl (pl_cons (un_own (own_pd okI64 (by decide) lgI64 (o := .cells (rowC lvI64 ((([] : List Int) ++ p3).set (Int.toNat s101) (IntKind.i64.wrap (x19 - x21)))) 1 0 false) (by kernel_rfl) (rowIs_c (lv := lvI64) (s := 1) (e := ((([] : List Int) ++ p3).set (Int.toNat s101) (IntKind.i64.wrap (x19 - x21)))) (ver := 0) (z := false)) (n := (([] : List Int) ++ p3).length) (ls_set rfl))) pl_nil)))) (hx26) (by kernel_rfl) rfl (has17 16 (by kernel_rfl)) ?_
            refine H_split (decide (x25 < s100)) (by kernel_rfl) (fun hc => ?_) (fun hc => ?_)
            · replace h := h.t hc; clear hc
              exact H_againC (st := _) (x25, (IntKind.i64.wrap (s101 + 1))) () h trivial (by kernel_rfl) (by kernel_rfl) (by kernel_rfl) (by kernel_rfl) (by kernel_rfl) (by kernel_rfl) (all_c (bel_rowO _) all_n) (by kernel_rfl) (by kernel_rfl)
            · replace h := h.f hc; clear hc
              exact H_againC (st := _) (s100, (IntKind.i64.wrap (s101 + 1))) () h trivial (by kernel_rfl) (by kernel_rfl) (by kernel_rfl) (by kernel_rfl) (by kernel_rfl) (by kernel_rfl) (all_c (bel_rowO _) all_n) (by kernel_rfl) (by kernel_rfl)
          · replace h := h.t hx11
            refine H_ask _ _ (by kernel_rfl) (ask_app0 (P := Tryd.prog) (M := [.cells (rowC lvI64 (([] : List Int) ++ [(IntKind.i64.wrap (p0 - x2))])) 1 0 false]) (lv := lvI64) (s := 1) (e := ([] : List Int)) (e2 := p3) (sT := 22) (xT := 22) (by_ := 8) okI64 leI64 (by kernel_rfl) (src_pd (M := [.cells (rowC lvI64 (([] : List Int) ++ [(IntKind.i64.wrap (p0 - x2))])) 1 0 false]) okI64 leI64) hx11) ?_
            refine H_draw (by kernel_rfl) ?_
            obtain ⟨x12, hx13, h⟩ := h
            refine H_ask _ _ (by kernel_rfl) (ask_idxF (P := Tryd.prog) (M := [.cells (rowC lvI64 (([] : List Int) ++ [(IntKind.i64.wrap (p0 - x2))])) 1 0 false]) (t := 22) (et := 3) (k := .i64) (lv := lvI64) okI64 leI64 (by kernel_rfl) (by kernel_rfl) hx13) ?_
            refine H_askK (.pd (.int .i64 x12)) ([.cells (rowC lvI64 (([] : List Int) ++ [(IntKind.i64.wrap (p0 - x2))])) 1 0 false]) (by kernel_rfl) ?_
            obtain ⟨x14, hx15, h⟩ := h
            refine H_ask _ _ (by kernel_rfl) (ask_idx (P := Tryd.prog) (M := [.cells (rowC lvI64 (([] : List Int) ++ [(IntKind.i64.wrap (p0 - x2))])) 1 0 false]) (t := 22) (et := 3) (k := .i64) (lv := lvI64) okI64 leI64 (by kernel_rfl) (by kernel_rfl) hx15) ?_
            refine H_askK (.pd (.int .i64 x14)) ([.cells (rowC lvI64 (([] : List Int) ++ [(IntKind.i64.wrap (p0 - x2))])) 1 0 false]) (by kernel_rfl) ?_
            obtain ⟨x16, hx17, h⟩ := h
            refine H_ask _ _ (by kernel_rfl) (ask_idxF (P := Tryd.prog) (M := [.cells (rowC lvI64 (([] : List Int) ++ [(IntKind.i64.wrap (p0 - x2))])) 1 0 false]) (t := 22) (et := 3) (k := .i64) (lv := lvI64) okI64 leI64 (by kernel_rfl) (by kernel_rfl) hx17) ?_
            exact h.elim
        · replace h := h.f hc; clear hc
          exact H_againP (st := _) (s100, (IntKind.i64.wrap (s101 + 1))) () h trivial (by kernel_rfl) (by kernel_rfl) (by kernel_rfl) (by kernel_rfl) (by kernel_rfl)
      · replace h := h.f hc; clear hc
        refine H_leaveP (.exit 0) (by kernel_rfl) rfl ?_
        exact H_end .ret (.pd (.int .i64 s100)) (by kernel_rfl) rfl (by kernel_rfl) (by subst h; rfl)

theorem f5_ok (p0 : Int) (p1 : List Int) {r : Bool} (h : f5 p0 p1 r) : ASpec Tryd.prog gt17 5 [.pd (.int .i64 p0), .pd (.sl (p1.map elI64))] (· = .pd (.bool r)) := by
  refine ASpec_tree Tryd.f5 mixed17 (askG [9, 10, 11] false) (by kernel_rfl) ?_
  unfold f5 at h
  refine H_ask _ _ (by kernel_rfl) (ask_len (P := Tryd.prog) (M := []) (t := 22) (et := 3) (el := elI64) (by kernel_rfl) (e := p1)) ?_
  refine H_split (decide ((p1.length : Int) > (7 : Int))) (by kernel_rfl) (fun hc => ?_) (fun hc => ?_)
  · replace h := h.t hc; clear hc
    obtain ⟨x1, hx2, h⟩ := h
    refine H_valW (g := 7) (args := []) (M := []) (.pd (.bool x1)) (.inl (by kernel_rfl)) (by kernel_rfl) (f7_ok  hx2) (by kernel_rfl) (has17 7 (by kernel_rfl)) ?_
    cases x1
    · replace h := h.f rfl
      exact H_end .ret (.pd (.bool false)) (by kernel_rfl) rfl (by kernel_rfl) (by subst h; rfl)
    · replace h := h.t rfl
      exact H_end .ret (.pd (.bool true)) (by kernel_rfl) rfl (by kernel_rfl) (by subst h; rfl)
  · replace h := h.f hc; clear hc
    refine H_split (decide (p0 < (1 : Int))) (by kernel_rfl) (fun hc => ?_) (fun hc => ?_)
    · replace h := h.t hc; clear hc
      obtain ⟨x3, hx4, h⟩ := h
      refine H_valW (g := 7) (args := []) (M := []) (.pd (.bool x3)) (.inl (by kernel_rfl)) (by kernel_rfl) (f7_ok  hx4) (by kernel_rfl) (has17 7 (by kernel_rfl)) ?_
      cases x3
      · replace h := h.f rfl
        exact H_end .ret (.pd (.bool false)) (by kernel_rfl) rfl (by kernel_rfl) (by subst h; rfl)
      · replace h := h.t rfl
        exact H_end .ret (.pd (.bool true)) (by kernel_rfl) rfl (by kernel_rfl) (by subst h; rfl)
    · replace h := h.f hc; clear hc
      refine H_split (decide (p0 > (1048576 : Int))) (by kernel_rfl) (fun hc => ?_) (fun hc => ?_)
      · replace h := h.t hc; clear hc
        obtain ⟨x5, hx6, h⟩ := h
        refine H_valW (g := 7) (args := []) (M := []) (.pd (.bool x5)) (.inl (by kernel_rfl)) (by kernel_rfl) (f7_ok  hx6) (by kernel_rfl) (has17 7 (by kernel_rfl)) ?_
        cases x5
        · replace h := h.f rfl
          exact H_end .ret (.pd (.bool false)) (by kernel_rfl) rfl (by kernel_rfl) (by subst h; rfl)
        · replace h := h.t rfl
          exact H_end .ret (.pd (.bool true)) (by kernel_rfl) rfl (by kernel_rfl) (by subst h; rfl)
      · replace h := h.f hc; clear hc
        obtain ⟨x7, hx8, h⟩ := h
        refine H_valW (g := 10) (args := [.pd (.int .i64 p0), .pd (.sl (p1.map elI64))]) (M := []) (.pd (.bool x7)) (.inl (by kernel_rfl)) (by kernel_rfl) (f10_ok _ _ hx8) (by kernel_rfl) (has17 10 (by kernel_rfl)) ?_
        cases x7
        · replace h := h.f rfl
          obtain ⟨x19, hx20, h⟩ := h
          refine H_valW (g := 7) (args := []) (M := []) (.pd (.bool x19)) (.inl (by kernel_rfl)) (by kernel_rfl) (f7_ok  hx20) (by kernel_rfl) (has17 7 (by kernel_rfl)) ?_
          cases x19
          · replace h := h.f rfl
            exact H_end .ret (.pd (.bool false)) (by kernel_rfl) rfl (by kernel_rfl) (by subst h; rfl)
          · replace h := h.t rfl
            exact H_end .ret (.pd (.bool true)) (by kernel_rfl) rfl (by kernel_rfl) (by subst h; rfl)
        · replace h := h.t rfl
          obtain ⟨x9, hx10, h⟩ := h
          refine H_valW (g := 11) (args := [.pd (.int .i64 p0), .pd (.sl (p1.map elI64))]) (M := []) (.pd (.int .i64 x9)) (.inl (by kernel_rfl)) (by kernel_rfl) (f11_ok _ _ hx10) (by kernel_rfl) (has17 11 (by kernel_rfl)) ?_
          obtain ⟨x11, hx12, h⟩ := h
          refine H_valW (g := 8) (args := [.pd (.int .i64 p0), .pd (.sl (p1.map elI64))]) (M := []) (.pd (.sl (x11.map elI64))) (.inl (by kernel_rfl)) (by kernel_rfl) (f8_ok _ _ hx12) (by kernel_rfl) (has17 8 (by kernel_rfl)) ?_
          refine H_ask _ _ (by kernel_rfl) (ask_len (P := Tryd.prog) (M := []) (t := 22) (et := 3) (el := elI64) (by kernel_rfl) (e := x11)) ?_
          obtain ⟨x13, hx14, h⟩ := h
          refine H_valW (g := 16) (args := [.pd (.int .i64 p0), .pd (.sl (p1.map elI64)), .pd (.int .i64 0), .fixed (([] : List Int).map elI64)]) (M := []) (.pd (.int .i64 x13)) (.inl (by kernel_rfl)) (by kernel_rfl) (f16_ok _ _ _ _ hx14) (by kernel_rfl) (has17 16 (by kernel_rfl)) ?_
          refine H_ask _ _ (by kernel_rfl) (ask_len (P := Tryd.prog) (M := []) (t := 22) (et := 3) (el := elI64) (by kernel_rfl) (e := p1)) ?_
          refine H_loopP (F := f5_L1 p0 p1 x9 x11 x13 r) (s0 := ((0 : Int), (0 : Int))) h () 82 0
            (fun ((s100, s101) : Int × Int) (() : Unit) => [(0, .pd (.int .i64 p0)), (5, .pd (.int .i64 x9)), (6, .pd (.int .i64 (x11.length : Int))), (7, .pd (.int .i64 x13)), (8, .pd (.int .i64 s100)), (39, .pd (.sl (p1.map elI64))), (40, .pd (.int .i64 (p1.length : Int))), (41, .pd (.int .i64 s101))])
            (fun ((s100, s101) : Int × Int) (() : Unit) => []) (fun ((s100, s101) : Int × Int) (() : Unit) => True) trivial [] mixed17 (askG [9, 10, 11] false)
            (by kernel_rfl) (by kernel_rfl) (by kernel_rfl) (by kernel_rfl) (by kernel_rfl) (fun _ _ => rfl) ?_
          rintro X1 ⟨s100, s101⟩ ⟨⟩ - h
          dsimp only [f5_L1] at h
          refine H_split (decide (s101 < (p1.length : Int))) (by kernel_rfl) (fun hc => ?_) (fun hc => ?_)
          · replace h := h.t hc; clear hc
            obtain ⟨x15, hx16, h⟩ := h
            refine H_ask _ _ (by kernel_rfl) (ask_idx (P := Tryd.prog) (M := []) (t := 22) (et := 3) (k := .i64) (lv := lvI64) okI64 leI64 (by kernel_rfl) (by kernel_rfl) hx16) ?_
            refine H_askK (.pd (.int .i64 x15)) ([]) (by kernel_rfl) ?_
            exact H_againP (st := _) ((IntKind.i64.wrap (s100 + x15)), (IntKind.i64.wrap (s101 + 1))) () h trivial (by kernel_rfl) (by kernel_rfl) (by kernel_rfl) (by kernel_rfl) (by kernel_rfl)
          · replace h := h.f hc; clear hc
            refine H_leaveP (.exit 0) (by kernel_rfl) rfl ?_
            refine H_split (decide ((IntKind.i64.wrap (x9 * p0)) ≥ s100)) (by kernel_rfl) (fun hc => ?_) (fun hc => ?_)
            · replace h := h.t hc; clear hc
              refine H_split (decide ((IntKind.i64.wrap ((IntKind.i64.wrap (x9 - 1)) * p0)) < s100)) (by kernel_rfl) (fun hc => ?_) (fun hc => ?_)
              · replace h := h.t hc; clear hc
                refine H_split (decide (x9 ≤ x13)) (by kernel_rfl) (fun hc => ?_) (fun hc => ?_)
                · replace h := h.t hc; clear hc
                  refine H_split (decide (x13 ≤ (x11.length : Int))) (by kernel_rfl) (fun hc => ?_) (fun hc => ?_)
                  · replace h := h.t hc; clear hc
                    refine H_split (decide ((x11.length : Int) < (IntKind.i64.wrap ((IntKind.i64.wrap (2 * x9)) + 1)))) (by kernel_rfl) (fun hc => ?_) (fun hc => ?_)
                    · replace h := h.t hc; clear hc
                      obtain ⟨x17, hx18, h⟩ := h
                      refine H_valW (g := 7) (args := []) (M := []) (.pd (.bool x17)) (.inl (by kernel_rfl)) (by kernel_rfl) (f7_ok  hx18) (by kernel_rfl) (has17 7 (by kernel_rfl)) ?_
                      cases x17
                      · replace h := h.f rfl
                        exact H_end .ret (.pd (.bool false)) (by kernel_rfl) rfl (by kernel_rfl) (by subst h; rfl)
                      · replace h := h.t rfl
                        exact H_end .ret (.pd (.bool true)) (by kernel_rfl) rfl (by kernel_rfl) (by subst h; rfl)
                    · replace h := h.f hc; clear hc
                      exact H_end .ret (.pd (.bool false)) (by kernel_rfl) rfl (by kernel_rfl) (by subst h; rfl)
                  · replace h := h.f hc; clear hc
                    exact H_end .ret (.pd (.bool false)) (by kernel_rfl) rfl (by kernel_rfl) (by subst h; rfl)
                · replace h := h.f hc; clear hc
                  exact H_end .ret (.pd (.bool false)) (by kernel_rfl) rfl (by kernel_rfl) (by subst h; rfl)
              · replace h := h.f hc; clear hc
                exact H_end .ret (.pd (.bool false)) (by kernel_rfl) rfl (by kernel_rfl) (by subst h; rfl)
            · replace h := h.f hc; clear hc
              exact H_end .ret (.pd (.bool false)) (by kernel_rfl) rfl (by kernel_rfl) (by subst h; rfl)

end Go.Abs
