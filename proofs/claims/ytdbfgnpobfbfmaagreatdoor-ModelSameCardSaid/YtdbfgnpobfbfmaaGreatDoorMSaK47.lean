/- Part of a proof, in few files: G13pW. -/
import Derived.Test.YtdbfgnpobfbfmaaGreatDoorMSaK30
import Derived.Test.YtdbfgnpobfbfmaaGreatDoorMSaK33
import Derived.Test.YtdbfgnpobfbfmaaGreatDoorMSaK38
import Derived.Test.YtdbfgnpobfbfmaaGreatDoorMSaK46
import Derived.Test.YtdbfgnpobfbfmaaGreatDoorMSaK40

section
/- Printed by gen.py: the functions do what these conditions say. -/
namespace Go.Abs
open Go.Proofs
set_option maxHeartbeats 4000000
set_option maxRecDepth 20000
set_option linter.unusedVariables false
set_option linter.unusedSimpArgs false
set_option linter.unnecessarySimpa false

def lvABLU32LU32Z (x : Bool × (List Int) × (List Int)) : List PD := [.bool x.1, .sl (x.2.1.map elU32), .sl (x.2.2.map elU32)]
def elABLU32LU32Z (x : Bool × (List Int) × (List Int)) : PD := .agg [.bool x.1, .sl (x.2.1.map elU32), .sl (x.2.2.map elU32)]
theorem okABLU32LU32Z : LVok lvABLU32LU32Z 3 := fun _ => ⟨rfl, rfl⟩
theorem leABLU32LU32Z : ELok elABLU32LU32Z lvABLU32LU32Z := fun _ => rfl
theorem lgABLU32LU32Z : ELg elABLU32LU32Z lvABLU32LU32Z 3 := fun _ => rfl

theorem offcutlaw05_Few_ok (m : Tp) (p0 : List (Bool × (List Int) × (List Int))) {r : Bool} (h : offcutlaw05_Few p0 r) : ASpec Tryz.prog (gtT m) 22 [.pd (.sl (p0.map elABLU32LU32Z))] (· = .pd (.bool r)) := by
  refine ASpec_tree Tryz.f22 mixedT (askG [9, 10, 11] false) (by kernel_rfl) ?_
  unfold offcutlaw05_Few at h
  refine H_loopP (F := offcutlaw05_Few_L1 p0 r) (s0 := (0 : Int)) h () 34 0
    (fun (s100 : Int) (() : Unit) => [(0, .pd (.sl (p0.map elABLU32LU32Z))), (3, .pd (.int .i64 s100))])
    (fun (s100 : Int) (() : Unit) => []) (fun (s100 : Int) (() : Unit) => True) trivial [] mixedT (askG [9, 10, 11] false)
    (by kernel_rfl) (by kernel_rfl) (by kernel_rfl) (by kernel_rfl) (by kernel_rfl) (fun _ _ => rfl) ?_
  rintro X1 s100 ⟨⟩ - h
  dsimp only [offcutlaw05_Few_L1] at h
  refine H_ask _ _ (by kernel_rfl) (ask_len (P := Tryz.prog) (M := []) (t := 23) (et := 44) (el := elABLU32LU32Z) (by kernel_rfl) (e := p0)) ?_
  refine H_split (decide (s100 < (p0.length : Int))) (by kernel_rfl) (fun hp1 => ?_) (fun hp1 => ?_)
  · replace h := h.t hp1
    refine H_split (decide (s100 ≤ (8 : Int))) (by kernel_rfl) (fun hp2 => ?_) (fun hp2 => ?_)
    · replace h := h.t hp2
      obtain ⟨x3, x4, x5, hx6, h⟩ := h
      refine H_ask _ _ (by kernel_rfl) (ask_idx (P := Tryz.prog) (M := []) (t := 23) (et := 44) (k := .i64) (lv := lvABLU32LU32Z) okABLU32LU32Z leABLU32LU32Z (by kernel_rfl) (by kernel_rfl) hx6) ?_
      refine H_askK (.rd [.bool x3, .sl (x4.map elU32), .sl (x5.map elU32)]) ([]) (by kernel_rfl) ?_
      refine H_askK (.rd [.sl (x4.map elU32), .sl (x5.map elU32)]) ([]) (by kernel_rfl) ?_
      refine H_askK (.pd (.sl (x4.map elU32))) ([]) (by kernel_rfl) ?_
      refine H_ask _ _ (by kernel_rfl) (ask_len (P := Tryz.prog) (M := []) (t := 40) (et := 179) (el := elU32) (by kernel_rfl) (e := x4)) ?_
      refine H_split (decide ((x4.length : Int) > (3 : Int))) (by kernel_rfl) (fun hp7 => ?_) (fun hp7 => ?_)
      · replace h := h.t hp7
        refine H_leaveP .ret (by kernel_rfl) rfl ?_
        exact H_end .ret (.pd (.bool false)) (by kernel_rfl) rfl (by kernel_rfl) (by subst h; rfl)
      · replace h := h.f hp7
        obtain ⟨x8, x9, x10, hx11, h⟩ := h
        refine H_ask _ _ (by kernel_rfl) (ask_idx (P := Tryz.prog) (M := []) (t := 23) (et := 44) (k := .i64) (lv := lvABLU32LU32Z) okABLU32LU32Z leABLU32LU32Z (by kernel_rfl) (by kernel_rfl) hx11) ?_
        refine H_askK (.rd [.sl (x10.map elU32)]) ([]) (by kernel_rfl) ?_
        refine H_askK (.pd (.sl (x10.map elU32))) ([]) (by kernel_rfl) ?_
        refine H_ask _ _ (by kernel_rfl) (ask_len (P := Tryz.prog) (M := []) (t := 40) (et := 179) (el := elU32) (by kernel_rfl) (e := x10)) ?_
        refine H_split (decide ((x10.length : Int) > (3 : Int))) (by kernel_rfl) (fun hp12 => ?_) (fun hp12 => ?_)
        · replace h := h.t hp12
          refine H_leaveP .ret (by kernel_rfl) rfl ?_
          exact H_end .ret (.pd (.bool false)) (by kernel_rfl) rfl (by kernel_rfl) (by subst h; rfl)
        · replace h := h.f hp12
          exact H_againP (st := _) (IntKind.i64.wrap (s100 + 1)) () h trivial (by kernel_rfl) (by kernel_rfl) (by kernel_rfl) (by kernel_rfl) (by kernel_rfl)
    · replace h := h.f hp2
      refine H_leaveP (.exit 0) (by kernel_rfl) rfl ?_
      refine H_ask _ _ (by kernel_rfl) (ask_len (P := Tryz.prog) (M := []) (t := 23) (et := 44) (el := elABLU32LU32Z) (by kernel_rfl) (e := p0)) ?_
      refine H_split (decide ((p0.length : Int) ≤ (8 : Int))) (by kernel_rfl) (fun hp13 => ?_) (fun hp13 => ?_)
      · replace h := h.t hp13
        exact H_end .ret (.pd (.bool true)) (by kernel_rfl) rfl (by kernel_rfl) (by subst h; rfl)
      · replace h := h.f hp13
        exact H_end .ret (.pd (.bool false)) (by kernel_rfl) rfl (by kernel_rfl) (by subst h; rfl)
  · replace h := h.f hp1
    refine H_leaveP (.exit 0) (by kernel_rfl) rfl ?_
    refine H_ask _ _ (by kernel_rfl) (ask_len (P := Tryz.prog) (M := []) (t := 23) (et := 44) (el := elABLU32LU32Z) (by kernel_rfl) (e := p0)) ?_
    refine H_split (decide ((p0.length : Int) ≤ (8 : Int))) (by kernel_rfl) (fun hp14 => ?_) (fun hp14 => ?_)
    · replace h := h.t hp14
      exact H_end .ret (.pd (.bool true)) (by kernel_rfl) rfl (by kernel_rfl) (by subst h; rfl)
    · replace h := h.f hp14
      exact H_end .ret (.pd (.bool false)) (by kernel_rfl) rfl (by kernel_rfl) (by subst h; rfl)

theorem vec_Same_1_ok (m : Tp) (p0 : Bool) (p1 : List Int) (p2 : List Int) (p3 : Bool) (p4 : List Int) (p5 : List Int) {r : Bool} (h : vec_Same_1 p0 p1 p2 p3 p4 p5 r) : ASpec Tryz.prog (gtT m) 77 [.agg [.pd (.bool p0), .pd (.sl (p1.map elU32)), .pd (.sl (p2.map elU32))], .agg [.pd (.bool p3), .pd (.sl (p4.map elU32)), .pd (.sl (p5.map elU32))]] (· = .pd (.bool r)) := by
  refine ASpec_tree Tryz.f77 mixedT (askG [9, 10, 11] false) (by kernel_rfl) ?_
  unfold vec_Same_1 at h
  refine H_askK (.ptr 0 0 0) ([.cells [.pd (.bool p0), .pd (.sl (p1.map elU32)), .pd (.sl (p2.map elU32))] 1 0 false]) (by kernel_rfl) ?_
  refine H_askK (.ptr 1 0 0) ([.cells [.pd (.bool p0), .pd (.sl (p1.map elU32)), .pd (.sl (p2.map elU32))] 1 0 false, .cells [.pd (.bool p3), .pd (.sl (p4.map elU32)), .pd (.sl (p5.map elU32))] 1 0 false]) (by kernel_rfl) ?_
  refine H_askK (.agg [.pd (.bool p0), .pd (.sl (p1.map elU32)), .pd (.sl (p2.map elU32))]) ([.cells [.pd (.bool p0), .pd (.sl (p1.map elU32)), .pd (.sl (p2.map elU32))] 1 0 false, .cells [.pd (.bool p3), .pd (.sl (p4.map elU32)), .pd (.sl (p5.map elU32))] 1 0 false]) (by kernel_rfl) ?_
  refine H_askK (.agg [.pd (.bool p3), .pd (.sl (p4.map elU32)), .pd (.sl (p5.map elU32))]) ([.cells [.pd (.bool p0), .pd (.sl (p1.map elU32)), .pd (.sl (p2.map elU32))] 1 0 false, .cells [.pd (.bool p3), .pd (.sl (p4.map elU32)), .pd (.sl (p5.map elU32))] 1 0 false]) (by kernel_rfl) ?_
  obtain ⟨x1, hx2, h⟩ := h
  refine H_valW (g := 20) (args := [.agg [.pd (.bool p0), .pd (.sl (p1.map elU32)), .pd (.sl (p2.map elU32))], .agg [.pd (.bool p3), .pd (.sl (p4.map elU32)), .pd (.sl (p5.map elU32))]]) (M := [.cells [.pd (.bool p0), .pd (.sl (p1.map elU32)), .pd (.sl (p2.map elU32))] 1 0 false, .cells [.pd (.bool p3), .pd (.sl (p4.map elU32)), .pd (.sl (p5.map elU32))] 1 0 false]) (.pd (.int .i64 x1)) (.inl (by kernel_rfl)) (by kernel_rfl) (rat_Compare_ok m _ _ _ _ _ _ hx2) (by kernel_rfl) (hasT 20 (by kernel_rfl)) ?_
  refine H_split (x1 == (0 : Int)) (by kernel_rfl) (fun hp3 => ?_) (fun hp3 => ?_)
  · replace h := h.t hp3
    exact H_end .ret (.pd (.bool true)) (by kernel_rfl) rfl (by kernel_rfl) (by subst h; rfl)
  · replace h := h.f hp3
    exact H_end .ret (.pd (.bool false)) (by kernel_rfl) rfl (by kernel_rfl) (by subst h; rfl)

theorem vec_Same_ok (m : Tp) (p0 : List (Bool × (List Int) × (List Int))) (p1 : List (Bool × (List Int) × (List Int))) {r : Bool} (h : vec_Same p0 p1 r) : ASpec Tryz.prog (gtT m) 34 [.pd (.sl (p0.map elABLU32LU32Z)), .pd (.sl (p1.map elABLU32LU32Z))] (· = .pd (.bool r)) := by
  refine ASpec_tree Tryz.f34 mixedT (askG [9, 10, 11] false) (by kernel_rfl) ?_
  unfold vec_Same at h
  refine H_inl (g := 76) (args := [.pd (.sl (p0.map elABLU32LU32Z)), .pd (.sl (p1.map elABLU32LU32Z)), .fn (.func 77) [] []]) (M := []) Tryz.f76 mixedT (askG [9, 10, 11] false) (by kernel_rfl) (by kernel_rfl) (hasT 76 (by kernel_rfl)) ?_
  refine H_ask _ _ (by kernel_rfl) (ask_len (P := Tryz.prog) (M := []) (t := 23) (et := 44) (el := elABLU32LU32Z) (by kernel_rfl) (e := p0)) ?_
  refine H_ask _ _ (by kernel_rfl) (ask_len (P := Tryz.prog) (M := []) (t := 23) (et := 44) (el := elABLU32LU32Z) (by kernel_rfl) (e := p1)) ?_
  refine H_split ((p0.length : Int) != (p1.length : Int)) (by kernel_rfl) (fun hp1 => ?_) (fun hp1 => ?_)
  · replace h := h.t hp1
    refine H_endM .ret (.pd (.bool false)) ([]) (by kernel_rfl) rfl (by kernel_rfl) (by kernel_rfl) (by kernel_rfl) ?_
    exact H_end .ret (.pd (.bool false)) (by kernel_rfl) rfl (by kernel_rfl) (by subst h; rfl)
  · replace h := h.f hp1
    refine H_ask _ _ (by kernel_rfl) (ask_len (P := Tryz.prog) (M := []) (t := 23) (et := 44) (el := elABLU32LU32Z) (by kernel_rfl) (e := p0)) ?_
    refine H_loopP (F := vec_Same_L1 p0 p1 r) (s0 := (0 : Int)) h () 32 0
      (fun (s100 : Int) (() : Unit) => [(1, .pd (.sl (p1.map elABLU32LU32Z))), (2, .fn (.func 77) [] []), (15, .pd (.sl (p0.map elABLU32LU32Z))), (16, .pd (.int .i64 (p0.length : Int))), (17, .pd (.int .i64 s100))])
      (fun (s100 : Int) (() : Unit) => []) (fun (s100 : Int) (() : Unit) => True) trivial [] mixedT (askG [9, 10, 11] false)
      (by kernel_rfl) (by kernel_rfl) (by kernel_rfl) (by kernel_rfl) (by kernel_rfl) (fun _ _ => rfl) ?_
    rintro X1 s100 ⟨⟩ - h
    dsimp only [vec_Same_L1] at h
    refine H_split (decide (s100 < (p0.length : Int))) (by kernel_rfl) (fun hp2 => ?_) (fun hp2 => ?_)
    · replace h := h.t hp2
      obtain ⟨x3, x4, x5, hx6, h⟩ := h
      refine H_ask _ _ (by kernel_rfl) (ask_idx (P := Tryz.prog) (M := []) (t := 23) (et := 44) (k := .i64) (lv := lvABLU32LU32Z) okABLU32LU32Z leABLU32LU32Z (by kernel_rfl) (by kernel_rfl) hx6) ?_
      refine H_askK (.agg [.pd (.bool x3), .pd (.sl (x4.map elU32)), .pd (.sl (x5.map elU32))]) ([]) (by kernel_rfl) ?_
      refine H_askK (.junk) ([.cells [.pd (.bool x3), .pd (.sl (x4.map elU32)), .pd (.sl (x5.map elU32))] 1 0 false]) (by kernel_rfl) ?_
      obtain ⟨x7, x8, x9, hx10, h⟩ := h
      refine H_ask _ _ (by kernel_rfl) (ask_idx (P := Tryz.prog) (M := [.cells [.pd (.bool x3), .pd (.sl (x4.map elU32)), .pd (.sl (x5.map elU32))] 1 0 false]) (t := 23) (et := 44) (k := .i64) (lv := lvABLU32LU32Z) okABLU32LU32Z leABLU32LU32Z (by kernel_rfl) (by kernel_rfl) hx10) ?_
      refine H_askK (.agg [.pd (.bool x7), .pd (.sl (x8.map elU32)), .pd (.sl (x9.map elU32))]) ([.cells [.pd (.bool x3), .pd (.sl (x4.map elU32)), .pd (.sl (x5.map elU32))] 1 0 false]) (by kernel_rfl) ?_
      refine H_askK (.junk) ([.cells [.pd (.bool x3), .pd (.sl (x4.map elU32)), .pd (.sl (x5.map elU32))] 1 0 false, .cells [.pd (.bool x7), .pd (.sl (x8.map elU32)), .pd (.sl (x9.map elU32))] 1 0 false]) (by kernel_rfl) ?_
      refine H_askK (.agg [.pd (.bool x3), .pd (.sl (x4.map elU32)), .pd (.sl (x5.map elU32))]) ([.cells [.pd (.bool x3), .pd (.sl (x4.map elU32)), .pd (.sl (x5.map elU32))] 1 0 false, .cells [.pd (.bool x7), .pd (.sl (x8.map elU32)), .pd (.sl (x9.map elU32))] 1 0 false]) (by kernel_rfl) ?_
      refine H_askK (.agg [.pd (.bool x7), .pd (.sl (x8.map elU32)), .pd (.sl (x9.map elU32))]) ([.cells [.pd (.bool x3), .pd (.sl (x4.map elU32)), .pd (.sl (x5.map elU32))] 1 0 false, .cells [.pd (.bool x7), .pd (.sl (x8.map elU32)), .pd (.sl (x9.map elU32))] 1 0 false]) (by kernel_rfl) ?_
      obtain ⟨x11, hx12, h⟩ := h
      refine H_valW (g := 77) (args := [.agg [.pd (.bool x3), .pd (.sl (x4.map elU32)), .pd (.sl (x5.map elU32))], .agg [.pd (.bool x7), .pd (.sl (x8.map elU32)), .pd (.sl (x9.map elU32))]]) (M := [.cells [.pd (.bool x3), .pd (.sl (x4.map elU32)), .pd (.sl (x5.map elU32))] 1 0 false, .cells [.pd (.bool x7), .pd (.sl (x8.map elU32)), .pd (.sl (x9.map elU32))] 1 0 false]) (.pd (.bool x11)) (.inl (by kernel_rfl)) (by kernel_rfl) (vec_Same_1_ok m _ _ _ _ _ _ hx12) (by kernel_rfl) (hasT 77 (by kernel_rfl)) ?_
      cases x11
      · replace h := h.f rfl
        refine H_leaveP .ret (by kernel_rfl) rfl ?_
        refine H_endM .ret (.pd (.bool false)) ([.cells [.pd (.bool x3), .pd (.sl (x4.map elU32)), .pd (.sl (x5.map elU32))] 1 0 false, .cells [.pd (.bool x7), .pd (.sl (x8.map elU32)), .pd (.sl (x9.map elU32))] 1 0 false]) (by kernel_rfl) rfl (by kernel_rfl) (by kernel_rfl) (by kernel_rfl) ?_
        exact H_end .ret (.pd (.bool false)) (by kernel_rfl) rfl (by kernel_rfl) (by subst h; rfl)
      · replace h := h.t rfl
        exact H_againC (st := _) (IntKind.i64.wrap (s100 + 1)) () h trivial (by kernel_rfl) (by kernel_rfl) (by kernel_rfl) (by kernel_rfl) (by kernel_rfl) (by kernel_rfl) all_n (by kernel_rfl) (by kernel_rfl)
    · replace h := h.f hp2
      refine H_leaveP (.exit 0) (by kernel_rfl) rfl ?_
      refine H_endM .ret (.pd (.bool true)) ([]) (by kernel_rfl) rfl (by kernel_rfl) (by kernel_rfl) (by kernel_rfl) ?_
      exact H_end .ret (.pd (.bool true)) (by kernel_rfl) rfl (by kernel_rfl) (by subst h; rfl)

end Go.Abs
end
