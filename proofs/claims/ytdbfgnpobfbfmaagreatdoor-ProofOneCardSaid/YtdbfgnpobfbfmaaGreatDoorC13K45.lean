/- Part of a proof, in few files: G13cW. -/
import Derived.Test.YtdbfgnpobfbfmaaGreatDoorC13K30
import Derived.Test.YtdbfgnpobfbfmaaGreatDoorC13K31
import Derived.Test.YtdbfgnpobfbfmaaGreatDoorC13K44

section
/- Printed by gen.py: the functions do what these conditions say. -/
namespace Go.Abs
open Go.Proofs
set_option maxHeartbeats 4000000
set_option maxRecDepth 20000
set_option linter.unusedVariables false
set_option linter.unusedSimpArgs false
set_option linter.unnecessarySimpa false

def lvLABLU32LU32Z (x : List (Bool × (List Int) × (List Int))) : List PD := [.sl (x.map elABLU32LU32Z)]
def elLABLU32LU32Z (x : List (Bool × (List Int) × (List Int))) : PD := .sl (x.map elABLU32LU32Z)
theorem okLABLU32LU32Z : LVok lvLABLU32LU32Z 1 := fun _ => ⟨rfl, rfl⟩
theorem leLABLU32LU32Z : ELok elLABLU32LU32Z lvLABLU32LU32Z := fun _ => rfl
def lvI64 (x : Int) : List PD := [.int .i64 x]
def elI64 (x : Int) : PD := .int .i64 x
theorem okI64 : LVok lvI64 1 := fun _ => ⟨rfl, rfl⟩
theorem leI64 : ELok elI64 lvI64 := fun _ => rfl
theorem lgI64 : ELg elI64 lvI64 1 := fun _ => rfl

theorem offcutlaw06_Few_ok (m : Tp) (p0 : List (List (Bool × (List Int) × (List Int)))) {r : Bool} (h : offcutlaw06_Few p0 r) : ASpec Tryz.prog (gtT m) 42 [.pd (.sl (p0.map elLABLU32LU32Z))] (· = .pd (.bool r)) := by
  refine ASpec_tree Tryz.f42 mixedT (askG [9, 10, 11] false) (by kernel_rfl) ?_
  unfold offcutlaw06_Few at h
  refine H_loopP (F := offcutlaw06_Few_L1 p0 r) (s0 := (0 : Int)) h () 23 0
    (fun (s100 : Int) (() : Unit) => [(0, .pd (.sl (p0.map elLABLU32LU32Z))), (3, .pd (.int .i64 s100))])
    (fun (s100 : Int) (() : Unit) => []) (fun (s100 : Int) (() : Unit) => True) trivial [] mixedT (askG [9, 10, 11] false)
    (by kernel_rfl) (by kernel_rfl) (by kernel_rfl) (by kernel_rfl) (by kernel_rfl) (fun _ _ => rfl) ?_
  rintro X1 s100 ⟨⟩ - h
  dsimp only [offcutlaw06_Few_L1] at h
  refine H_ask _ _ (by kernel_rfl) (ask_len (P := Tryz.prog) (M := []) (t := 22) (et := 23) (el := elLABLU32LU32Z) (by kernel_rfl) (e := p0)) ?_
  refine H_split (decide (s100 < (p0.length : Int))) (by kernel_rfl) (fun hp1 => ?_) (fun hp1 => ?_)
  · replace h := h.t hp1
    refine H_split (decide (s100 ≤ (4 : Int))) (by kernel_rfl) (fun hp2 => ?_) (fun hp2 => ?_)
    · replace h := h.t hp2
      obtain ⟨x3, hx4, h⟩ := h
      refine H_ask _ _ (by kernel_rfl) (ask_idx (P := Tryz.prog) (M := []) (t := 22) (et := 23) (k := .i64) (lv := lvLABLU32LU32Z) okLABLU32LU32Z leLABLU32LU32Z (by kernel_rfl) (by kernel_rfl) hx4) ?_
      refine H_askK (.pd (.sl (x3.map elABLU32LU32Z))) ([]) (by kernel_rfl) ?_
      obtain ⟨x5, hx6, h⟩ := h
      refine H_valW (g := 22) (args := [.pd (.sl (x3.map elABLU32LU32Z))]) (M := []) (.pd (.bool x5)) (.inl (by kernel_rfl)) (by kernel_rfl) (offcutlaw05_Few_ok m _ hx6) (by kernel_rfl) (hasT 22 (by kernel_rfl)) ?_
      cases x5
      · replace h := h.f rfl
        refine H_leaveP .ret (by kernel_rfl) rfl ?_
        exact H_end .ret (.pd (.bool false)) (by kernel_rfl) rfl (by kernel_rfl) (by subst h; rfl)
      · replace h := h.t rfl
        exact H_againP (st := _) (IntKind.i64.wrap (s100 + 1)) () h trivial (by kernel_rfl) (by kernel_rfl) (by kernel_rfl) (by kernel_rfl) (by kernel_rfl)
    · replace h := h.f hp2
      refine H_leaveP (.exit 0) (by kernel_rfl) rfl ?_
      refine H_ask _ _ (by kernel_rfl) (ask_len (P := Tryz.prog) (M := []) (t := 22) (et := 23) (el := elLABLU32LU32Z) (by kernel_rfl) (e := p0)) ?_
      refine H_split (decide ((p0.length : Int) ≤ (4 : Int))) (by kernel_rfl) (fun hp7 => ?_) (fun hp7 => ?_)
      · replace h := h.t hp7
        exact H_end .ret (.pd (.bool true)) (by kernel_rfl) rfl (by kernel_rfl) (by subst h; rfl)
      · replace h := h.f hp7
        exact H_end .ret (.pd (.bool false)) (by kernel_rfl) rfl (by kernel_rfl) (by subst h; rfl)
  · replace h := h.f hp1
    refine H_leaveP (.exit 0) (by kernel_rfl) rfl ?_
    refine H_ask _ _ (by kernel_rfl) (ask_len (P := Tryz.prog) (M := []) (t := 22) (et := 23) (el := elLABLU32LU32Z) (by kernel_rfl) (e := p0)) ?_
    refine H_split (decide ((p0.length : Int) ≤ (4 : Int))) (by kernel_rfl) (fun hp8 => ?_) (fun hp8 => ?_)
    · replace h := h.t hp8
      exact H_end .ret (.pd (.bool true)) (by kernel_rfl) rfl (by kernel_rfl) (by subst h; rfl)
    · replace h := h.f hp8
      exact H_end .ret (.pd (.bool false)) (by kernel_rfl) rfl (by kernel_rfl) (by subst h; rfl)

theorem offcutlaw11_Few_ok (m : Tp) (p0 : List (List (Bool × (List Int) × (List Int)))) (p1 : List (Bool × (List Int) × (List Int))) (p2 : List (Bool × (List Int) × (List Int))) {r : Bool} (h : offcutlaw11_Few p0 p1 p2 r) : ASpec Tryz.prog (gtT m) 12 [.agg [.pd (.sl (p0.map elLABLU32LU32Z)), .pd (.sl (p1.map elABLU32LU32Z)), .pd (.sl (p2.map elABLU32LU32Z))]] (· = .pd (.bool r)) := by
  refine ASpec_tree Tryz.f12 mixedT (askG [9, 10, 11] false) (by kernel_rfl) ?_
  unfold offcutlaw11_Few at h
  refine H_askK (.ptr 0 0 0) ([.cells [.pd (.sl (p0.map elLABLU32LU32Z)), .pd (.sl (p1.map elABLU32LU32Z)), .pd (.sl (p2.map elABLU32LU32Z))] 1 0 false]) (by kernel_rfl) ?_
  refine H_askK (.ptr 0 0 0) ([.cells [.pd (.sl (p0.map elLABLU32LU32Z)), .pd (.sl (p1.map elABLU32LU32Z)), .pd (.sl (p2.map elABLU32LU32Z))] 1 0 false]) (by kernel_rfl) ?_
  refine H_askK (.pd (.sl (p0.map elLABLU32LU32Z))) ([.cells [.pd (.sl (p0.map elLABLU32LU32Z)), .pd (.sl (p1.map elABLU32LU32Z)), .pd (.sl (p2.map elABLU32LU32Z))] 1 0 false]) (by kernel_rfl) ?_
  obtain ⟨x1, hx2, h⟩ := h
  refine H_valW (g := 42) (args := [.pd (.sl (p0.map elLABLU32LU32Z))]) (M := [.cells [.pd (.sl (p0.map elLABLU32LU32Z)), .pd (.sl (p1.map elABLU32LU32Z)), .pd (.sl (p2.map elABLU32LU32Z))] 1 0 false]) (.pd (.bool x1)) (.inl (by kernel_rfl)) (by kernel_rfl) (offcutlaw06_Few_ok m _ hx2) (by kernel_rfl) (hasT 42 (by kernel_rfl)) ?_
  cases x1
  · replace h := h.f rfl
    exact H_end .ret (.pd (.bool false)) (by kernel_rfl) rfl (by kernel_rfl) (by subst h; rfl)
  · replace h := h.t rfl
    refine H_askK (.ptr 0 1 0) ([.cells [.pd (.sl (p0.map elLABLU32LU32Z)), .pd (.sl (p1.map elABLU32LU32Z)), .pd (.sl (p2.map elABLU32LU32Z))] 1 0 false]) (by kernel_rfl) ?_
    refine H_askK (.pd (.sl (p1.map elABLU32LU32Z))) ([.cells [.pd (.sl (p0.map elLABLU32LU32Z)), .pd (.sl (p1.map elABLU32LU32Z)), .pd (.sl (p2.map elABLU32LU32Z))] 1 0 false]) (by kernel_rfl) ?_
    obtain ⟨x3, hx4, h⟩ := h
    refine H_valW (g := 22) (args := [.pd (.sl (p1.map elABLU32LU32Z))]) (M := [.cells [.pd (.sl (p0.map elLABLU32LU32Z)), .pd (.sl (p1.map elABLU32LU32Z)), .pd (.sl (p2.map elABLU32LU32Z))] 1 0 false]) (.pd (.bool x3)) (.inl (by kernel_rfl)) (by kernel_rfl) (offcutlaw05_Few_ok m _ hx4) (by kernel_rfl) (hasT 22 (by kernel_rfl)) ?_
    cases x3
    · replace h := h.f rfl
      exact H_end .ret (.pd (.bool false)) (by kernel_rfl) rfl (by kernel_rfl) (by subst h; rfl)
    · replace h := h.t rfl
      refine H_askK (.ptr 0 2 0) ([.cells [.pd (.sl (p0.map elLABLU32LU32Z)), .pd (.sl (p1.map elABLU32LU32Z)), .pd (.sl (p2.map elABLU32LU32Z))] 1 0 false]) (by kernel_rfl) ?_
      refine H_askK (.pd (.sl (p2.map elABLU32LU32Z))) ([.cells [.pd (.sl (p0.map elLABLU32LU32Z)), .pd (.sl (p1.map elABLU32LU32Z)), .pd (.sl (p2.map elABLU32LU32Z))] 1 0 false]) (by kernel_rfl) ?_
      obtain ⟨x5, hx6, h⟩ := h
      refine H_valW (g := 22) (args := [.pd (.sl (p2.map elABLU32LU32Z))]) (M := [.cells [.pd (.sl (p0.map elLABLU32LU32Z)), .pd (.sl (p1.map elABLU32LU32Z)), .pd (.sl (p2.map elABLU32LU32Z))] 1 0 false]) (.pd (.bool x5)) (.inl (by kernel_rfl)) (by kernel_rfl) (offcutlaw05_Few_ok m _ hx6) (by kernel_rfl) (hasT 22 (by kernel_rfl)) ?_
      cases x5
      · replace h := h.f rfl
        exact H_end .ret (.pd (.bool false)) (by kernel_rfl) rfl (by kernel_rfl) (by subst h; rfl)
      · replace h := h.t rfl
        exact H_end .ret (.pd (.bool true)) (by kernel_rfl) rfl (by kernel_rfl) (by subst h; rfl)

theorem shape_Right_ok (m : Tp) (p0 : List (List (Bool × (List Int) × (List Int)))) (p1 : List (Bool × (List Int) × (List Int))) (p2 : List (Bool × (List Int) × (List Int))) {r : Bool} (h : shape_Right p0 p1 p2 r) : ASpec Tryz.prog (gtT m) 18 [.agg [.pd (.sl (p0.map elLABLU32LU32Z)), .pd (.sl (p1.map elABLU32LU32Z)), .pd (.sl (p2.map elABLU32LU32Z))]] (· = .pd (.bool r)) := by
  refine ASpec_tree Tryz.f18 mixedT (askG [9, 10, 11] false) (by kernel_rfl) ?_
  unfold shape_Right at h
  let o1 : Ob := .cells [.pd (.sl (p0.map elLABLU32LU32Z)), .pd (.sl (p1.map elABLU32LU32Z)), .pd (.sl (p2.map elABLU32LU32Z))] 1 0 false
  refine H_askK (.ptr 0 0 0) ([o1]) (by kernel_rfl) ?_
  refine H_askK (.ptr 0 2 0) ([o1]) (by kernel_rfl) ?_
  refine H_askK (.pd (.sl (p2.map elABLU32LU32Z))) ([o1]) (by kernel_rfl) ?_
  refine H_ask _ _ (by kernel_rfl) (ask_len (P := Tryz.prog) (M := [o1]) (t := 23) (et := 44) (el := elABLU32LU32Z) (by kernel_rfl) (e := p2)) ?_
  refine H_split (decide ((p2.length : Int) ≤ (5000 : Int))) (by kernel_rfl) (fun hp1 => ?_) (fun hp1 => ?_)
  · replace h := h.t hp1
    refine H_askK (.ptr 0 0 0) ([o1]) (by kernel_rfl) ?_
    refine H_askK (.pd (.sl (p0.map elLABLU32LU32Z))) ([o1]) (by kernel_rfl) ?_
    refine H_ask _ _ (by kernel_rfl) (ask_len (P := Tryz.prog) (M := [o1]) (t := 22) (et := 23) (el := elLABLU32LU32Z) (by kernel_rfl) (e := p0)) ?_
    refine H_split (decide ((p0.length : Int) ≤ (90 : Int))) (by kernel_rfl) (fun hp2 => ?_) (fun hp2 => ?_)
    · replace h := h.t hp2
      refine H_askK (.ptr 0 1 0) ([o1]) (by kernel_rfl) ?_
      refine H_askK (.pd (.sl (p1.map elABLU32LU32Z))) ([o1]) (by kernel_rfl) ?_
      refine H_ask _ _ (by kernel_rfl) (ask_len (P := Tryz.prog) (M := [o1]) (t := 23) (et := 44) (el := elABLU32LU32Z) (by kernel_rfl) (e := p1)) ?_
      refine H_askK (.ptr 0 0 0) ([o1]) (by kernel_rfl) ?_
      refine H_askK (.pd (.sl (p0.map elLABLU32LU32Z))) ([o1]) (by kernel_rfl) ?_
      refine H_ask _ _ (by kernel_rfl) (ask_len (P := Tryz.prog) (M := [o1]) (t := 22) (et := 23) (el := elLABLU32LU32Z) (by kernel_rfl) (e := p0)) ?_
      refine H_split ((p1.length : Int) == (p0.length : Int)) (by kernel_rfl) (fun hp3 => ?_) (fun hp3 => ?_)
      · replace h := h.t hp3
        refine H_askK (.ptr 0 0 0) ([o1]) (by kernel_rfl) ?_
        refine H_askK (.pd (.sl (p0.map elLABLU32LU32Z))) ([o1]) (by kernel_rfl) ?_
        refine H_inl (g := 47) (args := [.pd (.sl (p0.map elLABLU32LU32Z)), .fn (.func 46) [] [.ptr 0 0 0]]) (M := [o1]) Tryz.f47 mixedT (askG [9, 10, 11] false) (by kernel_rfl) (by kernel_rfl) (hasT 47 (by kernel_rfl)) ?_
        refine H_inl (g := 96) (args := [.pd (.sl (p0.map elLABLU32LU32Z)), .fn (.func 46) [] [.ptr 0 0 0]]) (M := [o1]) Tryz.f96 mixedT (askG [9, 10, 11] false) (by kernel_rfl) (by kernel_rfl) (hasT 96 (by kernel_rfl)) ?_
        refine H_ask _ _ (by kernel_rfl) (ask_len (P := Tryz.prog) (M := [o1]) (t := 22) (et := 23) (el := elLABLU32LU32Z) (by kernel_rfl) (e := p0)) ?_
        refine H_loopP (F := shape_Right_L1 p0 p2 r) (s0 := (0 : Int)) h () 19 1
          (fun (s100 : Int) (() : Unit) => [(0, .pd (.sl (p0.map elLABLU32LU32Z))), (1, .fn (.func 46) [] [.ptr 0 0 0]), (7, .pd (.int .i64 (p0.length : Int))), (8, .pd (.int .i64 s100))])
          (fun (s100 : Int) (() : Unit) => [.cells [.pd (.sl (p0.map elLABLU32LU32Z)), .pd (.sl (p1.map elABLU32LU32Z)), .pd (.sl (p2.map elABLU32LU32Z))] 1 0 false]) (fun (s100 : Int) (() : Unit) => True) trivial [] mixedT (askG [9, 10, 11] false)
          (by kernel_rfl) (by kernel_rfl) (by kernel_rfl) (by kernel_rfl) (by kernel_rfl) (fun _ _ => rfl) ?_
        rintro X1 s100 ⟨⟩ - h
        dsimp only [shape_Right_L1] at h
        refine H_split (decide (s100 < (p0.length : Int))) (by kernel_rfl) (fun hp4 => ?_) (fun hp4 => ?_)
        · replace h := h.t hp4
          obtain ⟨x5, hx6, h⟩ := h
          refine H_ask _ _ (by kernel_rfl) (ask_idx (P := Tryz.prog) (M := [o1]) (t := 22) (et := 23) (k := .i64) (lv := lvLABLU32LU32Z) okLABLU32LU32Z leLABLU32LU32Z (by kernel_rfl) (by kernel_rfl) hx6) ?_
          refine H_askK (.pd (.sl (x5.map elABLU32LU32Z))) ([o1]) (by kernel_rfl) ?_
          refine H_inl (g := 46) (args := [.pd (.sl (x5.map elABLU32LU32Z)), .ptr 0 0 0]) (M := [o1]) Tryz.f46 mixedT (askG [9, 10, 11] false) (by kernel_rfl) (by kernel_rfl) (hasT 46 (by kernel_rfl)) ?_
          refine H_ask _ _ (by kernel_rfl) (ask_len (P := Tryz.prog) (M := [o1]) (t := 23) (et := 44) (el := elABLU32LU32Z) (by kernel_rfl) (e := x5)) ?_
          refine H_askK (.ptr 0 2 0) ([o1]) (by kernel_rfl) ?_
          refine H_askK (.pd (.sl (p2.map elABLU32LU32Z))) ([o1]) (by kernel_rfl) ?_
          refine H_ask _ _ (by kernel_rfl) (ask_len (P := Tryz.prog) (M := [o1]) (t := 23) (et := 44) (el := elABLU32LU32Z) (by kernel_rfl) (e := p2)) ?_
          refine H_split ((x5.length : Int) != (p2.length : Int)) (by kernel_rfl) (fun hp7 => ?_) (fun hp7 => ?_)
          · replace h := h.t hp7
            refine H_endM .ret (.pd (.bool true)) ([o1]) (by kernel_rfl) rfl (by kernel_rfl) (by kernel_rfl) (by kernel_rfl) ?_
            refine H_leaveP .ret (by kernel_rfl) rfl ?_
            refine H_endM .ret (.pd (.int .i64 s100)) ([o1]) (by kernel_rfl) rfl (by kernel_rfl) (by kernel_rfl) (by kernel_rfl) ?_
            refine H_split (decide (s100 ≥ (0 : Int))) (by kernel_rfl) (fun hp8 => ?_) (fun hp8 => ?_)
            · replace h := h.t hp8
              refine H_endM .ret (.pd (.bool true)) ([o1]) (by kernel_rfl) rfl (by kernel_rfl) (by kernel_rfl) (by kernel_rfl) ?_
              exact H_end .ret (.pd (.bool false)) (by kernel_rfl) rfl (by kernel_rfl) (by subst h; rfl)
            replace h := h.f hp8
            refine H_endM .ret (.pd (.bool false)) ([o1]) (by kernel_rfl) rfl (by kernel_rfl) (by kernel_rfl) (by kernel_rfl) ?_
            exact H_end .ret (.pd (.bool true)) (by kernel_rfl) rfl (by kernel_rfl) (by subst h; rfl)
          replace h := h.f hp7
          refine H_endM .ret (.pd (.bool false)) ([o1]) (by kernel_rfl) rfl (by kernel_rfl) (by kernel_rfl) (by kernel_rfl) ?_
          exact H_againP (st := _) (IntKind.i64.wrap (s100 + 1)) () h trivial (by kernel_rfl) (by kernel_rfl) (by kernel_rfl) (by kernel_rfl) (by kernel_rfl)
        replace h := h.f hp4
        refine H_leaveP (.exit 0) (by kernel_rfl) rfl ?_
        refine H_endM .ret (.pd (.int .i64 (-1))) ([o1]) (by kernel_rfl) rfl (by kernel_rfl) (by kernel_rfl) (by kernel_rfl) ?_
        refine H_split false (by kernel_rfl) (fun hc => by cases hc) (fun _ => ?_)
        refine H_endM .ret (.pd (.bool false)) ([o1]) (by kernel_rfl) rfl (by kernel_rfl) (by kernel_rfl) (by kernel_rfl) ?_
        exact H_end .ret (.pd (.bool true)) (by kernel_rfl) rfl (by kernel_rfl) (by subst h; rfl)
      replace h := h.f hp3
      exact H_end .ret (.pd (.bool false)) (by kernel_rfl) rfl (by kernel_rfl) (by subst h; rfl)
    replace h := h.f hp2
    exact H_end .ret (.pd (.bool false)) (by kernel_rfl) rfl (by kernel_rfl) (by subst h; rfl)
  replace h := h.f hp1
  exact H_end .ret (.pd (.bool false)) (by kernel_rfl) rfl (by kernel_rfl) (by subst h; rfl)

theorem vec_Dot_ok (m : Tp) (p0 : List (Bool × (List Int) × (List Int))) (p1 : List (Bool × (List Int) × (List Int))) {r : Bool × (List Int) × (List Int)} (h : vec_Dot p0 p1 r) : ASpec Tryz.prog (gtT m) 21 [.pd (.sl (p0.map elABLU32LU32Z)), .pd (.sl (p1.map elABLU32LU32Z))] (· = .agg [.pd (.bool r.1), .pd (.sl (r.2.1.map elU32)), .pd (.sl (r.2.2.map elU32))]) := by
  refine ASpec_tree Tryz.f21 mixedT (askG [9, 10, 11] false) (by kernel_rfl) ?_
  unfold vec_Dot at h
  obtain ⟨x1, x2, x3, hx4, h⟩ := h
  let o1 : Ob := .cells [.pd (.bool false), .fixed (([] : List Int).map elU32), .fixed (([] : List Int).map elU32)] 1 0 false
  refine H_valW (g := 49) (args := [.pd (.int .i64 0)]) (M := [o1]) (.agg [.pd (.bool x1), .pd (.sl (x2.map elU32)), .pd (.sl (x3.map elU32))]) (.inl (by kernel_rfl)) (by kernel_rfl) (rat_Int_ok m _ hx4) (by kernel_rfl) (hasT 49 (by kernel_rfl)) ?_
  let o2 : Ob := .cells [.pd (.bool x1), .pd (.sl (x2.map elU32)), .pd (.sl (x3.map elU32))] 1 0 false
  refine H_askK (.junk) ([o1, o2]) (by kernel_rfl) ?_
  refine H_inl (g := 56) (args := [.pd (.sl (p0.map elABLU32LU32Z)), .pd (.sl (p1.map elABLU32LU32Z))]) (M := [o1, o2]) Tryz.f56 mixedT (askG [9, 10, 11] false) (by kernel_rfl) (by kernel_rfl) (hasT 56 (by kernel_rfl)) ?_
  let o3 : Ob := .cells [.pd (.sl (p0.map elABLU32LU32Z))] 1 0 false
  refine H_askK (.ptr 2 0 0) ([o1, o2, o3]) (by kernel_rfl) ?_
  let o4 : Ob := .cells [.pd (.sl (p1.map elABLU32LU32Z))] 1 0 false
  refine H_askK (.ptr 3 0 0) ([o1, o2, o3, o4]) (by kernel_rfl) ?_
  refine H_endM .ret (.fn (.func 104) [] [.ptr 2 0 0, .ptr 3 0 0]) ([o1, o2, o3, o4]) (by kernel_rfl) rfl (by kernel_rfl) (by kernel_rfl) (by kernel_rfl) ?_
  refine H_gen fun w1 hw1 => ?_
  let o5 : Ob := .loop .ready none w1.stS.T w1.rps w1.rasg w1.rbo 4
  let m6 : Mem := [o1, o2, o3, o4, .defers false, o5]
  refine H_range (gf := 104) (l1 := []) (l2 := [.ptr 2 0 0, .ptr 3 0 0]) (m6) 5 (by subst hw1; kernel_rfl) (by subst hw1; kernel_rfl) (hasT 104 (by kernel_rfl)) (by subst hw1; kernel_rfl) (by subst hw1; kernel_rfl) ?_
  refine ACall_tree Tryz.f104 mixedT (askG [9, 10, 11] false) (by kernel_rfl) ?_
  refine H_askK (.pd (.sl (p0.map elABLU32LU32Z))) (m6) (by subst hw1; kernel_rfl) ?_
  refine H_ask _ _ (by subst hw1; kernel_rfl) (ask_len (P := Tryz.prog) (M := m6) (t := 23) (et := 44) (el := elABLU32LU32Z) (by kernel_rfl) (e := p0)) ?_
  refine H_askK (.pd (.sl (p1.map elABLU32LU32Z))) (m6) (by subst hw1; kernel_rfl) ?_
  refine H_ask _ _ (by subst hw1; kernel_rfl) (ask_len (P := Tryz.prog) (M := m6) (t := 23) (et := 44) (el := elABLU32LU32Z) (by kernel_rfl) (e := p1)) ?_
  refine H_loopP (F := vec_Dot_L1 p0 p1 r) (s0 := ((0 : Int), x1, x2, x3)) h () 27 6
    (fun ((s100, s101, s102, s103) : Int × Bool × (List Int) × (List Int)) (() : Unit) => [(0, .yld 5), (1, .ptr 2 0 0), (2, .ptr 3 0 0), (9, .pd (.int .i64 (if (p1.length : Int) < (p0.length : Int) then (p1.length : Int) else (p0.length : Int)))), (10, .pd (.int .i64 s100))])
    (fun ((s100, s101, s102, s103) : Int × Bool × (List Int) × (List Int)) (() : Unit) => [.cells [.pd (.bool false), .fixed (([] : List Int).map elU32), .fixed (([] : List Int).map elU32)] 1 0 false, .cells [.pd (.bool s101), .pd (.sl (s102.map elU32)), .pd (.sl (s103.map elU32))] 1 0 false, .cells [.pd (.sl (p0.map elABLU32LU32Z))] 1 0 false, .cells [.pd (.sl (p1.map elABLU32LU32Z))] 1 0 false, .defers false, .loop .ready none w1.stS.T w1.rps w1.rasg w1.rbo 4]) (fun ((s100, s101, s102, s103) : Int × Bool × (List Int) × (List Int)) (() : Unit) => True) trivial [] mixedT (askG [9, 10, 11] false)
    (by subst hw1; kernel_rfl) (by subst hw1; kernel_rfl) (by subst hw1; kernel_rfl) (by subst hw1; kernel_rfl) (by subst hw1; kernel_rfl) (fun _ _ => rfl) ?_
  rintro X1 ⟨s100, s101, s102, s103⟩ ⟨⟩ - h
  dsimp only [vec_Dot_L1] at h
  refine H_split (decide (s100 < (if (p1.length : Int) < (p0.length : Int) then (p1.length : Int) else (p0.length : Int)))) (by subst hw1; kernel_rfl) (fun hp5 => ?_) (fun hp5 => ?_)
  · replace h := h.t hp5
    refine H_draw (by subst hw1; kernel_rfl) ?_
    let o7 : Ob := .cells [.pd (.bool s101), .pd (.sl (s102.map elU32)), .pd (.sl (s103.map elU32))] 1 0 false
    let m8 : Mem := [o1, o7, o3, o4, .defers false, o5]
    refine H_askK (.pd (.sl (p0.map elABLU32LU32Z))) (m8) (by subst hw1; kernel_rfl) ?_
    obtain ⟨x6, x7, x8, hx9, h⟩ := h
    refine H_ask _ _ (by subst hw1; kernel_rfl) (ask_idx (P := Tryz.prog) (M := m8) (t := 23) (et := 44) (k := .i64) (lv := lvABLU32LU32Z) okABLU32LU32Z leABLU32LU32Z (by kernel_rfl) (by kernel_rfl) hx9) ?_
    refine H_askK (.agg [.pd (.bool x6), .pd (.sl (x7.map elU32)), .pd (.sl (x8.map elU32))]) (m8) (by subst hw1; kernel_rfl) ?_
    refine H_askK (.pd (.sl (p1.map elABLU32LU32Z))) (m8) (by subst hw1; kernel_rfl) ?_
    obtain ⟨x10, x11, x12, hx13, h⟩ := h
    refine H_ask _ _ (by subst hw1; kernel_rfl) (ask_idx (P := Tryz.prog) (M := m8) (t := 23) (et := 44) (k := .i64) (lv := lvABLU32LU32Z) okABLU32LU32Z leABLU32LU32Z (by kernel_rfl) (by kernel_rfl) hx13) ?_
    refine H_askK (.agg [.pd (.bool x10), .pd (.sl (x11.map elU32)), .pd (.sl (x12.map elU32))]) (m8) (by subst hw1; kernel_rfl) ?_
    refine H_askK (.agg [.pd (.bool x6), .pd (.sl (x7.map elU32)), .pd (.sl (x8.map elU32)), .pd (.bool x10), .pd (.sl (x11.map elU32)), .pd (.sl (x12.map elU32))]) (m8) (by subst hw1; kernel_rfl) ?_
    refine H_yld (l := 5) (args := [.pd (.int .i64 s100), .agg [.pd (.bool x6), .pd (.sl (x7.map elU32)), .pd (.sl (x8.map elU32)), .pd (.bool x10), .pd (.sl (x11.map elU32)), .pd (.sl (x12.map elU32))]]) (M := m8) (by subst hw1; kernel_rfl) ?_
    refine H_roundA mixedT (askG [9, 10, 11] false) ?_
    let o9 : Ob := .cells [.pd (.bool x6), .pd (.sl (x7.map elU32)), .pd (.sl (x8.map elU32)), .pd (.bool x10), .pd (.sl (x11.map elU32)), .pd (.sl (x12.map elU32))] 1 0 false
    let m10 : Mem := [o1, o7, o3, o4, .defers false, o5, o9]
    refine H_askK (.junk) (m10) (by subst hw1; kernel_rfl) ?_
    let o11 : Ob := .loop .busy none w1.stS.T w1.rps w1.rasg w1.rbo 4
    let m12 : Mem := [o1, o7, o3, o4, .defers false, o11, o9]
    refine H_askK (.ptr 6 0 0) (m12) (by subst hw1; kernel_rfl) ?_
    refine H_askK (.agg [.pd (.bool x6), .pd (.sl (x7.map elU32)), .pd (.sl (x8.map elU32))]) (m12) (by subst hw1; kernel_rfl) ?_
    obtain ⟨x14, hx15, h⟩ := h
    refine H_valW (g := 23) (args := [.agg [.pd (.bool x6), .pd (.sl (x7.map elU32)), .pd (.sl (x8.map elU32))]]) (M := m12) (.pd (.int .i64 x14)) (.inl (by subst hw1; kernel_rfl)) (by subst hw1; kernel_rfl) (rat_Sign_ok m _ _ _ hx15) (by kernel_rfl) (hasT 23 (by kernel_rfl)) ?_
    refine H_split (x14 != (0 : Int)) (by subst hw1; kernel_rfl) (fun hp16 => ?_) (fun hp16 => ?_)
    · replace h := h.t hp16
      refine H_askK (.ptr 6 3 0) (m12) (by subst hw1; kernel_rfl) ?_
      refine H_askK (.agg [.pd (.bool x10), .pd (.sl (x11.map elU32)), .pd (.sl (x12.map elU32))]) (m12) (by subst hw1; kernel_rfl) ?_
      obtain ⟨x17, hx18, h⟩ := h
      refine H_valW (g := 23) (args := [.agg [.pd (.bool x10), .pd (.sl (x11.map elU32)), .pd (.sl (x12.map elU32))]]) (M := m12) (.pd (.int .i64 x17)) (.inl (by subst hw1; kernel_rfl)) (by subst hw1; kernel_rfl) (rat_Sign_ok m _ _ _ hx18) (by kernel_rfl) (hasT 23 (by kernel_rfl)) ?_
      refine H_split (x17 != (0 : Int)) (by subst hw1; kernel_rfl) (fun hp19 => ?_) (fun hp19 => ?_)
      · replace h := h.t hp19
        refine H_draw (by subst hw1; kernel_rfl) ?_
        refine H_askK (.agg [.pd (.bool s101), .pd (.sl (s102.map elU32)), .pd (.sl (s103.map elU32))]) (m12) (by subst hw1; kernel_rfl) ?_
        refine H_askK (.ptr 6 0 0) (m12) (by subst hw1; kernel_rfl) ?_
        refine H_askK (.agg [.pd (.bool x6), .pd (.sl (x7.map elU32)), .pd (.sl (x8.map elU32))]) (m12) (by subst hw1; kernel_rfl) ?_
        refine H_askK (.ptr 6 3 0) (m12) (by subst hw1; kernel_rfl) ?_
        refine H_askK (.agg [.pd (.bool x10), .pd (.sl (x11.map elU32)), .pd (.sl (x12.map elU32))]) (m12) (by subst hw1; kernel_rfl) ?_
        obtain ⟨x20, x21, x22, hx23, h⟩ := h
        refine H_valW (g := 50) (args := [.agg [.pd (.bool x6), .pd (.sl (x7.map elU32)), .pd (.sl (x8.map elU32))], .agg [.pd (.bool x10), .pd (.sl (x11.map elU32)), .pd (.sl (x12.map elU32))]]) (M := m12) (.agg [.pd (.bool x20), .pd (.sl (x21.map elU32)), .pd (.sl (x22.map elU32))]) (.inr (by subst hw1; kernel_rfl)) (by subst hw1; kernel_rfl) (rat_Mul_ok m _ _ _ _ _ _ hx23) (by kernel_rfl) (hasT 50 (by kernel_rfl)) ?_
        obtain ⟨x24, x25, x26, hx27, h⟩ := h
        refine H_valW (g := 41) (args := [.agg [.pd (.bool s101), .pd (.sl (s102.map elU32)), .pd (.sl (s103.map elU32))], .agg [.pd (.bool x20), .pd (.sl (x21.map elU32)), .pd (.sl (x22.map elU32))]]) (M := m12) (.agg [.pd (.bool x24), .pd (.sl (x25.map elU32)), .pd (.sl (x26.map elU32))]) (.inr (by subst hw1; kernel_rfl)) (by subst hw1; kernel_rfl) (rat_Add_ok m _ _ _ _ _ _ hx27) (by kernel_rfl) (hasT 41 (by kernel_rfl)) ?_
        let o13 : Ob := .cells [.pd (.bool x24), .pd (.sl (x25.map elU32)), .pd (.sl (x26.map elU32))] 1 0 false
        let m14 : Mem := [o1, o13, o3, o4, .defers false, o11, o9]
        refine H_askK (.junk) (m14) (by subst hw1; kernel_rfl) ?_
        let m15 : Mem := [o1, o13, o3, o4, .defers false, o5, o9]
        refine H_rnd .normal .ready none true (m15) (by subst hw1; kernel_rfl) rfl (by subst hw1; kernel_rfl) ?_
        exact H_againC (st := _) ((IntKind.i64.wrap (s100 + 1)), x24, x25, x26) () h trivial (by subst hw1; kernel_rfl) (by subst hw1; kernel_rfl) (by subst hw1; kernel_rfl) (by subst hw1; kernel_rfl) (by subst hw1; kernel_rfl) (by subst hw1; kernel_rfl) (all_c (by subst hw1; kernel_rfl) (all_c (by subst hw1; kernel_rfl) (all_c (by subst hw1; kernel_rfl) (all_c (by subst hw1; kernel_rfl) (all_c (by subst hw1; kernel_rfl) (all_c (by subst hw1; kernel_rfl) all_n)))))) (by subst hw1; kernel_rfl) (by kernel_rfl)
      replace h := h.f hp19
      refine H_rnd .normal .ready none true (m10) (by subst hw1; kernel_rfl) rfl (by subst hw1; kernel_rfl) ?_
      exact H_againC (st := _) ((IntKind.i64.wrap (s100 + 1)), s101, s102, s103) () h trivial (by subst hw1; kernel_rfl) (by subst hw1; kernel_rfl) (by subst hw1; kernel_rfl) (by subst hw1; kernel_rfl) (by subst hw1; kernel_rfl) (by subst hw1; kernel_rfl) (all_c (by subst hw1; kernel_rfl) (all_c (by subst hw1; kernel_rfl) (all_c (by subst hw1; kernel_rfl) (all_c (by subst hw1; kernel_rfl) (all_c (by subst hw1; kernel_rfl) (all_c (by subst hw1; kernel_rfl) all_n)))))) (by subst hw1; kernel_rfl) (by kernel_rfl)
    replace h := h.f hp16
    refine H_rnd .normal .ready none true (m10) (by subst hw1; kernel_rfl) rfl (by subst hw1; kernel_rfl) ?_
    exact H_againC (st := _) ((IntKind.i64.wrap (s100 + 1)), s101, s102, s103) () h trivial (by subst hw1; kernel_rfl) (by subst hw1; kernel_rfl) (by subst hw1; kernel_rfl) (by subst hw1; kernel_rfl) (by subst hw1; kernel_rfl) (by subst hw1; kernel_rfl) (all_c (by subst hw1; kernel_rfl) (all_c (by subst hw1; kernel_rfl) (all_c (by subst hw1; kernel_rfl) (all_c (by subst hw1; kernel_rfl) (all_c (by subst hw1; kernel_rfl) (all_c (by subst hw1; kernel_rfl) all_n)))))) (by subst hw1; kernel_rfl) (by kernel_rfl)
  replace h := h.f hp5
  refine H_leaveP (.exit 0) (by subst hw1; kernel_rfl) rfl ?_
  let o16 : Ob := .cells [.pd (.bool s101), .pd (.sl (s102.map elU32)), .pd (.sl (s103.map elU32))] 1 0 false
  let m17 : Mem := [o1, o16, o3, o4, .defers false, o5]
  refine H_endM .normal (.tup []) (m17) (by subst hw1; kernel_rfl) rfl (by subst hw1; kernel_rfl) (by subst hw1; kernel_rfl) (by subst hw1; kernel_rfl) ?_
  let o18 : Ob := .loop .exhausted none w1.stS.T w1.rps w1.rasg w1.rbo 4
  let m19 : Mem := [o1, o16, o3, o4, .defers false, o18]
  refine aft_done (st := .ready) (M' := m19) (by subst hw1; kernel_rfl) (by simp) (by subst hw1; kernel_rfl) ?_
  refine H_askK (.agg [.pd (.bool s101), .pd (.sl (s102.map elU32)), .pd (.sl (s103.map elU32))]) (m19) (by subst hw1; kernel_rfl) ?_
  let m20 : Mem := [o16, o16, o3, o4, .defers false, o18]
  refine H_askK (.junk) (m20) (by subst hw1; kernel_rfl) ?_
  exact H_end .ret (.agg [.pd (.bool s101), .pd (.sl (s102.map elU32)), .pd (.sl (s103.map elU32))]) (by subst hw1; kernel_rfl) rfl (by subst hw1; kernel_rfl) (by subst h; rfl)

theorem vec_Ints_ok (m : Tp) (p0 : List Int) {r : (List (Bool × (List Int) × (List Int)))} (h : vec_Ints p0 r) : ASpec Tryz.prog (gtT m) 43 [.pd (.sl (p0.map elI64))] (· = .pd (.sl (r.map elABLU32LU32Z))) := by
  refine ASpec_tree Tryz.f43 mixedT (askG [9, 10, 11] true) (by kernel_rfl) ?_
  unfold vec_Ints at h
  refine H_ask _ _ (by kernel_rfl) (ask_len (P := Tryz.prog) (M := [rowV lvABLU32LU32Z 3 ([] : List (Bool × (List Int) × (List Int))) 0 false, rowV lvABLU32LU32Z 3 ([] : List (Bool × (List Int) × (List Int))) 0 false]) (t := 34) (et := 3) (el := elI64) (by kernel_rfl) (e := p0)) ?_
  refine H_loopP (F := vec_Ints_L1 p0 r) (s0 := ((0 : Int), ([] : List (Bool × (List Int) × (List Int))))) h (0, (([] : List (Bool × (List Int) × (List Int))).length)) 19 2
    (fun ((s100, s151) : Int × (List (Bool × (List Int) × (List Int)))) ((v101, n101) : Nat × Nat) => [(3, .own 1 n101 v101), (6, .pd (.sl (p0.map elI64))), (7, .pd (.int .i64 (p0.length : Int))), (8, .pd (.int .i64 s100))])
    (fun ((s100, s151) : Int × (List (Bool × (List Int) × (List Int)))) ((v101, n101) : Nat × Nat) => [rowV lvABLU32LU32Z 3 ([] : List (Bool × (List Int) × (List Int))) 0 false, rowV lvABLU32LU32Z 3 s151 v101 false]) (fun ((s100, s151) : Int × (List (Bool × (List Int) × (List Int)))) ((v101, n101) : Nat × Nat) => n101 = s151.length) rfl [] mixedT (askG [9, 10, 11] true)
    (by kernel_rfl) (by kernel_rfl) (by kernel_rfl) (by kernel_rfl) (by kernel_rfl) (fun _ _ => rfl) ?_
  rintro X1 ⟨s100, s151⟩ ⟨v101, n101⟩ hn101 h
  dsimp only [vec_Ints_L1] at h
  refine H_split (decide (s100 < (p0.length : Int))) (by kernel_rfl) (fun hp1 => ?_) (fun hp1 => ?_)
  · replace h := h.t hp1
    obtain ⟨x2, hx3, h⟩ := h
    refine H_ask _ _ (by kernel_rfl) (ask_idx (P := Tryz.prog) (M := [rowV lvABLU32LU32Z 3 ([] : List (Bool × (List Int) × (List Int))) 0 false, rowV lvABLU32LU32Z 3 s151 v101 false]) (t := 34) (et := 3) (k := .i64) (lv := lvI64) okI64 leI64 (by kernel_rfl) (by kernel_rfl) hx3) ?_
    refine H_askK (.pd (.int .i64 x2)) ([rowV lvABLU32LU32Z 3 ([] : List (Bool × (List Int) × (List Int))) 0 false, rowV lvABLU32LU32Z 3 s151 v101 false]) (by kernel_rfl) ?_
    obtain ⟨x4, x5, x6, hx7, h⟩ := h
    refine H_valW (g := 49) (args := [.pd (.int .i64 x2)]) (M := [rowV lvABLU32LU32Z 3 ([] : List (Bool × (List Int) × (List Int))) 0 false, rowV lvABLU32LU32Z 3 s151 v101 false]) (.agg [.pd (.bool x4), .pd (.sl (x5.map elU32)), .pd (.sl (x6.map elU32))]) (.inl (by kernel_rfl)) (by kernel_rfl) (rat_Int_ok m _ hx7) (by kernel_rfl) (hasT 49 (by kernel_rfl)) ?_
    obtain ⟨hx8, h⟩ := h
    refine H_ask _ _ (by kernel_rfl) (ask_appV (P := Tryz.prog) (M := [rowV lvABLU32LU32Z 3 ([] : List (Bool × (List Int) × (List Int))) 0 false, rowV lvABLU32LU32Z 3 s151 v101 false]) (lv := lvABLU32LU32Z) (s := 3) (b := 1) (e := s151) (e2 := [(x4, x5, x6)]) (ver := v101) (sT := 23) (xT := 23) (by_ := 56) okABLU32LU32Z (by kernel_rfl) (src_fixed (M := [rowV lvABLU32LU32Z 3 ([] : List (Bool × (List Int) × (List Int))) 0 false, rowV lvABLU32LU32Z 3 s151 v101 false]) okABLU32LU32Z leABLU32LU32Z) (by kernel_rfl) (n := n101) hn101 hx8) ?_
    exact H_againP (st := _) ((IntKind.i64.wrap (s100 + 1)), (s151 ++ [(x4, x5, x6)])) ((vnext s151 [(x4, x5, x6)] v101), ((s151 ++ [(x4, x5, x6)]).length)) h rfl (by kernel_rfl) (by kernel_rfl) (by kernel_rfl) (by kernel_rfl) (by kernel_rfl)
  · replace h := h.f hp1
    refine H_leaveP (.exit 0) (by kernel_rfl) rfl ?_
    exact H_endX .ret (.own 1 n101 v101) (.pd (.sl (s151.map elABLU32LU32Z))) ([rowV lvABLU32LU32Z 3 ([] : List (Bool × (List Int) × (List Int))) 0 false, rowV lvABLU32LU32Z 3 s151 v101 false]) (by kernel_rfl) rfl (by kernel_rfl) (by kernel_rfl) (pure_2to3 (pure_1to2 (pure1_own okABLU32LU32Z (by decide) lgABLU32LU32Z (M := [rowV lvABLU32LU32Z 3 ([] : List (Bool × (List Int) × (List Int))) 0 false, rowV lvABLU32LU32Z 3 s151 v101 false]) (b := 1) (o := rowV lvABLU32LU32Z 3 s151 v101 false) (by kernel_rfl) (rowIs_v' (lv := lvABLU32LU32Z) (s := 3) (e := s151) (ver := v101) (z := false)) (n := n101) hn101) rfl) rfl) (by subst h; rfl)

theorem shape_Does_1_ok (m : Tp) (p0 : Bool) (p1 : List Int) (p2 : List Int) {r : Bool} (h : shape_Does_1 p0 p1 p2 r) : ASpec Tryz.prog (gtT m) 100 [.agg [.pd (.bool p0), .pd (.sl (p1.map elU32)), .pd (.sl (p2.map elU32))]] (· = .pd (.bool r)) := by
  refine ASpec_tree Tryz.f100 mixedT (askG [9, 10, 11] false) (by kernel_rfl) ?_
  unfold shape_Does_1 at h
  refine H_askK (.ptr 0 0 0) ([.cells [.pd (.bool p0), .pd (.sl (p1.map elU32)), .pd (.sl (p2.map elU32))] 1 0 false]) (by kernel_rfl) ?_
  refine H_askK (.agg [.pd (.bool p0), .pd (.sl (p1.map elU32)), .pd (.sl (p2.map elU32))]) ([.cells [.pd (.bool p0), .pd (.sl (p1.map elU32)), .pd (.sl (p2.map elU32))] 1 0 false]) (by kernel_rfl) ?_
  obtain ⟨x1, hx2, h⟩ := h
  refine H_valW (g := 23) (args := [.agg [.pd (.bool p0), .pd (.sl (p1.map elU32)), .pd (.sl (p2.map elU32))]]) (M := [.cells [.pd (.bool p0), .pd (.sl (p1.map elU32)), .pd (.sl (p2.map elU32))] 1 0 false]) (.pd (.int .i64 x1)) (.inl (by kernel_rfl)) (by kernel_rfl) (rat_Sign_ok m _ _ _ hx2) (by kernel_rfl) (hasT 23 (by kernel_rfl)) ?_
  refine H_split (decide (x1 < (0 : Int))) (by kernel_rfl) (fun hp3 => ?_) (fun hp3 => ?_)
  · replace h := h.t hp3
    exact H_end .ret (.pd (.bool true)) (by kernel_rfl) rfl (by kernel_rfl) (by subst h; rfl)
  · replace h := h.f hp3
    exact H_end .ret (.pd (.bool false)) (by kernel_rfl) rfl (by kernel_rfl) (by subst h; rfl)

theorem shape_Does_ok (m : Tp) (p0 : List (List (Bool × (List Int) × (List Int)))) (p1 : List (Bool × (List Int) × (List Int))) (p2 : List (Bool × (List Int) × (List Int))) (p3 : List (Bool × (List Int) × (List Int))) {r : Bool} (h : shape_Does p0 p1 p2 p3 r) : ASpec Tryz.prog (gtT m) 52 [.agg [.pd (.sl (p0.map elLABLU32LU32Z)), .pd (.sl (p1.map elABLU32LU32Z)), .pd (.sl (p2.map elABLU32LU32Z))], .pd (.sl (p3.map elABLU32LU32Z))] (· = .pd (.bool r)) := by
  refine ASpec_tree Tryz.f52 mixedT (askG [9, 10, 11] false) (by kernel_rfl) ?_
  unfold shape_Does at h
  let o1 : Ob := .cells [.pd (.sl (p0.map elLABLU32LU32Z)), .pd (.sl (p1.map elABLU32LU32Z)), .pd (.sl (p2.map elABLU32LU32Z))] 1 0 false
  refine H_askK (.ptr 0 0 0) ([o1]) (by kernel_rfl) ?_
  refine H_askK (.agg [.pd (.sl (p0.map elLABLU32LU32Z)), .pd (.sl (p1.map elABLU32LU32Z)), .pd (.sl (p2.map elABLU32LU32Z))]) ([o1]) (by kernel_rfl) ?_
  obtain ⟨x1, hx2, h⟩ := h
  refine H_valW (g := 18) (args := [.agg [.pd (.sl (p0.map elLABLU32LU32Z)), .pd (.sl (p1.map elABLU32LU32Z)), .pd (.sl (p2.map elABLU32LU32Z))]]) (M := [o1]) (.pd (.bool x1)) (.inl (by kernel_rfl)) (by kernel_rfl) (shape_Right_ok m _ _ _ hx2) (by kernel_rfl) (hasT 18 (by kernel_rfl)) ?_
  cases x1
  · replace h := h.f rfl
    exact H_end .ret (.pd (.bool false)) (by kernel_rfl) rfl (by kernel_rfl) (by subst h; rfl)
  replace h := h.t rfl
  refine H_ask _ _ (by kernel_rfl) (ask_len (P := Tryz.prog) (M := [o1]) (t := 23) (et := 44) (el := elABLU32LU32Z) (by kernel_rfl) (e := p3)) ?_
  refine H_askK (.ptr 0 2 0) ([o1]) (by kernel_rfl) ?_
  refine H_askK (.pd (.sl (p2.map elABLU32LU32Z))) ([o1]) (by kernel_rfl) ?_
  refine H_ask _ _ (by kernel_rfl) (ask_len (P := Tryz.prog) (M := [o1]) (t := 23) (et := 44) (el := elABLU32LU32Z) (by kernel_rfl) (e := p2)) ?_
  refine H_split ((p3.length : Int) != (p2.length : Int)) (by kernel_rfl) (fun hp3 => ?_) (fun hp3 => ?_)
  · replace h := h.t hp3
    exact H_end .ret (.pd (.bool false)) (by kernel_rfl) rfl (by kernel_rfl) (by subst h; rfl)
  replace h := h.f hp3
  refine H_inl (g := 101) (args := [.pd (.sl (p3.map elABLU32LU32Z)), .fn (.func 100) [] []]) (M := [o1]) Tryz.f101 mixedT (askG [9, 10, 11] false) (by kernel_rfl) (by kernel_rfl) (hasT 101 (by kernel_rfl)) ?_
  refine H_inl (g := 134) (args := [.pd (.sl (p3.map elABLU32LU32Z)), .fn (.func 100) [] []]) (M := [o1]) Tryz.f134 mixedT (askG [9, 10, 11] false) (by kernel_rfl) (by kernel_rfl) (hasT 134 (by kernel_rfl)) ?_
  refine H_ask _ _ (by kernel_rfl) (ask_len (P := Tryz.prog) (M := [o1]) (t := 23) (et := 44) (el := elABLU32LU32Z) (by kernel_rfl) (e := p3)) ?_
  refine H_loopP (F := shape_Does_L1 p0 p1 p3 r) (s0 := (0 : Int)) h () 19 1
    (fun (s100 : Int) (() : Unit) => [(0, .pd (.sl (p3.map elABLU32LU32Z))), (1, .fn (.func 100) [] []), (7, .pd (.int .i64 (p3.length : Int))), (8, .pd (.int .i64 s100))])
    (fun (s100 : Int) (() : Unit) => [.cells [.pd (.sl (p0.map elLABLU32LU32Z)), .pd (.sl (p1.map elABLU32LU32Z)), .pd (.sl (p2.map elABLU32LU32Z))] 1 0 false]) (fun (s100 : Int) (() : Unit) => True) trivial [] mixedT (askG [9, 10, 11] false)
    (by kernel_rfl) (by kernel_rfl) (by kernel_rfl) (by kernel_rfl) (by kernel_rfl) (fun _ _ => rfl) ?_
  rintro X1 s100 ⟨⟩ - h
  dsimp only [shape_Does_L1] at h
  refine H_split (decide (s100 < (p3.length : Int))) (by kernel_rfl) (fun hp4 => ?_) (fun hp4 => ?_)
  · replace h := h.t hp4
    obtain ⟨x5, x6, x7, hx8, h⟩ := h
    refine H_ask _ _ (by kernel_rfl) (ask_idx (P := Tryz.prog) (M := [o1]) (t := 23) (et := 44) (k := .i64) (lv := lvABLU32LU32Z) okABLU32LU32Z leABLU32LU32Z (by kernel_rfl) (by kernel_rfl) hx8) ?_
    refine H_askK (.agg [.pd (.bool x5), .pd (.sl (x6.map elU32)), .pd (.sl (x7.map elU32))]) ([o1]) (by kernel_rfl) ?_
    obtain ⟨x9, hx10, h⟩ := h
    refine H_valW (g := 100) (args := [.agg [.pd (.bool x5), .pd (.sl (x6.map elU32)), .pd (.sl (x7.map elU32))]]) (M := [o1]) (.pd (.bool x9)) (.inl (by kernel_rfl)) (by kernel_rfl) (shape_Does_1_ok m _ _ _ hx10) (by kernel_rfl) (hasT 100 (by kernel_rfl)) ?_
    cases x9
    · replace h := h.f rfl
      exact H_againP (st := _) (IntKind.i64.wrap (s100 + 1)) () h trivial (by kernel_rfl) (by kernel_rfl) (by kernel_rfl) (by kernel_rfl) (by kernel_rfl)
    replace h := h.t rfl
    refine H_leaveP .ret (by kernel_rfl) rfl ?_
    refine H_endM .ret (.pd (.int .i64 s100)) ([o1]) (by kernel_rfl) rfl (by kernel_rfl) (by kernel_rfl) (by kernel_rfl) ?_
    refine H_split (decide (s100 ≥ (0 : Int))) (by kernel_rfl) (fun hp11 => ?_) (fun hp11 => ?_)
    · replace h := h.t hp11
      refine H_endM .ret (.pd (.bool true)) ([o1]) (by kernel_rfl) rfl (by kernel_rfl) (by kernel_rfl) (by kernel_rfl) ?_
      exact H_end .ret (.pd (.bool false)) (by kernel_rfl) rfl (by kernel_rfl) (by subst h; rfl)
    replace h := h.f hp11
    refine H_endM .ret (.pd (.bool false)) ([o1]) (by kernel_rfl) rfl (by kernel_rfl) (by kernel_rfl) (by kernel_rfl) ?_
    refine H_askK (.ptr 0 0 0) ([o1]) (by kernel_rfl) ?_
    refine H_askK (.pd (.sl (p0.map elLABLU32LU32Z))) ([o1]) (by kernel_rfl) ?_
    refine H_ask _ _ (by kernel_rfl) (ask_len (P := Tryz.prog) (M := [o1]) (t := 22) (et := 23) (el := elLABLU32LU32Z) (by kernel_rfl) (e := p0)) ?_
    refine H_loopP (F := shape_Does_L2 p0 p1 p3 r) (s0 := (0 : Int)) h () 43 1
      (fun (s200 : Int) (() : Unit) => [(1, .pd (.sl (p3.map elABLU32LU32Z))), (2, .ptr 0 0 0), (25, .pd (.sl (p0.map elLABLU32LU32Z))), (26, .pd (.int .i64 (p0.length : Int))), (27, .pd (.int .i64 s200))])
      (fun (s200 : Int) (() : Unit) => [.cells [.pd (.sl (p0.map elLABLU32LU32Z)), .pd (.sl (p1.map elABLU32LU32Z)), .pd (.sl (p2.map elABLU32LU32Z))] 1 0 false]) (fun (s200 : Int) (() : Unit) => True) trivial [] mixedT (askG [9, 10, 11] false)
      (by kernel_rfl) (by kernel_rfl) (by kernel_rfl) (by kernel_rfl) (by kernel_rfl) (fun _ _ => rfl) ?_
    rintro X2 s200 ⟨⟩ - h
    dsimp only [shape_Does_L2] at h
    refine H_split (decide (s200 < (p0.length : Int))) (by kernel_rfl) (fun hp12 => ?_) (fun hp12 => ?_)
    · replace h := h.t hp12
      obtain ⟨x13, hx14, h⟩ := h
      refine H_ask _ _ (by kernel_rfl) (ask_idx (P := Tryz.prog) (M := [o1]) (t := 22) (et := 23) (k := .i64) (lv := lvLABLU32LU32Z) okLABLU32LU32Z leLABLU32LU32Z (by kernel_rfl) (by kernel_rfl) hx14) ?_
      refine H_askK (.pd (.sl (x13.map elABLU32LU32Z))) ([o1]) (by kernel_rfl) ?_
      refine H_draw (by kernel_rfl) ?_
      obtain ⟨x15, x16, x17, hx18, h⟩ := h
      refine H_valW (g := 21) (args := [.pd (.sl (x13.map elABLU32LU32Z)), .pd (.sl (p3.map elABLU32LU32Z))]) (M := [o1]) (.agg [.pd (.bool x15), .pd (.sl (x16.map elU32)), .pd (.sl (x17.map elU32))]) (.inr (by kernel_rfl)) (by kernel_rfl) (vec_Dot_ok m _ _ hx18) (by kernel_rfl) (hasT 21 (by kernel_rfl)) ?_
      refine H_askK (.ptr 0 1 0) ([o1]) (by kernel_rfl) ?_
      refine H_askK (.pd (.sl (p1.map elABLU32LU32Z))) ([o1]) (by kernel_rfl) ?_
      obtain ⟨x19, x20, x21, hx22, h⟩ := h
      refine H_ask _ _ (by kernel_rfl) (ask_idx (P := Tryz.prog) (M := [o1]) (t := 23) (et := 44) (k := .i64) (lv := lvABLU32LU32Z) okABLU32LU32Z leABLU32LU32Z (by kernel_rfl) (by kernel_rfl) hx22) ?_
      refine H_askK (.agg [.pd (.bool x19), .pd (.sl (x20.map elU32)), .pd (.sl (x21.map elU32))]) ([o1]) (by kernel_rfl) ?_
      obtain ⟨x23, hx24, h⟩ := h
      refine H_valW (g := 20) (args := [.agg [.pd (.bool x15), .pd (.sl (x16.map elU32)), .pd (.sl (x17.map elU32))], .agg [.pd (.bool x19), .pd (.sl (x20.map elU32)), .pd (.sl (x21.map elU32))]]) (M := [o1]) (.pd (.int .i64 x23)) (.inr (by kernel_rfl)) (by kernel_rfl) (rat_Compare_ok m _ _ _ _ _ _ hx24) (by kernel_rfl) (hasT 20 (by kernel_rfl)) ?_
      refine H_split (x23 != (0 : Int)) (by kernel_rfl) (fun hp25 => ?_) (fun hp25 => ?_)
      · replace h := h.t hp25
        refine H_leaveP .ret (by kernel_rfl) rfl ?_
        exact H_end .ret (.pd (.bool false)) (by kernel_rfl) rfl (by kernel_rfl) (by subst h; rfl)
      replace h := h.f hp25
      exact H_againP (st := _) (IntKind.i64.wrap (s200 + 1)) () h trivial (by kernel_rfl) (by kernel_rfl) (by kernel_rfl) (by kernel_rfl) (by kernel_rfl)
    replace h := h.f hp12
    refine H_leaveP (.exit 0) (by kernel_rfl) rfl ?_
    exact H_end .ret (.pd (.bool true)) (by kernel_rfl) rfl (by kernel_rfl) (by subst h; rfl)
  replace h := h.f hp4
  refine H_leaveP (.exit 0) (by kernel_rfl) rfl ?_
  refine H_endM .ret (.pd (.int .i64 (-1))) ([o1]) (by kernel_rfl) rfl (by kernel_rfl) (by kernel_rfl) (by kernel_rfl) ?_
  refine H_split false (by kernel_rfl) (fun hc => by cases hc) (fun _ => ?_)
  refine H_endM .ret (.pd (.bool false)) ([o1]) (by kernel_rfl) rfl (by kernel_rfl) (by kernel_rfl) (by kernel_rfl) ?_
  refine H_askK (.ptr 0 0 0) ([o1]) (by kernel_rfl) ?_
  refine H_askK (.pd (.sl (p0.map elLABLU32LU32Z))) ([o1]) (by kernel_rfl) ?_
  refine H_ask _ _ (by kernel_rfl) (ask_len (P := Tryz.prog) (M := [o1]) (t := 22) (et := 23) (el := elLABLU32LU32Z) (by kernel_rfl) (e := p0)) ?_
  refine H_loopP (F := shape_Does_L3 p0 p1 p3 r) (s0 := (0 : Int)) h () 43 1
    (fun (s300 : Int) (() : Unit) => [(1, .pd (.sl (p3.map elABLU32LU32Z))), (2, .ptr 0 0 0), (25, .pd (.sl (p0.map elLABLU32LU32Z))), (26, .pd (.int .i64 (p0.length : Int))), (27, .pd (.int .i64 s300))])
    (fun (s300 : Int) (() : Unit) => [.cells [.pd (.sl (p0.map elLABLU32LU32Z)), .pd (.sl (p1.map elABLU32LU32Z)), .pd (.sl (p2.map elABLU32LU32Z))] 1 0 false]) (fun (s300 : Int) (() : Unit) => True) trivial [] mixedT (askG [9, 10, 11] false)
    (by kernel_rfl) (by kernel_rfl) (by kernel_rfl) (by kernel_rfl) (by kernel_rfl) (fun _ _ => rfl) ?_
  rintro X3 s300 ⟨⟩ - h
  dsimp only [shape_Does_L3] at h
  refine H_split (decide (s300 < (p0.length : Int))) (by kernel_rfl) (fun hp26 => ?_) (fun hp26 => ?_)
  · replace h := h.t hp26
    obtain ⟨x27, hx28, h⟩ := h
    refine H_ask _ _ (by kernel_rfl) (ask_idx (P := Tryz.prog) (M := [o1]) (t := 22) (et := 23) (k := .i64) (lv := lvLABLU32LU32Z) okLABLU32LU32Z leLABLU32LU32Z (by kernel_rfl) (by kernel_rfl) hx28) ?_
    refine H_askK (.pd (.sl (x27.map elABLU32LU32Z))) ([o1]) (by kernel_rfl) ?_
    refine H_draw (by kernel_rfl) ?_
    obtain ⟨x29, x30, x31, hx32, h⟩ := h
    refine H_valW (g := 21) (args := [.pd (.sl (x27.map elABLU32LU32Z)), .pd (.sl (p3.map elABLU32LU32Z))]) (M := [o1]) (.agg [.pd (.bool x29), .pd (.sl (x30.map elU32)), .pd (.sl (x31.map elU32))]) (.inr (by kernel_rfl)) (by kernel_rfl) (vec_Dot_ok m _ _ hx32) (by kernel_rfl) (hasT 21 (by kernel_rfl)) ?_
    refine H_askK (.ptr 0 1 0) ([o1]) (by kernel_rfl) ?_
    refine H_askK (.pd (.sl (p1.map elABLU32LU32Z))) ([o1]) (by kernel_rfl) ?_
    obtain ⟨x33, x34, x35, hx36, h⟩ := h
    refine H_ask _ _ (by kernel_rfl) (ask_idx (P := Tryz.prog) (M := [o1]) (t := 23) (et := 44) (k := .i64) (lv := lvABLU32LU32Z) okABLU32LU32Z leABLU32LU32Z (by kernel_rfl) (by kernel_rfl) hx36) ?_
    refine H_askK (.agg [.pd (.bool x33), .pd (.sl (x34.map elU32)), .pd (.sl (x35.map elU32))]) ([o1]) (by kernel_rfl) ?_
    obtain ⟨x37, hx38, h⟩ := h
    refine H_valW (g := 20) (args := [.agg [.pd (.bool x29), .pd (.sl (x30.map elU32)), .pd (.sl (x31.map elU32))], .agg [.pd (.bool x33), .pd (.sl (x34.map elU32)), .pd (.sl (x35.map elU32))]]) (M := [o1]) (.pd (.int .i64 x37)) (.inr (by kernel_rfl)) (by kernel_rfl) (rat_Compare_ok m _ _ _ _ _ _ hx38) (by kernel_rfl) (hasT 20 (by kernel_rfl)) ?_
    refine H_split (x37 != (0 : Int)) (by kernel_rfl) (fun hp39 => ?_) (fun hp39 => ?_)
    · replace h := h.t hp39
      refine H_leaveP .ret (by kernel_rfl) rfl ?_
      exact H_end .ret (.pd (.bool false)) (by kernel_rfl) rfl (by kernel_rfl) (by subst h; rfl)
    replace h := h.f hp39
    exact H_againP (st := _) (IntKind.i64.wrap (s300 + 1)) () h trivial (by kernel_rfl) (by kernel_rfl) (by kernel_rfl) (by kernel_rfl) (by kernel_rfl)
  replace h := h.f hp26
  refine H_leaveP (.exit 0) (by kernel_rfl) rfl ?_
  exact H_end .ret (.pd (.bool true)) (by kernel_rfl) rfl (by kernel_rfl) (by subst h; rfl)

theorem shape_Column_ok (m : Tp) (p0 : List (List (Bool × (List Int) × (List Int)))) (p1 : List (Bool × (List Int) × (List Int))) (p2 : List (Bool × (List Int) × (List Int))) (p3 : Int) {r : (List (Bool × (List Int) × (List Int)))} (h : shape_Column p0 p1 p2 p3 r) : ASpec Tryz.prog (gtT m) 133 [.agg [.pd (.sl (p0.map elLABLU32LU32Z)), .pd (.sl (p1.map elABLU32LU32Z)), .pd (.sl (p2.map elABLU32LU32Z))], .pd (.int .i64 p3)] (· = .pd (.sl (r.map elABLU32LU32Z))) := by
  refine ASpec_tree Tryz.f133 mixedT (askG [9, 10, 11] true) (by kernel_rfl) ?_
  unfold shape_Column at h
  let o1 : Ob := .cells [.pd (.sl (p0.map elLABLU32LU32Z)), .pd (.sl (p1.map elABLU32LU32Z)), .pd (.sl (p2.map elABLU32LU32Z))] 1 0 false
  refine H_askK (.ptr 0 0 0) ([o1]) (by kernel_rfl) ?_
  let o2 : Ob := rowV lvABLU32LU32Z 3 ([] : List (Bool × (List Int) × (List Int))) 0 false
  refine H_askK (.agg [.pd (.sl (p0.map elLABLU32LU32Z)), .pd (.sl (p1.map elABLU32LU32Z)), .pd (.sl (p2.map elABLU32LU32Z))]) ([o1, o2]) (by kernel_rfl) ?_
  obtain ⟨x1, hx2, h⟩ := h
  refine H_valW (g := 18) (args := [.agg [.pd (.sl (p0.map elLABLU32LU32Z)), .pd (.sl (p1.map elABLU32LU32Z)), .pd (.sl (p2.map elABLU32LU32Z))]]) (M := [o1, o2]) (.pd (.bool x1)) (.inl (by kernel_rfl)) (by kernel_rfl) (shape_Right_ok m _ _ _ hx2) (by kernel_rfl) (hasT 18 (by kernel_rfl)) ?_
  cases x1
  · replace h := h.f rfl
    exact H_endX .ret (.own 2 (([] : List (Bool × (List Int) × (List Int))).length) 0) (.pd (.sl (([] : List (Bool × (List Int) × (List Int))).map elABLU32LU32Z))) ([o1, o2, o2]) (by kernel_rfl) rfl (by kernel_rfl) (by kernel_rfl) (pure_2to3 (pure_1to2 (pure1_own okABLU32LU32Z (by decide) lgABLU32LU32Z (M := [o1, o2, o2]) (b := 2) (o := rowV lvABLU32LU32Z 3 ([] : List (Bool × (List Int) × (List Int))) 0 false) (by kernel_rfl) (rowIs_v' (lv := lvABLU32LU32Z) (s := 3) (e := ([] : List (Bool × (List Int) × (List Int)))) (ver := 0) (z := false)) (n := ([] : List (Bool × (List Int) × (List Int))).length) rfl) rfl) rfl) (by subst h; rfl)
  replace h := h.t rfl
  refine H_split (decide (p3 < (0 : Int))) (by kernel_rfl) (fun hp3 => ?_) (fun hp3 => ?_)
  · replace h := h.t hp3
    exact H_endX .ret (.own 2 (([] : List (Bool × (List Int) × (List Int))).length) 0) (.pd (.sl (([] : List (Bool × (List Int) × (List Int))).map elABLU32LU32Z))) ([o1, o2, o2]) (by kernel_rfl) rfl (by kernel_rfl) (by kernel_rfl) (pure_2to3 (pure_1to2 (pure1_own okABLU32LU32Z (by decide) lgABLU32LU32Z (M := [o1, o2, o2]) (b := 2) (o := rowV lvABLU32LU32Z 3 ([] : List (Bool × (List Int) × (List Int))) 0 false) (by kernel_rfl) (rowIs_v' (lv := lvABLU32LU32Z) (s := 3) (e := ([] : List (Bool × (List Int) × (List Int)))) (ver := 0) (z := false)) (n := ([] : List (Bool × (List Int) × (List Int))).length) rfl) rfl) rfl) (by subst h; rfl)
  replace h := h.f hp3
  refine H_askK (.ptr 0 2 0) ([o1, o2]) (by kernel_rfl) ?_
  refine H_askK (.pd (.sl (p2.map elABLU32LU32Z))) ([o1, o2]) (by kernel_rfl) ?_
  refine H_ask _ _ (by kernel_rfl) (ask_len (P := Tryz.prog) (M := [o1, o2]) (t := 23) (et := 44) (el := elABLU32LU32Z) (by kernel_rfl) (e := p2)) ?_
  refine H_split (decide (p3 ≥ (p2.length : Int))) (by kernel_rfl) (fun hp4 => ?_) (fun hp4 => ?_)
  · replace h := h.t hp4
    exact H_endX .ret (.own 2 (([] : List (Bool × (List Int) × (List Int))).length) 0) (.pd (.sl (([] : List (Bool × (List Int) × (List Int))).map elABLU32LU32Z))) ([o1, o2, o2]) (by kernel_rfl) rfl (by kernel_rfl) (by kernel_rfl) (pure_2to3 (pure_1to2 (pure1_own okABLU32LU32Z (by decide) lgABLU32LU32Z (M := [o1, o2, o2]) (b := 2) (o := rowV lvABLU32LU32Z 3 ([] : List (Bool × (List Int) × (List Int))) 0 false) (by kernel_rfl) (rowIs_v' (lv := lvABLU32LU32Z) (s := 3) (e := ([] : List (Bool × (List Int) × (List Int)))) (ver := 0) (z := false)) (n := ([] : List (Bool × (List Int) × (List Int))).length) rfl) rfl) rfl) (by subst h; rfl)
  replace h := h.f hp4
  refine H_askK (.ptr 0 0 0) ([o1, o2, o2]) (by kernel_rfl) ?_
  refine H_askK (.pd (.sl (p0.map elLABLU32LU32Z))) ([o1, o2, o2]) (by kernel_rfl) ?_
  refine H_ask _ _ (by kernel_rfl) (ask_len (P := Tryz.prog) (M := [o1, o2, o2]) (t := 22) (et := 23) (el := elLABLU32LU32Z) (by kernel_rfl) (e := p0)) ?_
  refine H_loopP (F := shape_Column_L1 p0 p3 r) (s0 := ((0 : Int), ([] : List (Bool × (List Int) × (List Int))))) h (0, (([] : List (Bool × (List Int) × (List Int))).length)) 45 3
    (fun ((s100, s152) : Int × (List (Bool × (List Int) × (List Int)))) ((v102, n102) : Nat × Nat) => [(1, .pd (.int .i64 p3)), (5, .own 2 n102 v102), (23, .pd (.sl (p0.map elLABLU32LU32Z))), (24, .pd (.int .i64 (p0.length : Int))), (25, .pd (.int .i64 s100))])
    (fun ((s100, s152) : Int × (List (Bool × (List Int) × (List Int)))) ((v102, n102) : Nat × Nat) => [.cells [.pd (.sl (p0.map elLABLU32LU32Z)), .pd (.sl (p1.map elABLU32LU32Z)), .pd (.sl (p2.map elABLU32LU32Z))] 1 0 false, rowV lvABLU32LU32Z 3 ([] : List (Bool × (List Int) × (List Int))) 0 false, rowV lvABLU32LU32Z 3 s152 v102 false]) (fun ((s100, s152) : Int × (List (Bool × (List Int) × (List Int)))) ((v102, n102) : Nat × Nat) => n102 = s152.length) rfl [] mixedT (askG [9, 10, 11] true)
    (by kernel_rfl) (by kernel_rfl) (by kernel_rfl) (by kernel_rfl) (by kernel_rfl) (fun _ _ => rfl) ?_
  rintro X1 ⟨s100, s152⟩ ⟨v102, n102⟩ hn102 h
  dsimp only [shape_Column_L1] at h
  refine H_split (decide (s100 < (p0.length : Int))) (by kernel_rfl) (fun hp5 => ?_) (fun hp5 => ?_)
  · replace h := h.t hp5
    obtain ⟨x6, hx7, h⟩ := h
    let o3 : Ob := rowV lvABLU32LU32Z 3 s152 v102 false
    refine H_ask _ _ (by kernel_rfl) (ask_idx (P := Tryz.prog) (M := [o1, o2, o3]) (t := 22) (et := 23) (k := .i64) (lv := lvLABLU32LU32Z) okLABLU32LU32Z leLABLU32LU32Z (by kernel_rfl) (by kernel_rfl) hx7) ?_
    refine H_askK (.pd (.sl (x6.map elABLU32LU32Z))) ([o1, o2, o3]) (by kernel_rfl) ?_
    refine H_draw (by kernel_rfl) ?_
    obtain ⟨x8, x9, x10, hx11, h⟩ := h
    refine H_ask _ _ (by kernel_rfl) (ask_idx (P := Tryz.prog) (M := [o1, o2, o3]) (t := 23) (et := 44) (k := .i64) (lv := lvABLU32LU32Z) okABLU32LU32Z leABLU32LU32Z (by kernel_rfl) (by kernel_rfl) hx11) ?_
    refine H_askK (.rd [.bool x8, .sl (x9.map elU32), .sl (x10.map elU32)]) ([o1, o2, o3]) (by kernel_rfl) ?_
    refine H_askK (.agg [.pd (.bool x8), .pd (.sl (x9.map elU32))]) ([o1, o2, o3]) (by kernel_rfl) ?_
    obtain ⟨x12, x13, x14, hx15, h⟩ := h
    refine H_ask _ _ (by kernel_rfl) (ask_idx (P := Tryz.prog) (M := [o1, o2, o3]) (t := 23) (et := 44) (k := .i64) (lv := lvABLU32LU32Z) okABLU32LU32Z leABLU32LU32Z (by kernel_rfl) (by kernel_rfl) hx15) ?_
    refine H_askK (.rd [.sl (x14.map elU32)]) ([o1, o2, o3]) (by kernel_rfl) ?_
    refine H_askK (.pd (.sl (x14.map elU32))) ([o1, o2, o3]) (by kernel_rfl) ?_
    obtain ⟨x16, x17, x18, hx19, h⟩ := h
    refine H_valW (g := 69) (args := [.agg [.pd (.bool x8), .pd (.sl (x9.map elU32))], .pd (.sl (x14.map elU32))]) (M := [o1, o2, o3]) (.agg [.pd (.bool x16), .pd (.sl (x17.map elU32)), .pd (.sl (x18.map elU32))]) (.inr (by kernel_rfl)) (by kernel_rfl) (rat_Make_ok m _ _ _ hx19) (by kernel_rfl) (hasT 69 (by kernel_rfl)) ?_
    obtain ⟨hx20, h⟩ := h
    refine H_ask _ _ (by kernel_rfl) (ask_appV (P := Tryz.prog) (M := [o1, o2, o3]) (lv := lvABLU32LU32Z) (s := 3) (b := 2) (e := s152) (e2 := [(x16, x17, x18)]) (ver := v102) (sT := 23) (xT := 23) (by_ := 56) okABLU32LU32Z (by kernel_rfl) (src_fixed (M := [o1, o2, o3]) okABLU32LU32Z leABLU32LU32Z) (by kernel_rfl) (n := n102) hn102 hx20) ?_
    exact H_againP (st := _) ((IntKind.i64.wrap (s100 + 1)), (s152 ++ [(x16, x17, x18)])) ((vnext s152 [(x16, x17, x18)] v102), ((s152 ++ [(x16, x17, x18)]).length)) h rfl (by kernel_rfl) (by kernel_rfl) (by kernel_rfl) (by kernel_rfl) (by kernel_rfl)
  replace h := h.f hp5
  refine H_leaveP (.exit 0) (by kernel_rfl) rfl ?_
  let o4 : Ob := rowV lvABLU32LU32Z 3 s152 v102 false
  exact H_endX .ret (.own 2 n102 v102) (.pd (.sl (s152.map elABLU32LU32Z))) ([o1, o2, o4]) (by kernel_rfl) rfl (by kernel_rfl) (by kernel_rfl) (pure_2to3 (pure_1to2 (pure1_own okABLU32LU32Z (by decide) lgABLU32LU32Z (M := [o1, o2, o4]) (b := 2) (o := rowV lvABLU32LU32Z 3 s152 v102 false) (by kernel_rfl) (rowIs_v' (lv := lvABLU32LU32Z) (s := 3) (e := s152) (ver := v102) (z := false)) (n := n102) hn102) rfl) rfl) (by subst h; rfl)

theorem proof_Lower_ok (m : Tp) (p0 : List (List (Bool × (List Int) × (List Int)))) (p1 : List (Bool × (List Int) × (List Int))) (p2 : List (Bool × (List Int) × (List Int))) (p3 : List (Bool × (List Int) × (List Int))) {r : Bool × (List Int) × (List Int) × Bool} (h : proof_Lower p0 p1 p2 p3 r) : ASpec Tryz.prog (gtT m) 93 [.agg [.pd (.sl (p0.map elLABLU32LU32Z)), .pd (.sl (p1.map elABLU32LU32Z)), .pd (.sl (p2.map elABLU32LU32Z))], .pd (.sl (p3.map elABLU32LU32Z))] (· = .tup [.agg [.pd (.bool r.1), .pd (.sl (r.2.1.map elU32)), .pd (.sl (r.2.2.1.map elU32))], .pd (.bool r.2.2.2)]) := by
  refine ASpec_tree Tryz.f93 mixedT (askG [9, 10, 11] false) (by kernel_rfl) ?_
  unfold proof_Lower at h
  let o1 : Ob := .cells [.pd (.sl (p0.map elLABLU32LU32Z)), .pd (.sl (p1.map elABLU32LU32Z)), .pd (.sl (p2.map elABLU32LU32Z))] 1 0 false
  refine H_askK (.ptr 0 0 0) ([o1]) (by kernel_rfl) ?_
  let o2 : Ob := .cells [.pd (.bool false), .fixed (([] : List Int).map elU32), .fixed (([] : List Int).map elU32)] 1 0 false
  refine H_askK (.agg [.pd (.sl (p0.map elLABLU32LU32Z)), .pd (.sl (p1.map elABLU32LU32Z)), .pd (.sl (p2.map elABLU32LU32Z))]) ([o1, o2]) (by kernel_rfl) ?_
  obtain ⟨x1, hx2, h⟩ := h
  refine H_valW (g := 18) (args := [.agg [.pd (.sl (p0.map elLABLU32LU32Z)), .pd (.sl (p1.map elABLU32LU32Z)), .pd (.sl (p2.map elABLU32LU32Z))]]) (M := [o1, o2]) (.pd (.bool x1)) (.inl (by kernel_rfl)) (by kernel_rfl) (shape_Right_ok m _ _ _ hx2) (by kernel_rfl) (hasT 18 (by kernel_rfl)) ?_
  cases x1
  · replace h := h.f rfl
    obtain ⟨x30, x31, x32, hx33, h⟩ := h
    refine H_valW (g := 49) (args := [.pd (.int .i64 0)]) (M := [o1, o2]) (.agg [.pd (.bool x30), .pd (.sl (x31.map elU32)), .pd (.sl (x32.map elU32))]) (.inl (by kernel_rfl)) (by kernel_rfl) (rat_Int_ok m _ hx33) (by kernel_rfl) (hasT 49 (by kernel_rfl)) ?_
    let o3 : Ob := .cells [.pd (.bool x30), .pd (.sl (x31.map elU32)), .pd (.sl (x32.map elU32))] 1 0 false
    refine H_askK (.junk) ([o1, o3]) (by kernel_rfl) ?_
    exact H_end .ret (.tup [.agg [.pd (.bool x30), .pd (.sl (x31.map elU32)), .pd (.sl (x32.map elU32))], .pd (.bool false)]) (by kernel_rfl) rfl (by kernel_rfl) (by subst h; rfl)
  replace h := h.t rfl
  refine H_askK (.agg [.pd (.sl (p0.map elLABLU32LU32Z)), .pd (.sl (p1.map elABLU32LU32Z)), .pd (.sl (p2.map elABLU32LU32Z))]) ([o1, o2]) (by kernel_rfl) ?_
  refine H_inl (g := 94) (args := [.agg [.pd (.sl (p0.map elLABLU32LU32Z)), .pd (.sl (p1.map elABLU32LU32Z)), .pd (.sl (p2.map elABLU32LU32Z))], .pd (.sl (p3.map elABLU32LU32Z)), .fn (.func 132) [] [.ptr 0 0 0]]) (M := [o1, o2]) Tryz.f94 mixedT (askG [9, 10, 11] false) (by kernel_rfl) (by kernel_rfl) (hasT 94 (by kernel_rfl)) ?_
  refine H_askK (.ptr 2 0 0) ([o1, o2, o1]) (by kernel_rfl) ?_
  refine H_ask _ _ (by kernel_rfl) (ask_len (P := Tryz.prog) (M := [o1, o2, o1]) (t := 23) (et := 44) (el := elABLU32LU32Z) (by kernel_rfl) (e := p3)) ?_
  refine H_askK (.ptr 2 0 0) ([o1, o2, o1]) (by kernel_rfl) ?_
  refine H_askK (.pd (.sl (p0.map elLABLU32LU32Z))) ([o1, o2, o1]) (by kernel_rfl) ?_
  refine H_ask _ _ (by kernel_rfl) (ask_len (P := Tryz.prog) (M := [o1, o2, o1]) (t := 22) (et := 23) (el := elLABLU32LU32Z) (by kernel_rfl) (e := p0)) ?_
  refine H_split ((p3.length : Int) != (p0.length : Int)) (by kernel_rfl) (fun hp3 => ?_) (fun hp3 => ?_)
  · replace h := h.t hp3
    refine H_endM .ret (.pd (.bool false)) ([o1, o2, o1]) (by kernel_rfl) rfl (by kernel_rfl) (by kernel_rfl) (by kernel_rfl) ?_
    obtain ⟨x4, x5, x6, hx7, h⟩ := h
    refine H_valW (g := 49) (args := [.pd (.int .i64 0)]) (M := [o1, o2, o1]) (.agg [.pd (.bool x4), .pd (.sl (x5.map elU32)), .pd (.sl (x6.map elU32))]) (.inl (by kernel_rfl)) (by kernel_rfl) (rat_Int_ok m _ hx7) (by kernel_rfl) (hasT 49 (by kernel_rfl)) ?_
    let o4 : Ob := .cells [.pd (.bool x4), .pd (.sl (x5.map elU32)), .pd (.sl (x6.map elU32))] 1 0 false
    refine H_askK (.junk) ([o1, o4, o1]) (by kernel_rfl) ?_
    exact H_end .ret (.tup [.agg [.pd (.bool x4), .pd (.sl (x5.map elU32)), .pd (.sl (x6.map elU32))], .pd (.bool false)]) (by kernel_rfl) rfl (by kernel_rfl) (by subst h; rfl)
  replace h := h.f hp3
  refine H_askK (.ptr 2 2 0) ([o1, o2, o1]) (by kernel_rfl) ?_
  refine H_askK (.pd (.sl (p2.map elABLU32LU32Z))) ([o1, o2, o1]) (by kernel_rfl) ?_
  refine H_ask _ _ (by kernel_rfl) (ask_len (P := Tryz.prog) (M := [o1, o2, o1]) (t := 23) (et := 44) (el := elABLU32LU32Z) (by kernel_rfl) (e := p2)) ?_
  refine H_loopP (F := proof_Lower_L1 p0 p1 p2 p3 r) (s0 := (0 : Int)) h () 31 3
    (fun (s100 : Int) (() : Unit) => [(1, .pd (.sl (p3.map elABLU32LU32Z))), (2, .fn (.func 132) [] [.ptr 0 0 0]), (3, .ptr 2 0 0), (16, .pd (.int .i64 (p2.length : Int))), (17, .pd (.int .i64 s100))])
    (fun (s100 : Int) (() : Unit) => [.cells [.pd (.sl (p0.map elLABLU32LU32Z)), .pd (.sl (p1.map elABLU32LU32Z)), .pd (.sl (p2.map elABLU32LU32Z))] 1 0 false, .cells [.pd (.bool false), .fixed (([] : List Int).map elU32), .fixed (([] : List Int).map elU32)] 1 0 false, .cells [.pd (.sl (p0.map elLABLU32LU32Z)), .pd (.sl (p1.map elABLU32LU32Z)), .pd (.sl (p2.map elABLU32LU32Z))] 1 0 false]) (fun (s100 : Int) (() : Unit) => True) trivial [] mixedT (askG [9, 10, 11] false)
    (by kernel_rfl) (by kernel_rfl) (by kernel_rfl) (by kernel_rfl) (by kernel_rfl) (fun _ _ => rfl) ?_
  rintro X1 s100 ⟨⟩ - h
  dsimp only [proof_Lower_L1] at h
  refine H_split (decide (s100 < (p2.length : Int))) (by kernel_rfl) (fun hp8 => ?_) (fun hp8 => ?_)
  · replace h := h.t hp8
    refine H_askK (.agg [.pd (.sl (p0.map elLABLU32LU32Z)), .pd (.sl (p1.map elABLU32LU32Z)), .pd (.sl (p2.map elABLU32LU32Z))]) ([o1, o2, o1]) (by kernel_rfl) ?_
    obtain ⟨x9, hx10, h⟩ := h
    refine H_valW (g := 133) (args := [.agg [.pd (.sl (p0.map elLABLU32LU32Z)), .pd (.sl (p1.map elABLU32LU32Z)), .pd (.sl (p2.map elABLU32LU32Z))], .pd (.int .i64 s100)]) (M := [o1, o2, o1]) (.pd (.sl (x9.map elABLU32LU32Z))) (.inl (by kernel_rfl)) (by kernel_rfl) (shape_Column_ok m _ _ _ _ hx10) (by kernel_rfl) (hasT 133 (by kernel_rfl)) ?_
    obtain ⟨x11, x12, x13, hx14, h⟩ := h
    refine H_valW (g := 21) (args := [.pd (.sl (p3.map elABLU32LU32Z)), .pd (.sl (x9.map elABLU32LU32Z))]) (M := [o1, o2, o1]) (.agg [.pd (.bool x11), .pd (.sl (x12.map elU32)), .pd (.sl (x13.map elU32))]) (.inl (by kernel_rfl)) (by kernel_rfl) (vec_Dot_ok m _ _ hx14) (by kernel_rfl) (hasT 21 (by kernel_rfl)) ?_
    refine H_inl (g := 132) (args := [.pd (.int .i64 s100), .ptr 0 0 0]) (M := [o1, o2, o1]) Tryz.f132 mixedT (askG [9, 10, 11] false) (by kernel_rfl) (by kernel_rfl) (hasT 132 (by kernel_rfl)) ?_
    refine H_askK (.ptr 0 2 0) ([o1, o2, o1, o2]) (by kernel_rfl) ?_
    refine H_askK (.pd (.sl (p2.map elABLU32LU32Z))) ([o1, o2, o1, o2]) (by kernel_rfl) ?_
    obtain ⟨x15, x16, x17, hx18, h⟩ := h
    refine H_ask _ _ (by kernel_rfl) (ask_idx (P := Tryz.prog) (M := [o1, o2, o1, o2]) (t := 23) (et := 44) (k := .i64) (lv := lvABLU32LU32Z) okABLU32LU32Z leABLU32LU32Z (by kernel_rfl) (by kernel_rfl) hx18) ?_
    refine H_askK (.agg [.pd (.bool x15), .pd (.sl (x16.map elU32)), .pd (.sl (x17.map elU32))]) ([o1, o2, o1, o2]) (by kernel_rfl) ?_
    let o5 : Ob := .cells [.pd (.bool x15), .pd (.sl (x16.map elU32)), .pd (.sl (x17.map elU32))] 1 0 false
    refine H_askK (.junk) ([o1, o2, o1, o5]) (by kernel_rfl) ?_
    refine H_endM .ret (.agg [.pd (.bool x15), .pd (.sl (x16.map elU32)), .pd (.sl (x17.map elU32))]) ([o1, o2, o1, o5]) (by kernel_rfl) rfl (by kernel_rfl) (by kernel_rfl) (by kernel_rfl) ?_
    obtain ⟨x19, hx20, h⟩ := h
    refine H_valW (g := 20) (args := [.agg [.pd (.bool x11), .pd (.sl (x12.map elU32)), .pd (.sl (x13.map elU32))], .agg [.pd (.bool x15), .pd (.sl (x16.map elU32)), .pd (.sl (x17.map elU32))]]) (M := [o1, o2, o1, o5]) (.pd (.int .i64 x19)) (.inl (by kernel_rfl)) (by kernel_rfl) (rat_Compare_ok m _ _ _ _ _ _ hx20) (by kernel_rfl) (hasT 20 (by kernel_rfl)) ?_
    refine H_split (decide (x19 > (0 : Int))) (by kernel_rfl) (fun hp21 => ?_) (fun hp21 => ?_)
    · replace h := h.t hp21
      refine H_leaveP .ret (by kernel_rfl) rfl ?_
      refine H_endM .ret (.pd (.bool false)) ([o1, o2, o1, o5]) (by kernel_rfl) rfl (by kernel_rfl) (by kernel_rfl) (by kernel_rfl) ?_
      obtain ⟨x22, x23, x24, hx25, h⟩ := h
      refine H_valW (g := 49) (args := [.pd (.int .i64 0)]) (M := [o1, o2, o1, o5]) (.agg [.pd (.bool x22), .pd (.sl (x23.map elU32)), .pd (.sl (x24.map elU32))]) (.inl (by kernel_rfl)) (by kernel_rfl) (rat_Int_ok m _ hx25) (by kernel_rfl) (hasT 49 (by kernel_rfl)) ?_
      let o6 : Ob := .cells [.pd (.bool x22), .pd (.sl (x23.map elU32)), .pd (.sl (x24.map elU32))] 1 0 false
      refine H_askK (.junk) ([o1, o6, o1, o5]) (by kernel_rfl) ?_
      exact H_end .ret (.tup [.agg [.pd (.bool x22), .pd (.sl (x23.map elU32)), .pd (.sl (x24.map elU32))], .pd (.bool false)]) (by kernel_rfl) rfl (by kernel_rfl) (by subst h; rfl)
    replace h := h.f hp21
    exact H_againC (st := _) (IntKind.i64.wrap (s100 + 1)) () h trivial (by kernel_rfl) (by kernel_rfl) (by kernel_rfl) (by kernel_rfl) (by kernel_rfl) (by kernel_rfl) (all_c (by kernel_rfl) (all_c (by kernel_rfl) (all_c (by kernel_rfl) all_n))) (by kernel_rfl) (by kernel_rfl)
  replace h := h.f hp8
  refine H_leaveP (.exit 0) (by kernel_rfl) rfl ?_
  refine H_endM .ret (.pd (.bool true)) ([o1, o2, o1]) (by kernel_rfl) rfl (by kernel_rfl) (by kernel_rfl) (by kernel_rfl) ?_
  refine H_askK (.ptr 0 1 0) ([o1, o2, o1]) (by kernel_rfl) ?_
  refine H_askK (.pd (.sl (p1.map elABLU32LU32Z))) ([o1, o2, o1]) (by kernel_rfl) ?_
  obtain ⟨x26, x27, x28, hx29, h⟩ := h
  refine H_valW (g := 21) (args := [.pd (.sl (p3.map elABLU32LU32Z)), .pd (.sl (p1.map elABLU32LU32Z))]) (M := [o1, o2, o1]) (.agg [.pd (.bool x26), .pd (.sl (x27.map elU32)), .pd (.sl (x28.map elU32))]) (.inl (by kernel_rfl)) (by kernel_rfl) (vec_Dot_ok m _ _ hx29) (by kernel_rfl) (hasT 21 (by kernel_rfl)) ?_
  let o7 : Ob := .cells [.pd (.bool x26), .pd (.sl (x27.map elU32)), .pd (.sl (x28.map elU32))] 1 0 false
  refine H_askK (.junk) ([o1, o7, o1]) (by kernel_rfl) ?_
  exact H_end .ret (.tup [.agg [.pd (.bool x26), .pd (.sl (x27.map elU32)), .pd (.sl (x28.map elU32))], .pd (.bool true)]) (by kernel_rfl) rfl (by kernel_rfl) (by subst h; rfl)

theorem proof_holds_1_ok (m : Tp) (p0 : Int) {r : Bool × (List Int) × (List Int)} (h : proof_holds_1 p0 r) : ASpec Tryz.prog (gtT m) 95 [.pd (.int .i64 p0)] (· = .agg [.pd (.bool r.1), .pd (.sl (r.2.1.map elU32)), .pd (.sl (r.2.2.map elU32))]) := by
  refine ASpec_tree Tryz.f95 mixedT (askG [9, 10, 11] false) (by kernel_rfl) ?_
  unfold proof_holds_1 at h
  obtain ⟨x1, x2, x3, hx4, h⟩ := h
  refine H_valW (g := 49) (args := [.pd (.int .i64 0)]) (M := [.cells [.pd (.bool false), .fixed (([] : List Int).map elU32), .fixed (([] : List Int).map elU32)] 1 0 false]) (.agg [.pd (.bool x1), .pd (.sl (x2.map elU32)), .pd (.sl (x3.map elU32))]) (.inl (by kernel_rfl)) (by kernel_rfl) (rat_Int_ok m _ hx4) (by kernel_rfl) (hasT 49 (by kernel_rfl)) ?_
  refine H_askK (.junk) ([.cells [.pd (.bool x1), .pd (.sl (x2.map elU32)), .pd (.sl (x3.map elU32))] 1 0 false]) (by kernel_rfl) ?_
  exact H_end .ret (.agg [.pd (.bool x1), .pd (.sl (x2.map elU32)), .pd (.sl (x3.map elU32))]) (by kernel_rfl) rfl (by kernel_rfl) (by subst h; rfl)

theorem proof_holds_ok (m : Tp) (p0 : List (List (Bool × (List Int) × (List Int)))) (p1 : List (Bool × (List Int) × (List Int))) (p2 : List (Bool × (List Int) × (List Int))) (p3 : Int) (p4 : List (Bool × (List Int) × (List Int))) (p5 : List (Bool × (List Int) × (List Int))) (p6 : List (Bool × (List Int) × (List Int))) {r : Bool} (h : proof_holds p0 p1 p2 p3 p4 p5 p6 r) : ASpec Tryz.prog (gtT m) 44 [.agg [.pd (.sl (p0.map elLABLU32LU32Z)), .pd (.sl (p1.map elABLU32LU32Z)), .pd (.sl (p2.map elABLU32LU32Z))], .agg [.pd (.int .i64 p3), .pd (.sl (p4.map elABLU32LU32Z)), .pd (.sl (p5.map elABLU32LU32Z)), .pd (.sl (p6.map elABLU32LU32Z))]] (· = .pd (.bool r)) := by
  refine ASpec_tree Tryz.f44 mixedT (askO [9, 10, 11] false [34]) (by kernel_rfl) ?_
  unfold proof_holds at h
  let o1 : Ob := .cells [.pd (.sl (p0.map elLABLU32LU32Z)), .pd (.sl (p1.map elABLU32LU32Z)), .pd (.sl (p2.map elABLU32LU32Z))] 1 0 false
  refine H_askK (.ptr 0 0 0) ([o1]) (by kernel_rfl) ?_
  let o2 : Ob := .cells [.pd (.int .i64 p3), .pd (.sl (p4.map elABLU32LU32Z)), .pd (.sl (p5.map elABLU32LU32Z)), .pd (.sl (p6.map elABLU32LU32Z))] 1 0 false
  refine H_askK (.ptr 1 0 0) ([o1, o2]) (by kernel_rfl) ?_
  refine H_askK (.ptr 1 0 0) ([o1, o2]) (by kernel_rfl) ?_
  refine H_askK (.pd (.int .i64 p3)) ([o1, o2]) (by kernel_rfl) ?_
  refine H_split (p3 == (1 : Int)) (by kernel_rfl) (fun hp1 => ?_) (fun hp1 => ?_)
  · replace h := h.t hp1
    refine H_askK (.agg [.pd (.sl (p0.map elLABLU32LU32Z)), .pd (.sl (p1.map elABLU32LU32Z)), .pd (.sl (p2.map elABLU32LU32Z))]) ([o1, o2]) (by kernel_rfl) ?_
    refine H_askK (.ptr 1 2 0) ([o1, o2]) (by kernel_rfl) ?_
    refine H_askK (.pd (.sl (p5.map elABLU32LU32Z))) ([o1, o2]) (by kernel_rfl) ?_
    obtain ⟨x2, x3, x4, x5, hx6, h⟩ := h
    refine H_valW (g := 93) (args := [.agg [.pd (.sl (p0.map elLABLU32LU32Z)), .pd (.sl (p1.map elABLU32LU32Z)), .pd (.sl (p2.map elABLU32LU32Z))], .pd (.sl (p5.map elABLU32LU32Z))]) (M := [o1, o2]) (.tup [.agg [.pd (.bool x2), .pd (.sl (x3.map elU32)), .pd (.sl (x4.map elU32))], .pd (.bool x5)]) (.inl (by kernel_rfl)) (by kernel_rfl) (proof_Lower_ok m _ _ _ _ hx6) (by kernel_rfl) (hasT 93 (by kernel_rfl)) ?_
    cases x5
    · replace h := h.f rfl
      let o3 : Ob := .cells [.pd (.bool x2), .pd (.sl (x3.map elU32)), .pd (.sl (x4.map elU32))] 1 0 false
      refine H_askK (.junk) ([o1, o2, o3]) (by kernel_rfl) ?_
      refine H_draw (by kernel_rfl) ?_
      exact H_end .ret (.pd (.bool false)) (by kernel_rfl) rfl (by kernel_rfl) (by subst h; rfl)
    replace h := h.t rfl
    let o4 : Ob := .cells [.pd (.bool x2), .pd (.sl (x3.map elU32)), .pd (.sl (x4.map elU32))] 1 0 false
    refine H_askK (.junk) ([o1, o2, o4]) (by kernel_rfl) ?_
    refine H_draw (by kernel_rfl) ?_
    refine H_askK (.agg [.pd (.sl (p0.map elLABLU32LU32Z)), .pd (.sl (p1.map elABLU32LU32Z)), .pd (.sl (p2.map elABLU32LU32Z))]) ([o1, o2, o4]) (by kernel_rfl) ?_
    refine H_askK (.ptr 1 1 0) ([o1, o2, o4]) (by kernel_rfl) ?_
    refine H_askK (.pd (.sl (p4.map elABLU32LU32Z))) ([o1, o2, o4]) (by kernel_rfl) ?_
    obtain ⟨x7, hx8, h⟩ := h
    refine H_valW (g := 52) (args := [.agg [.pd (.sl (p0.map elLABLU32LU32Z)), .pd (.sl (p1.map elABLU32LU32Z)), .pd (.sl (p2.map elABLU32LU32Z))], .pd (.sl (p4.map elABLU32LU32Z))]) (M := [o1, o2, o4]) (.pd (.bool x7)) (.inr (by kernel_rfl)) (by kernel_rfl) (shape_Does_ok m _ _ _ _ hx8) (by kernel_rfl) (hasT 52 (by kernel_rfl)) ?_
    cases x7
    · replace h := h.f rfl
      exact H_end .ret (.pd (.bool false)) (by kernel_rfl) rfl (by kernel_rfl) (by subst h; rfl)
    replace h := h.t rfl
    refine H_askK (.agg [.pd (.bool x2), .pd (.sl (x3.map elU32)), .pd (.sl (x4.map elU32))]) ([o1, o2, o4]) (by kernel_rfl) ?_
    refine H_askK (.ptr 0 2 0) ([o1, o2, o4]) (by kernel_rfl) ?_
    refine H_askK (.pd (.sl (p2.map elABLU32LU32Z))) ([o1, o2, o4]) (by kernel_rfl) ?_
    refine H_askK (.ptr 1 1 0) ([o1, o2, o4]) (by kernel_rfl) ?_
    refine H_askK (.pd (.sl (p4.map elABLU32LU32Z))) ([o1, o2, o4]) (by kernel_rfl) ?_
    obtain ⟨x9, x10, x11, hx12, h⟩ := h
    refine H_valW (g := 21) (args := [.pd (.sl (p2.map elABLU32LU32Z)), .pd (.sl (p4.map elABLU32LU32Z))]) (M := [o1, o2, o4]) (.agg [.pd (.bool x9), .pd (.sl (x10.map elU32)), .pd (.sl (x11.map elU32))]) (.inr (by kernel_rfl)) (by kernel_rfl) (vec_Dot_ok m _ _ hx12) (by kernel_rfl) (hasT 21 (by kernel_rfl)) ?_
    obtain ⟨x13, hx14, h⟩ := h
    refine H_valW (g := 20) (args := [.agg [.pd (.bool x2), .pd (.sl (x3.map elU32)), .pd (.sl (x4.map elU32))], .agg [.pd (.bool x9), .pd (.sl (x10.map elU32)), .pd (.sl (x11.map elU32))]]) (M := [o1, o2, o4]) (.pd (.int .i64 x13)) (.inr (by kernel_rfl)) (by kernel_rfl) (rat_Compare_ok m _ _ _ _ _ _ hx14) (by kernel_rfl) (hasT 20 (by kernel_rfl)) ?_
    refine H_split (x13 == (0 : Int)) (by kernel_rfl) (fun hp15 => ?_) (fun hp15 => ?_)
    · replace h := h.t hp15
      exact H_end .ret (.pd (.bool true)) (by kernel_rfl) rfl (by kernel_rfl) (by subst h; rfl)
    replace h := h.f hp15
    exact H_end .ret (.pd (.bool false)) (by kernel_rfl) rfl (by kernel_rfl) (by subst h; rfl)
  replace h := h.f hp1
  refine H_split (p3 == (2 : Int)) (by kernel_rfl) (fun hp16 => ?_) (fun hp16 => ?_)
  · replace h := h.t hp16
    refine H_askK (.agg [.pd (.sl (p0.map elLABLU32LU32Z)), .pd (.sl (p1.map elABLU32LU32Z)), .pd (.sl (p2.map elABLU32LU32Z))]) ([o1, o2]) (by kernel_rfl) ?_
    refine H_askK (.ptr 1 2 0) ([o1, o2]) (by kernel_rfl) ?_
    refine H_askK (.pd (.sl (p5.map elABLU32LU32Z))) ([o1, o2]) (by kernel_rfl) ?_
    refine H_inl (g := 94) (args := [.agg [.pd (.sl (p0.map elLABLU32LU32Z)), .pd (.sl (p1.map elABLU32LU32Z)), .pd (.sl (p2.map elABLU32LU32Z))], .pd (.sl (p5.map elABLU32LU32Z)), .fn (.func 95) [] []]) (M := [o1, o2]) Tryz.f94 mixedT (askO [9, 10, 11] false [34]) (by kernel_rfl) (by kernel_rfl) (hasT 94 (by kernel_rfl)) ?_
    refine H_askK (.ptr 2 0 0) ([o1, o2, o1]) (by kernel_rfl) ?_
    refine H_ask _ _ (by kernel_rfl) (ask_len (P := Tryz.prog) (M := [o1, o2, o1]) (t := 23) (et := 44) (el := elABLU32LU32Z) (by kernel_rfl) (e := p5)) ?_
    refine H_askK (.ptr 2 0 0) ([o1, o2, o1]) (by kernel_rfl) ?_
    refine H_askK (.pd (.sl (p0.map elLABLU32LU32Z))) ([o1, o2, o1]) (by kernel_rfl) ?_
    refine H_ask _ _ (by kernel_rfl) (ask_len (P := Tryz.prog) (M := [o1, o2, o1]) (t := 22) (et := 23) (el := elLABLU32LU32Z) (by kernel_rfl) (e := p0)) ?_
    refine H_split ((p5.length : Int) != (p0.length : Int)) (by kernel_rfl) (fun hp17 => ?_) (fun hp17 => ?_)
    · replace h := h.t hp17
      refine H_endM .ret (.pd (.bool false)) ([o1, o2, o1]) (by kernel_rfl) rfl (by kernel_rfl) (by kernel_rfl) (by kernel_rfl) ?_
      exact H_end .ret (.pd (.bool false)) (by kernel_rfl) rfl (by kernel_rfl) (by subst h; rfl)
    replace h := h.f hp17
    refine H_askK (.ptr 2 2 0) ([o1, o2, o1]) (by kernel_rfl) ?_
    refine H_askK (.pd (.sl (p2.map elABLU32LU32Z))) ([o1, o2, o1]) (by kernel_rfl) ?_
    refine H_ask _ _ (by kernel_rfl) (ask_len (P := Tryz.prog) (M := [o1, o2, o1]) (t := 23) (et := 44) (el := elABLU32LU32Z) (by kernel_rfl) (e := p2)) ?_
    refine H_loopP (F := proof_holds_L1 p0 p1 p2 p5 r) (s0 := (0 : Int)) h () 31 3
      (fun (s100 : Int) (() : Unit) => [(1, .pd (.sl (p5.map elABLU32LU32Z))), (2, .fn (.func 95) [] []), (3, .ptr 2 0 0), (16, .pd (.int .i64 (p2.length : Int))), (17, .pd (.int .i64 s100))])
      (fun (s100 : Int) (() : Unit) => [.cells [.pd (.sl (p0.map elLABLU32LU32Z)), .pd (.sl (p1.map elABLU32LU32Z)), .pd (.sl (p2.map elABLU32LU32Z))] 1 0 false, .cells [.pd (.int .i64 p3), .pd (.sl (p4.map elABLU32LU32Z)), .pd (.sl (p5.map elABLU32LU32Z)), .pd (.sl (p6.map elABLU32LU32Z))] 1 0 false, .cells [.pd (.sl (p0.map elLABLU32LU32Z)), .pd (.sl (p1.map elABLU32LU32Z)), .pd (.sl (p2.map elABLU32LU32Z))] 1 0 false]) (fun (s100 : Int) (() : Unit) => True) trivial [] mixedT (askO [9, 10, 11] false [34])
      (by kernel_rfl) (by kernel_rfl) (by kernel_rfl) (by kernel_rfl) (by kernel_rfl) (fun _ _ => rfl) ?_
    rintro X1 s100 ⟨⟩ - h
    dsimp only [proof_holds_L1] at h
    refine H_split (decide (s100 < (p2.length : Int))) (by kernel_rfl) (fun hp18 => ?_) (fun hp18 => ?_)
    · replace h := h.t hp18
      refine H_askK (.agg [.pd (.sl (p0.map elLABLU32LU32Z)), .pd (.sl (p1.map elABLU32LU32Z)), .pd (.sl (p2.map elABLU32LU32Z))]) ([o1, o2, o1]) (by kernel_rfl) ?_
      obtain ⟨x19, hx20, h⟩ := h
      refine H_valW (g := 133) (args := [.agg [.pd (.sl (p0.map elLABLU32LU32Z)), .pd (.sl (p1.map elABLU32LU32Z)), .pd (.sl (p2.map elABLU32LU32Z))], .pd (.int .i64 s100)]) (M := [o1, o2, o1]) (.pd (.sl (x19.map elABLU32LU32Z))) (.inl (by kernel_rfl)) (by kernel_rfl) (shape_Column_ok m _ _ _ _ hx20) (by kernel_rfl) (hasT 133 (by kernel_rfl)) ?_
      obtain ⟨x21, x22, x23, hx24, h⟩ := h
      refine H_valW (g := 21) (args := [.pd (.sl (p5.map elABLU32LU32Z)), .pd (.sl (x19.map elABLU32LU32Z))]) (M := [o1, o2, o1]) (.agg [.pd (.bool x21), .pd (.sl (x22.map elU32)), .pd (.sl (x23.map elU32))]) (.inl (by kernel_rfl)) (by kernel_rfl) (vec_Dot_ok m _ _ hx24) (by kernel_rfl) (hasT 21 (by kernel_rfl)) ?_
      obtain ⟨x25, x26, x27, hx28, h⟩ := h
      refine H_valW (g := 95) (args := [.pd (.int .i64 s100)]) (M := [o1, o2, o1]) (.agg [.pd (.bool x25), .pd (.sl (x26.map elU32)), .pd (.sl (x27.map elU32))]) (.inl (by kernel_rfl)) (by kernel_rfl) (proof_holds_1_ok m _ hx28) (by kernel_rfl) (hasT 95 (by kernel_rfl)) ?_
      obtain ⟨x29, hx30, h⟩ := h
      refine H_valW (g := 20) (args := [.agg [.pd (.bool x21), .pd (.sl (x22.map elU32)), .pd (.sl (x23.map elU32))], .agg [.pd (.bool x25), .pd (.sl (x26.map elU32)), .pd (.sl (x27.map elU32))]]) (M := [o1, o2, o1]) (.pd (.int .i64 x29)) (.inl (by kernel_rfl)) (by kernel_rfl) (rat_Compare_ok m _ _ _ _ _ _ hx30) (by kernel_rfl) (hasT 20 (by kernel_rfl)) ?_
      refine H_split (decide (x29 > (0 : Int))) (by kernel_rfl) (fun hp31 => ?_) (fun hp31 => ?_)
      · replace h := h.t hp31
        refine H_leaveP .ret (by kernel_rfl) rfl ?_
        refine H_endM .ret (.pd (.bool false)) ([o1, o2, o1]) (by kernel_rfl) rfl (by kernel_rfl) (by kernel_rfl) (by kernel_rfl) ?_
        exact H_end .ret (.pd (.bool false)) (by kernel_rfl) rfl (by kernel_rfl) (by subst h; rfl)
      replace h := h.f hp31
      exact H_againP (st := _) (IntKind.i64.wrap (s100 + 1)) () h trivial (by kernel_rfl) (by kernel_rfl) (by kernel_rfl) (by kernel_rfl) (by kernel_rfl)
    replace h := h.f hp18
    refine H_leaveP (.exit 0) (by kernel_rfl) rfl ?_
    refine H_endM .ret (.pd (.bool true)) ([o1, o2, o1]) (by kernel_rfl) rfl (by kernel_rfl) (by kernel_rfl) (by kernel_rfl) ?_
    refine H_askK (.ptr 1 2 0) ([o1, o2, o1]) (by kernel_rfl) ?_
    refine H_askK (.pd (.sl (p5.map elABLU32LU32Z))) ([o1, o2, o1]) (by kernel_rfl) ?_
    refine H_askK (.ptr 0 1 0) ([o1, o2, o1]) (by kernel_rfl) ?_
    refine H_askK (.pd (.sl (p1.map elABLU32LU32Z))) ([o1, o2, o1]) (by kernel_rfl) ?_
    obtain ⟨x32, x33, x34, hx35, h⟩ := h
    refine H_valW (g := 21) (args := [.pd (.sl (p5.map elABLU32LU32Z)), .pd (.sl (p1.map elABLU32LU32Z))]) (M := [o1, o2, o1]) (.agg [.pd (.bool x32), .pd (.sl (x33.map elU32)), .pd (.sl (x34.map elU32))]) (.inl (by kernel_rfl)) (by kernel_rfl) (vec_Dot_ok m _ _ hx35) (by kernel_rfl) (hasT 21 (by kernel_rfl)) ?_
    obtain ⟨x36, hx37, h⟩ := h
    refine H_valW (g := 23) (args := [.agg [.pd (.bool x32), .pd (.sl (x33.map elU32)), .pd (.sl (x34.map elU32))]]) (M := [o1, o2, o1]) (.pd (.int .i64 x36)) (.inl (by kernel_rfl)) (by kernel_rfl) (rat_Sign_ok m _ _ _ hx37) (by kernel_rfl) (hasT 23 (by kernel_rfl)) ?_
    refine H_split (decide (x36 > (0 : Int))) (by kernel_rfl) (fun hp38 => ?_) (fun hp38 => ?_)
    · replace h := h.t hp38
      exact H_end .ret (.pd (.bool true)) (by kernel_rfl) rfl (by kernel_rfl) (by subst h; rfl)
    replace h := h.f hp38
    exact H_end .ret (.pd (.bool false)) (by kernel_rfl) rfl (by kernel_rfl) (by subst h; rfl)
  replace h := h.f hp16
  refine H_drawM [0, 1, 2, 3, 4, 5, 6, 7, 8, 9] [(0, (fun M => ∃ (RR : Mem), M = ([.cells [.pd (.sl (p0.map elLABLU32LU32Z)), .pd (.sl (p1.map elABLU32LU32Z)), .pd (.sl (p2.map elABLU32LU32Z))] 1 0 false, .cells [.pd (.int .i64 p3), .pd (.sl (p4.map elABLU32LU32Z)), .pd (.sl (p5.map elABLU32LU32Z)), .pd (.sl (p6.map elABLU32LU32Z))] 1 0 false] : Mem) ++ RR)), (1, (fun M => ∃ (RR : Mem), M = ([.cells [.pd (.sl (p0.map elLABLU32LU32Z)), .pd (.sl (p1.map elABLU32LU32Z)), .pd (.sl (p2.map elABLU32LU32Z))] 1 0 false, .cells [.pd (.int .i64 p3), .pd (.sl (p4.map elABLU32LU32Z)), .pd (.sl (p5.map elABLU32LU32Z)), .pd (.sl (p6.map elABLU32LU32Z))] 1 0 false] : Mem) ++ RR)), (2, (fun M => ∃ (RR : Mem), M = ([.cells [.pd (.sl (p0.map elLABLU32LU32Z)), .pd (.sl (p1.map elABLU32LU32Z)), .pd (.sl (p2.map elABLU32LU32Z))] 1 0 false, .cells [.pd (.int .i64 p3), .pd (.sl (p4.map elABLU32LU32Z)), .pd (.sl (p5.map elABLU32LU32Z)), .pd (.sl (p6.map elABLU32LU32Z))] 1 0 false] : Mem) ++ RR)), (3, (fun M => ∃ (RR : Mem), M = ([.cells [.pd (.sl (p0.map elLABLU32LU32Z)), .pd (.sl (p1.map elABLU32LU32Z)), .pd (.sl (p2.map elABLU32LU32Z))] 1 0 false, .cells [.pd (.int .i64 p3), .pd (.sl (p4.map elABLU32LU32Z)), .pd (.sl (p5.map elABLU32LU32Z)), .pd (.sl (p6.map elABLU32LU32Z))] 1 0 false] : Mem) ++ RR)), (7, (fun M => ∃ (RR : Mem), M = ([.cells [.pd (.sl (p0.map elLABLU32LU32Z)), .pd (.sl (p1.map elABLU32LU32Z)), .pd (.sl (p2.map elABLU32LU32Z))] 1 0 false, .cells [.pd (.int .i64 p3), .pd (.sl (p4.map elABLU32LU32Z)), .pd (.sl (p5.map elABLU32LU32Z)), .pd (.sl (p6.map elABLU32LU32Z))] 1 0 false] : Mem) ++ RR)), (8, (fun M => ∃ (RR : Mem), M = ([.cells [.pd (.sl (p0.map elLABLU32LU32Z)), .pd (.sl (p1.map elABLU32LU32Z)), .pd (.sl (p2.map elABLU32LU32Z))] 1 0 false, .cells [.pd (.int .i64 p3), .pd (.sl (p4.map elABLU32LU32Z)), .pd (.sl (p5.map elABLU32LU32Z)), .pd (.sl (p6.map elABLU32LU32Z))] 1 0 false] : Mem) ++ RR))] ([o1, o2]) (by kernel_rfl) (by kernel_rfl) ⟨⟨[], rfl⟩, ⟨[], rfl⟩, ⟨[], rfl⟩, ⟨[], rfl⟩, ⟨[], rfl⟩, ⟨[], rfl⟩, trivial⟩ ?_
  refine H_askM (fun M => ∃ (RR : Mem), M = ([.cells [.pd (.sl (p0.map elLABLU32LU32Z)), .pd (.sl (p1.map elABLU32LU32Z)), .pd (.sl (p2.map elABLU32LU32Z))] 1 0 false, .cells [.pd (.int .i64 p3), .pd (.sl (p4.map elABLU32LU32Z)), .pd (.sl (p5.map elABLU32LU32Z)), .pd (.sl (p6.map elABLU32LU32Z))] 1 0 false] : Mem) ++ RR) (.ptr 0 0 0) (by kernel_rfl) (by kernel_rfl) (by rintro _ ⟨_, rfl⟩; kernel_rfl) ?_
  refine H_askM (fun M => ∃ (RR : Mem), M = ([.cells [.pd (.sl (p0.map elLABLU32LU32Z)), .pd (.sl (p1.map elABLU32LU32Z)), .pd (.sl (p2.map elABLU32LU32Z))] 1 0 false, .cells [.pd (.int .i64 p3), .pd (.sl (p4.map elABLU32LU32Z)), .pd (.sl (p5.map elABLU32LU32Z)), .pd (.sl (p6.map elABLU32LU32Z))] 1 0 false] : Mem) ++ RR) (.pd (.sl (p0.map elLABLU32LU32Z))) (by kernel_rfl) (by kernel_rfl) (by rintro _ ⟨_, rfl⟩; kernel_rfl) ?_
  refine H_askM (fun M => ∃ (RR : Mem), M = ([.cells [.pd (.sl (p0.map elLABLU32LU32Z)), .pd (.sl (p1.map elABLU32LU32Z)), .pd (.sl (p2.map elABLU32LU32Z))] 1 0 false, .cells [.pd (.int .i64 p3), .pd (.sl (p4.map elABLU32LU32Z)), .pd (.sl (p5.map elABLU32LU32Z)), .pd (.sl (p6.map elABLU32LU32Z))] 1 0 false] : Mem) ++ RR) (.ptr 0 1 0) (by kernel_rfl) (by kernel_rfl) (by rintro _ ⟨_, rfl⟩; kernel_rfl) ?_
  refine H_askM (fun M => ∃ (RR : Mem), M = ([.cells [.pd (.sl (p0.map elLABLU32LU32Z)), .pd (.sl (p1.map elABLU32LU32Z)), .pd (.sl (p2.map elABLU32LU32Z))] 1 0 false, .cells [.pd (.int .i64 p3), .pd (.sl (p4.map elABLU32LU32Z)), .pd (.sl (p5.map elABLU32LU32Z)), .pd (.sl (p6.map elABLU32LU32Z))] 1 0 false] : Mem) ++ RR) (.pd (.sl (p1.map elABLU32LU32Z))) (by kernel_rfl) (by kernel_rfl) (by rintro _ ⟨_, rfl⟩; kernel_rfl) ?_
  refine H_askall _ (by kernel_rfl) (fun M' => ask_len (P := Tryz.prog) (M := M') (t := 23) (et := 44) (el := elABLU32LU32Z) (by kernel_rfl) (e := p1)) ?_
  obtain ⟨hx39, h⟩ := h
  let o5 : Ob := .cells (rowC lvI64 (List.replicate (Int.toNat (p1.length : Int)) (0 : Int))) 1 0 false
  refine H_mkf (x := .sl ((List.replicate (Int.toNat (p1.length : Int)) (0 : Int)).map elI64)) (by kernel_rfl) (ask_make (P := Tryz.prog) (M := []) (t := 34) (k := .i64) (lv := lvI64) (by_ := 8) (n := (p1.length : Int)) (z := (0 : Int)) okI64 ⟨3, .int .i64 0, by kernel_rfl, by kernel_rfl, rfl, by kernel_rfl, by decide, rfl⟩ hx39.1 hx39.2.1 hx39.2.2) (own_pd (b := 0) okI64 (by decide) lgI64 (M := [o5]) (o := .cells (rowC lvI64 (List.replicate (Int.toNat (p1.length : Int)) (0 : Int))) 1 0 false) rfl (rowIs_c (lv := lvI64) (s := 1) (e := (List.replicate (Int.toNat (p1.length : Int)) (0 : Int))) (ver := 0) (z := false)) (n := (List.replicate (Int.toNat (p1.length : Int)) (0 : Int)).length) rfl) ?_
  obtain ⟨x40, hx41, h⟩ := h
  refine H_valWF (g := 43) (args := [.pd (.sl ((List.replicate (Int.toNat (p1.length : Int)) (0 : Int)).map elI64))]) (.pd (.sl (x40.map elABLU32LU32Z))) (by kernel_rfl) (by kernel_rfl) (vec_Ints_ok m _ hx41) (by kernel_rfl) (hasT 43 (by kernel_rfl)) ?_
  refine H_askM (fun M => ∃ (RR : Mem), M = ([.cells [.pd (.sl (p0.map elLABLU32LU32Z)), .pd (.sl (p1.map elABLU32LU32Z)), .pd (.sl (p2.map elABLU32LU32Z))] 1 0 false, .cells [.pd (.int .i64 p3), .pd (.sl (p4.map elABLU32LU32Z)), .pd (.sl (p5.map elABLU32LU32Z)), .pd (.sl (p6.map elABLU32LU32Z))] 1 0 false] : Mem) ++ RR) (.ptr 0 2 0) (by kernel_rfl) (by kernel_rfl) (by rintro _ ⟨_, rfl⟩; kernel_rfl) ?_
  refine H_askM (fun M => ∃ (RR : Mem), M = ([.cells [.pd (.sl (p0.map elLABLU32LU32Z)), .pd (.sl (p1.map elABLU32LU32Z)), .pd (.sl (p2.map elABLU32LU32Z))] 1 0 false, .cells [.pd (.int .i64 p3), .pd (.sl (p4.map elABLU32LU32Z)), .pd (.sl (p5.map elABLU32LU32Z)), .pd (.sl (p6.map elABLU32LU32Z))] 1 0 false] : Mem) ++ RR) (.pd (.sl (p2.map elABLU32LU32Z))) (by kernel_rfl) (by kernel_rfl) (by rintro _ ⟨_, rfl⟩; kernel_rfl) ?_
  refine H_askall (.agg [.pd (.sl (p0.map elLABLU32LU32Z)), .pd (.sl (x40.map elABLU32LU32Z)), .pd (.sl (p2.map elABLU32LU32Z))]) (f := fun M' => some (.agg [.pd (.sl (p0.map elLABLU32LU32Z)), .pd (.sl (x40.map elABLU32LU32Z)), .pd (.sl (p2.map elABLU32LU32Z))], M')) (by kernel_rfl) (fun _ => rfl) ?_
  refine H_chk (p := (fun M => ∃ (RR : Mem), M = ([.cells [.pd (.sl (p0.map elLABLU32LU32Z)), .pd (.sl (p1.map elABLU32LU32Z)), .pd (.sl (p2.map elABLU32LU32Z))] 1 0 false, .cells [.pd (.int .i64 p3), .pd (.sl (p4.map elABLU32LU32Z)), .pd (.sl (p5.map elABLU32LU32Z)), .pd (.sl (p6.map elABLU32LU32Z))] 1 0 false] : Mem) ++ RR) [.cells [.pd (.sl (p0.map elLABLU32LU32Z)), .pd (.sl (p1.map elABLU32LU32Z)), .pd (.sl (p2.map elABLU32LU32Z))] 1 0 false, .cells [.pd (.int .i64 p3), .pd (.sl (p4.map elABLU32LU32Z)), .pd (.sl (p5.map elABLU32LU32Z)), .pd (.sl (p6.map elABLU32LU32Z))] 1 0 false, .cells [.fixed (([] : List (List (Bool × (List Int) × (List Int)))).map elLABLU32LU32Z), .fixed (([] : List (Bool × (List Int) × (List Int))).map elABLU32LU32Z), .fixed (([] : List (Bool × (List Int) × (List Int))).map elABLU32LU32Z)] 1 0 false] ∧ (fun M => ∃ (RR : Mem), M = ([.cells [.pd (.sl (p0.map elLABLU32LU32Z)), .pd (.sl (p1.map elABLU32LU32Z)), .pd (.sl (p2.map elABLU32LU32Z))] 1 0 false, .cells [.pd (.int .i64 p3), .pd (.sl (p4.map elABLU32LU32Z)), .pd (.sl (p5.map elABLU32LU32Z)), .pd (.sl (p6.map elABLU32LU32Z))] 1 0 false] : Mem) ++ RR) [.cells [.pd (.sl (p0.map elLABLU32LU32Z)), .pd (.sl (p1.map elABLU32LU32Z)), .pd (.sl (p2.map elABLU32LU32Z))] 1 0 false, .cells [.pd (.int .i64 p3), .pd (.sl (p4.map elABLU32LU32Z)), .pd (.sl (p5.map elABLU32LU32Z)), .pd (.sl (p6.map elABLU32LU32Z))] 1 0 false, .cells [.fixed (([] : List (List (Bool × (List Int) × (List Int)))).map elLABLU32LU32Z), .fixed (([] : List (Bool × (List Int) × (List Int))).map elABLU32LU32Z), .fixed (([] : List (Bool × (List Int) × (List Int))).map elABLU32LU32Z)] 1 0 false] ∧ (fun M => ∃ (RR : Mem), M = ([.cells [.pd (.sl (p0.map elLABLU32LU32Z)), .pd (.sl (p1.map elABLU32LU32Z)), .pd (.sl (p2.map elABLU32LU32Z))] 1 0 false, .cells [.pd (.int .i64 p3), .pd (.sl (p4.map elABLU32LU32Z)), .pd (.sl (p5.map elABLU32LU32Z)), .pd (.sl (p6.map elABLU32LU32Z))] 1 0 false] : Mem) ++ RR) [.cells [.pd (.sl (p0.map elLABLU32LU32Z)), .pd (.sl (p1.map elABLU32LU32Z)), .pd (.sl (p2.map elABLU32LU32Z))] 1 0 false, .cells [.pd (.int .i64 p3), .pd (.sl (p4.map elABLU32LU32Z)), .pd (.sl (p5.map elABLU32LU32Z)), .pd (.sl (p6.map elABLU32LU32Z))] 1 0 false, .cells [.fixed (([] : List (List (Bool × (List Int) × (List Int)))).map elLABLU32LU32Z), .fixed (([] : List (Bool × (List Int) × (List Int))).map elABLU32LU32Z), .fixed (([] : List (Bool × (List Int) × (List Int))).map elABLU32LU32Z)] 1 0 false] ∧ (fun M => ∃ (RR : Mem), M = ([.cells [.pd (.sl (p0.map elLABLU32LU32Z)), .pd (.sl (p1.map elABLU32LU32Z)), .pd (.sl (p2.map elABLU32LU32Z))] 1 0 false, .cells [.pd (.int .i64 p3), .pd (.sl (p4.map elABLU32LU32Z)), .pd (.sl (p5.map elABLU32LU32Z)), .pd (.sl (p6.map elABLU32LU32Z))] 1 0 false] : Mem) ++ RR) [.cells [.pd (.sl (p0.map elLABLU32LU32Z)), .pd (.sl (p1.map elABLU32LU32Z)), .pd (.sl (p2.map elABLU32LU32Z))] 1 0 false, .cells [.pd (.int .i64 p3), .pd (.sl (p4.map elABLU32LU32Z)), .pd (.sl (p5.map elABLU32LU32Z)), .pd (.sl (p6.map elABLU32LU32Z))] 1 0 false, .cells [.fixed (([] : List (List (Bool × (List Int) × (List Int)))).map elLABLU32LU32Z), .fixed (([] : List (Bool × (List Int) × (List Int))).map elABLU32LU32Z), .fixed (([] : List (Bool × (List Int) × (List Int))).map elABLU32LU32Z)] 1 0 false] ∧ (fun M => ∃ (RR : Mem), M = ([.cells [.pd (.sl (p0.map elLABLU32LU32Z)), .pd (.sl (p1.map elABLU32LU32Z)), .pd (.sl (p2.map elABLU32LU32Z))] 1 0 false, .cells [.pd (.int .i64 p3), .pd (.sl (p4.map elABLU32LU32Z)), .pd (.sl (p5.map elABLU32LU32Z)), .pd (.sl (p6.map elABLU32LU32Z))] 1 0 false] : Mem) ++ RR) [.cells [.pd (.sl (p0.map elLABLU32LU32Z)), .pd (.sl (p1.map elABLU32LU32Z)), .pd (.sl (p2.map elABLU32LU32Z))] 1 0 false, .cells [.pd (.int .i64 p3), .pd (.sl (p4.map elABLU32LU32Z)), .pd (.sl (p5.map elABLU32LU32Z)), .pd (.sl (p6.map elABLU32LU32Z))] 1 0 false, .cells [.fixed (([] : List (List (Bool × (List Int) × (List Int)))).map elLABLU32LU32Z), .fixed (([] : List (Bool × (List Int) × (List Int))).map elABLU32LU32Z), .fixed (([] : List (Bool × (List Int) × (List Int))).map elABLU32LU32Z)] 1 0 false] ∧ (fun M => ∃ (RR : Mem), M = ([.cells [.pd (.sl (p0.map elLABLU32LU32Z)), .pd (.sl (p1.map elABLU32LU32Z)), .pd (.sl (p2.map elABLU32LU32Z))] 1 0 false, .cells [.pd (.int .i64 p3), .pd (.sl (p4.map elABLU32LU32Z)), .pd (.sl (p5.map elABLU32LU32Z)), .pd (.sl (p6.map elABLU32LU32Z))] 1 0 false] : Mem) ++ RR) [.cells [.pd (.sl (p0.map elLABLU32LU32Z)), .pd (.sl (p1.map elABLU32LU32Z)), .pd (.sl (p2.map elABLU32LU32Z))] 1 0 false, .cells [.pd (.int .i64 p3), .pd (.sl (p4.map elABLU32LU32Z)), .pd (.sl (p5.map elABLU32LU32Z)), .pd (.sl (p6.map elABLU32LU32Z))] 1 0 false, .cells [.fixed (([] : List (List (Bool × (List Int) × (List Int)))).map elLABLU32LU32Z), .fixed (([] : List (Bool × (List Int) × (List Int))).map elABLU32LU32Z), .fixed (([] : List (Bool × (List Int) × (List Int))).map elABLU32LU32Z)] 1 0 false] ∧ True) (by kernel_rfl) (by kernel_rfl) ⟨⟨[.cells [.fixed (([] : List (List (Bool × (List Int) × (List Int)))).map elLABLU32LU32Z), .fixed (([] : List (Bool × (List Int) × (List Int))).map elABLU32LU32Z), .fixed (([] : List (Bool × (List Int) × (List Int))).map elABLU32LU32Z)] 1 0 false], rfl⟩, ⟨[.cells [.fixed (([] : List (List (Bool × (List Int) × (List Int)))).map elLABLU32LU32Z), .fixed (([] : List (Bool × (List Int) × (List Int))).map elABLU32LU32Z), .fixed (([] : List (Bool × (List Int) × (List Int))).map elABLU32LU32Z)] 1 0 false], rfl⟩, ⟨[.cells [.fixed (([] : List (List (Bool × (List Int) × (List Int)))).map elLABLU32LU32Z), .fixed (([] : List (Bool × (List Int) × (List Int))).map elABLU32LU32Z), .fixed (([] : List (Bool × (List Int) × (List Int))).map elABLU32LU32Z)] 1 0 false], rfl⟩, ⟨[.cells [.fixed (([] : List (List (Bool × (List Int) × (List Int)))).map elLABLU32LU32Z), .fixed (([] : List (Bool × (List Int) × (List Int))).map elABLU32LU32Z), .fixed (([] : List (Bool × (List Int) × (List Int))).map elABLU32LU32Z)] 1 0 false], rfl⟩, ⟨[.cells [.fixed (([] : List (List (Bool × (List Int) × (List Int)))).map elLABLU32LU32Z), .fixed (([] : List (Bool × (List Int) × (List Int))).map elABLU32LU32Z), .fixed (([] : List (Bool × (List Int) × (List Int))).map elABLU32LU32Z)] 1 0 false], rfl⟩, ⟨[.cells [.fixed (([] : List (List (Bool × (List Int) × (List Int)))).map elLABLU32LU32Z), .fixed (([] : List (Bool × (List Int) × (List Int))).map elABLU32LU32Z), .fixed (([] : List (Bool × (List Int) × (List Int))).map elABLU32LU32Z)] 1 0 false], rfl⟩, trivial⟩ ?_
  let o6 : Ob := .cells [.pd (.sl (p0.map elLABLU32LU32Z)), .pd (.sl (x40.map elABLU32LU32Z)), .pd (.sl (p2.map elABLU32LU32Z))] 1 0 false
  refine H_askK (.junk) ([o1, o2, o6]) (by kernel_rfl) ?_
  refine H_chk (p := True) (by kernel_rfl) (by kernel_rfl) trivial ?_
  refine H_askK (.agg [.pd (.sl (p0.map elLABLU32LU32Z)), .pd (.sl (p1.map elABLU32LU32Z)), .pd (.sl (p2.map elABLU32LU32Z))]) ([o1, o2, o6]) (by kernel_rfl) ?_
  refine H_askK (.ptr 1 1 0) ([o1, o2, o6]) (by kernel_rfl) ?_
  refine H_askK (.pd (.sl (p4.map elABLU32LU32Z))) ([o1, o2, o6]) (by kernel_rfl) ?_
  obtain ⟨x42, hx43, h⟩ := h
  refine H_valW (g := 52) (args := [.agg [.pd (.sl (p0.map elLABLU32LU32Z)), .pd (.sl (p1.map elABLU32LU32Z)), .pd (.sl (p2.map elABLU32LU32Z))], .pd (.sl (p4.map elABLU32LU32Z))]) (M := [o1, o2, o6]) (.pd (.bool x42)) (.inl (by kernel_rfl)) (by kernel_rfl) (shape_Does_ok m _ _ _ _ hx43) (by kernel_rfl) (hasT 52 (by kernel_rfl)) ?_
  cases x42
  · replace h := h.f rfl
    exact H_end .ret (.pd (.bool false)) (by kernel_rfl) rfl (by kernel_rfl) (by subst h; rfl)
  replace h := h.t rfl
  refine H_askK (.agg [.pd (.sl (p0.map elLABLU32LU32Z)), .pd (.sl (x40.map elABLU32LU32Z)), .pd (.sl (p2.map elABLU32LU32Z))]) ([o1, o2, o6]) (by kernel_rfl) ?_
  refine H_askK (.ptr 1 3 0) ([o1, o2, o6]) (by kernel_rfl) ?_
  refine H_askK (.pd (.sl (p6.map elABLU32LU32Z))) ([o1, o2, o6]) (by kernel_rfl) ?_
  obtain ⟨x44, hx45, h⟩ := h
  refine H_valW (g := 52) (args := [.agg [.pd (.sl (p0.map elLABLU32LU32Z)), .pd (.sl (x40.map elABLU32LU32Z)), .pd (.sl (p2.map elABLU32LU32Z))], .pd (.sl (p6.map elABLU32LU32Z))]) (M := [o1, o2, o6]) (.pd (.bool x44)) (.inl (by kernel_rfl)) (by kernel_rfl) (shape_Does_ok m _ _ _ _ hx45) (by kernel_rfl) (hasT 52 (by kernel_rfl)) ?_
  cases x44
  · replace h := h.f rfl
    exact H_end .ret (.pd (.bool false)) (by kernel_rfl) rfl (by kernel_rfl) (by subst h; rfl)
  replace h := h.t rfl
  refine H_askK (.ptr 0 2 0) ([o1, o2, o6]) (by kernel_rfl) ?_
  refine H_askK (.pd (.sl (p2.map elABLU32LU32Z))) ([o1, o2, o6]) (by kernel_rfl) ?_
  refine H_askK (.ptr 1 3 0) ([o1, o2, o6]) (by kernel_rfl) ?_
  refine H_askK (.pd (.sl (p6.map elABLU32LU32Z))) ([o1, o2, o6]) (by kernel_rfl) ?_
  obtain ⟨x46, x47, x48, hx49, h⟩ := h
  refine H_valW (g := 21) (args := [.pd (.sl (p2.map elABLU32LU32Z)), .pd (.sl (p6.map elABLU32LU32Z))]) (M := [o1, o2, o6]) (.agg [.pd (.bool x46), .pd (.sl (x47.map elU32)), .pd (.sl (x48.map elU32))]) (.inl (by kernel_rfl)) (by kernel_rfl) (vec_Dot_ok m _ _ hx49) (by kernel_rfl) (hasT 21 (by kernel_rfl)) ?_
  obtain ⟨x50, hx51, h⟩ := h
  refine H_valW (g := 23) (args := [.agg [.pd (.bool x46), .pd (.sl (x47.map elU32)), .pd (.sl (x48.map elU32))]]) (M := [o1, o2, o6]) (.pd (.int .i64 x50)) (.inl (by kernel_rfl)) (by kernel_rfl) (rat_Sign_ok m _ _ _ hx51) (by kernel_rfl) (hasT 23 (by kernel_rfl)) ?_
  refine H_split (decide (x50 < (0 : Int))) (by kernel_rfl) (fun hp52 => ?_) (fun hp52 => ?_)
  · replace h := h.t hp52
    exact H_end .ret (.pd (.bool true)) (by kernel_rfl) rfl (by kernel_rfl) (by subst h; rfl)
  replace h := h.f hp52
  exact H_end .ret (.pd (.bool false)) (by kernel_rfl) rfl (by kernel_rfl) (by subst h; rfl)

theorem proof_Check_ok (m : Tp) (p0 : List (List (Bool × (List Int) × (List Int)))) (p1 : List (Bool × (List Int) × (List Int))) (p2 : List (Bool × (List Int) × (List Int))) (p3 : Int) (p4 : List (Bool × (List Int) × (List Int))) (p5 : List (Bool × (List Int) × (List Int))) (p6 : List (Bool × (List Int) × (List Int))) {r : Int} (h : proof_Check p0 p1 p2 p3 p4 p5 p6 r) : ASpec Tryz.prog (gtT m) 15 [.agg [.pd (.sl (p0.map elLABLU32LU32Z)), .pd (.sl (p1.map elABLU32LU32Z)), .pd (.sl (p2.map elABLU32LU32Z))], .agg [.pd (.int .i64 p3), .pd (.sl (p4.map elABLU32LU32Z)), .pd (.sl (p5.map elABLU32LU32Z)), .pd (.sl (p6.map elABLU32LU32Z))]] (· = .pd (.int .i64 r)) := by
  refine ASpec_tree Tryz.f15 mixedT (askG [9, 10, 11] false) (by kernel_rfl) ?_
  unfold proof_Check at h
  refine H_askK (.ptr 0 0 0) ([.cells [.pd (.sl (p0.map elLABLU32LU32Z)), .pd (.sl (p1.map elABLU32LU32Z)), .pd (.sl (p2.map elABLU32LU32Z))] 1 0 false]) (by kernel_rfl) ?_
  refine H_askK (.ptr 1 0 0) ([.cells [.pd (.sl (p0.map elLABLU32LU32Z)), .pd (.sl (p1.map elABLU32LU32Z)), .pd (.sl (p2.map elABLU32LU32Z))] 1 0 false, .cells [.pd (.int .i64 p3), .pd (.sl (p4.map elABLU32LU32Z)), .pd (.sl (p5.map elABLU32LU32Z)), .pd (.sl (p6.map elABLU32LU32Z))] 1 0 false]) (by kernel_rfl) ?_
  refine H_askK (.agg [.pd (.sl (p0.map elLABLU32LU32Z)), .pd (.sl (p1.map elABLU32LU32Z)), .pd (.sl (p2.map elABLU32LU32Z))]) ([.cells [.pd (.sl (p0.map elLABLU32LU32Z)), .pd (.sl (p1.map elABLU32LU32Z)), .pd (.sl (p2.map elABLU32LU32Z))] 1 0 false, .cells [.pd (.int .i64 p3), .pd (.sl (p4.map elABLU32LU32Z)), .pd (.sl (p5.map elABLU32LU32Z)), .pd (.sl (p6.map elABLU32LU32Z))] 1 0 false]) (by kernel_rfl) ?_
  obtain ⟨x1, hx2, h⟩ := h
  refine H_valW (g := 18) (args := [.agg [.pd (.sl (p0.map elLABLU32LU32Z)), .pd (.sl (p1.map elABLU32LU32Z)), .pd (.sl (p2.map elABLU32LU32Z))]]) (M := [.cells [.pd (.sl (p0.map elLABLU32LU32Z)), .pd (.sl (p1.map elABLU32LU32Z)), .pd (.sl (p2.map elABLU32LU32Z))] 1 0 false, .cells [.pd (.int .i64 p3), .pd (.sl (p4.map elABLU32LU32Z)), .pd (.sl (p5.map elABLU32LU32Z)), .pd (.sl (p6.map elABLU32LU32Z))] 1 0 false]) (.pd (.bool x1)) (.inl (by kernel_rfl)) (by kernel_rfl) (shape_Right_ok m _ _ _ hx2) (by kernel_rfl) (hasT 18 (by kernel_rfl)) ?_
  cases x1
  · replace h := h.f rfl
    exact H_end .ret (.pd (.int .i64 1)) (by kernel_rfl) rfl (by kernel_rfl) (by subst h; rfl)
  · replace h := h.t rfl
    refine H_askK (.agg [.pd (.int .i64 p3), .pd (.sl (p4.map elABLU32LU32Z)), .pd (.sl (p5.map elABLU32LU32Z)), .pd (.sl (p6.map elABLU32LU32Z))]) ([.cells [.pd (.sl (p0.map elLABLU32LU32Z)), .pd (.sl (p1.map elABLU32LU32Z)), .pd (.sl (p2.map elABLU32LU32Z))] 1 0 false, .cells [.pd (.int .i64 p3), .pd (.sl (p4.map elABLU32LU32Z)), .pd (.sl (p5.map elABLU32LU32Z)), .pd (.sl (p6.map elABLU32LU32Z))] 1 0 false]) (by kernel_rfl) ?_
    obtain ⟨x3, hx4, h⟩ := h
    refine H_valW (g := 16) (args := [.agg [.pd (.int .i64 p3), .pd (.sl (p4.map elABLU32LU32Z)), .pd (.sl (p5.map elABLU32LU32Z)), .pd (.sl (p6.map elABLU32LU32Z))]]) (M := [.cells [.pd (.sl (p0.map elLABLU32LU32Z)), .pd (.sl (p1.map elABLU32LU32Z)), .pd (.sl (p2.map elABLU32LU32Z))] 1 0 false, .cells [.pd (.int .i64 p3), .pd (.sl (p4.map elABLU32LU32Z)), .pd (.sl (p5.map elABLU32LU32Z)), .pd (.sl (p6.map elABLU32LU32Z))] 1 0 false]) (.pd (.bool x3)) (.inl (by kernel_rfl)) (by kernel_rfl) (proof_Right_ok m _ _ _ _ hx4) (by kernel_rfl) (hasT 16 (by kernel_rfl)) ?_
    cases x3
    · replace h := h.f rfl
      exact H_end .ret (.pd (.int .i64 1)) (by kernel_rfl) rfl (by kernel_rfl) (by subst h; rfl)
    · replace h := h.t rfl
      refine H_askK (.agg [.pd (.sl (p0.map elLABLU32LU32Z)), .pd (.sl (p1.map elABLU32LU32Z)), .pd (.sl (p2.map elABLU32LU32Z))]) ([.cells [.pd (.sl (p0.map elLABLU32LU32Z)), .pd (.sl (p1.map elABLU32LU32Z)), .pd (.sl (p2.map elABLU32LU32Z))] 1 0 false, .cells [.pd (.int .i64 p3), .pd (.sl (p4.map elABLU32LU32Z)), .pd (.sl (p5.map elABLU32LU32Z)), .pd (.sl (p6.map elABLU32LU32Z))] 1 0 false]) (by kernel_rfl) ?_
      refine H_askK (.agg [.pd (.int .i64 p3), .pd (.sl (p4.map elABLU32LU32Z)), .pd (.sl (p5.map elABLU32LU32Z)), .pd (.sl (p6.map elABLU32LU32Z))]) ([.cells [.pd (.sl (p0.map elLABLU32LU32Z)), .pd (.sl (p1.map elABLU32LU32Z)), .pd (.sl (p2.map elABLU32LU32Z))] 1 0 false, .cells [.pd (.int .i64 p3), .pd (.sl (p4.map elABLU32LU32Z)), .pd (.sl (p5.map elABLU32LU32Z)), .pd (.sl (p6.map elABLU32LU32Z))] 1 0 false]) (by kernel_rfl) ?_
      obtain ⟨x5, hx6, h⟩ := h
      refine H_valW (g := 44) (args := [.agg [.pd (.sl (p0.map elLABLU32LU32Z)), .pd (.sl (p1.map elABLU32LU32Z)), .pd (.sl (p2.map elABLU32LU32Z))], .agg [.pd (.int .i64 p3), .pd (.sl (p4.map elABLU32LU32Z)), .pd (.sl (p5.map elABLU32LU32Z)), .pd (.sl (p6.map elABLU32LU32Z))]]) (M := [.cells [.pd (.sl (p0.map elLABLU32LU32Z)), .pd (.sl (p1.map elABLU32LU32Z)), .pd (.sl (p2.map elABLU32LU32Z))] 1 0 false, .cells [.pd (.int .i64 p3), .pd (.sl (p4.map elABLU32LU32Z)), .pd (.sl (p5.map elABLU32LU32Z)), .pd (.sl (p6.map elABLU32LU32Z))] 1 0 false]) (.pd (.bool x5)) (.inl (by kernel_rfl)) (by kernel_rfl) (proof_holds_ok m _ _ _ _ _ _ _ hx6) (by kernel_rfl) (hasT 44 (by kernel_rfl)) ?_
      cases x5
      · replace h := h.f rfl
        exact H_end .ret (.pd (.int .i64 12)) (by kernel_rfl) rfl (by kernel_rfl) (by subst h; rfl)
      · replace h := h.t rfl
        exact H_end .ret (.pd (.int .i64 0)) (by kernel_rfl) rfl (by kernel_rfl) (by subst h; rfl)

theorem offcutlaw12_Proved_3_ok (m : Tp) (p0 : Int) (p1 : Bool) (p2 : List Int) (p3 : List Int) {r : Bool} (h : offcutlaw12_Proved_3 p0 p1 p2 p3 r) : ASpec Tryz.prog (gtT m) 53 [.pd (.int .i64 p0), .agg [.pd (.bool p1), .pd (.sl (p2.map elU32)), .pd (.sl (p3.map elU32))]] (· = .pd (.bool r)) := by
  refine ASpec_tree Tryz.f53 mixedT (askG [9, 10, 11] false) (by kernel_rfl) ?_
  unfold offcutlaw12_Proved_3 at h
  refine H_askK (.ptr 0 0 0) ([.cells [.pd (.bool p1), .pd (.sl (p2.map elU32)), .pd (.sl (p3.map elU32))] 1 0 false]) (by kernel_rfl) ?_
  refine H_askK (.agg [.pd (.bool p1), .pd (.sl (p2.map elU32)), .pd (.sl (p3.map elU32))]) ([.cells [.pd (.bool p1), .pd (.sl (p2.map elU32)), .pd (.sl (p3.map elU32))] 1 0 false]) (by kernel_rfl) ?_
  obtain ⟨x1, hx2, h⟩ := h
  refine H_valW (g := 23) (args := [.agg [.pd (.bool p1), .pd (.sl (p2.map elU32)), .pd (.sl (p3.map elU32))]]) (M := [.cells [.pd (.bool p1), .pd (.sl (p2.map elU32)), .pd (.sl (p3.map elU32))] 1 0 false]) (.pd (.int .i64 x1)) (.inl (by kernel_rfl)) (by kernel_rfl) (rat_Sign_ok m _ _ _ hx2) (by kernel_rfl) (hasT 23 (by kernel_rfl)) ?_
  refine H_split (decide (x1 ≤ (0 : Int))) (by kernel_rfl) (fun hp3 => ?_) (fun hp3 => ?_)
  · replace h := h.t hp3
    exact H_end .ret (.pd (.bool true)) (by kernel_rfl) rfl (by kernel_rfl) (by subst h; rfl)
  · replace h := h.f hp3
    exact H_end .ret (.pd (.bool false)) (by kernel_rfl) rfl (by kernel_rfl) (by subst h; rfl)

theorem offcutlaw12_Proved_ok (m : Tp) (p0 : List (List (Bool × (List Int) × (List Int)))) (p1 : List (Bool × (List Int) × (List Int))) (p2 : List (Bool × (List Int) × (List Int))) (p3 : Int) (p4 : List (Bool × (List Int) × (List Int))) (p5 : List (Bool × (List Int) × (List Int))) (p6 : List (Bool × (List Int) × (List Int))) (p7 : List Int) (p8 : Int) {r : Bool} (h : offcutlaw12_Proved p0 p1 p2 p3 p4 p5 p6 p7 p8 r) : ASpec Tryz.prog (gtT m) 19 [.agg [.pd (.sl (p0.map elLABLU32LU32Z)), .pd (.sl (p1.map elABLU32LU32Z)), .pd (.sl (p2.map elABLU32LU32Z))], .agg [.pd (.int .i64 p3), .pd (.sl (p4.map elABLU32LU32Z)), .pd (.sl (p5.map elABLU32LU32Z)), .pd (.sl (p6.map elABLU32LU32Z)), .pd (.sl (p7.map elI64)), .pd (.int .i64 p8)]] (· = .pd (.bool r)) := by
  refine ASpec_tree Tryz.f19 mixedT (askG [9, 10, 11] false) (by kernel_rfl) ?_
  unfold offcutlaw12_Proved at h
  let o1 : Ob := .cells [.pd (.sl (p0.map elLABLU32LU32Z)), .pd (.sl (p1.map elABLU32LU32Z)), .pd (.sl (p2.map elABLU32LU32Z))] 1 0 false
  refine H_askK (.ptr 0 0 0) ([o1]) (by kernel_rfl) ?_
  let o2 : Ob := .cells [.pd (.int .i64 p3), .pd (.sl (p4.map elABLU32LU32Z)), .pd (.sl (p5.map elABLU32LU32Z)), .pd (.sl (p6.map elABLU32LU32Z)), .pd (.sl (p7.map elI64)), .pd (.int .i64 p8)] 1 0 false
  refine H_askK (.ptr 1 0 0) ([o1, o2]) (by kernel_rfl) ?_
  refine H_askK (.ptr 1 0 0) ([o1, o2]) (by kernel_rfl) ?_
  refine H_askK (.pd (.int .i64 p3)) ([o1, o2]) (by kernel_rfl) ?_
  refine H_split (p3 == (1 : Int)) (by kernel_rfl) (fun hp1 => ?_) (fun hp1 => ?_)
  · replace h := h.t hp1
    refine H_draw (by kernel_rfl) ?_
    refine H_askK (.ptr 1 3 0) ([o1, o2]) (by kernel_rfl) ?_
    refine H_askK (.pd (.sl (p6.map elABLU32LU32Z))) ([o1, o2]) (by kernel_rfl) ?_
    refine H_ask _ _ (by kernel_rfl) (ask_len (P := Tryz.prog) (M := [o1, o2]) (t := 23) (et := 44) (el := elABLU32LU32Z) (by kernel_rfl) (e := p6)) ?_
    refine H_split ((p6.length : Int) == (0 : Int)) (by kernel_rfl) (fun hp2 => ?_) (fun hp2 => ?_)
    · replace h := h.t hp2
      refine H_askK (.agg [.pd (.sl (p0.map elLABLU32LU32Z)), .pd (.sl (p1.map elABLU32LU32Z)), .pd (.sl (p2.map elABLU32LU32Z))]) ([o1, o2]) (by kernel_rfl) ?_
      refine H_askK (.ptr 1 1 0) ([o1, o2]) (by kernel_rfl) ?_
      refine H_askK (.pd (.sl (p4.map elABLU32LU32Z))) ([o1, o2]) (by kernel_rfl) ?_
      obtain ⟨x3, hx4, h⟩ := h
      refine H_valW (g := 52) (args := [.agg [.pd (.sl (p0.map elLABLU32LU32Z)), .pd (.sl (p1.map elABLU32LU32Z)), .pd (.sl (p2.map elABLU32LU32Z))], .pd (.sl (p4.map elABLU32LU32Z))]) (M := [o1, o2]) (.pd (.bool x3)) (.inr (by kernel_rfl)) (by kernel_rfl) (shape_Does_ok m _ _ _ _ hx4) (by kernel_rfl) (hasT 52 (by kernel_rfl)) ?_
      cases x3
      · replace h := h.f rfl
        exact H_end .ret (.pd (.bool false)) (by kernel_rfl) rfl (by kernel_rfl) (by subst h; rfl)
      replace h := h.t rfl
      refine H_askK (.ptr 1 2 0) ([o1, o2]) (by kernel_rfl) ?_
      refine H_askK (.pd (.sl (p5.map elABLU32LU32Z))) ([o1, o2]) (by kernel_rfl) ?_
      obtain ⟨y5, hx6, h⟩ := h
      refine H_dinlC (g := 48) (args := [.pd (.sl (p5.map elABLU32LU32Z)), .fn (.func 51) [] [.ptr 0 0 0], .ptr 0 0 0]) (M := [o1, o2]) Tryz.f48 (.pd (.bool y5)) mixedT (askG [9, 10, 11] false) (by kernel_rfl) (by kernel_rfl) (hasT 48 (by kernel_rfl)) rfl (by kernel_rfl) ?_ ?_
      · replace h := hx6; clear hx6
        refine H_ask _ _ (by kernel_rfl) (ask_len (P := Tryz.prog) (M := [o1, o2]) (t := 23) (et := 44) (el := elABLU32LU32Z) (by kernel_rfl) (e := p5)) ?_
        refine H_askK (.ptr 0 0 0) ([o1, o2]) (by kernel_rfl) ?_
        refine H_askK (.pd (.sl (p0.map elLABLU32LU32Z))) ([o1, o2]) (by kernel_rfl) ?_
        refine H_ask _ _ (by kernel_rfl) (ask_len (P := Tryz.prog) (M := [o1, o2]) (t := 22) (et := 23) (el := elLABLU32LU32Z) (by kernel_rfl) (e := p0)) ?_
        refine H_split ((p5.length : Int) != (p0.length : Int)) (by kernel_rfl) (fun hp7 => ?_) (fun hp7 => ?_)
        · replace h := h.t hp7
          refine H_endM .ret (.pd (.bool false)) ([o1, o2]) (by kernel_rfl) rfl (by kernel_rfl) (by kernel_rfl) (by kernel_rfl) ⟨?_, rfl⟩
          first | rfl | (cases h; rfl) | (subst h; rfl)
        replace h := h.f hp7
        refine H_askK (.ptr 0 2 0) ([o1, o2]) (by kernel_rfl) ?_
        refine H_askK (.pd (.sl (p2.map elABLU32LU32Z))) ([o1, o2]) (by kernel_rfl) ?_
        refine H_ask _ _ (by kernel_rfl) (ask_len (P := Tryz.prog) (M := [o1, o2]) (t := 23) (et := 44) (el := elABLU32LU32Z) (by kernel_rfl) (e := p2)) ?_
        refine H_loopP (F := offcutlaw12_Proved_L1 p0 p2 p5 y5) (s0 := (0 : Int)) h () 49 2
          (fun (s100 : Int) (() : Unit) => [(0, .pd (.sl (p5.map elABLU32LU32Z))), (1, .fn (.func 51) [] [.ptr 0 0 0]), (2, .ptr 0 0 0), (18, .pd (.int .i64 (p2.length : Int))), (19, .pd (.int .i64 s100))])
          (fun (s100 : Int) (() : Unit) => [.cells [.pd (.sl (p0.map elLABLU32LU32Z)), .pd (.sl (p1.map elABLU32LU32Z)), .pd (.sl (p2.map elABLU32LU32Z))] 1 0 false, .cells [.pd (.int .i64 p3), .pd (.sl (p4.map elABLU32LU32Z)), .pd (.sl (p5.map elABLU32LU32Z)), .pd (.sl (p6.map elABLU32LU32Z)), .pd (.sl (p7.map elI64)), .pd (.int .i64 p8)] 1 0 false]) (fun (s100 : Int) (() : Unit) => True) trivial [] mixedT (askG [9, 10, 11] false)
          (by kernel_rfl) (by kernel_rfl) (by kernel_rfl) (by kernel_rfl) (by kernel_rfl) (fun _ _ => rfl) ?_
        rintro X1 s100 ⟨⟩ - h
        dsimp only [offcutlaw12_Proved_L1] at h
        refine H_split (decide (s100 < (p2.length : Int))) (by kernel_rfl) (fun hp8 => ?_) (fun hp8 => ?_)
        · replace h := h.t hp8
          obtain ⟨x9, x10, x11, hx12, h⟩ := h
          refine H_valW (g := 49) (args := [.pd (.int .i64 0)]) (M := [o1, o2]) (.agg [.pd (.bool x9), .pd (.sl (x10.map elU32)), .pd (.sl (x11.map elU32))]) (.inl (by kernel_rfl)) (by kernel_rfl) (rat_Int_ok m _ hx12) (by kernel_rfl) (hasT 49 (by kernel_rfl)) ?_
          let o3 : Ob := .cells [.pd (.bool x9), .pd (.sl (x10.map elU32)), .pd (.sl (x11.map elU32))] 1 0 false
          refine H_askK (.junk) ([o1, o2, o3]) (by kernel_rfl) ?_
          refine H_askK (.ptr 0 0 0) ([o1, o2, o3]) (by kernel_rfl) ?_
          refine H_askK (.pd (.sl (p0.map elLABLU32LU32Z))) ([o1, o2, o3]) (by kernel_rfl) ?_
          refine H_ask _ _ (by kernel_rfl) (ask_len (P := Tryz.prog) (M := [o1, o2, o3]) (t := 22) (et := 23) (el := elLABLU32LU32Z) (by kernel_rfl) (e := p0)) ?_
          refine H_loopP (F := offcutlaw12_Proved_L2 p0 p2 p5 y5 s100 X1) (s0 := ((0 : Int), x9, x10, x11)) h () 49 3
            (fun ((s200, s201, s202, s203) : Int × Bool × (List Int) × (List Int)) (() : Unit) => [(0, .pd (.sl (p5.map elABLU32LU32Z))), (1, .fn (.func 51) [] [.ptr 0 0 0]), (2, .ptr 0 0 0), (6, .pd (.int .i64 s100)), (7, .ptr 2 0 0), (18, .pd (.int .i64 (p2.length : Int))), (19, .pd (.int .i64 s100)), (24, .pd (.sl (p0.map elLABLU32LU32Z))), (25, .pd (.int .i64 (p0.length : Int))), (26, .pd (.int .i64 s200))])
            (fun ((s200, s201, s202, s203) : Int × Bool × (List Int) × (List Int)) (() : Unit) => [.cells [.pd (.sl (p0.map elLABLU32LU32Z)), .pd (.sl (p1.map elABLU32LU32Z)), .pd (.sl (p2.map elABLU32LU32Z))] 1 0 false, .cells [.pd (.int .i64 p3), .pd (.sl (p4.map elABLU32LU32Z)), .pd (.sl (p5.map elABLU32LU32Z)), .pd (.sl (p6.map elABLU32LU32Z)), .pd (.sl (p7.map elI64)), .pd (.int .i64 p8)] 1 0 false, .cells [.pd (.bool s201), .pd (.sl (s202.map elU32)), .pd (.sl (s203.map elU32))] 1 0 false]) (fun ((s200, s201, s202, s203) : Int × Bool × (List Int) × (List Int)) (() : Unit) => True) trivial [] mixedT (askG [9, 10, 11] false)
            (by kernel_rfl) (by kernel_rfl) (by kernel_rfl) (by kernel_rfl) (by kernel_rfl) (fun _ _ => rfl) ?_
          rintro X2 ⟨s200, s201, s202, s203⟩ ⟨⟩ - h
          dsimp only [offcutlaw12_Proved_L2] at h
          refine H_split (decide (s200 < (p0.length : Int))) (by kernel_rfl) (fun hp13 => ?_) (fun hp13 => ?_)
          · replace h := h.t hp13
            obtain ⟨x14, hx15, h⟩ := h
            let o4 : Ob := .cells [.pd (.bool s201), .pd (.sl (s202.map elU32)), .pd (.sl (s203.map elU32))] 1 0 false
            refine H_ask _ _ (by kernel_rfl) (ask_idx (P := Tryz.prog) (M := [o1, o2, o4]) (t := 22) (et := 23) (k := .i64) (lv := lvLABLU32LU32Z) okLABLU32LU32Z leLABLU32LU32Z (by kernel_rfl) (by kernel_rfl) hx15) ?_
            refine H_askK (.pd (.sl (x14.map elABLU32LU32Z))) ([o1, o2, o4]) (by kernel_rfl) ?_
            refine H_draw (by kernel_rfl) ?_
            refine H_askK (.agg [.pd (.bool s201), .pd (.sl (s202.map elU32)), .pd (.sl (s203.map elU32))]) ([o1, o2, o4]) (by kernel_rfl) ?_
            obtain ⟨x16, x17, x18, hx19, h⟩ := h
            refine H_ask _ _ (by kernel_rfl) (ask_idx (P := Tryz.prog) (M := [o1, o2, o4]) (t := 23) (et := 44) (k := .i64) (lv := lvABLU32LU32Z) okABLU32LU32Z leABLU32LU32Z (by kernel_rfl) (by kernel_rfl) hx19) ?_
            refine H_askK (.agg [.pd (.bool x16), .pd (.sl (x17.map elU32)), .pd (.sl (x18.map elU32))]) ([o1, o2, o4]) (by kernel_rfl) ?_
            obtain ⟨x20, x21, x22, hx23, h⟩ := h
            refine H_ask _ _ (by kernel_rfl) (ask_idx (P := Tryz.prog) (M := [o1, o2, o4]) (t := 23) (et := 44) (k := .i64) (lv := lvABLU32LU32Z) okABLU32LU32Z leABLU32LU32Z (by kernel_rfl) (by kernel_rfl) hx23) ?_
            refine H_askK (.agg [.pd (.bool x20), .pd (.sl (x21.map elU32)), .pd (.sl (x22.map elU32))]) ([o1, o2, o4]) (by kernel_rfl) ?_
            obtain ⟨x24, x25, x26, hx27, h⟩ := h
            refine H_valW (g := 50) (args := [.agg [.pd (.bool x16), .pd (.sl (x17.map elU32)), .pd (.sl (x18.map elU32))], .agg [.pd (.bool x20), .pd (.sl (x21.map elU32)), .pd (.sl (x22.map elU32))]]) (M := [o1, o2, o4]) (.agg [.pd (.bool x24), .pd (.sl (x25.map elU32)), .pd (.sl (x26.map elU32))]) (.inr (by kernel_rfl)) (by kernel_rfl) (rat_Mul_ok m _ _ _ _ _ _ hx27) (by kernel_rfl) (hasT 50 (by kernel_rfl)) ?_
            obtain ⟨x28, x29, x30, hx31, h⟩ := h
            refine H_valW (g := 41) (args := [.agg [.pd (.bool s201), .pd (.sl (s202.map elU32)), .pd (.sl (s203.map elU32))], .agg [.pd (.bool x24), .pd (.sl (x25.map elU32)), .pd (.sl (x26.map elU32))]]) (M := [o1, o2, o4]) (.agg [.pd (.bool x28), .pd (.sl (x29.map elU32)), .pd (.sl (x30.map elU32))]) (.inr (by kernel_rfl)) (by kernel_rfl) (rat_Add_ok m _ _ _ _ _ _ hx31) (by kernel_rfl) (hasT 41 (by kernel_rfl)) ?_
            let o5 : Ob := .cells [.pd (.bool x28), .pd (.sl (x29.map elU32)), .pd (.sl (x30.map elU32))] 1 0 false
            refine H_askK (.junk) ([o1, o2, o5]) (by kernel_rfl) ?_
            exact H_againP (st := _) ((IntKind.i64.wrap (s200 + 1)), x28, x29, x30) () h trivial (by kernel_rfl) (by kernel_rfl) (by kernel_rfl) (by kernel_rfl) (by kernel_rfl)
          replace h := h.f hp13
          refine H_leaveP (.exit 2) (by kernel_rfl) rfl ?_
          let o6 : Ob := .cells [.pd (.bool s201), .pd (.sl (s202.map elU32)), .pd (.sl (s203.map elU32))] 1 0 false
          refine H_askK (.agg [.pd (.bool s201), .pd (.sl (s202.map elU32)), .pd (.sl (s203.map elU32))]) ([o1, o2, o6]) (by kernel_rfl) ?_
          refine H_inl (g := 51) (args := [.pd (.int .i64 s100), .agg [.pd (.bool s201), .pd (.sl (s202.map elU32)), .pd (.sl (s203.map elU32))], .ptr 0 0 0]) (M := [o1, o2, o6]) Tryz.f51 mixedT (askG [9, 10, 11] false) (by kernel_rfl) (by kernel_rfl) (hasT 51 (by kernel_rfl)) ?_
          refine H_askK (.ptr 3 0 0) ([o1, o2, o6, o6]) (by kernel_rfl) ?_
          refine H_draw (by kernel_rfl) ?_
          refine H_askK (.agg [.pd (.bool s201), .pd (.sl (s202.map elU32)), .pd (.sl (s203.map elU32))]) ([o1, o2, o6, o6]) (by kernel_rfl) ?_
          refine H_askK (.ptr 0 2 0) ([o1, o2, o6, o6]) (by kernel_rfl) ?_
          refine H_askK (.pd (.sl (p2.map elABLU32LU32Z))) ([o1, o2, o6, o6]) (by kernel_rfl) ?_
          obtain ⟨x32, x33, x34, hx35, h⟩ := h
          refine H_ask _ _ (by kernel_rfl) (ask_idx (P := Tryz.prog) (M := [o1, o2, o6, o6]) (t := 23) (et := 44) (k := .i64) (lv := lvABLU32LU32Z) okABLU32LU32Z leABLU32LU32Z (by kernel_rfl) (by kernel_rfl) hx35) ?_
          refine H_askK (.agg [.pd (.bool x32), .pd (.sl (x33.map elU32)), .pd (.sl (x34.map elU32))]) ([o1, o2, o6, o6]) (by kernel_rfl) ?_
          obtain ⟨x36, hx37, h⟩ := h
          refine H_valW (g := 20) (args := [.agg [.pd (.bool s201), .pd (.sl (s202.map elU32)), .pd (.sl (s203.map elU32))], .agg [.pd (.bool x32), .pd (.sl (x33.map elU32)), .pd (.sl (x34.map elU32))]]) (M := [o1, o2, o6, o6]) (.pd (.int .i64 x36)) (.inr (by kernel_rfl)) (by kernel_rfl) (rat_Compare_ok m _ _ _ _ _ _ hx37) (by kernel_rfl) (hasT 20 (by kernel_rfl)) ?_
          refine H_split (decide (x36 ≤ (0 : Int))) (by kernel_rfl) (fun hp38 => ?_) (fun hp38 => ?_)
          · replace h := h.t hp38
            refine H_endM .ret (.pd (.bool true)) ([o1, o2, o6, o6]) (by kernel_rfl) rfl (by kernel_rfl) (by kernel_rfl) (by kernel_rfl) ?_
            exact H_againC (st := _) (IntKind.i64.wrap (s100 + 1)) () h trivial (by kernel_rfl) (by kernel_rfl) (by kernel_rfl) (by kernel_rfl) (by kernel_rfl) (by kernel_rfl) (all_c (by kernel_rfl) (all_c (by kernel_rfl) all_n)) (by kernel_rfl) (by kernel_rfl)
          replace h := h.f hp38
          refine H_endM .ret (.pd (.bool false)) ([o1, o2, o6, o6]) (by kernel_rfl) rfl (by kernel_rfl) (by kernel_rfl) (by kernel_rfl) ?_
          refine H_leaveP .ret (by kernel_rfl) rfl ?_
          refine H_endM .ret (.pd (.bool false)) ([o1, o2, o6, o6]) (by kernel_rfl) rfl (by kernel_rfl) (by kernel_rfl) (by kernel_rfl) ⟨?_, rfl⟩
          first | rfl | (cases h; rfl) | (subst h; rfl)
        replace h := h.f hp8
        refine H_leaveP (.exit 0) (by kernel_rfl) rfl ?_
        refine H_endM .ret (.pd (.bool true)) ([o1, o2]) (by kernel_rfl) rfl (by kernel_rfl) (by kernel_rfl) (by kernel_rfl) ⟨?_, rfl⟩
        first | rfl | (cases h; rfl) | (subst h; rfl)
      cases y5
      · replace h := h.f rfl
        exact H_end .ret (.pd (.bool false)) (by kernel_rfl) rfl (by kernel_rfl) (by subst h; rfl)
      replace h := h.t rfl
      refine H_askK (.ptr 1 2 0) ([o1, o2]) (by kernel_rfl) ?_
      refine H_askK (.pd (.sl (p5.map elABLU32LU32Z))) ([o1, o2]) (by kernel_rfl) ?_
      refine H_askK (.ptr 0 1 0) ([o1, o2]) (by kernel_rfl) ?_
      refine H_askK (.pd (.sl (p1.map elABLU32LU32Z))) ([o1, o2]) (by kernel_rfl) ?_
      obtain ⟨x39, x40, x41, hx42, h⟩ := h
      refine H_valW (g := 21) (args := [.pd (.sl (p5.map elABLU32LU32Z)), .pd (.sl (p1.map elABLU32LU32Z))]) (M := [o1, o2]) (.agg [.pd (.bool x39), .pd (.sl (x40.map elU32)), .pd (.sl (x41.map elU32))]) (.inr (by kernel_rfl)) (by kernel_rfl) (vec_Dot_ok m _ _ hx42) (by kernel_rfl) (hasT 21 (by kernel_rfl)) ?_
      refine H_askK (.ptr 0 2 0) ([o1, o2]) (by kernel_rfl) ?_
      refine H_askK (.pd (.sl (p2.map elABLU32LU32Z))) ([o1, o2]) (by kernel_rfl) ?_
      refine H_askK (.ptr 1 1 0) ([o1, o2]) (by kernel_rfl) ?_
      refine H_askK (.pd (.sl (p4.map elABLU32LU32Z))) ([o1, o2]) (by kernel_rfl) ?_
      obtain ⟨x43, x44, x45, hx46, h⟩ := h
      refine H_valW (g := 21) (args := [.pd (.sl (p2.map elABLU32LU32Z)), .pd (.sl (p4.map elABLU32LU32Z))]) (M := [o1, o2]) (.agg [.pd (.bool x43), .pd (.sl (x44.map elU32)), .pd (.sl (x45.map elU32))]) (.inr (by kernel_rfl)) (by kernel_rfl) (vec_Dot_ok m _ _ hx46) (by kernel_rfl) (hasT 21 (by kernel_rfl)) ?_
      obtain ⟨x47, hx48, h⟩ := h
      refine H_valW (g := 20) (args := [.agg [.pd (.bool x39), .pd (.sl (x40.map elU32)), .pd (.sl (x41.map elU32))], .agg [.pd (.bool x43), .pd (.sl (x44.map elU32)), .pd (.sl (x45.map elU32))]]) (M := [o1, o2]) (.pd (.int .i64 x47)) (.inr (by kernel_rfl)) (by kernel_rfl) (rat_Compare_ok m _ _ _ _ _ _ hx48) (by kernel_rfl) (hasT 20 (by kernel_rfl)) ?_
      refine H_split (x47 == (0 : Int)) (by kernel_rfl) (fun hp49 => ?_) (fun hp49 => ?_)
      · replace h := h.t hp49
        exact H_end .ret (.pd (.bool true)) (by kernel_rfl) rfl (by kernel_rfl) (by subst h; rfl)
      replace h := h.f hp49
      exact H_end .ret (.pd (.bool false)) (by kernel_rfl) rfl (by kernel_rfl) (by subst h; rfl)
    replace h := h.f hp2
    exact H_end .ret (.pd (.bool false)) (by kernel_rfl) rfl (by kernel_rfl) (by subst h; rfl)
  replace h := h.f hp1
  refine H_split (p3 == (2 : Int)) (by kernel_rfl) (fun hp50 => ?_) (fun hp50 => ?_)
  · replace h := h.t hp50
    refine H_askK (.ptr 1 1 0) ([o1, o2]) (by kernel_rfl) ?_
    refine H_askK (.pd (.sl (p4.map elABLU32LU32Z))) ([o1, o2]) (by kernel_rfl) ?_
    refine H_ask _ _ (by kernel_rfl) (ask_len (P := Tryz.prog) (M := [o1, o2]) (t := 23) (et := 44) (el := elABLU32LU32Z) (by kernel_rfl) (e := p4)) ?_
    refine H_askK (.ptr 1 3 0) ([o1, o2]) (by kernel_rfl) ?_
    refine H_askK (.pd (.sl (p6.map elABLU32LU32Z))) ([o1, o2]) (by kernel_rfl) ?_
    refine H_ask _ _ (by kernel_rfl) (ask_len (P := Tryz.prog) (M := [o1, o2]) (t := 23) (et := 44) (el := elABLU32LU32Z) (by kernel_rfl) (e := p6)) ?_
    refine H_split ((IntKind.i64.wrap ((p4.length : Int) + (p6.length : Int))) == (0 : Int)) (by kernel_rfl) (fun hp51 => ?_) (fun hp51 => ?_)
    · replace h := h.t hp51
      refine H_askK (.ptr 1 2 0) ([o1, o2]) (by kernel_rfl) ?_
      refine H_askK (.pd (.sl (p5.map elABLU32LU32Z))) ([o1, o2]) (by kernel_rfl) ?_
      refine H_inl (g := 48) (args := [.pd (.sl (p5.map elABLU32LU32Z)), .fn (.func 53) [] [], .ptr 0 0 0]) (M := [o1, o2]) Tryz.f48 mixedT (askG [9, 10, 11] false) (by kernel_rfl) (by kernel_rfl) (hasT 48 (by kernel_rfl)) ?_
      refine H_ask _ _ (by kernel_rfl) (ask_len (P := Tryz.prog) (M := [o1, o2]) (t := 23) (et := 44) (el := elABLU32LU32Z) (by kernel_rfl) (e := p5)) ?_
      refine H_askK (.ptr 0 0 0) ([o1, o2]) (by kernel_rfl) ?_
      refine H_askK (.pd (.sl (p0.map elLABLU32LU32Z))) ([o1, o2]) (by kernel_rfl) ?_
      refine H_ask _ _ (by kernel_rfl) (ask_len (P := Tryz.prog) (M := [o1, o2]) (t := 22) (et := 23) (el := elLABLU32LU32Z) (by kernel_rfl) (e := p0)) ?_
      refine H_split ((p5.length : Int) != (p0.length : Int)) (by kernel_rfl) (fun hp52 => ?_) (fun hp52 => ?_)
      · replace h := h.t hp52
        refine H_endM .ret (.pd (.bool false)) ([o1, o2]) (by kernel_rfl) rfl (by kernel_rfl) (by kernel_rfl) (by kernel_rfl) ?_
        exact H_end .ret (.pd (.bool false)) (by kernel_rfl) rfl (by kernel_rfl) (by subst h; rfl)
      replace h := h.f hp52
      refine H_askK (.ptr 0 2 0) ([o1, o2]) (by kernel_rfl) ?_
      refine H_askK (.pd (.sl (p2.map elABLU32LU32Z))) ([o1, o2]) (by kernel_rfl) ?_
      refine H_ask _ _ (by kernel_rfl) (ask_len (P := Tryz.prog) (M := [o1, o2]) (t := 23) (et := 44) (el := elABLU32LU32Z) (by kernel_rfl) (e := p2)) ?_
      refine H_loopP (F := offcutlaw12_Proved_L3 p0 p1 p2 p5 r) (s0 := (0 : Int)) h () 49 2
        (fun (s300 : Int) (() : Unit) => [(0, .pd (.sl (p5.map elABLU32LU32Z))), (1, .fn (.func 53) [] []), (2, .ptr 0 0 0), (18, .pd (.int .i64 (p2.length : Int))), (19, .pd (.int .i64 s300))])
        (fun (s300 : Int) (() : Unit) => [.cells [.pd (.sl (p0.map elLABLU32LU32Z)), .pd (.sl (p1.map elABLU32LU32Z)), .pd (.sl (p2.map elABLU32LU32Z))] 1 0 false, .cells [.pd (.int .i64 p3), .pd (.sl (p4.map elABLU32LU32Z)), .pd (.sl (p5.map elABLU32LU32Z)), .pd (.sl (p6.map elABLU32LU32Z)), .pd (.sl (p7.map elI64)), .pd (.int .i64 p8)] 1 0 false]) (fun (s300 : Int) (() : Unit) => True) trivial [] mixedT (askG [9, 10, 11] false)
        (by kernel_rfl) (by kernel_rfl) (by kernel_rfl) (by kernel_rfl) (by kernel_rfl) (fun _ _ => rfl) ?_
      rintro X3 s300 ⟨⟩ - h
      dsimp only [offcutlaw12_Proved_L3] at h
      refine H_split (decide (s300 < (p2.length : Int))) (by kernel_rfl) (fun hp53 => ?_) (fun hp53 => ?_)
      · replace h := h.t hp53
        obtain ⟨x54, x55, x56, hx57, h⟩ := h
        refine H_valW (g := 49) (args := [.pd (.int .i64 0)]) (M := [o1, o2]) (.agg [.pd (.bool x54), .pd (.sl (x55.map elU32)), .pd (.sl (x56.map elU32))]) (.inl (by kernel_rfl)) (by kernel_rfl) (rat_Int_ok m _ hx57) (by kernel_rfl) (hasT 49 (by kernel_rfl)) ?_
        let o7 : Ob := .cells [.pd (.bool x54), .pd (.sl (x55.map elU32)), .pd (.sl (x56.map elU32))] 1 0 false
        refine H_askK (.junk) ([o1, o2, o7]) (by kernel_rfl) ?_
        refine H_askK (.ptr 0 0 0) ([o1, o2, o7]) (by kernel_rfl) ?_
        refine H_askK (.pd (.sl (p0.map elLABLU32LU32Z))) ([o1, o2, o7]) (by kernel_rfl) ?_
        refine H_ask _ _ (by kernel_rfl) (ask_len (P := Tryz.prog) (M := [o1, o2, o7]) (t := 22) (et := 23) (el := elLABLU32LU32Z) (by kernel_rfl) (e := p0)) ?_
        refine H_loopP (F := offcutlaw12_Proved_L4 p0 p5 s300 X3 r) (s0 := ((0 : Int), x54, x55, x56)) h () 49 3
          (fun ((s400, s401, s402, s403) : Int × Bool × (List Int) × (List Int)) (() : Unit) => [(0, .pd (.sl (p5.map elABLU32LU32Z))), (1, .fn (.func 53) [] []), (2, .ptr 0 0 0), (6, .pd (.int .i64 s300)), (7, .ptr 2 0 0), (18, .pd (.int .i64 (p2.length : Int))), (19, .pd (.int .i64 s300)), (24, .pd (.sl (p0.map elLABLU32LU32Z))), (25, .pd (.int .i64 (p0.length : Int))), (26, .pd (.int .i64 s400))])
          (fun ((s400, s401, s402, s403) : Int × Bool × (List Int) × (List Int)) (() : Unit) => [.cells [.pd (.sl (p0.map elLABLU32LU32Z)), .pd (.sl (p1.map elABLU32LU32Z)), .pd (.sl (p2.map elABLU32LU32Z))] 1 0 false, .cells [.pd (.int .i64 p3), .pd (.sl (p4.map elABLU32LU32Z)), .pd (.sl (p5.map elABLU32LU32Z)), .pd (.sl (p6.map elABLU32LU32Z)), .pd (.sl (p7.map elI64)), .pd (.int .i64 p8)] 1 0 false, .cells [.pd (.bool s401), .pd (.sl (s402.map elU32)), .pd (.sl (s403.map elU32))] 1 0 false]) (fun ((s400, s401, s402, s403) : Int × Bool × (List Int) × (List Int)) (() : Unit) => True) trivial [] mixedT (askG [9, 10, 11] false)
          (by kernel_rfl) (by kernel_rfl) (by kernel_rfl) (by kernel_rfl) (by kernel_rfl) (fun _ _ => rfl) ?_
        rintro X4 ⟨s400, s401, s402, s403⟩ ⟨⟩ - h
        dsimp only [offcutlaw12_Proved_L4] at h
        refine H_split (decide (s400 < (p0.length : Int))) (by kernel_rfl) (fun hp58 => ?_) (fun hp58 => ?_)
        · replace h := h.t hp58
          obtain ⟨x59, hx60, h⟩ := h
          let o8 : Ob := .cells [.pd (.bool s401), .pd (.sl (s402.map elU32)), .pd (.sl (s403.map elU32))] 1 0 false
          refine H_ask _ _ (by kernel_rfl) (ask_idx (P := Tryz.prog) (M := [o1, o2, o8]) (t := 22) (et := 23) (k := .i64) (lv := lvLABLU32LU32Z) okLABLU32LU32Z leLABLU32LU32Z (by kernel_rfl) (by kernel_rfl) hx60) ?_
          refine H_askK (.pd (.sl (x59.map elABLU32LU32Z))) ([o1, o2, o8]) (by kernel_rfl) ?_
          refine H_draw (by kernel_rfl) ?_
          refine H_askK (.agg [.pd (.bool s401), .pd (.sl (s402.map elU32)), .pd (.sl (s403.map elU32))]) ([o1, o2, o8]) (by kernel_rfl) ?_
          obtain ⟨x61, x62, x63, hx64, h⟩ := h
          refine H_ask _ _ (by kernel_rfl) (ask_idx (P := Tryz.prog) (M := [o1, o2, o8]) (t := 23) (et := 44) (k := .i64) (lv := lvABLU32LU32Z) okABLU32LU32Z leABLU32LU32Z (by kernel_rfl) (by kernel_rfl) hx64) ?_
          refine H_askK (.agg [.pd (.bool x61), .pd (.sl (x62.map elU32)), .pd (.sl (x63.map elU32))]) ([o1, o2, o8]) (by kernel_rfl) ?_
          obtain ⟨x65, x66, x67, hx68, h⟩ := h
          refine H_ask _ _ (by kernel_rfl) (ask_idx (P := Tryz.prog) (M := [o1, o2, o8]) (t := 23) (et := 44) (k := .i64) (lv := lvABLU32LU32Z) okABLU32LU32Z leABLU32LU32Z (by kernel_rfl) (by kernel_rfl) hx68) ?_
          refine H_askK (.agg [.pd (.bool x65), .pd (.sl (x66.map elU32)), .pd (.sl (x67.map elU32))]) ([o1, o2, o8]) (by kernel_rfl) ?_
          obtain ⟨x69, x70, x71, hx72, h⟩ := h
          refine H_valW (g := 50) (args := [.agg [.pd (.bool x61), .pd (.sl (x62.map elU32)), .pd (.sl (x63.map elU32))], .agg [.pd (.bool x65), .pd (.sl (x66.map elU32)), .pd (.sl (x67.map elU32))]]) (M := [o1, o2, o8]) (.agg [.pd (.bool x69), .pd (.sl (x70.map elU32)), .pd (.sl (x71.map elU32))]) (.inr (by kernel_rfl)) (by kernel_rfl) (rat_Mul_ok m _ _ _ _ _ _ hx72) (by kernel_rfl) (hasT 50 (by kernel_rfl)) ?_
          obtain ⟨x73, x74, x75, hx76, h⟩ := h
          refine H_valW (g := 41) (args := [.agg [.pd (.bool s401), .pd (.sl (s402.map elU32)), .pd (.sl (s403.map elU32))], .agg [.pd (.bool x69), .pd (.sl (x70.map elU32)), .pd (.sl (x71.map elU32))]]) (M := [o1, o2, o8]) (.agg [.pd (.bool x73), .pd (.sl (x74.map elU32)), .pd (.sl (x75.map elU32))]) (.inr (by kernel_rfl)) (by kernel_rfl) (rat_Add_ok m _ _ _ _ _ _ hx76) (by kernel_rfl) (hasT 41 (by kernel_rfl)) ?_
          let o9 : Ob := .cells [.pd (.bool x73), .pd (.sl (x74.map elU32)), .pd (.sl (x75.map elU32))] 1 0 false
          refine H_askK (.junk) ([o1, o2, o9]) (by kernel_rfl) ?_
          exact H_againP (st := _) ((IntKind.i64.wrap (s400 + 1)), x73, x74, x75) () h trivial (by kernel_rfl) (by kernel_rfl) (by kernel_rfl) (by kernel_rfl) (by kernel_rfl)
        replace h := h.f hp58
        refine H_leaveP (.exit 2) (by kernel_rfl) rfl ?_
        let o10 : Ob := .cells [.pd (.bool s401), .pd (.sl (s402.map elU32)), .pd (.sl (s403.map elU32))] 1 0 false
        refine H_askK (.agg [.pd (.bool s401), .pd (.sl (s402.map elU32)), .pd (.sl (s403.map elU32))]) ([o1, o2, o10]) (by kernel_rfl) ?_
        obtain ⟨x77, hx78, h⟩ := h
        refine H_valW (g := 53) (args := [.pd (.int .i64 s300), .agg [.pd (.bool s401), .pd (.sl (s402.map elU32)), .pd (.sl (s403.map elU32))]]) (M := [o1, o2, o10]) (.pd (.bool x77)) (.inl (by kernel_rfl)) (by kernel_rfl) (offcutlaw12_Proved_3_ok m _ _ _ _ hx78) (by kernel_rfl) (hasT 53 (by kernel_rfl)) ?_
        cases x77
        · replace h := h.f rfl
          refine H_leaveP .ret (by kernel_rfl) rfl ?_
          refine H_endM .ret (.pd (.bool false)) ([o1, o2, o10]) (by kernel_rfl) rfl (by kernel_rfl) (by kernel_rfl) (by kernel_rfl) ?_
          exact H_end .ret (.pd (.bool false)) (by kernel_rfl) rfl (by kernel_rfl) (by subst h; rfl)
        replace h := h.t rfl
        exact H_againC (st := _) (IntKind.i64.wrap (s300 + 1)) () h trivial (by kernel_rfl) (by kernel_rfl) (by kernel_rfl) (by kernel_rfl) (by kernel_rfl) (by kernel_rfl) (all_c (by kernel_rfl) (all_c (by kernel_rfl) all_n)) (by kernel_rfl) (by kernel_rfl)
      replace h := h.f hp53
      refine H_leaveP (.exit 0) (by kernel_rfl) rfl ?_
      refine H_endM .ret (.pd (.bool true)) ([o1, o2]) (by kernel_rfl) rfl (by kernel_rfl) (by kernel_rfl) (by kernel_rfl) ?_
      refine H_askK (.ptr 1 2 0) ([o1, o2]) (by kernel_rfl) ?_
      refine H_askK (.pd (.sl (p5.map elABLU32LU32Z))) ([o1, o2]) (by kernel_rfl) ?_
      refine H_askK (.ptr 0 1 0) ([o1, o2]) (by kernel_rfl) ?_
      refine H_askK (.pd (.sl (p1.map elABLU32LU32Z))) ([o1, o2]) (by kernel_rfl) ?_
      obtain ⟨x79, x80, x81, hx82, h⟩ := h
      refine H_valW (g := 21) (args := [.pd (.sl (p5.map elABLU32LU32Z)), .pd (.sl (p1.map elABLU32LU32Z))]) (M := [o1, o2]) (.agg [.pd (.bool x79), .pd (.sl (x80.map elU32)), .pd (.sl (x81.map elU32))]) (.inl (by kernel_rfl)) (by kernel_rfl) (vec_Dot_ok m _ _ hx82) (by kernel_rfl) (hasT 21 (by kernel_rfl)) ?_
      obtain ⟨x83, hx84, h⟩ := h
      refine H_valW (g := 23) (args := [.agg [.pd (.bool x79), .pd (.sl (x80.map elU32)), .pd (.sl (x81.map elU32))]]) (M := [o1, o2]) (.pd (.int .i64 x83)) (.inl (by kernel_rfl)) (by kernel_rfl) (rat_Sign_ok m _ _ _ hx84) (by kernel_rfl) (hasT 23 (by kernel_rfl)) ?_
      refine H_split (decide (x83 > (0 : Int))) (by kernel_rfl) (fun hp85 => ?_) (fun hp85 => ?_)
      · replace h := h.t hp85
        exact H_end .ret (.pd (.bool true)) (by kernel_rfl) rfl (by kernel_rfl) (by subst h; rfl)
      replace h := h.f hp85
      exact H_end .ret (.pd (.bool false)) (by kernel_rfl) rfl (by kernel_rfl) (by subst h; rfl)
    replace h := h.f hp51
    exact H_end .ret (.pd (.bool false)) (by kernel_rfl) rfl (by kernel_rfl) (by subst h; rfl)
  replace h := h.f hp50
  refine H_split (p3 == (3 : Int)) (by kernel_rfl) (fun hp86 => ?_) (fun hp86 => ?_)
  · replace h := h.t hp86
    refine H_askK (.agg [.pd (.sl (p0.map elLABLU32LU32Z)), .pd (.sl (p1.map elABLU32LU32Z)), .pd (.sl (p2.map elABLU32LU32Z))]) ([o1, o2]) (by kernel_rfl) ?_
    refine H_askK (.junk) ([o1, o2, o1]) (by kernel_rfl) ?_
    refine H_askK (.ptr 0 1 0) ([o1, o2, o1]) (by kernel_rfl) ?_
    refine H_askK (.pd (.sl (p1.map elABLU32LU32Z))) ([o1, o2, o1]) (by kernel_rfl) ?_
    refine H_ask _ _ (by kernel_rfl) (ask_len (P := Tryz.prog) (M := [o1, o2, o1]) (t := 23) (et := 44) (el := elABLU32LU32Z) (by kernel_rfl) (e := p1)) ?_
    obtain ⟨hx87, h⟩ := h
    refine H_ask _ _ (by kernel_rfl) (ask_make (P := Tryz.prog) (M := [o1, o2, o1]) (t := 34) (k := .i64) (lv := lvI64) (by_ := 8) (n := (if (90 : Int) < (p1.length : Int) then 90 else (p1.length : Int))) (z := (0 : Int)) okI64 ⟨3, .int .i64 0, by kernel_rfl, by kernel_rfl, rfl, by kernel_rfl, by decide, rfl⟩ hx87.1 hx87.2.1 hx87.2.2) ?_
    obtain ⟨x90, hx91, h⟩ := h
    let o11 : Ob := .cells (rowC lvI64 (List.replicate (Int.toNat (if (90 : Int) < (p1.length : Int) then 90 else (p1.length : Int))) (0 : Int))) 1 0 false
    refine H_valF (g := 43) (pre := []) (post := []) (M := [o1, o2, o1, o11]) 3 ((List.replicate (Int.toNat (if (90 : Int) < (p1.length : Int) then 90 else (p1.length : Int))) (0 : Int)).length) 0 (.pd (.sl (x90.map elABLU32LU32Z))) (by kernel_rfl) (own_pd okI64 (by decide) lgI64 (o := .cells (rowC lvI64 (List.replicate (Int.toNat (if (90 : Int) < (p1.length : Int) then 90 else (p1.length : Int))) (0 : Int))) 1 0 false) (by kernel_rfl) (rowIs_c (lv := lvI64) (s := 1) (e := (List.replicate (Int.toNat (if (90 : Int) < (p1.length : Int) then 90 else (p1.length : Int))) (0 : Int))) (ver := 0) (z := false)) (n := (List.replicate (Int.toNat (if (90 : Int) < (p1.length : Int) then 90 else (p1.length : Int))) (0 : Int)).length) rfl) (frz_c (b := 3) (l := rowC lvI64 (List.replicate (Int.toNat (if (90 : Int) < (p1.length : Int) then 90 else (p1.length : Int))) (0 : Int))) (s := 1) (ver := 0) (z := false) (by kernel_rfl)) (by kernel_rfl) (vec_Ints_ok m _ hx91) (by kernel_rfl) (hasT 43 (by kernel_rfl)) ?_
    let o12 : Ob := .cells (rowC lvI64 (List.replicate (Int.toNat (if (90 : Int) < (p1.length : Int) then 90 else (p1.length : Int))) (0 : Int))) 1 0 true
    refine H_askK (.ptr 2 1 0) ([o1, o2, o1, o12]) (by kernel_rfl) ?_
    let o13 : Ob := .cells [.pd (.sl (p0.map elLABLU32LU32Z)), .pd (.sl (x90.map elABLU32LU32Z)), .pd (.sl (p2.map elABLU32LU32Z))] 1 0 false
    refine H_askK (.junk) ([o1, o2, o13, o12]) (by kernel_rfl) ?_
    refine H_askK (.ptr 1 2 0) ([o1, o2, o13, o12]) (by kernel_rfl) ?_
    refine H_askK (.pd (.sl (p5.map elABLU32LU32Z))) ([o1, o2, o13, o12]) (by kernel_rfl) ?_
    refine H_ask _ _ (by kernel_rfl) (ask_len (P := Tryz.prog) (M := [o1, o2, o13, o12]) (t := 23) (et := 44) (el := elABLU32LU32Z) (by kernel_rfl) (e := p5)) ?_
    refine H_split ((p5.length : Int) == (0 : Int)) (by kernel_rfl) (fun hp92 => ?_) (fun hp92 => ?_)
    · replace h := h.t hp92
      refine H_askK (.agg [.pd (.sl (p0.map elLABLU32LU32Z)), .pd (.sl (p1.map elABLU32LU32Z)), .pd (.sl (p2.map elABLU32LU32Z))]) ([o1, o2, o13, o12]) (by kernel_rfl) ?_
      refine H_askK (.ptr 1 1 0) ([o1, o2, o13, o12]) (by kernel_rfl) ?_
      refine H_askK (.pd (.sl (p4.map elABLU32LU32Z))) ([o1, o2, o13, o12]) (by kernel_rfl) ?_
      obtain ⟨x93, hx94, h⟩ := h
      refine H_valW (g := 52) (args := [.agg [.pd (.sl (p0.map elLABLU32LU32Z)), .pd (.sl (p1.map elABLU32LU32Z)), .pd (.sl (p2.map elABLU32LU32Z))], .pd (.sl (p4.map elABLU32LU32Z))]) (M := [o1, o2, o13, o12]) (.pd (.bool x93)) (.inl (by kernel_rfl)) (by kernel_rfl) (shape_Does_ok m _ _ _ _ hx94) (by kernel_rfl) (hasT 52 (by kernel_rfl)) ?_
      cases x93
      · replace h := h.f rfl
        exact H_end .ret (.pd (.bool false)) (by kernel_rfl) rfl (by kernel_rfl) (by subst h; rfl)
      replace h := h.t rfl
      refine H_askK (.agg [.pd (.sl (p0.map elLABLU32LU32Z)), .pd (.sl (x90.map elABLU32LU32Z)), .pd (.sl (p2.map elABLU32LU32Z))]) ([o1, o2, o13, o12]) (by kernel_rfl) ?_
      refine H_askK (.ptr 1 3 0) ([o1, o2, o13, o12]) (by kernel_rfl) ?_
      refine H_askK (.pd (.sl (p6.map elABLU32LU32Z))) ([o1, o2, o13, o12]) (by kernel_rfl) ?_
      obtain ⟨x95, hx96, h⟩ := h
      refine H_valW (g := 52) (args := [.agg [.pd (.sl (p0.map elLABLU32LU32Z)), .pd (.sl (x90.map elABLU32LU32Z)), .pd (.sl (p2.map elABLU32LU32Z))], .pd (.sl (p6.map elABLU32LU32Z))]) (M := [o1, o2, o13, o12]) (.pd (.bool x95)) (.inl (by kernel_rfl)) (by kernel_rfl) (shape_Does_ok m _ _ _ _ hx96) (by kernel_rfl) (hasT 52 (by kernel_rfl)) ?_
      cases x95
      · replace h := h.f rfl
        exact H_end .ret (.pd (.bool false)) (by kernel_rfl) rfl (by kernel_rfl) (by subst h; rfl)
      replace h := h.t rfl
      refine H_askK (.ptr 0 2 0) ([o1, o2, o13, o12]) (by kernel_rfl) ?_
      refine H_askK (.pd (.sl (p2.map elABLU32LU32Z))) ([o1, o2, o13, o12]) (by kernel_rfl) ?_
      refine H_askK (.ptr 1 3 0) ([o1, o2, o13, o12]) (by kernel_rfl) ?_
      refine H_askK (.pd (.sl (p6.map elABLU32LU32Z))) ([o1, o2, o13, o12]) (by kernel_rfl) ?_
      obtain ⟨x97, x98, x99, hx100, h⟩ := h
      refine H_valW (g := 21) (args := [.pd (.sl (p2.map elABLU32LU32Z)), .pd (.sl (p6.map elABLU32LU32Z))]) (M := [o1, o2, o13, o12]) (.agg [.pd (.bool x97), .pd (.sl (x98.map elU32)), .pd (.sl (x99.map elU32))]) (.inl (by kernel_rfl)) (by kernel_rfl) (vec_Dot_ok m _ _ hx100) (by kernel_rfl) (hasT 21 (by kernel_rfl)) ?_
      obtain ⟨x101, hx102, h⟩ := h
      refine H_valW (g := 23) (args := [.agg [.pd (.bool x97), .pd (.sl (x98.map elU32)), .pd (.sl (x99.map elU32))]]) (M := [o1, o2, o13, o12]) (.pd (.int .i64 x101)) (.inl (by kernel_rfl)) (by kernel_rfl) (rat_Sign_ok m _ _ _ hx102) (by kernel_rfl) (hasT 23 (by kernel_rfl)) ?_
      refine H_split (decide (x101 < (0 : Int))) (by kernel_rfl) (fun hp103 => ?_) (fun hp103 => ?_)
      · replace h := h.t hp103
        exact H_end .ret (.pd (.bool true)) (by kernel_rfl) rfl (by kernel_rfl) (by subst h; rfl)
      replace h := h.f hp103
      exact H_end .ret (.pd (.bool false)) (by kernel_rfl) rfl (by kernel_rfl) (by subst h; rfl)
    replace h := h.f hp92
    exact H_end .ret (.pd (.bool false)) (by kernel_rfl) rfl (by kernel_rfl) (by subst h; rfl)
  replace h := h.f hp86
  exact H_end .ret (.pd (.bool false)) (by kernel_rfl) rfl (by kernel_rfl) (by subst h; rfl)

theorem offcutlaw13_ProofChecks_ok (m : Tp) (p0 : List (List (Bool × (List Int) × (List Int)))) (p1 : List (Bool × (List Int) × (List Int))) (p2 : List (Bool × (List Int) × (List Int))) (p3 : Int) (p4 : List (Bool × (List Int) × (List Int))) (p5 : List (Bool × (List Int) × (List Int))) (p6 : List (Bool × (List Int) × (List Int))) {r : Bool} (h : offcutlaw13_ProofChecks p0 p1 p2 p3 p4 p5 p6 r) : ASpec Tryz.prog (gtT m) 3 [.agg [.pd (.sl (p0.map elLABLU32LU32Z)), .pd (.sl (p1.map elABLU32LU32Z)), .pd (.sl (p2.map elABLU32LU32Z))], .agg [.pd (.int .i64 p3), .pd (.sl (p4.map elABLU32LU32Z)), .pd (.sl (p5.map elABLU32LU32Z)), .pd (.sl (p6.map elABLU32LU32Z))]] (· = .pd (.bool r)) := by
  refine ASpec_tree Tryz.f3 mixedT (askG [9, 10, 11] false) (by kernel_rfl) ?_
  unfold offcutlaw13_ProofChecks at h
  let o1 : Ob := .cells [.pd (.sl (p0.map elLABLU32LU32Z)), .pd (.sl (p1.map elABLU32LU32Z)), .pd (.sl (p2.map elABLU32LU32Z))] 1 0 false
  refine H_askK (.ptr 0 0 0) ([o1]) (by kernel_rfl) ?_
  let o2 : Ob := .cells [.pd (.int .i64 p3), .pd (.sl (p4.map elABLU32LU32Z)), .pd (.sl (p5.map elABLU32LU32Z)), .pd (.sl (p6.map elABLU32LU32Z))] 1 0 false
  refine H_askK (.ptr 1 0 0) ([o1, o2]) (by kernel_rfl) ?_
  refine H_askK (.agg [.pd (.sl (p0.map elLABLU32LU32Z)), .pd (.sl (p1.map elABLU32LU32Z)), .pd (.sl (p2.map elABLU32LU32Z))]) ([o1, o2]) (by kernel_rfl) ?_
  obtain ⟨x1, hx2, h⟩ := h
  refine H_valW (g := 12) (args := [.agg [.pd (.sl (p0.map elLABLU32LU32Z)), .pd (.sl (p1.map elABLU32LU32Z)), .pd (.sl (p2.map elABLU32LU32Z))]]) (M := [o1, o2]) (.pd (.bool x1)) (.inl (by kernel_rfl)) (by kernel_rfl) (offcutlaw11_Few_ok m _ _ _ hx2) (by kernel_rfl) (hasT 12 (by kernel_rfl)) ?_
  cases x1
  · replace h := h.f rfl
    obtain ⟨x51, hx52, h⟩ := h
    refine H_valW (g := 14) (args := []) (M := [o1, o2]) (.pd (.bool x51)) (.inl (by kernel_rfl)) (by kernel_rfl) (offcutlaw13_awake_ok m  hx52) (by kernel_rfl) (hasT 14 (by kernel_rfl)) ?_
    cases x51
    · replace h := h.f rfl
      exact H_end .ret (.pd (.bool false)) (by kernel_rfl) rfl (by kernel_rfl) (by subst h; rfl)
    replace h := h.t rfl
    exact H_end .ret (.pd (.bool true)) (by kernel_rfl) rfl (by kernel_rfl) (by subst h; rfl)
  replace h := h.t rfl
  refine H_askK (.agg [.pd (.int .i64 p3), .pd (.sl (p4.map elABLU32LU32Z)), .pd (.sl (p5.map elABLU32LU32Z)), .pd (.sl (p6.map elABLU32LU32Z))]) ([o1, o2]) (by kernel_rfl) ?_
  obtain ⟨x3, hx4, h⟩ := h
  refine H_valW (g := 13) (args := [.agg [.pd (.int .i64 p3), .pd (.sl (p4.map elABLU32LU32Z)), .pd (.sl (p5.map elABLU32LU32Z)), .pd (.sl (p6.map elABLU32LU32Z))]]) (M := [o1, o2]) (.pd (.bool x3)) (.inl (by kernel_rfl)) (by kernel_rfl) (offcutlaw13_Few_ok m _ _ _ _ hx4) (by kernel_rfl) (hasT 13 (by kernel_rfl)) ?_
  cases x3
  · replace h := h.f rfl
    obtain ⟨x49, hx50, h⟩ := h
    refine H_valW (g := 14) (args := []) (M := [o1, o2]) (.pd (.bool x49)) (.inl (by kernel_rfl)) (by kernel_rfl) (offcutlaw13_awake_ok m  hx50) (by kernel_rfl) (hasT 14 (by kernel_rfl)) ?_
    cases x49
    · replace h := h.f rfl
      exact H_end .ret (.pd (.bool false)) (by kernel_rfl) rfl (by kernel_rfl) (by subst h; rfl)
    replace h := h.t rfl
    exact H_end .ret (.pd (.bool true)) (by kernel_rfl) rfl (by kernel_rfl) (by subst h; rfl)
  replace h := h.t rfl
  refine H_askK (.agg [.pd (.sl (p0.map elLABLU32LU32Z)), .pd (.sl (p1.map elABLU32LU32Z)), .pd (.sl (p2.map elABLU32LU32Z))]) ([o1, o2]) (by kernel_rfl) ?_
  refine H_askK (.agg [.pd (.int .i64 p3), .pd (.sl (p4.map elABLU32LU32Z)), .pd (.sl (p5.map elABLU32LU32Z)), .pd (.sl (p6.map elABLU32LU32Z))]) ([o1, o2]) (by kernel_rfl) ?_
  obtain ⟨x5, hx6, h⟩ := h
  refine H_valW (g := 15) (args := [.agg [.pd (.sl (p0.map elLABLU32LU32Z)), .pd (.sl (p1.map elABLU32LU32Z)), .pd (.sl (p2.map elABLU32LU32Z))], .agg [.pd (.int .i64 p3), .pd (.sl (p4.map elABLU32LU32Z)), .pd (.sl (p5.map elABLU32LU32Z)), .pd (.sl (p6.map elABLU32LU32Z))]]) (M := [o1, o2]) (.pd (.int .i64 x5)) (.inl (by kernel_rfl)) (by kernel_rfl) (proof_Check_ok m _ _ _ _ _ _ _ hx6) (by kernel_rfl) (hasT 15 (by kernel_rfl)) ?_
  refine H_draw (by kernel_rfl) ?_
  refine H_askK (.agg [.pd (.int .i64 p3), .pd (.sl (p4.map elABLU32LU32Z)), .pd (.sl (p5.map elABLU32LU32Z)), .pd (.sl (p6.map elABLU32LU32Z))]) ([o1, o2]) (by kernel_rfl) ?_
  obtain ⟨x7, hx8, h⟩ := h
  refine H_valW (g := 16) (args := [.agg [.pd (.int .i64 p3), .pd (.sl (p4.map elABLU32LU32Z)), .pd (.sl (p5.map elABLU32LU32Z)), .pd (.sl (p6.map elABLU32LU32Z))]]) (M := [o1, o2]) (.pd (.bool x7)) (.inr (by kernel_rfl)) (by kernel_rfl) (proof_Right_ok m _ _ _ _ hx8) (by kernel_rfl) (hasT 16 (by kernel_rfl)) ?_
  cases x7
  · replace h := h.f rfl
    refine H_askK (.agg [.pd (.int .i64 p3), .pd (.sl (p4.map elABLU32LU32Z)), .pd (.sl (p5.map elABLU32LU32Z)), .pd (.sl (p6.map elABLU32LU32Z))]) ([o1, o2]) (by kernel_rfl) ?_
    obtain ⟨x29, hx30, h⟩ := h
    refine H_valW (g := 17) (args := [.agg [.pd (.int .i64 p3), .pd (.sl (p4.map elABLU32LU32Z)), .pd (.sl (p5.map elABLU32LU32Z)), .pd (.sl (p6.map elABLU32LU32Z))]]) (M := [o1, o2]) (.pd (.bool x29)) (.inr (by kernel_rfl)) (by kernel_rfl) (offcutlaw13_right_ok m _ _ _ _ hx30) (by kernel_rfl) (hasT 17 (by kernel_rfl)) ?_
    cases x29
    · replace h := h.f rfl
      refine H_split false (by kernel_rfl) (fun hc => by cases hc) (fun _ => ?_)
      refine H_askK (.agg [.pd (.sl (p0.map elLABLU32LU32Z)), .pd (.sl (p1.map elABLU32LU32Z)), .pd (.sl (p2.map elABLU32LU32Z))]) ([o1, o2]) (by kernel_rfl) ?_
      obtain ⟨x31, hx32, h⟩ := h
      refine H_valW (g := 18) (args := [.agg [.pd (.sl (p0.map elLABLU32LU32Z)), .pd (.sl (p1.map elABLU32LU32Z)), .pd (.sl (p2.map elABLU32LU32Z))]]) (M := [o1, o2]) (.pd (.bool x31)) (.inl (by kernel_rfl)) (by kernel_rfl) (shape_Right_ok m _ _ _ hx32) (by kernel_rfl) (hasT 18 (by kernel_rfl)) ?_
      cases x31
      · replace h := h.f rfl
        refine H_split (x5 == (1 : Int)) (by kernel_rfl) (fun hp46 => ?_) (fun hp46 => ?_)
        · replace h := h.t hp46
          obtain ⟨x47, hx48, h⟩ := h
          refine H_valW (g := 14) (args := []) (M := [o1, o2]) (.pd (.bool x47)) (.inl (by kernel_rfl)) (by kernel_rfl) (offcutlaw13_awake_ok m  hx48) (by kernel_rfl) (hasT 14 (by kernel_rfl)) ?_
          cases x47
          · replace h := h.f rfl
            exact H_end .ret (.pd (.bool false)) (by kernel_rfl) rfl (by kernel_rfl) (by subst h; rfl)
          replace h := h.t rfl
          exact H_end .ret (.pd (.bool true)) (by kernel_rfl) rfl (by kernel_rfl) (by subst h; rfl)
        replace h := h.f hp46
        exact H_end .ret (.pd (.bool false)) (by kernel_rfl) rfl (by kernel_rfl) (by subst h; rfl)
      replace h := h.t rfl
      refine H_askK (.agg [.pd (.int .i64 p3), .pd (.sl (p4.map elABLU32LU32Z)), .pd (.sl (p5.map elABLU32LU32Z)), .pd (.sl (p6.map elABLU32LU32Z))]) ([o1, o2]) (by kernel_rfl) ?_
      obtain ⟨x33, hx34, h⟩ := h
      refine H_valW (g := 17) (args := [.agg [.pd (.int .i64 p3), .pd (.sl (p4.map elABLU32LU32Z)), .pd (.sl (p5.map elABLU32LU32Z)), .pd (.sl (p6.map elABLU32LU32Z))]]) (M := [o1, o2]) (.pd (.bool x33)) (.inl (by kernel_rfl)) (by kernel_rfl) (offcutlaw13_right_ok m _ _ _ _ hx34) (by kernel_rfl) (hasT 17 (by kernel_rfl)) ?_
      cases x33
      · replace h := h.f rfl
        refine H_split (x5 == (1 : Int)) (by kernel_rfl) (fun hp43 => ?_) (fun hp43 => ?_)
        · replace h := h.t hp43
          obtain ⟨x44, hx45, h⟩ := h
          refine H_valW (g := 14) (args := []) (M := [o1, o2]) (.pd (.bool x44)) (.inl (by kernel_rfl)) (by kernel_rfl) (offcutlaw13_awake_ok m  hx45) (by kernel_rfl) (hasT 14 (by kernel_rfl)) ?_
          cases x44
          · replace h := h.f rfl
            exact H_end .ret (.pd (.bool false)) (by kernel_rfl) rfl (by kernel_rfl) (by subst h; rfl)
          replace h := h.t rfl
          exact H_end .ret (.pd (.bool true)) (by kernel_rfl) rfl (by kernel_rfl) (by subst h; rfl)
        replace h := h.f hp43
        exact H_end .ret (.pd (.bool false)) (by kernel_rfl) rfl (by kernel_rfl) (by subst h; rfl)
      replace h := h.t rfl
      refine H_askK (.agg [.pd (.sl (p0.map elLABLU32LU32Z)), .pd (.sl (p1.map elABLU32LU32Z)), .pd (.sl (p2.map elABLU32LU32Z))]) ([o1, o2]) (by kernel_rfl) ?_
      refine H_askK (.ptr 1 0 0) ([o1, o2]) (by kernel_rfl) ?_
      refine H_askK (.pd (.int .i64 p3)) ([o1, o2]) (by kernel_rfl) ?_
      refine H_askK (.ptr 1 1 0) ([o1, o2]) (by kernel_rfl) ?_
      refine H_askK (.pd (.sl (p4.map elABLU32LU32Z))) ([o1, o2]) (by kernel_rfl) ?_
      refine H_askK (.ptr 1 2 0) ([o1, o2]) (by kernel_rfl) ?_
      refine H_askK (.pd (.sl (p5.map elABLU32LU32Z))) ([o1, o2]) (by kernel_rfl) ?_
      refine H_askK (.ptr 1 3 0) ([o1, o2]) (by kernel_rfl) ?_
      refine H_askK (.pd (.sl (p6.map elABLU32LU32Z))) ([o1, o2]) (by kernel_rfl) ?_
      refine H_askK (.agg [.pd (.int .i64 p3), .pd (.sl (p4.map elABLU32LU32Z)), .pd (.sl (p5.map elABLU32LU32Z)), .pd (.sl (p6.map elABLU32LU32Z)), .fixed (([] : List Int).map elI64), .pd (.int .i64 0)]) ([o1, o2]) (by kernel_rfl) ?_
      obtain ⟨x35, hx36, h⟩ := h
      refine H_valW (g := 19) (args := [.agg [.pd (.sl (p0.map elLABLU32LU32Z)), .pd (.sl (p1.map elABLU32LU32Z)), .pd (.sl (p2.map elABLU32LU32Z))], .agg [.pd (.int .i64 p3), .pd (.sl (p4.map elABLU32LU32Z)), .pd (.sl (p5.map elABLU32LU32Z)), .pd (.sl (p6.map elABLU32LU32Z)), .fixed (([] : List Int).map elI64), .pd (.int .i64 0)]]) (M := [o1, o2]) (.pd (.bool x35)) (.inl (by kernel_rfl)) (by kernel_rfl) (offcutlaw12_Proved_ok m _ _ _ _ _ _ _ _ _ hx36) (by kernel_rfl) (hasT 19 (by kernel_rfl)) ?_
      cases x35
      · replace h := h.f rfl
        refine H_split (x5 == (12 : Int)) (by kernel_rfl) (fun hp40 => ?_) (fun hp40 => ?_)
        · replace h := h.t hp40
          obtain ⟨x41, hx42, h⟩ := h
          refine H_valW (g := 14) (args := []) (M := [o1, o2]) (.pd (.bool x41)) (.inl (by kernel_rfl)) (by kernel_rfl) (offcutlaw13_awake_ok m  hx42) (by kernel_rfl) (hasT 14 (by kernel_rfl)) ?_
          cases x41
          · replace h := h.f rfl
            exact H_end .ret (.pd (.bool false)) (by kernel_rfl) rfl (by kernel_rfl) (by subst h; rfl)
          replace h := h.t rfl
          exact H_end .ret (.pd (.bool true)) (by kernel_rfl) rfl (by kernel_rfl) (by subst h; rfl)
        replace h := h.f hp40
        exact H_end .ret (.pd (.bool false)) (by kernel_rfl) rfl (by kernel_rfl) (by subst h; rfl)
      replace h := h.t rfl
      refine H_split (x5 == (0 : Int)) (by kernel_rfl) (fun hp37 => ?_) (fun hp37 => ?_)
      · replace h := h.t hp37
        obtain ⟨x38, hx39, h⟩ := h
        refine H_valW (g := 14) (args := []) (M := [o1, o2]) (.pd (.bool x38)) (.inl (by kernel_rfl)) (by kernel_rfl) (offcutlaw13_awake_ok m  hx39) (by kernel_rfl) (hasT 14 (by kernel_rfl)) ?_
        cases x38
        · replace h := h.f rfl
          exact H_end .ret (.pd (.bool false)) (by kernel_rfl) rfl (by kernel_rfl) (by subst h; rfl)
        replace h := h.t rfl
        exact H_end .ret (.pd (.bool true)) (by kernel_rfl) rfl (by kernel_rfl) (by subst h; rfl)
      replace h := h.f hp37
      exact H_end .ret (.pd (.bool false)) (by kernel_rfl) rfl (by kernel_rfl) (by subst h; rfl)
    replace h := h.t rfl
    refine H_split true (by kernel_rfl) (fun _ => ?_) (fun hc => by cases hc)
    exact H_end .ret (.pd (.bool false)) (by kernel_rfl) rfl (by kernel_rfl) (by subst h; rfl)
  replace h := h.t rfl
  refine H_askK (.agg [.pd (.int .i64 p3), .pd (.sl (p4.map elABLU32LU32Z)), .pd (.sl (p5.map elABLU32LU32Z)), .pd (.sl (p6.map elABLU32LU32Z))]) ([o1, o2]) (by kernel_rfl) ?_
  obtain ⟨x9, hx10, h⟩ := h
  refine H_valW (g := 17) (args := [.agg [.pd (.int .i64 p3), .pd (.sl (p4.map elABLU32LU32Z)), .pd (.sl (p5.map elABLU32LU32Z)), .pd (.sl (p6.map elABLU32LU32Z))]]) (M := [o1, o2]) (.pd (.bool x9)) (.inr (by kernel_rfl)) (by kernel_rfl) (offcutlaw13_right_ok m _ _ _ _ hx10) (by kernel_rfl) (hasT 17 (by kernel_rfl)) ?_
  cases x9
  · replace h := h.f rfl
    refine H_split true (by kernel_rfl) (fun _ => ?_) (fun hc => by cases hc)
    exact H_end .ret (.pd (.bool false)) (by kernel_rfl) rfl (by kernel_rfl) (by subst h; rfl)
  replace h := h.t rfl
  refine H_split false (by kernel_rfl) (fun hc => by cases hc) (fun _ => ?_)
  refine H_askK (.agg [.pd (.sl (p0.map elLABLU32LU32Z)), .pd (.sl (p1.map elABLU32LU32Z)), .pd (.sl (p2.map elABLU32LU32Z))]) ([o1, o2]) (by kernel_rfl) ?_
  obtain ⟨x11, hx12, h⟩ := h
  refine H_valW (g := 18) (args := [.agg [.pd (.sl (p0.map elLABLU32LU32Z)), .pd (.sl (p1.map elABLU32LU32Z)), .pd (.sl (p2.map elABLU32LU32Z))]]) (M := [o1, o2]) (.pd (.bool x11)) (.inl (by kernel_rfl)) (by kernel_rfl) (shape_Right_ok m _ _ _ hx12) (by kernel_rfl) (hasT 18 (by kernel_rfl)) ?_
  cases x11
  · replace h := h.f rfl
    refine H_split (x5 == (1 : Int)) (by kernel_rfl) (fun hp26 => ?_) (fun hp26 => ?_)
    · replace h := h.t hp26
      obtain ⟨x27, hx28, h⟩ := h
      refine H_valW (g := 14) (args := []) (M := [o1, o2]) (.pd (.bool x27)) (.inl (by kernel_rfl)) (by kernel_rfl) (offcutlaw13_awake_ok m  hx28) (by kernel_rfl) (hasT 14 (by kernel_rfl)) ?_
      cases x27
      · replace h := h.f rfl
        exact H_end .ret (.pd (.bool false)) (by kernel_rfl) rfl (by kernel_rfl) (by subst h; rfl)
      replace h := h.t rfl
      exact H_end .ret (.pd (.bool true)) (by kernel_rfl) rfl (by kernel_rfl) (by subst h; rfl)
    replace h := h.f hp26
    exact H_end .ret (.pd (.bool false)) (by kernel_rfl) rfl (by kernel_rfl) (by subst h; rfl)
  replace h := h.t rfl
  refine H_askK (.agg [.pd (.int .i64 p3), .pd (.sl (p4.map elABLU32LU32Z)), .pd (.sl (p5.map elABLU32LU32Z)), .pd (.sl (p6.map elABLU32LU32Z))]) ([o1, o2]) (by kernel_rfl) ?_
  obtain ⟨x13, hx14, h⟩ := h
  refine H_valW (g := 17) (args := [.agg [.pd (.int .i64 p3), .pd (.sl (p4.map elABLU32LU32Z)), .pd (.sl (p5.map elABLU32LU32Z)), .pd (.sl (p6.map elABLU32LU32Z))]]) (M := [o1, o2]) (.pd (.bool x13)) (.inl (by kernel_rfl)) (by kernel_rfl) (offcutlaw13_right_ok m _ _ _ _ hx14) (by kernel_rfl) (hasT 17 (by kernel_rfl)) ?_
  cases x13
  · replace h := h.f rfl
    refine H_split (x5 == (1 : Int)) (by kernel_rfl) (fun hp23 => ?_) (fun hp23 => ?_)
    · replace h := h.t hp23
      obtain ⟨x24, hx25, h⟩ := h
      refine H_valW (g := 14) (args := []) (M := [o1, o2]) (.pd (.bool x24)) (.inl (by kernel_rfl)) (by kernel_rfl) (offcutlaw13_awake_ok m  hx25) (by kernel_rfl) (hasT 14 (by kernel_rfl)) ?_
      cases x24
      · replace h := h.f rfl
        exact H_end .ret (.pd (.bool false)) (by kernel_rfl) rfl (by kernel_rfl) (by subst h; rfl)
      replace h := h.t rfl
      exact H_end .ret (.pd (.bool true)) (by kernel_rfl) rfl (by kernel_rfl) (by subst h; rfl)
    replace h := h.f hp23
    exact H_end .ret (.pd (.bool false)) (by kernel_rfl) rfl (by kernel_rfl) (by subst h; rfl)
  replace h := h.t rfl
  refine H_askK (.agg [.pd (.sl (p0.map elLABLU32LU32Z)), .pd (.sl (p1.map elABLU32LU32Z)), .pd (.sl (p2.map elABLU32LU32Z))]) ([o1, o2]) (by kernel_rfl) ?_
  refine H_askK (.ptr 1 0 0) ([o1, o2]) (by kernel_rfl) ?_
  refine H_askK (.pd (.int .i64 p3)) ([o1, o2]) (by kernel_rfl) ?_
  refine H_askK (.ptr 1 1 0) ([o1, o2]) (by kernel_rfl) ?_
  refine H_askK (.pd (.sl (p4.map elABLU32LU32Z))) ([o1, o2]) (by kernel_rfl) ?_
  refine H_askK (.ptr 1 2 0) ([o1, o2]) (by kernel_rfl) ?_
  refine H_askK (.pd (.sl (p5.map elABLU32LU32Z))) ([o1, o2]) (by kernel_rfl) ?_
  refine H_askK (.ptr 1 3 0) ([o1, o2]) (by kernel_rfl) ?_
  refine H_askK (.pd (.sl (p6.map elABLU32LU32Z))) ([o1, o2]) (by kernel_rfl) ?_
  refine H_askK (.agg [.pd (.int .i64 p3), .pd (.sl (p4.map elABLU32LU32Z)), .pd (.sl (p5.map elABLU32LU32Z)), .pd (.sl (p6.map elABLU32LU32Z)), .fixed (([] : List Int).map elI64), .pd (.int .i64 0)]) ([o1, o2]) (by kernel_rfl) ?_
  obtain ⟨x15, hx16, h⟩ := h
  refine H_valW (g := 19) (args := [.agg [.pd (.sl (p0.map elLABLU32LU32Z)), .pd (.sl (p1.map elABLU32LU32Z)), .pd (.sl (p2.map elABLU32LU32Z))], .agg [.pd (.int .i64 p3), .pd (.sl (p4.map elABLU32LU32Z)), .pd (.sl (p5.map elABLU32LU32Z)), .pd (.sl (p6.map elABLU32LU32Z)), .fixed (([] : List Int).map elI64), .pd (.int .i64 0)]]) (M := [o1, o2]) (.pd (.bool x15)) (.inl (by kernel_rfl)) (by kernel_rfl) (offcutlaw12_Proved_ok m _ _ _ _ _ _ _ _ _ hx16) (by kernel_rfl) (hasT 19 (by kernel_rfl)) ?_
  cases x15
  · replace h := h.f rfl
    refine H_split (x5 == (12 : Int)) (by kernel_rfl) (fun hp20 => ?_) (fun hp20 => ?_)
    · replace h := h.t hp20
      obtain ⟨x21, hx22, h⟩ := h
      refine H_valW (g := 14) (args := []) (M := [o1, o2]) (.pd (.bool x21)) (.inl (by kernel_rfl)) (by kernel_rfl) (offcutlaw13_awake_ok m  hx22) (by kernel_rfl) (hasT 14 (by kernel_rfl)) ?_
      cases x21
      · replace h := h.f rfl
        exact H_end .ret (.pd (.bool false)) (by kernel_rfl) rfl (by kernel_rfl) (by subst h; rfl)
      replace h := h.t rfl
      exact H_end .ret (.pd (.bool true)) (by kernel_rfl) rfl (by kernel_rfl) (by subst h; rfl)
    replace h := h.f hp20
    exact H_end .ret (.pd (.bool false)) (by kernel_rfl) rfl (by kernel_rfl) (by subst h; rfl)
  replace h := h.t rfl
  refine H_split (x5 == (0 : Int)) (by kernel_rfl) (fun hp17 => ?_) (fun hp17 => ?_)
  · replace h := h.t hp17
    obtain ⟨x18, hx19, h⟩ := h
    refine H_valW (g := 14) (args := []) (M := [o1, o2]) (.pd (.bool x18)) (.inl (by kernel_rfl)) (by kernel_rfl) (offcutlaw13_awake_ok m  hx19) (by kernel_rfl) (hasT 14 (by kernel_rfl)) ?_
    cases x18
    · replace h := h.f rfl
      exact H_end .ret (.pd (.bool false)) (by kernel_rfl) rfl (by kernel_rfl) (by subst h; rfl)
    replace h := h.t rfl
    exact H_end .ret (.pd (.bool true)) (by kernel_rfl) rfl (by kernel_rfl) (by subst h; rfl)
  replace h := h.f hp17
  exact H_end .ret (.pd (.bool false)) (by kernel_rfl) rfl (by kernel_rfl) (by subst h; rfl)

theorem offcutlaw13_ProofOne_ok (m : Tp) (p0 : List (List (Bool × (List Int) × (List Int)))) (p1 : List (Bool × (List Int) × (List Int))) (p2 : List (Bool × (List Int) × (List Int))) (p3 : Int) (p4 : List (Bool × (List Int) × (List Int))) (p5 : List (Bool × (List Int) × (List Int))) (p6 : List (Bool × (List Int) × (List Int))) (p7 : Int) (p8 : List (Bool × (List Int) × (List Int))) (p9 : List (Bool × (List Int) × (List Int))) (p10 : List (Bool × (List Int) × (List Int))) {r : Bool} (h : offcutlaw13_ProofOne p0 p1 p2 p3 p4 p5 p6 p7 p8 p9 p10 r) : ASpec Tryz.prog (gtT m) 4 [.agg [.pd (.sl (p0.map elLABLU32LU32Z)), .pd (.sl (p1.map elABLU32LU32Z)), .pd (.sl (p2.map elABLU32LU32Z))], .agg [.pd (.int .i64 p3), .pd (.sl (p4.map elABLU32LU32Z)), .pd (.sl (p5.map elABLU32LU32Z)), .pd (.sl (p6.map elABLU32LU32Z))], .agg [.pd (.int .i64 p7), .pd (.sl (p8.map elABLU32LU32Z)), .pd (.sl (p9.map elABLU32LU32Z)), .pd (.sl (p10.map elABLU32LU32Z))]] (· = .pd (.bool r)) := by
  refine ASpec_tree Tryz.f4 mixedT (askG [9, 10, 11] false) (by kernel_rfl) ?_
  unfold offcutlaw13_ProofOne at h
  let o1 : Ob := .cells [.pd (.sl (p0.map elLABLU32LU32Z)), .pd (.sl (p1.map elABLU32LU32Z)), .pd (.sl (p2.map elABLU32LU32Z))] 1 0 false
  refine H_askK (.ptr 0 0 0) ([o1]) (by kernel_rfl) ?_
  let o2 : Ob := .cells [.pd (.int .i64 p3), .pd (.sl (p4.map elABLU32LU32Z)), .pd (.sl (p5.map elABLU32LU32Z)), .pd (.sl (p6.map elABLU32LU32Z))] 1 0 false
  refine H_askK (.ptr 1 0 0) ([o1, o2]) (by kernel_rfl) ?_
  let o3 : Ob := .cells [.pd (.int .i64 p7), .pd (.sl (p8.map elABLU32LU32Z)), .pd (.sl (p9.map elABLU32LU32Z)), .pd (.sl (p10.map elABLU32LU32Z))] 1 0 false
  refine H_askK (.ptr 2 0 0) ([o1, o2, o3]) (by kernel_rfl) ?_
  refine H_askK (.agg [.pd (.sl (p0.map elLABLU32LU32Z)), .pd (.sl (p1.map elABLU32LU32Z)), .pd (.sl (p2.map elABLU32LU32Z))]) ([o1, o2, o3]) (by kernel_rfl) ?_
  obtain ⟨x1, hx2, h⟩ := h
  refine H_valW (g := 12) (args := [.agg [.pd (.sl (p0.map elLABLU32LU32Z)), .pd (.sl (p1.map elABLU32LU32Z)), .pd (.sl (p2.map elABLU32LU32Z))]]) (M := [o1, o2, o3]) (.pd (.bool x1)) (.inl (by kernel_rfl)) (by kernel_rfl) (offcutlaw11_Few_ok m _ _ _ hx2) (by kernel_rfl) (hasT 12 (by kernel_rfl)) ?_
  cases x1
  · replace h := h.f rfl
    obtain ⟨x38, hx39, h⟩ := h
    refine H_valW (g := 14) (args := []) (M := [o1, o2, o3]) (.pd (.bool x38)) (.inl (by kernel_rfl)) (by kernel_rfl) (offcutlaw13_awake_ok m  hx39) (by kernel_rfl) (hasT 14 (by kernel_rfl)) ?_
    cases x38
    · replace h := h.f rfl
      exact H_end .ret (.pd (.bool false)) (by kernel_rfl) rfl (by kernel_rfl) (by subst h; rfl)
    replace h := h.t rfl
    exact H_end .ret (.pd (.bool true)) (by kernel_rfl) rfl (by kernel_rfl) (by subst h; rfl)
  replace h := h.t rfl
  refine H_askK (.agg [.pd (.int .i64 p3), .pd (.sl (p4.map elABLU32LU32Z)), .pd (.sl (p5.map elABLU32LU32Z)), .pd (.sl (p6.map elABLU32LU32Z))]) ([o1, o2, o3]) (by kernel_rfl) ?_
  obtain ⟨x3, hx4, h⟩ := h
  refine H_valW (g := 13) (args := [.agg [.pd (.int .i64 p3), .pd (.sl (p4.map elABLU32LU32Z)), .pd (.sl (p5.map elABLU32LU32Z)), .pd (.sl (p6.map elABLU32LU32Z))]]) (M := [o1, o2, o3]) (.pd (.bool x3)) (.inl (by kernel_rfl)) (by kernel_rfl) (offcutlaw13_Few_ok m _ _ _ _ hx4) (by kernel_rfl) (hasT 13 (by kernel_rfl)) ?_
  cases x3
  · replace h := h.f rfl
    obtain ⟨x36, hx37, h⟩ := h
    refine H_valW (g := 14) (args := []) (M := [o1, o2, o3]) (.pd (.bool x36)) (.inl (by kernel_rfl)) (by kernel_rfl) (offcutlaw13_awake_ok m  hx37) (by kernel_rfl) (hasT 14 (by kernel_rfl)) ?_
    cases x36
    · replace h := h.f rfl
      exact H_end .ret (.pd (.bool false)) (by kernel_rfl) rfl (by kernel_rfl) (by subst h; rfl)
    replace h := h.t rfl
    exact H_end .ret (.pd (.bool true)) (by kernel_rfl) rfl (by kernel_rfl) (by subst h; rfl)
  replace h := h.t rfl
  refine H_askK (.agg [.pd (.int .i64 p7), .pd (.sl (p8.map elABLU32LU32Z)), .pd (.sl (p9.map elABLU32LU32Z)), .pd (.sl (p10.map elABLU32LU32Z))]) ([o1, o2, o3]) (by kernel_rfl) ?_
  obtain ⟨x5, hx6, h⟩ := h
  refine H_valW (g := 13) (args := [.agg [.pd (.int .i64 p7), .pd (.sl (p8.map elABLU32LU32Z)), .pd (.sl (p9.map elABLU32LU32Z)), .pd (.sl (p10.map elABLU32LU32Z))]]) (M := [o1, o2, o3]) (.pd (.bool x5)) (.inl (by kernel_rfl)) (by kernel_rfl) (offcutlaw13_Few_ok m _ _ _ _ hx6) (by kernel_rfl) (hasT 13 (by kernel_rfl)) ?_
  cases x5
  · replace h := h.f rfl
    obtain ⟨x34, hx35, h⟩ := h
    refine H_valW (g := 14) (args := []) (M := [o1, o2, o3]) (.pd (.bool x34)) (.inl (by kernel_rfl)) (by kernel_rfl) (offcutlaw13_awake_ok m  hx35) (by kernel_rfl) (hasT 14 (by kernel_rfl)) ?_
    cases x34
    · replace h := h.f rfl
      exact H_end .ret (.pd (.bool false)) (by kernel_rfl) rfl (by kernel_rfl) (by subst h; rfl)
    replace h := h.t rfl
    exact H_end .ret (.pd (.bool true)) (by kernel_rfl) rfl (by kernel_rfl) (by subst h; rfl)
  replace h := h.t rfl
  refine H_askK (.agg [.pd (.sl (p0.map elLABLU32LU32Z)), .pd (.sl (p1.map elABLU32LU32Z)), .pd (.sl (p2.map elABLU32LU32Z))]) ([o1, o2, o3]) (by kernel_rfl) ?_
  refine H_askK (.agg [.pd (.int .i64 p3), .pd (.sl (p4.map elABLU32LU32Z)), .pd (.sl (p5.map elABLU32LU32Z)), .pd (.sl (p6.map elABLU32LU32Z))]) ([o1, o2, o3]) (by kernel_rfl) ?_
  obtain ⟨x7, hx8, h⟩ := h
  refine H_valW (g := 15) (args := [.agg [.pd (.sl (p0.map elLABLU32LU32Z)), .pd (.sl (p1.map elABLU32LU32Z)), .pd (.sl (p2.map elABLU32LU32Z))], .agg [.pd (.int .i64 p3), .pd (.sl (p4.map elABLU32LU32Z)), .pd (.sl (p5.map elABLU32LU32Z)), .pd (.sl (p6.map elABLU32LU32Z))]]) (M := [o1, o2, o3]) (.pd (.int .i64 x7)) (.inl (by kernel_rfl)) (by kernel_rfl) (proof_Check_ok m _ _ _ _ _ _ _ hx8) (by kernel_rfl) (hasT 15 (by kernel_rfl)) ?_
  refine H_split (x7 != (0 : Int)) (by kernel_rfl) (fun hp9 => ?_) (fun hp9 => ?_)
  · replace h := h.t hp9
    obtain ⟨x10, hx11, h⟩ := h
    refine H_valW (g := 14) (args := []) (M := [o1, o2, o3]) (.pd (.bool x10)) (.inl (by kernel_rfl)) (by kernel_rfl) (offcutlaw13_awake_ok m  hx11) (by kernel_rfl) (hasT 14 (by kernel_rfl)) ?_
    cases x10
    · replace h := h.f rfl
      exact H_end .ret (.pd (.bool false)) (by kernel_rfl) rfl (by kernel_rfl) (by subst h; rfl)
    replace h := h.t rfl
    exact H_end .ret (.pd (.bool true)) (by kernel_rfl) rfl (by kernel_rfl) (by subst h; rfl)
  replace h := h.f hp9
  refine H_askK (.agg [.pd (.sl (p0.map elLABLU32LU32Z)), .pd (.sl (p1.map elABLU32LU32Z)), .pd (.sl (p2.map elABLU32LU32Z))]) ([o1, o2, o3]) (by kernel_rfl) ?_
  refine H_askK (.agg [.pd (.int .i64 p7), .pd (.sl (p8.map elABLU32LU32Z)), .pd (.sl (p9.map elABLU32LU32Z)), .pd (.sl (p10.map elABLU32LU32Z))]) ([o1, o2, o3]) (by kernel_rfl) ?_
  obtain ⟨x12, hx13, h⟩ := h
  refine H_valW (g := 15) (args := [.agg [.pd (.sl (p0.map elLABLU32LU32Z)), .pd (.sl (p1.map elABLU32LU32Z)), .pd (.sl (p2.map elABLU32LU32Z))], .agg [.pd (.int .i64 p7), .pd (.sl (p8.map elABLU32LU32Z)), .pd (.sl (p9.map elABLU32LU32Z)), .pd (.sl (p10.map elABLU32LU32Z))]]) (M := [o1, o2, o3]) (.pd (.int .i64 x12)) (.inl (by kernel_rfl)) (by kernel_rfl) (proof_Check_ok m _ _ _ _ _ _ _ hx13) (by kernel_rfl) (hasT 15 (by kernel_rfl)) ?_
  refine H_split (x12 != (0 : Int)) (by kernel_rfl) (fun hp14 => ?_) (fun hp14 => ?_)
  · replace h := h.t hp14
    obtain ⟨x15, hx16, h⟩ := h
    refine H_valW (g := 14) (args := []) (M := [o1, o2, o3]) (.pd (.bool x15)) (.inl (by kernel_rfl)) (by kernel_rfl) (offcutlaw13_awake_ok m  hx16) (by kernel_rfl) (hasT 14 (by kernel_rfl)) ?_
    cases x15
    · replace h := h.f rfl
      exact H_end .ret (.pd (.bool false)) (by kernel_rfl) rfl (by kernel_rfl) (by subst h; rfl)
    replace h := h.t rfl
    exact H_end .ret (.pd (.bool true)) (by kernel_rfl) rfl (by kernel_rfl) (by subst h; rfl)
  replace h := h.f hp14
  refine H_draw (by kernel_rfl) ?_
  refine H_askK (.ptr 1 0 0) ([o1, o2, o3]) (by kernel_rfl) ?_
  refine H_askK (.pd (.int .i64 p3)) ([o1, o2, o3]) (by kernel_rfl) ?_
  refine H_askK (.ptr 2 0 0) ([o1, o2, o3]) (by kernel_rfl) ?_
  refine H_askK (.pd (.int .i64 p7)) ([o1, o2, o3]) (by kernel_rfl) ?_
  refine H_split (p3 == p7) (by kernel_rfl) (fun hp17 => ?_) (fun hp17 => ?_)
  · replace h := h.t hp17
    refine H_askK (.ptr 1 0 0) ([o1, o2, o3]) (by kernel_rfl) ?_
    refine H_askK (.pd (.int .i64 p3)) ([o1, o2, o3]) (by kernel_rfl) ?_
    refine H_split (p3 != (1 : Int)) (by kernel_rfl) (fun hp18 => ?_) (fun hp18 => ?_)
    · replace h := h.t hp18
      obtain ⟨x19, hx20, h⟩ := h
      refine H_valW (g := 14) (args := []) (M := [o1, o2, o3]) (.pd (.bool x19)) (.inr (by kernel_rfl)) (by kernel_rfl) (offcutlaw13_awake_ok m  hx20) (by kernel_rfl) (hasT 14 (by kernel_rfl)) ?_
      cases x19
      · replace h := h.f rfl
        exact H_end .ret (.pd (.bool false)) (by kernel_rfl) rfl (by kernel_rfl) (by subst h; rfl)
      replace h := h.t rfl
      exact H_end .ret (.pd (.bool true)) (by kernel_rfl) rfl (by kernel_rfl) (by subst h; rfl)
    replace h := h.f hp18
    refine H_askK (.ptr 0 2 0) ([o1, o2, o3]) (by kernel_rfl) ?_
    refine H_askK (.pd (.sl (p2.map elABLU32LU32Z))) ([o1, o2, o3]) (by kernel_rfl) ?_
    refine H_askK (.ptr 1 1 0) ([o1, o2, o3]) (by kernel_rfl) ?_
    refine H_askK (.pd (.sl (p4.map elABLU32LU32Z))) ([o1, o2, o3]) (by kernel_rfl) ?_
    obtain ⟨x21, x22, x23, hx24, h⟩ := h
    refine H_valW (g := 21) (args := [.pd (.sl (p2.map elABLU32LU32Z)), .pd (.sl (p4.map elABLU32LU32Z))]) (M := [o1, o2, o3]) (.agg [.pd (.bool x21), .pd (.sl (x22.map elU32)), .pd (.sl (x23.map elU32))]) (.inr (by kernel_rfl)) (by kernel_rfl) (vec_Dot_ok m _ _ hx24) (by kernel_rfl) (hasT 21 (by kernel_rfl)) ?_
    refine H_askK (.ptr 0 2 0) ([o1, o2, o3]) (by kernel_rfl) ?_
    refine H_askK (.pd (.sl (p2.map elABLU32LU32Z))) ([o1, o2, o3]) (by kernel_rfl) ?_
    refine H_askK (.ptr 2 1 0) ([o1, o2, o3]) (by kernel_rfl) ?_
    refine H_askK (.pd (.sl (p8.map elABLU32LU32Z))) ([o1, o2, o3]) (by kernel_rfl) ?_
    obtain ⟨x25, x26, x27, hx28, h⟩ := h
    refine H_valW (g := 21) (args := [.pd (.sl (p2.map elABLU32LU32Z)), .pd (.sl (p8.map elABLU32LU32Z))]) (M := [o1, o2, o3]) (.agg [.pd (.bool x25), .pd (.sl (x26.map elU32)), .pd (.sl (x27.map elU32))]) (.inr (by kernel_rfl)) (by kernel_rfl) (vec_Dot_ok m _ _ hx28) (by kernel_rfl) (hasT 21 (by kernel_rfl)) ?_
    obtain ⟨x29, hx30, h⟩ := h
    refine H_valW (g := 20) (args := [.agg [.pd (.bool x21), .pd (.sl (x22.map elU32)), .pd (.sl (x23.map elU32))], .agg [.pd (.bool x25), .pd (.sl (x26.map elU32)), .pd (.sl (x27.map elU32))]]) (M := [o1, o2, o3]) (.pd (.int .i64 x29)) (.inr (by kernel_rfl)) (by kernel_rfl) (rat_Compare_ok m _ _ _ _ _ _ hx30) (by kernel_rfl) (hasT 20 (by kernel_rfl)) ?_
    refine H_split (x29 == (0 : Int)) (by kernel_rfl) (fun hp31 => ?_) (fun hp31 => ?_)
    · replace h := h.t hp31
      obtain ⟨x32, hx33, h⟩ := h
      refine H_valW (g := 14) (args := []) (M := [o1, o2, o3]) (.pd (.bool x32)) (.inr (by kernel_rfl)) (by kernel_rfl) (offcutlaw13_awake_ok m  hx33) (by kernel_rfl) (hasT 14 (by kernel_rfl)) ?_
      cases x32
      · replace h := h.f rfl
        exact H_end .ret (.pd (.bool false)) (by kernel_rfl) rfl (by kernel_rfl) (by subst h; rfl)
      replace h := h.t rfl
      exact H_end .ret (.pd (.bool true)) (by kernel_rfl) rfl (by kernel_rfl) (by subst h; rfl)
    replace h := h.f hp31
    exact H_end .ret (.pd (.bool false)) (by kernel_rfl) rfl (by kernel_rfl) (by subst h; rfl)
  replace h := h.f hp17
  exact H_end .ret (.pd (.bool false)) (by kernel_rfl) rfl (by kernel_rfl) (by subst h; rfl)

theorem vec_Scale_ok (m : Tp) (p0 : List (Bool × (List Int) × (List Int))) (p1 : Bool) (p2 : List Int) (p3 : List Int) {r : (List (Bool × (List Int) × (List Int)))} (h : vec_Scale p0 p1 p2 p3 r) : ASpec Tryz.prog (gtT m) 24 [.pd (.sl (p0.map elABLU32LU32Z)), .agg [.pd (.bool p1), .pd (.sl (p2.map elU32)), .pd (.sl (p3.map elU32))]] (· = .pd (.sl (r.map elABLU32LU32Z))) := by
  refine ASpec_tree Tryz.f24 mixedT (askG [9, 10, 11] true) (by kernel_rfl) ?_
  unfold vec_Scale at h
  let o1 : Ob := .cells [.pd (.bool p1), .pd (.sl (p2.map elU32)), .pd (.sl (p3.map elU32))] 1 0 false
  refine H_askK (.ptr 0 0 0) ([o1]) (by kernel_rfl) ?_
  let o2 : Ob := rowV lvABLU32LU32Z 3 ([] : List (Bool × (List Int) × (List Int))) 0 false
  refine H_ask _ _ (by kernel_rfl) (ask_len (P := Tryz.prog) (M := [o1, o2, o2]) (t := 23) (et := 44) (el := elABLU32LU32Z) (by kernel_rfl) (e := p0)) ?_
  refine H_loopP (F := vec_Scale_L1 p0 p1 p2 p3 r) (s0 := ((0 : Int), ([] : List (Bool × (List Int) × (List Int))))) h (0, (([] : List (Bool × (List Int) × (List Int))).length)) 22 3
    (fun ((s100, s152) : Int × (List (Bool × (List Int) × (List Int)))) ((v102, n102) : Nat × Nat) => [(3, .ptr 0 0 0), (5, .own 2 n102 v102), (8, .pd (.sl (p0.map elABLU32LU32Z))), (9, .pd (.int .i64 (p0.length : Int))), (10, .pd (.int .i64 s100))])
    (fun ((s100, s152) : Int × (List (Bool × (List Int) × (List Int)))) ((v102, n102) : Nat × Nat) => [.cells [.pd (.bool p1), .pd (.sl (p2.map elU32)), .pd (.sl (p3.map elU32))] 1 0 false, rowV lvABLU32LU32Z 3 ([] : List (Bool × (List Int) × (List Int))) 0 false, rowV lvABLU32LU32Z 3 s152 v102 false]) (fun ((s100, s152) : Int × (List (Bool × (List Int) × (List Int)))) ((v102, n102) : Nat × Nat) => n102 = s152.length) rfl [] mixedT (askG [9, 10, 11] true)
    (by kernel_rfl) (by kernel_rfl) (by kernel_rfl) (by kernel_rfl) (by kernel_rfl) (fun _ _ => rfl) ?_
  rintro X1 ⟨s100, s152⟩ ⟨v102, n102⟩ hn102 h
  dsimp only [vec_Scale_L1] at h
  refine H_split (decide (s100 < (p0.length : Int))) (by kernel_rfl) (fun hp1 => ?_) (fun hp1 => ?_)
  · replace h := h.t hp1
    obtain ⟨x2, x3, x4, hx5, h⟩ := h
    let o3 : Ob := rowV lvABLU32LU32Z 3 s152 v102 false
    refine H_ask _ _ (by kernel_rfl) (ask_idx (P := Tryz.prog) (M := [o1, o2, o3]) (t := 23) (et := 44) (k := .i64) (lv := lvABLU32LU32Z) okABLU32LU32Z leABLU32LU32Z (by kernel_rfl) (by kernel_rfl) hx5) ?_
    refine H_askK (.agg [.pd (.bool x2), .pd (.sl (x3.map elU32)), .pd (.sl (x4.map elU32))]) ([o1, o2, o3]) (by kernel_rfl) ?_
    let o4 : Ob := .cells [.pd (.bool x2), .pd (.sl (x3.map elU32)), .pd (.sl (x4.map elU32))] 1 0 false
    refine H_askK (.junk) ([o1, o2, o3, o4]) (by kernel_rfl) ?_
    refine H_askK (.agg [.pd (.bool x2), .pd (.sl (x3.map elU32)), .pd (.sl (x4.map elU32))]) ([o1, o2, o3, o4]) (by kernel_rfl) ?_
    refine H_askK (.agg [.pd (.bool p1), .pd (.sl (p2.map elU32)), .pd (.sl (p3.map elU32))]) ([o1, o2, o3, o4]) (by kernel_rfl) ?_
    obtain ⟨x6, x7, x8, hx9, h⟩ := h
    refine H_valW (g := 50) (args := [.agg [.pd (.bool x2), .pd (.sl (x3.map elU32)), .pd (.sl (x4.map elU32))], .agg [.pd (.bool p1), .pd (.sl (p2.map elU32)), .pd (.sl (p3.map elU32))]]) (M := [o1, o2, o3, o4]) (.agg [.pd (.bool x6), .pd (.sl (x7.map elU32)), .pd (.sl (x8.map elU32))]) (.inl (by kernel_rfl)) (by kernel_rfl) (rat_Mul_ok m _ _ _ _ _ _ hx9) (by kernel_rfl) (hasT 50 (by kernel_rfl)) ?_
    obtain ⟨hx10, h⟩ := h
    refine H_ask _ _ (by kernel_rfl) (ask_appV (P := Tryz.prog) (M := [o1, o2, o3, o4]) (lv := lvABLU32LU32Z) (s := 3) (b := 2) (e := s152) (e2 := [(x6, x7, x8)]) (ver := v102) (sT := 23) (xT := 23) (by_ := 56) okABLU32LU32Z (by kernel_rfl) (src_fixed (M := [o1, o2, o3, o4]) okABLU32LU32Z leABLU32LU32Z) (by kernel_rfl) (n := n102) hn102 hx10) ?_
    exact H_againC (st := _) ((IntKind.i64.wrap (s100 + 1)), (s152 ++ [(x6, x7, x8)])) ((vnext s152 [(x6, x7, x8)] v102), ((s152 ++ [(x6, x7, x8)]).length)) h rfl (by kernel_rfl) (by kernel_rfl) (by kernel_rfl) (by kernel_rfl) (by kernel_rfl) (by kernel_rfl) (all_c (by kernel_rfl) (all_c (bel_rowV _) (all_c (bel_rowV _) all_n))) (by kernel_rfl) (by kernel_rfl)
  replace h := h.f hp1
  refine H_leaveP (.exit 0) (by kernel_rfl) rfl ?_
  let o5 : Ob := rowV lvABLU32LU32Z 3 s152 v102 false
  exact H_endX .ret (.own 2 n102 v102) (.pd (.sl (s152.map elABLU32LU32Z))) ([o1, o2, o5]) (by kernel_rfl) rfl (by kernel_rfl) (by kernel_rfl) (pure_2to3 (pure_1to2 (pure1_own okABLU32LU32Z (by decide) lgABLU32LU32Z (M := [o1, o2, o5]) (b := 2) (o := rowV lvABLU32LU32Z 3 s152 v102 false) (by kernel_rfl) (rowIs_v' (lv := lvABLU32LU32Z) (s := 3) (e := s152) (ver := v102) (z := false)) (n := n102) hn102) rfl) rfl) (by subst h; rfl)

theorem offcutlaw13_ProofScales_ok (m : Tp) (p0 : List (List (Bool × (List Int) × (List Int)))) (p1 : List (Bool × (List Int) × (List Int))) (p2 : List (Bool × (List Int) × (List Int))) (p3 : Int) (p4 : List (Bool × (List Int) × (List Int))) (p5 : List (Bool × (List Int) × (List Int))) (p6 : List (Bool × (List Int) × (List Int))) (p7 : Bool) (p8 : List Int) (p9 : List Int) {r : Bool} (h : offcutlaw13_ProofScales p0 p1 p2 p3 p4 p5 p6 p7 p8 p9 r) : ASpec Tryz.prog (gtT m) 5 [.agg [.pd (.sl (p0.map elLABLU32LU32Z)), .pd (.sl (p1.map elABLU32LU32Z)), .pd (.sl (p2.map elABLU32LU32Z))], .agg [.pd (.int .i64 p3), .pd (.sl (p4.map elABLU32LU32Z)), .pd (.sl (p5.map elABLU32LU32Z)), .pd (.sl (p6.map elABLU32LU32Z))], .agg [.pd (.bool p7), .pd (.sl (p8.map elU32)), .pd (.sl (p9.map elU32))]] (· = .pd (.bool r)) := by
  refine ASpec_tree Tryz.f5 mixedT (askG [9, 10, 11] false) (by kernel_rfl) ?_
  unfold offcutlaw13_ProofScales at h
  let o1 : Ob := .cells [.pd (.sl (p0.map elLABLU32LU32Z)), .pd (.sl (p1.map elABLU32LU32Z)), .pd (.sl (p2.map elABLU32LU32Z))] 1 0 false
  refine H_askK (.ptr 0 0 0) ([o1]) (by kernel_rfl) ?_
  let o2 : Ob := .cells [.pd (.int .i64 p3), .pd (.sl (p4.map elABLU32LU32Z)), .pd (.sl (p5.map elABLU32LU32Z)), .pd (.sl (p6.map elABLU32LU32Z))] 1 0 false
  refine H_askK (.ptr 1 0 0) ([o1, o2]) (by kernel_rfl) ?_
  let o3 : Ob := .cells [.pd (.bool p7), .pd (.sl (p8.map elU32)), .pd (.sl (p9.map elU32))] 1 0 false
  refine H_askK (.ptr 2 0 0) ([o1, o2, o3]) (by kernel_rfl) ?_
  refine H_askK (.agg [.pd (.sl (p0.map elLABLU32LU32Z)), .pd (.sl (p1.map elABLU32LU32Z)), .pd (.sl (p2.map elABLU32LU32Z))]) ([o1, o2, o3]) (by kernel_rfl) ?_
  obtain ⟨x1, hx2, h⟩ := h
  refine H_valW (g := 12) (args := [.agg [.pd (.sl (p0.map elLABLU32LU32Z)), .pd (.sl (p1.map elABLU32LU32Z)), .pd (.sl (p2.map elABLU32LU32Z))]]) (M := [o1, o2, o3]) (.pd (.bool x1)) (.inl (by kernel_rfl)) (by kernel_rfl) (offcutlaw11_Few_ok m _ _ _ hx2) (by kernel_rfl) (hasT 12 (by kernel_rfl)) ?_
  cases x1
  · replace h := h.f rfl
    obtain ⟨x33, hx34, h⟩ := h
    refine H_valW (g := 14) (args := []) (M := [o1, o2, o3]) (.pd (.bool x33)) (.inl (by kernel_rfl)) (by kernel_rfl) (offcutlaw13_awake_ok m  hx34) (by kernel_rfl) (hasT 14 (by kernel_rfl)) ?_
    cases x33
    · replace h := h.f rfl
      exact H_end .ret (.pd (.bool false)) (by kernel_rfl) rfl (by kernel_rfl) (by subst h; rfl)
    replace h := h.t rfl
    exact H_end .ret (.pd (.bool true)) (by kernel_rfl) rfl (by kernel_rfl) (by subst h; rfl)
  replace h := h.t rfl
  refine H_askK (.agg [.pd (.int .i64 p3), .pd (.sl (p4.map elABLU32LU32Z)), .pd (.sl (p5.map elABLU32LU32Z)), .pd (.sl (p6.map elABLU32LU32Z))]) ([o1, o2, o3]) (by kernel_rfl) ?_
  obtain ⟨x3, hx4, h⟩ := h
  refine H_valW (g := 13) (args := [.agg [.pd (.int .i64 p3), .pd (.sl (p4.map elABLU32LU32Z)), .pd (.sl (p5.map elABLU32LU32Z)), .pd (.sl (p6.map elABLU32LU32Z))]]) (M := [o1, o2, o3]) (.pd (.bool x3)) (.inl (by kernel_rfl)) (by kernel_rfl) (offcutlaw13_Few_ok m _ _ _ _ hx4) (by kernel_rfl) (hasT 13 (by kernel_rfl)) ?_
  cases x3
  · replace h := h.f rfl
    obtain ⟨x31, hx32, h⟩ := h
    refine H_valW (g := 14) (args := []) (M := [o1, o2, o3]) (.pd (.bool x31)) (.inl (by kernel_rfl)) (by kernel_rfl) (offcutlaw13_awake_ok m  hx32) (by kernel_rfl) (hasT 14 (by kernel_rfl)) ?_
    cases x31
    · replace h := h.f rfl
      exact H_end .ret (.pd (.bool false)) (by kernel_rfl) rfl (by kernel_rfl) (by subst h; rfl)
    replace h := h.t rfl
    exact H_end .ret (.pd (.bool true)) (by kernel_rfl) rfl (by kernel_rfl) (by subst h; rfl)
  replace h := h.t rfl
  refine H_askK (.agg [.pd (.bool p7), .pd (.sl (p8.map elU32)), .pd (.sl (p9.map elU32))]) ([o1, o2, o3]) (by kernel_rfl) ?_
  obtain ⟨x5, hx6, h⟩ := h
  refine H_valW (g := 22) (args := [.fixed ([(p7, p8, p9)].map elABLU32LU32Z)]) (M := [o1, o2, o3]) (.pd (.bool x5)) (.inl (by kernel_rfl)) (by kernel_rfl) (offcutlaw05_Few_ok m _ hx6) (by kernel_rfl) (hasT 22 (by kernel_rfl)) ?_
  cases x5
  · replace h := h.f rfl
    obtain ⟨x29, hx30, h⟩ := h
    refine H_valW (g := 14) (args := []) (M := [o1, o2, o3]) (.pd (.bool x29)) (.inl (by kernel_rfl)) (by kernel_rfl) (offcutlaw13_awake_ok m  hx30) (by kernel_rfl) (hasT 14 (by kernel_rfl)) ?_
    cases x29
    · replace h := h.f rfl
      exact H_end .ret (.pd (.bool false)) (by kernel_rfl) rfl (by kernel_rfl) (by subst h; rfl)
    replace h := h.t rfl
    exact H_end .ret (.pd (.bool true)) (by kernel_rfl) rfl (by kernel_rfl) (by subst h; rfl)
  replace h := h.t rfl
  refine H_askK (.agg [.pd (.bool p7), .pd (.sl (p8.map elU32)), .pd (.sl (p9.map elU32))]) ([o1, o2, o3]) (by kernel_rfl) ?_
  obtain ⟨x7, hx8, h⟩ := h
  refine H_valW (g := 23) (args := [.agg [.pd (.bool p7), .pd (.sl (p8.map elU32)), .pd (.sl (p9.map elU32))]]) (M := [o1, o2, o3]) (.pd (.int .i64 x7)) (.inl (by kernel_rfl)) (by kernel_rfl) (rat_Sign_ok m _ _ _ hx8) (by kernel_rfl) (hasT 23 (by kernel_rfl)) ?_
  refine H_split (decide (x7 ≤ (0 : Int))) (by kernel_rfl) (fun hp9 => ?_) (fun hp9 => ?_)
  · replace h := h.t hp9
    obtain ⟨x10, hx11, h⟩ := h
    refine H_valW (g := 14) (args := []) (M := [o1, o2, o3]) (.pd (.bool x10)) (.inl (by kernel_rfl)) (by kernel_rfl) (offcutlaw13_awake_ok m  hx11) (by kernel_rfl) (hasT 14 (by kernel_rfl)) ?_
    cases x10
    · replace h := h.f rfl
      exact H_end .ret (.pd (.bool false)) (by kernel_rfl) rfl (by kernel_rfl) (by subst h; rfl)
    replace h := h.t rfl
    exact H_end .ret (.pd (.bool true)) (by kernel_rfl) rfl (by kernel_rfl) (by subst h; rfl)
  replace h := h.f hp9
  refine H_askK (.ptr 1 0 0) ([o1, o2, o3]) (by kernel_rfl) ?_
  refine H_askK (.pd (.int .i64 p3)) ([o1, o2, o3]) (by kernel_rfl) ?_
  refine H_split (p3 == (1 : Int)) (by kernel_rfl) (fun hp12 => ?_) (fun hp12 => ?_)
  · replace h := h.t hp12
    obtain ⟨x13, hx14, h⟩ := h
    refine H_valW (g := 14) (args := []) (M := [o1, o2, o3]) (.pd (.bool x13)) (.inl (by kernel_rfl)) (by kernel_rfl) (offcutlaw13_awake_ok m  hx14) (by kernel_rfl) (hasT 14 (by kernel_rfl)) ?_
    cases x13
    · replace h := h.f rfl
      exact H_end .ret (.pd (.bool false)) (by kernel_rfl) rfl (by kernel_rfl) (by subst h; rfl)
    replace h := h.t rfl
    exact H_end .ret (.pd (.bool true)) (by kernel_rfl) rfl (by kernel_rfl) (by subst h; rfl)
  replace h := h.f hp12
  refine H_askK (.agg [.pd (.sl (p0.map elLABLU32LU32Z)), .pd (.sl (p1.map elABLU32LU32Z)), .pd (.sl (p2.map elABLU32LU32Z))]) ([o1, o2, o3]) (by kernel_rfl) ?_
  refine H_askK (.agg [.pd (.int .i64 p3), .pd (.sl (p4.map elABLU32LU32Z)), .pd (.sl (p5.map elABLU32LU32Z)), .pd (.sl (p6.map elABLU32LU32Z))]) ([o1, o2, o3]) (by kernel_rfl) ?_
  obtain ⟨x15, hx16, h⟩ := h
  refine H_valW (g := 15) (args := [.agg [.pd (.sl (p0.map elLABLU32LU32Z)), .pd (.sl (p1.map elABLU32LU32Z)), .pd (.sl (p2.map elABLU32LU32Z))], .agg [.pd (.int .i64 p3), .pd (.sl (p4.map elABLU32LU32Z)), .pd (.sl (p5.map elABLU32LU32Z)), .pd (.sl (p6.map elABLU32LU32Z))]]) (M := [o1, o2, o3]) (.pd (.int .i64 x15)) (.inl (by kernel_rfl)) (by kernel_rfl) (proof_Check_ok m _ _ _ _ _ _ _ hx16) (by kernel_rfl) (hasT 15 (by kernel_rfl)) ?_
  refine H_split (x15 != (0 : Int)) (by kernel_rfl) (fun hp17 => ?_) (fun hp17 => ?_)
  · replace h := h.t hp17
    obtain ⟨x18, hx19, h⟩ := h
    refine H_valW (g := 14) (args := []) (M := [o1, o2, o3]) (.pd (.bool x18)) (.inl (by kernel_rfl)) (by kernel_rfl) (offcutlaw13_awake_ok m  hx19) (by kernel_rfl) (hasT 14 (by kernel_rfl)) ?_
    cases x18
    · replace h := h.f rfl
      exact H_end .ret (.pd (.bool false)) (by kernel_rfl) rfl (by kernel_rfl) (by subst h; rfl)
    replace h := h.t rfl
    exact H_end .ret (.pd (.bool true)) (by kernel_rfl) rfl (by kernel_rfl) (by subst h; rfl)
  replace h := h.f hp17
  refine H_drawM [0, 1, 2, 3, 4, 5, 6, 7, 8, 9, 10, 11, 12] [(0, (fun M => ∃ (RR : Mem), M = ([.cells [.pd (.sl (p0.map elLABLU32LU32Z)), .pd (.sl (p1.map elABLU32LU32Z)), .pd (.sl (p2.map elABLU32LU32Z))] 1 0 false, .cells [.pd (.int .i64 p3), .pd (.sl (p4.map elABLU32LU32Z)), .pd (.sl (p5.map elABLU32LU32Z)), .pd (.sl (p6.map elABLU32LU32Z))] 1 0 false, .cells [.pd (.bool p7), .pd (.sl (p8.map elU32)), .pd (.sl (p9.map elU32))] 1 0 false] : Mem) ++ RR)), (1, (fun M => ∃ (RR : Mem), M = ([.cells [.pd (.sl (p0.map elLABLU32LU32Z)), .pd (.sl (p1.map elABLU32LU32Z)), .pd (.sl (p2.map elABLU32LU32Z))] 1 0 false, .cells [.pd (.int .i64 p3), .pd (.sl (p4.map elABLU32LU32Z)), .pd (.sl (p5.map elABLU32LU32Z)), .pd (.sl (p6.map elABLU32LU32Z))] 1 0 false, .cells [.pd (.bool p7), .pd (.sl (p8.map elU32)), .pd (.sl (p9.map elU32))] 1 0 false] : Mem) ++ RR)), (2, (fun M => ∃ (RR : Mem), M = ([.cells [.pd (.sl (p0.map elLABLU32LU32Z)), .pd (.sl (p1.map elABLU32LU32Z)), .pd (.sl (p2.map elABLU32LU32Z))] 1 0 false, .cells [.pd (.int .i64 p3), .pd (.sl (p4.map elABLU32LU32Z)), .pd (.sl (p5.map elABLU32LU32Z)), .pd (.sl (p6.map elABLU32LU32Z))] 1 0 false, .cells [.pd (.bool p7), .pd (.sl (p8.map elU32)), .pd (.sl (p9.map elU32))] 1 0 false] : Mem) ++ RR)), (3, (fun M => ∃ (RR : Mem), M = ([.cells [.pd (.sl (p0.map elLABLU32LU32Z)), .pd (.sl (p1.map elABLU32LU32Z)), .pd (.sl (p2.map elABLU32LU32Z))] 1 0 false, .cells [.pd (.int .i64 p3), .pd (.sl (p4.map elABLU32LU32Z)), .pd (.sl (p5.map elABLU32LU32Z)), .pd (.sl (p6.map elABLU32LU32Z))] 1 0 false, .cells [.pd (.bool p7), .pd (.sl (p8.map elU32)), .pd (.sl (p9.map elU32))] 1 0 false] : Mem) ++ RR)), (4, (fun M => ∃ (RR : Mem), M = ([.cells [.pd (.sl (p0.map elLABLU32LU32Z)), .pd (.sl (p1.map elABLU32LU32Z)), .pd (.sl (p2.map elABLU32LU32Z))] 1 0 false, .cells [.pd (.int .i64 p3), .pd (.sl (p4.map elABLU32LU32Z)), .pd (.sl (p5.map elABLU32LU32Z)), .pd (.sl (p6.map elABLU32LU32Z))] 1 0 false, .cells [.pd (.bool p7), .pd (.sl (p8.map elU32)), .pd (.sl (p9.map elU32))] 1 0 false] : Mem) ++ RR)), (5, (fun M => ∃ (RR : Mem), M = ([.cells [.pd (.sl (p0.map elLABLU32LU32Z)), .pd (.sl (p1.map elABLU32LU32Z)), .pd (.sl (p2.map elABLU32LU32Z))] 1 0 false, .cells [.pd (.int .i64 p3), .pd (.sl (p4.map elABLU32LU32Z)), .pd (.sl (p5.map elABLU32LU32Z)), .pd (.sl (p6.map elABLU32LU32Z))] 1 0 false, .cells [.pd (.bool p7), .pd (.sl (p8.map elU32)), .pd (.sl (p9.map elU32))] 1 0 false] : Mem) ++ RR)), (6, (fun M => ∃ (RR : Mem), M = ([.cells [.pd (.sl (p0.map elLABLU32LU32Z)), .pd (.sl (p1.map elABLU32LU32Z)), .pd (.sl (p2.map elABLU32LU32Z))] 1 0 false, .cells [.pd (.int .i64 p3), .pd (.sl (p4.map elABLU32LU32Z)), .pd (.sl (p5.map elABLU32LU32Z)), .pd (.sl (p6.map elABLU32LU32Z))] 1 0 false, .cells [.pd (.bool p7), .pd (.sl (p8.map elU32)), .pd (.sl (p9.map elU32))] 1 0 false] : Mem) ++ RR)), (8, (fun M => ∃ (RR : Mem), M = ([.cells [.pd (.sl (p0.map elLABLU32LU32Z)), .pd (.sl (p1.map elABLU32LU32Z)), .pd (.sl (p2.map elABLU32LU32Z))] 1 0 false, .cells [.pd (.int .i64 p3), .pd (.sl (p4.map elABLU32LU32Z)), .pd (.sl (p5.map elABLU32LU32Z)), .pd (.sl (p6.map elABLU32LU32Z))] 1 0 false, .cells [.pd (.bool p7), .pd (.sl (p8.map elU32)), .pd (.sl (p9.map elU32))] 1 0 false] : Mem) ++ RR)), (9, (fun M => ∃ (RR : Mem), M = ([.cells [.pd (.sl (p0.map elLABLU32LU32Z)), .pd (.sl (p1.map elABLU32LU32Z)), .pd (.sl (p2.map elABLU32LU32Z))] 1 0 false, .cells [.pd (.int .i64 p3), .pd (.sl (p4.map elABLU32LU32Z)), .pd (.sl (p5.map elABLU32LU32Z)), .pd (.sl (p6.map elABLU32LU32Z))] 1 0 false, .cells [.pd (.bool p7), .pd (.sl (p8.map elU32)), .pd (.sl (p9.map elU32))] 1 0 false] : Mem) ++ RR)), (10, (fun M => ∃ (RR : Mem), M = ([.cells [.pd (.sl (p0.map elLABLU32LU32Z)), .pd (.sl (p1.map elABLU32LU32Z)), .pd (.sl (p2.map elABLU32LU32Z))] 1 0 false, .cells [.pd (.int .i64 p3), .pd (.sl (p4.map elABLU32LU32Z)), .pd (.sl (p5.map elABLU32LU32Z)), .pd (.sl (p6.map elABLU32LU32Z))] 1 0 false, .cells [.pd (.bool p7), .pd (.sl (p8.map elU32)), .pd (.sl (p9.map elU32))] 1 0 false] : Mem) ++ RR))] ([o1, o2, o3]) (by kernel_rfl) (by kernel_rfl) ⟨⟨[], rfl⟩, ⟨[], rfl⟩, ⟨[], rfl⟩, ⟨[], rfl⟩, ⟨[], rfl⟩, ⟨[], rfl⟩, ⟨[], rfl⟩, ⟨[], rfl⟩, ⟨[], rfl⟩, ⟨[], rfl⟩, trivial⟩ ?_
  refine H_askM (fun M => ∃ (RR : Mem), M = ([.cells [.pd (.sl (p0.map elLABLU32LU32Z)), .pd (.sl (p1.map elABLU32LU32Z)), .pd (.sl (p2.map elABLU32LU32Z))] 1 0 false, .cells [.pd (.int .i64 p3), .pd (.sl (p4.map elABLU32LU32Z)), .pd (.sl (p5.map elABLU32LU32Z)), .pd (.sl (p6.map elABLU32LU32Z))] 1 0 false, .cells [.pd (.bool p7), .pd (.sl (p8.map elU32)), .pd (.sl (p9.map elU32))] 1 0 false] : Mem) ++ RR) (.ptr 1 0 0) (by kernel_rfl) (by kernel_rfl) (by rintro _ ⟨_, rfl⟩; kernel_rfl) ?_
  refine H_askM (fun M => ∃ (RR : Mem), M = ([.cells [.pd (.sl (p0.map elLABLU32LU32Z)), .pd (.sl (p1.map elABLU32LU32Z)), .pd (.sl (p2.map elABLU32LU32Z))] 1 0 false, .cells [.pd (.int .i64 p3), .pd (.sl (p4.map elABLU32LU32Z)), .pd (.sl (p5.map elABLU32LU32Z)), .pd (.sl (p6.map elABLU32LU32Z))] 1 0 false, .cells [.pd (.bool p7), .pd (.sl (p8.map elU32)), .pd (.sl (p9.map elU32))] 1 0 false] : Mem) ++ RR) (.pd (.int .i64 p3)) (by kernel_rfl) (by kernel_rfl) (by rintro _ ⟨_, rfl⟩; kernel_rfl) ?_
  refine H_askM (fun M => ∃ (RR : Mem), M = ([.cells [.pd (.sl (p0.map elLABLU32LU32Z)), .pd (.sl (p1.map elABLU32LU32Z)), .pd (.sl (p2.map elABLU32LU32Z))] 1 0 false, .cells [.pd (.int .i64 p3), .pd (.sl (p4.map elABLU32LU32Z)), .pd (.sl (p5.map elABLU32LU32Z)), .pd (.sl (p6.map elABLU32LU32Z))] 1 0 false, .cells [.pd (.bool p7), .pd (.sl (p8.map elU32)), .pd (.sl (p9.map elU32))] 1 0 false] : Mem) ++ RR) (.ptr 1 1 0) (by kernel_rfl) (by kernel_rfl) (by rintro _ ⟨_, rfl⟩; kernel_rfl) ?_
  refine H_askM (fun M => ∃ (RR : Mem), M = ([.cells [.pd (.sl (p0.map elLABLU32LU32Z)), .pd (.sl (p1.map elABLU32LU32Z)), .pd (.sl (p2.map elABLU32LU32Z))] 1 0 false, .cells [.pd (.int .i64 p3), .pd (.sl (p4.map elABLU32LU32Z)), .pd (.sl (p5.map elABLU32LU32Z)), .pd (.sl (p6.map elABLU32LU32Z))] 1 0 false, .cells [.pd (.bool p7), .pd (.sl (p8.map elU32)), .pd (.sl (p9.map elU32))] 1 0 false] : Mem) ++ RR) (.pd (.sl (p4.map elABLU32LU32Z))) (by kernel_rfl) (by kernel_rfl) (by rintro _ ⟨_, rfl⟩; kernel_rfl) ?_
  refine H_askM (fun M => ∃ (RR : Mem), M = ([.cells [.pd (.sl (p0.map elLABLU32LU32Z)), .pd (.sl (p1.map elABLU32LU32Z)), .pd (.sl (p2.map elABLU32LU32Z))] 1 0 false, .cells [.pd (.int .i64 p3), .pd (.sl (p4.map elABLU32LU32Z)), .pd (.sl (p5.map elABLU32LU32Z)), .pd (.sl (p6.map elABLU32LU32Z))] 1 0 false, .cells [.pd (.bool p7), .pd (.sl (p8.map elU32)), .pd (.sl (p9.map elU32))] 1 0 false] : Mem) ++ RR) (.ptr 1 2 0) (by kernel_rfl) (by kernel_rfl) (by rintro _ ⟨_, rfl⟩; kernel_rfl) ?_
  refine H_askM (fun M => ∃ (RR : Mem), M = ([.cells [.pd (.sl (p0.map elLABLU32LU32Z)), .pd (.sl (p1.map elABLU32LU32Z)), .pd (.sl (p2.map elABLU32LU32Z))] 1 0 false, .cells [.pd (.int .i64 p3), .pd (.sl (p4.map elABLU32LU32Z)), .pd (.sl (p5.map elABLU32LU32Z)), .pd (.sl (p6.map elABLU32LU32Z))] 1 0 false, .cells [.pd (.bool p7), .pd (.sl (p8.map elU32)), .pd (.sl (p9.map elU32))] 1 0 false] : Mem) ++ RR) (.pd (.sl (p5.map elABLU32LU32Z))) (by kernel_rfl) (by kernel_rfl) (by rintro _ ⟨_, rfl⟩; kernel_rfl) ?_
  refine H_askM (fun M => ∃ (RR : Mem), M = ([.cells [.pd (.sl (p0.map elLABLU32LU32Z)), .pd (.sl (p1.map elABLU32LU32Z)), .pd (.sl (p2.map elABLU32LU32Z))] 1 0 false, .cells [.pd (.int .i64 p3), .pd (.sl (p4.map elABLU32LU32Z)), .pd (.sl (p5.map elABLU32LU32Z)), .pd (.sl (p6.map elABLU32LU32Z))] 1 0 false, .cells [.pd (.bool p7), .pd (.sl (p8.map elU32)), .pd (.sl (p9.map elU32))] 1 0 false] : Mem) ++ RR) (.agg [.pd (.bool p7), .pd (.sl (p8.map elU32)), .pd (.sl (p9.map elU32))]) (by kernel_rfl) (by kernel_rfl) (by rintro _ ⟨_, rfl⟩; kernel_rfl) ?_
  obtain ⟨x20, hx21, h⟩ := h
  refine H_valWF (g := 24) (args := [.pd (.sl (p5.map elABLU32LU32Z)), .agg [.pd (.bool p7), .pd (.sl (p8.map elU32)), .pd (.sl (p9.map elU32))]]) (.pd (.sl (x20.map elABLU32LU32Z))) (by kernel_rfl) (by kernel_rfl) (vec_Scale_ok m _ _ _ _ hx21) (by kernel_rfl) (hasT 24 (by kernel_rfl)) ?_
  refine H_askM (fun M => ∃ (RR : Mem), M = ([.cells [.pd (.sl (p0.map elLABLU32LU32Z)), .pd (.sl (p1.map elABLU32LU32Z)), .pd (.sl (p2.map elABLU32LU32Z))] 1 0 false, .cells [.pd (.int .i64 p3), .pd (.sl (p4.map elABLU32LU32Z)), .pd (.sl (p5.map elABLU32LU32Z)), .pd (.sl (p6.map elABLU32LU32Z))] 1 0 false, .cells [.pd (.bool p7), .pd (.sl (p8.map elU32)), .pd (.sl (p9.map elU32))] 1 0 false] : Mem) ++ RR) (.ptr 1 3 0) (by kernel_rfl) (by kernel_rfl) (by rintro _ ⟨_, rfl⟩; kernel_rfl) ?_
  refine H_askM (fun M => ∃ (RR : Mem), M = ([.cells [.pd (.sl (p0.map elLABLU32LU32Z)), .pd (.sl (p1.map elABLU32LU32Z)), .pd (.sl (p2.map elABLU32LU32Z))] 1 0 false, .cells [.pd (.int .i64 p3), .pd (.sl (p4.map elABLU32LU32Z)), .pd (.sl (p5.map elABLU32LU32Z)), .pd (.sl (p6.map elABLU32LU32Z))] 1 0 false, .cells [.pd (.bool p7), .pd (.sl (p8.map elU32)), .pd (.sl (p9.map elU32))] 1 0 false] : Mem) ++ RR) (.pd (.sl (p6.map elABLU32LU32Z))) (by kernel_rfl) (by kernel_rfl) (by rintro _ ⟨_, rfl⟩; kernel_rfl) ?_
  refine H_askM (fun M => ∃ (RR : Mem), M = ([.cells [.pd (.sl (p0.map elLABLU32LU32Z)), .pd (.sl (p1.map elABLU32LU32Z)), .pd (.sl (p2.map elABLU32LU32Z))] 1 0 false, .cells [.pd (.int .i64 p3), .pd (.sl (p4.map elABLU32LU32Z)), .pd (.sl (p5.map elABLU32LU32Z)), .pd (.sl (p6.map elABLU32LU32Z))] 1 0 false, .cells [.pd (.bool p7), .pd (.sl (p8.map elU32)), .pd (.sl (p9.map elU32))] 1 0 false] : Mem) ++ RR) (.agg [.pd (.bool p7), .pd (.sl (p8.map elU32)), .pd (.sl (p9.map elU32))]) (by kernel_rfl) (by kernel_rfl) (by rintro _ ⟨_, rfl⟩; kernel_rfl) ?_
  obtain ⟨x22, hx23, h⟩ := h
  refine H_valWF (g := 24) (args := [.pd (.sl (p6.map elABLU32LU32Z)), .agg [.pd (.bool p7), .pd (.sl (p8.map elU32)), .pd (.sl (p9.map elU32))]]) (.pd (.sl (x22.map elABLU32LU32Z))) (by kernel_rfl) (by kernel_rfl) (vec_Scale_ok m _ _ _ _ hx23) (by kernel_rfl) (hasT 24 (by kernel_rfl)) ?_
  refine H_askall (.agg [.pd (.int .i64 p3), .pd (.sl (p4.map elABLU32LU32Z)), .pd (.sl (x20.map elABLU32LU32Z)), .pd (.sl (x22.map elABLU32LU32Z))]) (f := fun M' => some (.agg [.pd (.int .i64 p3), .pd (.sl (p4.map elABLU32LU32Z)), .pd (.sl (x20.map elABLU32LU32Z)), .pd (.sl (x22.map elABLU32LU32Z))], M')) (by kernel_rfl) (fun _ => rfl) ?_
  refine H_chk (p := (fun M => ∃ (RR : Mem), M = ([.cells [.pd (.sl (p0.map elLABLU32LU32Z)), .pd (.sl (p1.map elABLU32LU32Z)), .pd (.sl (p2.map elABLU32LU32Z))] 1 0 false, .cells [.pd (.int .i64 p3), .pd (.sl (p4.map elABLU32LU32Z)), .pd (.sl (p5.map elABLU32LU32Z)), .pd (.sl (p6.map elABLU32LU32Z))] 1 0 false, .cells [.pd (.bool p7), .pd (.sl (p8.map elU32)), .pd (.sl (p9.map elU32))] 1 0 false] : Mem) ++ RR) [.cells [.pd (.sl (p0.map elLABLU32LU32Z)), .pd (.sl (p1.map elABLU32LU32Z)), .pd (.sl (p2.map elABLU32LU32Z))] 1 0 false, .cells [.pd (.int .i64 p3), .pd (.sl (p4.map elABLU32LU32Z)), .pd (.sl (p5.map elABLU32LU32Z)), .pd (.sl (p6.map elABLU32LU32Z))] 1 0 false, .cells [.pd (.bool p7), .pd (.sl (p8.map elU32)), .pd (.sl (p9.map elU32))] 1 0 false, .cells [.pd (.int .i64 0), .fixed (([] : List (Bool × (List Int) × (List Int))).map elABLU32LU32Z), .fixed (([] : List (Bool × (List Int) × (List Int))).map elABLU32LU32Z), .fixed (([] : List (Bool × (List Int) × (List Int))).map elABLU32LU32Z)] 1 0 false] ∧ (fun M => ∃ (RR : Mem), M = ([.cells [.pd (.sl (p0.map elLABLU32LU32Z)), .pd (.sl (p1.map elABLU32LU32Z)), .pd (.sl (p2.map elABLU32LU32Z))] 1 0 false, .cells [.pd (.int .i64 p3), .pd (.sl (p4.map elABLU32LU32Z)), .pd (.sl (p5.map elABLU32LU32Z)), .pd (.sl (p6.map elABLU32LU32Z))] 1 0 false, .cells [.pd (.bool p7), .pd (.sl (p8.map elU32)), .pd (.sl (p9.map elU32))] 1 0 false] : Mem) ++ RR) [.cells [.pd (.sl (p0.map elLABLU32LU32Z)), .pd (.sl (p1.map elABLU32LU32Z)), .pd (.sl (p2.map elABLU32LU32Z))] 1 0 false, .cells [.pd (.int .i64 p3), .pd (.sl (p4.map elABLU32LU32Z)), .pd (.sl (p5.map elABLU32LU32Z)), .pd (.sl (p6.map elABLU32LU32Z))] 1 0 false, .cells [.pd (.bool p7), .pd (.sl (p8.map elU32)), .pd (.sl (p9.map elU32))] 1 0 false, .cells [.pd (.int .i64 0), .fixed (([] : List (Bool × (List Int) × (List Int))).map elABLU32LU32Z), .fixed (([] : List (Bool × (List Int) × (List Int))).map elABLU32LU32Z), .fixed (([] : List (Bool × (List Int) × (List Int))).map elABLU32LU32Z)] 1 0 false] ∧ (fun M => ∃ (RR : Mem), M = ([.cells [.pd (.sl (p0.map elLABLU32LU32Z)), .pd (.sl (p1.map elABLU32LU32Z)), .pd (.sl (p2.map elABLU32LU32Z))] 1 0 false, .cells [.pd (.int .i64 p3), .pd (.sl (p4.map elABLU32LU32Z)), .pd (.sl (p5.map elABLU32LU32Z)), .pd (.sl (p6.map elABLU32LU32Z))] 1 0 false, .cells [.pd (.bool p7), .pd (.sl (p8.map elU32)), .pd (.sl (p9.map elU32))] 1 0 false] : Mem) ++ RR) [.cells [.pd (.sl (p0.map elLABLU32LU32Z)), .pd (.sl (p1.map elABLU32LU32Z)), .pd (.sl (p2.map elABLU32LU32Z))] 1 0 false, .cells [.pd (.int .i64 p3), .pd (.sl (p4.map elABLU32LU32Z)), .pd (.sl (p5.map elABLU32LU32Z)), .pd (.sl (p6.map elABLU32LU32Z))] 1 0 false, .cells [.pd (.bool p7), .pd (.sl (p8.map elU32)), .pd (.sl (p9.map elU32))] 1 0 false, .cells [.pd (.int .i64 0), .fixed (([] : List (Bool × (List Int) × (List Int))).map elABLU32LU32Z), .fixed (([] : List (Bool × (List Int) × (List Int))).map elABLU32LU32Z), .fixed (([] : List (Bool × (List Int) × (List Int))).map elABLU32LU32Z)] 1 0 false] ∧ (fun M => ∃ (RR : Mem), M = ([.cells [.pd (.sl (p0.map elLABLU32LU32Z)), .pd (.sl (p1.map elABLU32LU32Z)), .pd (.sl (p2.map elABLU32LU32Z))] 1 0 false, .cells [.pd (.int .i64 p3), .pd (.sl (p4.map elABLU32LU32Z)), .pd (.sl (p5.map elABLU32LU32Z)), .pd (.sl (p6.map elABLU32LU32Z))] 1 0 false, .cells [.pd (.bool p7), .pd (.sl (p8.map elU32)), .pd (.sl (p9.map elU32))] 1 0 false] : Mem) ++ RR) [.cells [.pd (.sl (p0.map elLABLU32LU32Z)), .pd (.sl (p1.map elABLU32LU32Z)), .pd (.sl (p2.map elABLU32LU32Z))] 1 0 false, .cells [.pd (.int .i64 p3), .pd (.sl (p4.map elABLU32LU32Z)), .pd (.sl (p5.map elABLU32LU32Z)), .pd (.sl (p6.map elABLU32LU32Z))] 1 0 false, .cells [.pd (.bool p7), .pd (.sl (p8.map elU32)), .pd (.sl (p9.map elU32))] 1 0 false, .cells [.pd (.int .i64 0), .fixed (([] : List (Bool × (List Int) × (List Int))).map elABLU32LU32Z), .fixed (([] : List (Bool × (List Int) × (List Int))).map elABLU32LU32Z), .fixed (([] : List (Bool × (List Int) × (List Int))).map elABLU32LU32Z)] 1 0 false] ∧ (fun M => ∃ (RR : Mem), M = ([.cells [.pd (.sl (p0.map elLABLU32LU32Z)), .pd (.sl (p1.map elABLU32LU32Z)), .pd (.sl (p2.map elABLU32LU32Z))] 1 0 false, .cells [.pd (.int .i64 p3), .pd (.sl (p4.map elABLU32LU32Z)), .pd (.sl (p5.map elABLU32LU32Z)), .pd (.sl (p6.map elABLU32LU32Z))] 1 0 false, .cells [.pd (.bool p7), .pd (.sl (p8.map elU32)), .pd (.sl (p9.map elU32))] 1 0 false] : Mem) ++ RR) [.cells [.pd (.sl (p0.map elLABLU32LU32Z)), .pd (.sl (p1.map elABLU32LU32Z)), .pd (.sl (p2.map elABLU32LU32Z))] 1 0 false, .cells [.pd (.int .i64 p3), .pd (.sl (p4.map elABLU32LU32Z)), .pd (.sl (p5.map elABLU32LU32Z)), .pd (.sl (p6.map elABLU32LU32Z))] 1 0 false, .cells [.pd (.bool p7), .pd (.sl (p8.map elU32)), .pd (.sl (p9.map elU32))] 1 0 false, .cells [.pd (.int .i64 0), .fixed (([] : List (Bool × (List Int) × (List Int))).map elABLU32LU32Z), .fixed (([] : List (Bool × (List Int) × (List Int))).map elABLU32LU32Z), .fixed (([] : List (Bool × (List Int) × (List Int))).map elABLU32LU32Z)] 1 0 false] ∧ (fun M => ∃ (RR : Mem), M = ([.cells [.pd (.sl (p0.map elLABLU32LU32Z)), .pd (.sl (p1.map elABLU32LU32Z)), .pd (.sl (p2.map elABLU32LU32Z))] 1 0 false, .cells [.pd (.int .i64 p3), .pd (.sl (p4.map elABLU32LU32Z)), .pd (.sl (p5.map elABLU32LU32Z)), .pd (.sl (p6.map elABLU32LU32Z))] 1 0 false, .cells [.pd (.bool p7), .pd (.sl (p8.map elU32)), .pd (.sl (p9.map elU32))] 1 0 false] : Mem) ++ RR) [.cells [.pd (.sl (p0.map elLABLU32LU32Z)), .pd (.sl (p1.map elABLU32LU32Z)), .pd (.sl (p2.map elABLU32LU32Z))] 1 0 false, .cells [.pd (.int .i64 p3), .pd (.sl (p4.map elABLU32LU32Z)), .pd (.sl (p5.map elABLU32LU32Z)), .pd (.sl (p6.map elABLU32LU32Z))] 1 0 false, .cells [.pd (.bool p7), .pd (.sl (p8.map elU32)), .pd (.sl (p9.map elU32))] 1 0 false, .cells [.pd (.int .i64 0), .fixed (([] : List (Bool × (List Int) × (List Int))).map elABLU32LU32Z), .fixed (([] : List (Bool × (List Int) × (List Int))).map elABLU32LU32Z), .fixed (([] : List (Bool × (List Int) × (List Int))).map elABLU32LU32Z)] 1 0 false] ∧ (fun M => ∃ (RR : Mem), M = ([.cells [.pd (.sl (p0.map elLABLU32LU32Z)), .pd (.sl (p1.map elABLU32LU32Z)), .pd (.sl (p2.map elABLU32LU32Z))] 1 0 false, .cells [.pd (.int .i64 p3), .pd (.sl (p4.map elABLU32LU32Z)), .pd (.sl (p5.map elABLU32LU32Z)), .pd (.sl (p6.map elABLU32LU32Z))] 1 0 false, .cells [.pd (.bool p7), .pd (.sl (p8.map elU32)), .pd (.sl (p9.map elU32))] 1 0 false] : Mem) ++ RR) [.cells [.pd (.sl (p0.map elLABLU32LU32Z)), .pd (.sl (p1.map elABLU32LU32Z)), .pd (.sl (p2.map elABLU32LU32Z))] 1 0 false, .cells [.pd (.int .i64 p3), .pd (.sl (p4.map elABLU32LU32Z)), .pd (.sl (p5.map elABLU32LU32Z)), .pd (.sl (p6.map elABLU32LU32Z))] 1 0 false, .cells [.pd (.bool p7), .pd (.sl (p8.map elU32)), .pd (.sl (p9.map elU32))] 1 0 false, .cells [.pd (.int .i64 0), .fixed (([] : List (Bool × (List Int) × (List Int))).map elABLU32LU32Z), .fixed (([] : List (Bool × (List Int) × (List Int))).map elABLU32LU32Z), .fixed (([] : List (Bool × (List Int) × (List Int))).map elABLU32LU32Z)] 1 0 false] ∧ (fun M => ∃ (RR : Mem), M = ([.cells [.pd (.sl (p0.map elLABLU32LU32Z)), .pd (.sl (p1.map elABLU32LU32Z)), .pd (.sl (p2.map elABLU32LU32Z))] 1 0 false, .cells [.pd (.int .i64 p3), .pd (.sl (p4.map elABLU32LU32Z)), .pd (.sl (p5.map elABLU32LU32Z)), .pd (.sl (p6.map elABLU32LU32Z))] 1 0 false, .cells [.pd (.bool p7), .pd (.sl (p8.map elU32)), .pd (.sl (p9.map elU32))] 1 0 false] : Mem) ++ RR) [.cells [.pd (.sl (p0.map elLABLU32LU32Z)), .pd (.sl (p1.map elABLU32LU32Z)), .pd (.sl (p2.map elABLU32LU32Z))] 1 0 false, .cells [.pd (.int .i64 p3), .pd (.sl (p4.map elABLU32LU32Z)), .pd (.sl (p5.map elABLU32LU32Z)), .pd (.sl (p6.map elABLU32LU32Z))] 1 0 false, .cells [.pd (.bool p7), .pd (.sl (p8.map elU32)), .pd (.sl (p9.map elU32))] 1 0 false, .cells [.pd (.int .i64 0), .fixed (([] : List (Bool × (List Int) × (List Int))).map elABLU32LU32Z), .fixed (([] : List (Bool × (List Int) × (List Int))).map elABLU32LU32Z), .fixed (([] : List (Bool × (List Int) × (List Int))).map elABLU32LU32Z)] 1 0 false] ∧ (fun M => ∃ (RR : Mem), M = ([.cells [.pd (.sl (p0.map elLABLU32LU32Z)), .pd (.sl (p1.map elABLU32LU32Z)), .pd (.sl (p2.map elABLU32LU32Z))] 1 0 false, .cells [.pd (.int .i64 p3), .pd (.sl (p4.map elABLU32LU32Z)), .pd (.sl (p5.map elABLU32LU32Z)), .pd (.sl (p6.map elABLU32LU32Z))] 1 0 false, .cells [.pd (.bool p7), .pd (.sl (p8.map elU32)), .pd (.sl (p9.map elU32))] 1 0 false] : Mem) ++ RR) [.cells [.pd (.sl (p0.map elLABLU32LU32Z)), .pd (.sl (p1.map elABLU32LU32Z)), .pd (.sl (p2.map elABLU32LU32Z))] 1 0 false, .cells [.pd (.int .i64 p3), .pd (.sl (p4.map elABLU32LU32Z)), .pd (.sl (p5.map elABLU32LU32Z)), .pd (.sl (p6.map elABLU32LU32Z))] 1 0 false, .cells [.pd (.bool p7), .pd (.sl (p8.map elU32)), .pd (.sl (p9.map elU32))] 1 0 false, .cells [.pd (.int .i64 0), .fixed (([] : List (Bool × (List Int) × (List Int))).map elABLU32LU32Z), .fixed (([] : List (Bool × (List Int) × (List Int))).map elABLU32LU32Z), .fixed (([] : List (Bool × (List Int) × (List Int))).map elABLU32LU32Z)] 1 0 false] ∧ (fun M => ∃ (RR : Mem), M = ([.cells [.pd (.sl (p0.map elLABLU32LU32Z)), .pd (.sl (p1.map elABLU32LU32Z)), .pd (.sl (p2.map elABLU32LU32Z))] 1 0 false, .cells [.pd (.int .i64 p3), .pd (.sl (p4.map elABLU32LU32Z)), .pd (.sl (p5.map elABLU32LU32Z)), .pd (.sl (p6.map elABLU32LU32Z))] 1 0 false, .cells [.pd (.bool p7), .pd (.sl (p8.map elU32)), .pd (.sl (p9.map elU32))] 1 0 false] : Mem) ++ RR) [.cells [.pd (.sl (p0.map elLABLU32LU32Z)), .pd (.sl (p1.map elABLU32LU32Z)), .pd (.sl (p2.map elABLU32LU32Z))] 1 0 false, .cells [.pd (.int .i64 p3), .pd (.sl (p4.map elABLU32LU32Z)), .pd (.sl (p5.map elABLU32LU32Z)), .pd (.sl (p6.map elABLU32LU32Z))] 1 0 false, .cells [.pd (.bool p7), .pd (.sl (p8.map elU32)), .pd (.sl (p9.map elU32))] 1 0 false, .cells [.pd (.int .i64 0), .fixed (([] : List (Bool × (List Int) × (List Int))).map elABLU32LU32Z), .fixed (([] : List (Bool × (List Int) × (List Int))).map elABLU32LU32Z), .fixed (([] : List (Bool × (List Int) × (List Int))).map elABLU32LU32Z)] 1 0 false] ∧ True) (by kernel_rfl) (by kernel_rfl) ⟨⟨[.cells [.pd (.int .i64 0), .fixed (([] : List (Bool × (List Int) × (List Int))).map elABLU32LU32Z), .fixed (([] : List (Bool × (List Int) × (List Int))).map elABLU32LU32Z), .fixed (([] : List (Bool × (List Int) × (List Int))).map elABLU32LU32Z)] 1 0 false], rfl⟩, ⟨[.cells [.pd (.int .i64 0), .fixed (([] : List (Bool × (List Int) × (List Int))).map elABLU32LU32Z), .fixed (([] : List (Bool × (List Int) × (List Int))).map elABLU32LU32Z), .fixed (([] : List (Bool × (List Int) × (List Int))).map elABLU32LU32Z)] 1 0 false], rfl⟩, ⟨[.cells [.pd (.int .i64 0), .fixed (([] : List (Bool × (List Int) × (List Int))).map elABLU32LU32Z), .fixed (([] : List (Bool × (List Int) × (List Int))).map elABLU32LU32Z), .fixed (([] : List (Bool × (List Int) × (List Int))).map elABLU32LU32Z)] 1 0 false], rfl⟩, ⟨[.cells [.pd (.int .i64 0), .fixed (([] : List (Bool × (List Int) × (List Int))).map elABLU32LU32Z), .fixed (([] : List (Bool × (List Int) × (List Int))).map elABLU32LU32Z), .fixed (([] : List (Bool × (List Int) × (List Int))).map elABLU32LU32Z)] 1 0 false], rfl⟩, ⟨[.cells [.pd (.int .i64 0), .fixed (([] : List (Bool × (List Int) × (List Int))).map elABLU32LU32Z), .fixed (([] : List (Bool × (List Int) × (List Int))).map elABLU32LU32Z), .fixed (([] : List (Bool × (List Int) × (List Int))).map elABLU32LU32Z)] 1 0 false], rfl⟩, ⟨[.cells [.pd (.int .i64 0), .fixed (([] : List (Bool × (List Int) × (List Int))).map elABLU32LU32Z), .fixed (([] : List (Bool × (List Int) × (List Int))).map elABLU32LU32Z), .fixed (([] : List (Bool × (List Int) × (List Int))).map elABLU32LU32Z)] 1 0 false], rfl⟩, ⟨[.cells [.pd (.int .i64 0), .fixed (([] : List (Bool × (List Int) × (List Int))).map elABLU32LU32Z), .fixed (([] : List (Bool × (List Int) × (List Int))).map elABLU32LU32Z), .fixed (([] : List (Bool × (List Int) × (List Int))).map elABLU32LU32Z)] 1 0 false], rfl⟩, ⟨[.cells [.pd (.int .i64 0), .fixed (([] : List (Bool × (List Int) × (List Int))).map elABLU32LU32Z), .fixed (([] : List (Bool × (List Int) × (List Int))).map elABLU32LU32Z), .fixed (([] : List (Bool × (List Int) × (List Int))).map elABLU32LU32Z)] 1 0 false], rfl⟩, ⟨[.cells [.pd (.int .i64 0), .fixed (([] : List (Bool × (List Int) × (List Int))).map elABLU32LU32Z), .fixed (([] : List (Bool × (List Int) × (List Int))).map elABLU32LU32Z), .fixed (([] : List (Bool × (List Int) × (List Int))).map elABLU32LU32Z)] 1 0 false], rfl⟩, ⟨[.cells [.pd (.int .i64 0), .fixed (([] : List (Bool × (List Int) × (List Int))).map elABLU32LU32Z), .fixed (([] : List (Bool × (List Int) × (List Int))).map elABLU32LU32Z), .fixed (([] : List (Bool × (List Int) × (List Int))).map elABLU32LU32Z)] 1 0 false], rfl⟩, trivial⟩ ?_
  let o4 : Ob := .cells [.pd (.int .i64 p3), .pd (.sl (p4.map elABLU32LU32Z)), .pd (.sl (x20.map elABLU32LU32Z)), .pd (.sl (x22.map elABLU32LU32Z))] 1 0 false
  refine H_askK (.junk) ([o1, o2, o3, o4]) (by kernel_rfl) ?_
  refine H_chk (p := True) (by kernel_rfl) (by kernel_rfl) trivial ?_
  refine H_askK (.agg [.pd (.sl (p0.map elLABLU32LU32Z)), .pd (.sl (p1.map elABLU32LU32Z)), .pd (.sl (p2.map elABLU32LU32Z))]) ([o1, o2, o3, o4]) (by kernel_rfl) ?_
  refine H_askK (.agg [.pd (.int .i64 p3), .pd (.sl (p4.map elABLU32LU32Z)), .pd (.sl (x20.map elABLU32LU32Z)), .pd (.sl (x22.map elABLU32LU32Z))]) ([o1, o2, o3, o4]) (by kernel_rfl) ?_
  obtain ⟨x24, hx25, h⟩ := h
  refine H_valW (g := 15) (args := [.agg [.pd (.sl (p0.map elLABLU32LU32Z)), .pd (.sl (p1.map elABLU32LU32Z)), .pd (.sl (p2.map elABLU32LU32Z))], .agg [.pd (.int .i64 p3), .pd (.sl (p4.map elABLU32LU32Z)), .pd (.sl (x20.map elABLU32LU32Z)), .pd (.sl (x22.map elABLU32LU32Z))]]) (M := [o1, o2, o3, o4]) (.pd (.int .i64 x24)) (.inl (by kernel_rfl)) (by kernel_rfl) (proof_Check_ok m _ _ _ _ _ _ _ hx25) (by kernel_rfl) (hasT 15 (by kernel_rfl)) ?_
  refine H_split (x24 == (0 : Int)) (by kernel_rfl) (fun hp26 => ?_) (fun hp26 => ?_)
  · replace h := h.t hp26
    obtain ⟨x27, hx28, h⟩ := h
    refine H_valW (g := 14) (args := []) (M := [o1, o2, o3, o4]) (.pd (.bool x27)) (.inl (by kernel_rfl)) (by kernel_rfl) (offcutlaw13_awake_ok m  hx28) (by kernel_rfl) (hasT 14 (by kernel_rfl)) ?_
    cases x27
    · replace h := h.f rfl
      exact H_end .ret (.pd (.bool false)) (by kernel_rfl) rfl (by kernel_rfl) (by subst h; rfl)
    replace h := h.t rfl
    exact H_end .ret (.pd (.bool true)) (by kernel_rfl) rfl (by kernel_rfl) (by subst h; rfl)
  replace h := h.f hp26
  exact H_end .ret (.pd (.bool false)) (by kernel_rfl) rfl (by kernel_rfl) (by subst h; rfl)

end Go.Abs
end
