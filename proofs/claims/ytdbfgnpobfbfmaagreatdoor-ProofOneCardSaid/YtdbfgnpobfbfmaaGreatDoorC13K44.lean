/- Part of a proof, in few files: G13pW. -/
import Derived.Test.YtdbfgnpobfbfmaaGreatDoorC13K30
import Derived.Test.YtdbfgnpobfbfmaaGreatDoorC13K31
import Derived.Test.YtdbfgnpobfbfmaaGreatDoorC13K35
import Derived.Test.YtdbfgnpobfbfmaaGreatDoorC13K43
import Derived.Test.YtdbfgnpobfbfmaaGreatDoorC13K37

section
/- Printed by gen.py: the functions do what these conditions say. -/
namespace Go.Abs
open Go.Proofs
set_option maxHeartbeats 4000000
set_option maxRecDepth 20000
set_option linter.unusedVariables false
set_option linter.unusedSimpArgs false
set_option linter.unnecessarySimpa false

def lvABLU32LU32Z (x : Bool × (List Int) × (List Int)) : List PD := [.bool x.1, .sl (x.2.1.map elU32), .sl (x.2.2.map elU32)]
def elABLU32LU32Z (x : Bool × (List Int) × (List Int)) : PD := .agg [.bool x.1, .sl (x.2.1.map elU32), .sl (x.2.2.map elU32)]
theorem okABLU32LU32Z : LVok lvABLU32LU32Z 3 := fun _ => ⟨rfl, rfl⟩
theorem leABLU32LU32Z : ELok elABLU32LU32Z lvABLU32LU32Z := fun _ => rfl
theorem lgABLU32LU32Z : ELg elABLU32LU32Z lvABLU32LU32Z 3 := fun _ => rfl

theorem offcutlaw05_Few_ok (m : Tp) (p0 : List (Bool × (List Int) × (List Int))) {r : Bool} (h : offcutlaw05_Few p0 r) : ASpec Tryz.prog (gtT m) 22 [.pd (.sl (p0.map elABLU32LU32Z))] (· = .pd (.bool r)) := by
  refine ASpec_tree Tryz.f22 mixedT (askG [9, 10, 11] false) (by kernel_rfl) ?_
  unfold offcutlaw05_Few at h
  refine H_loopP (F := offcutlaw05_Few_L1 p0 r) (s0 := (0 : Int)) h () 34 0
    (fun (s100 : Int) (() : Unit) => [(0, .pd (.sl (p0.map elABLU32LU32Z))), (3, .pd (.int .i64 s100))])
    (fun (s100 : Int) (() : Unit) => []) (fun (s100 : Int) (() : Unit) => True) trivial [] mixedT (askG [9, 10, 11] false)
    (by kernel_rfl) (by kernel_rfl) (by kernel_rfl) (by kernel_rfl) (by kernel_rfl) (fun _ _ => rfl) ?_
  rintro X1 s100 ⟨⟩ - h
  dsimp only [offcutlaw05_Few_L1] at h
  refine H_ask _ _ (by kernel_rfl) (ask_len (P := Tryz.prog) (M := []) (t := 23) (et := 44) (el := elABLU32LU32Z) (by kernel_rfl) (e := p0)) ?_
  refine H_split (decide (s100 < (p0.length : Int))) (by kernel_rfl) (fun hp1 => ?_) (fun hp1 => ?_)
  · replace h := h.t hp1
    refine H_split (decide (s100 ≤ (8 : Int))) (by kernel_rfl) (fun hp2 => ?_) (fun hp2 => ?_)
    · replace h := h.t hp2
      obtain ⟨x3, x4, x5, hx6, h⟩ := h
      refine H_ask _ _ (by kernel_rfl) (ask_idx (P := Tryz.prog) (M := []) (t := 23) (et := 44) (k := .i64) (lv := lvABLU32LU32Z) okABLU32LU32Z leABLU32LU32Z (by kernel_rfl) (by kernel_rfl) hx6) ?_
      refine H_askK (.rd [.bool x3, .sl (x4.map elU32), .sl (x5.map elU32)]) ([]) (by kernel_rfl) ?_
      refine H_askK (.rd [.sl (x4.map elU32), .sl (x5.map elU32)]) ([]) (by kernel_rfl) ?_
      refine H_askK (.pd (.sl (x4.map elU32))) ([]) (by kernel_rfl) ?_
      refine H_ask _ _ (by kernel_rfl) (ask_len (P := Tryz.prog) (M := []) (t := 40) (et := 179) (el := elU32) (by kernel_rfl) (e := x4)) ?_
      refine H_split (decide ((x4.length : Int) > (3 : Int))) (by kernel_rfl) (fun hp7 => ?_) (fun hp7 => ?_)
      · replace h := h.t hp7
        refine H_leaveP .ret (by kernel_rfl) rfl ?_
        exact H_end .ret (.pd (.bool false)) (by kernel_rfl) rfl (by kernel_rfl) (by subst h; rfl)
      · replace h := h.f hp7
        obtain ⟨x8, x9, x10, hx11, h⟩ := h
        refine H_ask _ _ (by kernel_rfl) (ask_idx (P := Tryz.prog) (M := []) (t := 23) (et := 44) (k := .i64) (lv := lvABLU32LU32Z) okABLU32LU32Z leABLU32LU32Z (by kernel_rfl) (by kernel_rfl) hx11) ?_
        refine H_askK (.rd [.sl (x10.map elU32)]) ([]) (by kernel_rfl) ?_
        refine H_askK (.pd (.sl (x10.map elU32))) ([]) (by kernel_rfl) ?_
        refine H_ask _ _ (by kernel_rfl) (ask_len (P := Tryz.prog) (M := []) (t := 40) (et := 179) (el := elU32) (by kernel_rfl) (e := x10)) ?_
        refine H_split (decide ((x10.length : Int) > (3 : Int))) (by kernel_rfl) (fun hp12 => ?_) (fun hp12 => ?_)
        · replace h := h.t hp12
          refine H_leaveP .ret (by kernel_rfl) rfl ?_
          exact H_end .ret (.pd (.bool false)) (by kernel_rfl) rfl (by kernel_rfl) (by subst h; rfl)
        · replace h := h.f hp12
          exact H_againP (st := _) (IntKind.i64.wrap (s100 + 1)) () h trivial (by kernel_rfl) (by kernel_rfl) (by kernel_rfl) (by kernel_rfl) (by kernel_rfl)
    · replace h := h.f hp2
      refine H_leaveP (.exit 0) (by kernel_rfl) rfl ?_
      refine H_ask _ _ (by kernel_rfl) (ask_len (P := Tryz.prog) (M := []) (t := 23) (et := 44) (el := elABLU32LU32Z) (by kernel_rfl) (e := p0)) ?_
      refine H_split (decide ((p0.length : Int) ≤ (8 : Int))) (by kernel_rfl) (fun hp13 => ?_) (fun hp13 => ?_)
      · replace h := h.t hp13
        exact H_end .ret (.pd (.bool true)) (by kernel_rfl) rfl (by kernel_rfl) (by subst h; rfl)
      · replace h := h.f hp13
        exact H_end .ret (.pd (.bool false)) (by kernel_rfl) rfl (by kernel_rfl) (by subst h; rfl)
  · replace h := h.f hp1
    refine H_leaveP (.exit 0) (by kernel_rfl) rfl ?_
    refine H_ask _ _ (by kernel_rfl) (ask_len (P := Tryz.prog) (M := []) (t := 23) (et := 44) (el := elABLU32LU32Z) (by kernel_rfl) (e := p0)) ?_
    refine H_split (decide ((p0.length : Int) ≤ (8 : Int))) (by kernel_rfl) (fun hp14 => ?_) (fun hp14 => ?_)
    · replace h := h.t hp14
      exact H_end .ret (.pd (.bool true)) (by kernel_rfl) rfl (by kernel_rfl) (by subst h; rfl)
    · replace h := h.f hp14
      exact H_end .ret (.pd (.bool false)) (by kernel_rfl) rfl (by kernel_rfl) (by subst h; rfl)

theorem offcutlaw13_Few_ok (m : Tp) (p0 : Int) (p1 : List (Bool × (List Int) × (List Int))) (p2 : List (Bool × (List Int) × (List Int))) (p3 : List (Bool × (List Int) × (List Int))) {r : Bool} (h : offcutlaw13_Few p0 p1 p2 p3 r) : ASpec Tryz.prog (gtT m) 13 [.agg [.pd (.int .i64 p0), .pd (.sl (p1.map elABLU32LU32Z)), .pd (.sl (p2.map elABLU32LU32Z)), .pd (.sl (p3.map elABLU32LU32Z))]] (· = .pd (.bool r)) := by
  refine ASpec_tree Tryz.f13 mixedT (askG [9, 10, 11] false) (by kernel_rfl) ?_
  unfold offcutlaw13_Few at h
  refine H_askK (.ptr 0 0 0) ([.cells [.pd (.int .i64 p0), .pd (.sl (p1.map elABLU32LU32Z)), .pd (.sl (p2.map elABLU32LU32Z)), .pd (.sl (p3.map elABLU32LU32Z))] 1 0 false]) (by kernel_rfl) ?_
  refine H_askK (.ptr 0 1 0) ([.cells [.pd (.int .i64 p0), .pd (.sl (p1.map elABLU32LU32Z)), .pd (.sl (p2.map elABLU32LU32Z)), .pd (.sl (p3.map elABLU32LU32Z))] 1 0 false]) (by kernel_rfl) ?_
  refine H_askK (.pd (.sl (p1.map elABLU32LU32Z))) ([.cells [.pd (.int .i64 p0), .pd (.sl (p1.map elABLU32LU32Z)), .pd (.sl (p2.map elABLU32LU32Z)), .pd (.sl (p3.map elABLU32LU32Z))] 1 0 false]) (by kernel_rfl) ?_
  obtain ⟨x1, hx2, h⟩ := h
  refine H_valW (g := 22) (args := [.pd (.sl (p1.map elABLU32LU32Z))]) (M := [.cells [.pd (.int .i64 p0), .pd (.sl (p1.map elABLU32LU32Z)), .pd (.sl (p2.map elABLU32LU32Z)), .pd (.sl (p3.map elABLU32LU32Z))] 1 0 false]) (.pd (.bool x1)) (.inl (by kernel_rfl)) (by kernel_rfl) (offcutlaw05_Few_ok m _ hx2) (by kernel_rfl) (hasT 22 (by kernel_rfl)) ?_
  cases x1
  · replace h := h.f rfl
    exact H_end .ret (.pd (.bool false)) (by kernel_rfl) rfl (by kernel_rfl) (by subst h; rfl)
  · replace h := h.t rfl
    refine H_askK (.ptr 0 2 0) ([.cells [.pd (.int .i64 p0), .pd (.sl (p1.map elABLU32LU32Z)), .pd (.sl (p2.map elABLU32LU32Z)), .pd (.sl (p3.map elABLU32LU32Z))] 1 0 false]) (by kernel_rfl) ?_
    refine H_askK (.pd (.sl (p2.map elABLU32LU32Z))) ([.cells [.pd (.int .i64 p0), .pd (.sl (p1.map elABLU32LU32Z)), .pd (.sl (p2.map elABLU32LU32Z)), .pd (.sl (p3.map elABLU32LU32Z))] 1 0 false]) (by kernel_rfl) ?_
    obtain ⟨x3, hx4, h⟩ := h
    refine H_valW (g := 22) (args := [.pd (.sl (p2.map elABLU32LU32Z))]) (M := [.cells [.pd (.int .i64 p0), .pd (.sl (p1.map elABLU32LU32Z)), .pd (.sl (p2.map elABLU32LU32Z)), .pd (.sl (p3.map elABLU32LU32Z))] 1 0 false]) (.pd (.bool x3)) (.inl (by kernel_rfl)) (by kernel_rfl) (offcutlaw05_Few_ok m _ hx4) (by kernel_rfl) (hasT 22 (by kernel_rfl)) ?_
    cases x3
    · replace h := h.f rfl
      exact H_end .ret (.pd (.bool false)) (by kernel_rfl) rfl (by kernel_rfl) (by subst h; rfl)
    · replace h := h.t rfl
      refine H_askK (.ptr 0 3 0) ([.cells [.pd (.int .i64 p0), .pd (.sl (p1.map elABLU32LU32Z)), .pd (.sl (p2.map elABLU32LU32Z)), .pd (.sl (p3.map elABLU32LU32Z))] 1 0 false]) (by kernel_rfl) ?_
      refine H_askK (.pd (.sl (p3.map elABLU32LU32Z))) ([.cells [.pd (.int .i64 p0), .pd (.sl (p1.map elABLU32LU32Z)), .pd (.sl (p2.map elABLU32LU32Z)), .pd (.sl (p3.map elABLU32LU32Z))] 1 0 false]) (by kernel_rfl) ?_
      obtain ⟨x5, hx6, h⟩ := h
      refine H_valW (g := 22) (args := [.pd (.sl (p3.map elABLU32LU32Z))]) (M := [.cells [.pd (.int .i64 p0), .pd (.sl (p1.map elABLU32LU32Z)), .pd (.sl (p2.map elABLU32LU32Z)), .pd (.sl (p3.map elABLU32LU32Z))] 1 0 false]) (.pd (.bool x5)) (.inl (by kernel_rfl)) (by kernel_rfl) (offcutlaw05_Few_ok m _ hx6) (by kernel_rfl) (hasT 22 (by kernel_rfl)) ?_
      cases x5
      · replace h := h.f rfl
        exact H_end .ret (.pd (.bool false)) (by kernel_rfl) rfl (by kernel_rfl) (by subst h; rfl)
      · replace h := h.t rfl
        exact H_end .ret (.pd (.bool true)) (by kernel_rfl) rfl (by kernel_rfl) (by subst h; rfl)

theorem proof_Right_ok (m : Tp) (p0 : Int) (p1 : List (Bool × (List Int) × (List Int))) (p2 : List (Bool × (List Int) × (List Int))) (p3 : List (Bool × (List Int) × (List Int))) {r : Bool} (h : proof_Right p0 p1 p2 p3 r) : ASpec Tryz.prog (gtT m) 16 [.agg [.pd (.int .i64 p0), .pd (.sl (p1.map elABLU32LU32Z)), .pd (.sl (p2.map elABLU32LU32Z)), .pd (.sl (p3.map elABLU32LU32Z))]] (· = .pd (.bool r)) := by
  refine ASpec_tree Tryz.f16 mixedT (askG [9, 10, 11] false) (by kernel_rfl) ?_
  unfold proof_Right at h
  let o1 : Ob := .cells [.pd (.int .i64 p0), .pd (.sl (p1.map elABLU32LU32Z)), .pd (.sl (p2.map elABLU32LU32Z)), .pd (.sl (p3.map elABLU32LU32Z))] 1 0 false
  refine H_askK (.ptr 0 0 0) ([o1]) (by kernel_rfl) ?_
  refine H_inl (g := 45) (args := [.ptr 0 0 0]) (M := [o1]) Tryz.f45 mixedT (askG [9, 10, 11] false) (by kernel_rfl) (by kernel_rfl) (hasT 45 (by kernel_rfl)) ?_
  refine H_draw (by kernel_rfl) ?_
  let o2 : Ob := .cells [.pd (.str ([] : List UInt8)), .pd (.bool false), .nilp, .pd (.str ([] : List UInt8)), .pd (.bool false), .nilp, .pd (.str ([] : List UInt8)), .pd (.bool false), .nilp] 1 0 false
  refine H_askK (.ptr 0 0 0) ([o1, o2]) (by kernel_rfl) ?_
  refine H_askK (.ptr 0 0 0) ([o1, o2]) (by kernel_rfl) ?_
  refine H_askK (.pd (.int .i64 p0)) ([o1, o2]) (by kernel_rfl) ?_
  refine H_split (p0 != (2 : Int)) (by kernel_rfl) (fun hp1 => ?_) (fun hp1 => ?_)
  · replace h := h.t hp1
    refine H_askK (.ptr 0 0 0) ([o1, o2]) (by kernel_rfl) ?_
    refine H_askK (.ptr 0 1 0) ([o1, o2]) (by kernel_rfl) ?_
    refine H_askK (.agg [.pd (.str ([120] : List UInt8)), .pd (.bool true), .ptr 0 1 0]) ([o1, o2]) (by kernel_rfl) ?_
    refine H_askK (.ptr 0 0 0) ([o1, o2]) (by kernel_rfl) ?_
    refine H_askK (.ptr 0 0 0) ([o1, o2]) (by kernel_rfl) ?_
    refine H_askK (.pd (.int .i64 p0)) ([o1, o2]) (by kernel_rfl) ?_
    refine H_split (p0 != (3 : Int)) (by kernel_rfl) (fun hp2 => ?_) (fun hp2 => ?_)
    · replace h := h.t hp2
      refine H_askK (.ptr 0 0 0) ([o1, o2]) (by kernel_rfl) ?_
      refine H_askK (.ptr 0 2 0) ([o1, o2]) (by kernel_rfl) ?_
      refine H_askK (.agg [.pd (.str ([121] : List UInt8)), .pd (.bool true), .ptr 0 2 0]) ([o1, o2]) (by kernel_rfl) ?_
      refine H_askK (.ptr 0 0 0) ([o1, o2]) (by kernel_rfl) ?_
      refine H_askK (.ptr 0 0 0) ([o1, o2]) (by kernel_rfl) ?_
      refine H_askK (.pd (.int .i64 p0)) ([o1, o2]) (by kernel_rfl) ?_
      refine H_split (p0 == (3 : Int)) (by kernel_rfl) (fun hc => by simp only [decide_eq_true_eq, decide_eq_false_iff_not, beq_iff_eq, bne_iff_ne, beq_eq_false_iff_ne, bne_eq_false_iff_eq, ne_eq] at hp2 hc; omega) (fun _ => ?_)
      refine H_askK (.ptr 0 0 0) ([o1, o2]) (by kernel_rfl) ?_
      refine H_askK (.ptr 0 3 0) ([o1, o2]) (by kernel_rfl) ?_
      refine H_askK (.agg [.pd (.str ([114, 97, 121] : List UInt8)), .pd (.bool false), .ptr 0 3 0]) ([o1, o2]) (by kernel_rfl) ?_
      refine H_askK (.agg [.pd (.str ([120] : List UInt8)), .pd (.bool true), .ptr 0 1 0, .pd (.str ([121] : List UInt8)), .pd (.bool true), .ptr 0 2 0, .pd (.str ([114, 97, 121] : List UInt8)), .pd (.bool false), .ptr 0 3 0]) ([o1, o2]) (by kernel_rfl) ?_
      let o3 : Ob := .cells [.pd (.str ([120] : List UInt8)), .pd (.bool true), .ptr 0 1 0, .pd (.str ([121] : List UInt8)), .pd (.bool true), .ptr 0 2 0, .pd (.str ([114, 97, 121] : List UInt8)), .pd (.bool false), .ptr 0 3 0] 1 0 false
      refine H_askK (.junk) ([o1, o3]) (by kernel_rfl) ?_
      refine H_endM .ret (.agg [.pd (.str ([120] : List UInt8)), .pd (.bool true), .ptr 0 1 0, .pd (.str ([121] : List UInt8)), .pd (.bool true), .ptr 0 2 0, .pd (.str ([114, 97, 121] : List UInt8)), .pd (.bool false), .ptr 0 3 0]) ([o1, o3]) (by kernel_rfl) rfl (by kernel_rfl) (by kernel_rfl) (by kernel_rfl) ?_
      refine H_unroll 4 mixedT (askG [9, 10, 11] false) (by kernel_rfl) ?_
      refine H_split true (by kernel_rfl) (fun _ => ?_) (fun hc => by cases hc)
      refine H_askK (.agg [.pd (.str ([120] : List UInt8)), .pd (.bool true), .ptr 0 1 0]) ([o1, o3]) (by kernel_rfl) ?_
      let o4 : Ob := .cells [.pd (.str ([120] : List UInt8)), .pd (.bool true), .ptr 0 1 0] 1 0 false
      refine H_askK (.junk) ([o1, o3, o4]) (by kernel_rfl) ?_
      refine H_askK (.ptr 2 1 0) ([o1, o3, o4]) (by kernel_rfl) ?_
      refine H_askK (.pd (.bool true)) ([o1, o3, o4]) (by kernel_rfl) ?_
      refine H_askK (.ptr 2 2 0) ([o1, o3, o4]) (by kernel_rfl) ?_
      refine H_askK (.ptr 0 1 0) ([o1, o3, o4]) (by kernel_rfl) ?_
      refine H_askK (.ptr 0 1 0) ([o1, o3, o4]) (by kernel_rfl) ?_
      refine H_askK (.pd (.sl (p1.map elABLU32LU32Z))) ([o1, o3, o4]) (by kernel_rfl) ?_
      refine H_ask _ _ (by kernel_rfl) (ask_len (P := Tryz.prog) (M := [o1, o3, o4]) (t := 23) (et := 44) (el := elABLU32LU32Z) (by kernel_rfl) (e := p1)) ?_
      refine H_split (decide ((p1.length : Int) > (180 : Int))) (by kernel_rfl) (fun hp3 => ?_) (fun hp3 => ?_)
      · replace h := h.t hp3
        exact H_end .ret (.pd (.bool false)) (by kernel_rfl) rfl (by kernel_rfl) (by subst h; rfl)
      replace h := h.f hp3
      refine H_split true (by kernel_rfl) (fun _ => ?_) (fun hc => by cases hc)
      refine H_askK (.agg [.pd (.str ([121] : List UInt8)), .pd (.bool true), .ptr 0 2 0]) ([o1, o3, o4]) (by kernel_rfl) ?_
      let o5 : Ob := .cells [.pd (.str ([121] : List UInt8)), .pd (.bool true), .ptr 0 2 0] 1 0 false
      refine H_askK (.junk) ([o1, o3, o4, o5]) (by kernel_rfl) ?_
      refine H_askK (.ptr 3 1 0) ([o1, o3, o4, o5]) (by kernel_rfl) ?_
      refine H_askK (.pd (.bool true)) ([o1, o3, o4, o5]) (by kernel_rfl) ?_
      refine H_askK (.ptr 3 2 0) ([o1, o3, o4, o5]) (by kernel_rfl) ?_
      refine H_askK (.ptr 0 2 0) ([o1, o3, o4, o5]) (by kernel_rfl) ?_
      refine H_askK (.ptr 0 2 0) ([o1, o3, o4, o5]) (by kernel_rfl) ?_
      refine H_askK (.pd (.sl (p2.map elABLU32LU32Z))) ([o1, o3, o4, o5]) (by kernel_rfl) ?_
      refine H_ask _ _ (by kernel_rfl) (ask_len (P := Tryz.prog) (M := [o1, o3, o4, o5]) (t := 23) (et := 44) (el := elABLU32LU32Z) (by kernel_rfl) (e := p2)) ?_
      refine H_split (decide ((p2.length : Int) > (180 : Int))) (by kernel_rfl) (fun hp4 => ?_) (fun hp4 => ?_)
      · replace h := h.t hp4
        exact H_end .ret (.pd (.bool false)) (by kernel_rfl) rfl (by kernel_rfl) (by subst h; rfl)
      replace h := h.f hp4
      refine H_split true (by kernel_rfl) (fun _ => ?_) (fun hc => by cases hc)
      refine H_askK (.agg [.pd (.str ([114, 97, 121] : List UInt8)), .pd (.bool false), .ptr 0 3 0]) ([o1, o3, o4, o5]) (by kernel_rfl) ?_
      let o6 : Ob := .cells [.pd (.str ([114, 97, 121] : List UInt8)), .pd (.bool false), .ptr 0 3 0] 1 0 false
      refine H_askK (.junk) ([o1, o3, o4, o5, o6]) (by kernel_rfl) ?_
      refine H_askK (.ptr 4 1 0) ([o1, o3, o4, o5, o6]) (by kernel_rfl) ?_
      refine H_askK (.pd (.bool false)) ([o1, o3, o4, o5, o6]) (by kernel_rfl) ?_
      refine H_askK (.ptr 4 2 0) ([o1, o3, o4, o5, o6]) (by kernel_rfl) ?_
      refine H_askK (.ptr 0 3 0) ([o1, o3, o4, o5, o6]) (by kernel_rfl) ?_
      refine H_askK (.ptr 0 3 0) ([o1, o3, o4, o5, o6]) (by kernel_rfl) ?_
      refine H_askK (.pd (.sl (p3.map elABLU32LU32Z))) ([o1, o3, o4, o5, o6]) (by kernel_rfl) ?_
      refine H_ask _ _ (by kernel_rfl) (ask_len (P := Tryz.prog) (M := [o1, o3, o4, o5, o6]) (t := 23) (et := 44) (el := elABLU32LU32Z) (by kernel_rfl) (e := p3)) ?_
      refine H_split (decide ((p3.length : Int) > (0 : Int))) (by kernel_rfl) (fun hp5 => ?_) (fun hp5 => ?_)
      · replace h := h.t hp5
        exact H_end .ret (.pd (.bool false)) (by kernel_rfl) rfl (by kernel_rfl) (by subst h; rfl)
      replace h := h.f hp5
      refine H_askK (.ptr 4 2 0) ([o1, o3, o4, o5, o6]) (by kernel_rfl) ?_
      refine H_askK (.ptr 0 3 0) ([o1, o3, o4, o5, o6]) (by kernel_rfl) ?_
      refine H_askK (.ptr 0 3 0) ([o1, o3, o4, o5, o6]) (by kernel_rfl) ?_
      refine H_askK (.pd (.sl (p3.map elABLU32LU32Z))) ([o1, o3, o4, o5, o6]) (by kernel_rfl) ?_
      refine H_ask _ _ (by kernel_rfl) (ask_len (P := Tryz.prog) (M := [o1, o3, o4, o5, o6]) (t := 23) (et := 44) (el := elABLU32LU32Z) (by kernel_rfl) (e := p3)) ?_
      refine H_split (decide ((p3.length : Int) > (180 : Int))) (by kernel_rfl) (fun hc => by simp only [decide_eq_true_eq, decide_eq_false_iff_not, beq_iff_eq, bne_iff_ne, beq_eq_false_iff_ne, bne_eq_false_iff_eq, ne_eq] at hp5 hc; omega) (fun _ => ?_)
      refine H_split false (by kernel_rfl) (fun hc => by cases hc) (fun _ => ?_)
      refine H_askK (.ptr 0 0 0) ([o1, o3, o4, o5, o6]) (by kernel_rfl) ?_
      refine H_askK (.pd (.int .i64 p0)) ([o1, o3, o4, o5, o6]) (by kernel_rfl) ?_
      refine H_split (decide (p0 ≥ (1 : Int))) (by kernel_rfl) (fun hp6 => ?_) (fun hp6 => ?_)
      · replace h := h.t hp6
        refine H_askK (.ptr 0 0 0) ([o1, o3, o4, o5, o6]) (by kernel_rfl) ?_
        refine H_askK (.pd (.int .i64 p0)) ([o1, o3, o4, o5, o6]) (by kernel_rfl) ?_
        refine H_split (decide (p0 ≤ (3 : Int))) (by kernel_rfl) (fun hp7 => ?_) (fun hp7 => ?_)
        · replace h := h.t hp7
          exact H_end .ret (.pd (.bool true)) (by kernel_rfl) rfl (by kernel_rfl) (by subst h; rfl)
        replace h := h.f hp7
        exact H_end .ret (.pd (.bool false)) (by kernel_rfl) rfl (by kernel_rfl) (by subst h; rfl)
      replace h := h.f hp6
      exact H_end .ret (.pd (.bool false)) (by kernel_rfl) rfl (by kernel_rfl) (by subst h; rfl)
    replace h := h.f hp2
    refine H_askK (.ptr 0 0 0) ([o1, o2]) (by kernel_rfl) ?_
    refine H_askK (.ptr 0 2 0) ([o1, o2]) (by kernel_rfl) ?_
    refine H_askK (.agg [.pd (.str ([121] : List UInt8)), .pd (.bool false), .ptr 0 2 0]) ([o1, o2]) (by kernel_rfl) ?_
    refine H_askK (.ptr 0 0 0) ([o1, o2]) (by kernel_rfl) ?_
    refine H_askK (.ptr 0 0 0) ([o1, o2]) (by kernel_rfl) ?_
    refine H_askK (.pd (.int .i64 p0)) ([o1, o2]) (by kernel_rfl) ?_
    refine H_split (p0 == (3 : Int)) (by kernel_rfl) (fun _ => ?_) (fun hc => by simp only [decide_eq_true_eq, decide_eq_false_iff_not, beq_iff_eq, bne_iff_ne, beq_eq_false_iff_ne, bne_eq_false_iff_eq, ne_eq] at hp2 hc; omega)
    refine H_askK (.ptr 0 0 0) ([o1, o2]) (by kernel_rfl) ?_
    refine H_askK (.ptr 0 3 0) ([o1, o2]) (by kernel_rfl) ?_
    refine H_askK (.agg [.pd (.str ([114, 97, 121] : List UInt8)), .pd (.bool true), .ptr 0 3 0]) ([o1, o2]) (by kernel_rfl) ?_
    refine H_askK (.agg [.pd (.str ([120] : List UInt8)), .pd (.bool true), .ptr 0 1 0, .pd (.str ([121] : List UInt8)), .pd (.bool false), .ptr 0 2 0, .pd (.str ([114, 97, 121] : List UInt8)), .pd (.bool true), .ptr 0 3 0]) ([o1, o2]) (by kernel_rfl) ?_
    let o7 : Ob := .cells [.pd (.str ([120] : List UInt8)), .pd (.bool true), .ptr 0 1 0, .pd (.str ([121] : List UInt8)), .pd (.bool false), .ptr 0 2 0, .pd (.str ([114, 97, 121] : List UInt8)), .pd (.bool true), .ptr 0 3 0] 1 0 false
    refine H_askK (.junk) ([o1, o7]) (by kernel_rfl) ?_
    refine H_endM .ret (.agg [.pd (.str ([120] : List UInt8)), .pd (.bool true), .ptr 0 1 0, .pd (.str ([121] : List UInt8)), .pd (.bool false), .ptr 0 2 0, .pd (.str ([114, 97, 121] : List UInt8)), .pd (.bool true), .ptr 0 3 0]) ([o1, o7]) (by kernel_rfl) rfl (by kernel_rfl) (by kernel_rfl) (by kernel_rfl) ?_
    refine H_unroll 4 mixedT (askG [9, 10, 11] false) (by kernel_rfl) ?_
    refine H_split true (by kernel_rfl) (fun _ => ?_) (fun hc => by cases hc)
    refine H_askK (.agg [.pd (.str ([120] : List UInt8)), .pd (.bool true), .ptr 0 1 0]) ([o1, o7]) (by kernel_rfl) ?_
    let o8 : Ob := .cells [.pd (.str ([120] : List UInt8)), .pd (.bool true), .ptr 0 1 0] 1 0 false
    refine H_askK (.junk) ([o1, o7, o8]) (by kernel_rfl) ?_
    refine H_askK (.ptr 2 1 0) ([o1, o7, o8]) (by kernel_rfl) ?_
    refine H_askK (.pd (.bool true)) ([o1, o7, o8]) (by kernel_rfl) ?_
    refine H_askK (.ptr 2 2 0) ([o1, o7, o8]) (by kernel_rfl) ?_
    refine H_askK (.ptr 0 1 0) ([o1, o7, o8]) (by kernel_rfl) ?_
    refine H_askK (.ptr 0 1 0) ([o1, o7, o8]) (by kernel_rfl) ?_
    refine H_askK (.pd (.sl (p1.map elABLU32LU32Z))) ([o1, o7, o8]) (by kernel_rfl) ?_
    refine H_ask _ _ (by kernel_rfl) (ask_len (P := Tryz.prog) (M := [o1, o7, o8]) (t := 23) (et := 44) (el := elABLU32LU32Z) (by kernel_rfl) (e := p1)) ?_
    refine H_split (decide ((p1.length : Int) > (180 : Int))) (by kernel_rfl) (fun hp8 => ?_) (fun hp8 => ?_)
    · replace h := h.t hp8
      exact H_end .ret (.pd (.bool false)) (by kernel_rfl) rfl (by kernel_rfl) (by subst h; rfl)
    replace h := h.f hp8
    refine H_split true (by kernel_rfl) (fun _ => ?_) (fun hc => by cases hc)
    refine H_askK (.agg [.pd (.str ([121] : List UInt8)), .pd (.bool false), .ptr 0 2 0]) ([o1, o7, o8]) (by kernel_rfl) ?_
    let o9 : Ob := .cells [.pd (.str ([121] : List UInt8)), .pd (.bool false), .ptr 0 2 0] 1 0 false
    refine H_askK (.junk) ([o1, o7, o8, o9]) (by kernel_rfl) ?_
    refine H_askK (.ptr 3 1 0) ([o1, o7, o8, o9]) (by kernel_rfl) ?_
    refine H_askK (.pd (.bool false)) ([o1, o7, o8, o9]) (by kernel_rfl) ?_
    refine H_askK (.ptr 3 2 0) ([o1, o7, o8, o9]) (by kernel_rfl) ?_
    refine H_askK (.ptr 0 2 0) ([o1, o7, o8, o9]) (by kernel_rfl) ?_
    refine H_askK (.ptr 0 2 0) ([o1, o7, o8, o9]) (by kernel_rfl) ?_
    refine H_askK (.pd (.sl (p2.map elABLU32LU32Z))) ([o1, o7, o8, o9]) (by kernel_rfl) ?_
    refine H_ask _ _ (by kernel_rfl) (ask_len (P := Tryz.prog) (M := [o1, o7, o8, o9]) (t := 23) (et := 44) (el := elABLU32LU32Z) (by kernel_rfl) (e := p2)) ?_
    refine H_split (decide ((p2.length : Int) > (0 : Int))) (by kernel_rfl) (fun hp9 => ?_) (fun hp9 => ?_)
    · replace h := h.t hp9
      exact H_end .ret (.pd (.bool false)) (by kernel_rfl) rfl (by kernel_rfl) (by subst h; rfl)
    replace h := h.f hp9
    refine H_askK (.ptr 3 2 0) ([o1, o7, o8, o9]) (by kernel_rfl) ?_
    refine H_askK (.ptr 0 2 0) ([o1, o7, o8, o9]) (by kernel_rfl) ?_
    refine H_askK (.ptr 0 2 0) ([o1, o7, o8, o9]) (by kernel_rfl) ?_
    refine H_askK (.pd (.sl (p2.map elABLU32LU32Z))) ([o1, o7, o8, o9]) (by kernel_rfl) ?_
    refine H_ask _ _ (by kernel_rfl) (ask_len (P := Tryz.prog) (M := [o1, o7, o8, o9]) (t := 23) (et := 44) (el := elABLU32LU32Z) (by kernel_rfl) (e := p2)) ?_
    refine H_split (decide ((p2.length : Int) > (180 : Int))) (by kernel_rfl) (fun hc => by simp only [decide_eq_true_eq, decide_eq_false_iff_not, beq_iff_eq, bne_iff_ne, beq_eq_false_iff_ne, bne_eq_false_iff_eq, ne_eq] at hp9 hc; omega) (fun _ => ?_)
    refine H_split true (by kernel_rfl) (fun _ => ?_) (fun hc => by cases hc)
    refine H_askK (.agg [.pd (.str ([114, 97, 121] : List UInt8)), .pd (.bool true), .ptr 0 3 0]) ([o1, o7, o8, o9]) (by kernel_rfl) ?_
    let o10 : Ob := .cells [.pd (.str ([114, 97, 121] : List UInt8)), .pd (.bool true), .ptr 0 3 0] 1 0 false
    refine H_askK (.junk) ([o1, o7, o8, o9, o10]) (by kernel_rfl) ?_
    refine H_askK (.ptr 4 1 0) ([o1, o7, o8, o9, o10]) (by kernel_rfl) ?_
    refine H_askK (.pd (.bool true)) ([o1, o7, o8, o9, o10]) (by kernel_rfl) ?_
    refine H_askK (.ptr 4 2 0) ([o1, o7, o8, o9, o10]) (by kernel_rfl) ?_
    refine H_askK (.ptr 0 3 0) ([o1, o7, o8, o9, o10]) (by kernel_rfl) ?_
    refine H_askK (.ptr 0 3 0) ([o1, o7, o8, o9, o10]) (by kernel_rfl) ?_
    refine H_askK (.pd (.sl (p3.map elABLU32LU32Z))) ([o1, o7, o8, o9, o10]) (by kernel_rfl) ?_
    refine H_ask _ _ (by kernel_rfl) (ask_len (P := Tryz.prog) (M := [o1, o7, o8, o9, o10]) (t := 23) (et := 44) (el := elABLU32LU32Z) (by kernel_rfl) (e := p3)) ?_
    refine H_split (decide ((p3.length : Int) > (180 : Int))) (by kernel_rfl) (fun hp10 => ?_) (fun hp10 => ?_)
    · replace h := h.t hp10
      exact H_end .ret (.pd (.bool false)) (by kernel_rfl) rfl (by kernel_rfl) (by subst h; rfl)
    replace h := h.f hp10
    refine H_split false (by kernel_rfl) (fun hc => by cases hc) (fun _ => ?_)
    refine H_askK (.ptr 0 0 0) ([o1, o7, o8, o9, o10]) (by kernel_rfl) ?_
    refine H_askK (.pd (.int .i64 p0)) ([o1, o7, o8, o9, o10]) (by kernel_rfl) ?_
    refine H_split (decide (p0 ≥ (1 : Int))) (by kernel_rfl) (fun _ => ?_) (fun hc => by simp only [decide_eq_true_eq, decide_eq_false_iff_not, beq_iff_eq, bne_iff_ne, beq_eq_false_iff_ne, bne_eq_false_iff_eq, ne_eq] at hp2 hc; omega)
    refine H_askK (.ptr 0 0 0) ([o1, o7, o8, o9, o10]) (by kernel_rfl) ?_
    refine H_askK (.pd (.int .i64 p0)) ([o1, o7, o8, o9, o10]) (by kernel_rfl) ?_
    refine H_split (decide (p0 ≤ (3 : Int))) (by kernel_rfl) (fun _ => ?_) (fun hc => by simp only [decide_eq_true_eq, decide_eq_false_iff_not, beq_iff_eq, bne_iff_ne, beq_eq_false_iff_ne, bne_eq_false_iff_eq, ne_eq] at hp2 hc; omega)
    exact H_end .ret (.pd (.bool true)) (by kernel_rfl) rfl (by kernel_rfl) (by subst h; rfl)
  replace h := h.f hp1
  refine H_askK (.ptr 0 0 0) ([o1, o2]) (by kernel_rfl) ?_
  refine H_askK (.ptr 0 1 0) ([o1, o2]) (by kernel_rfl) ?_
  refine H_askK (.agg [.pd (.str ([120] : List UInt8)), .pd (.bool false), .ptr 0 1 0]) ([o1, o2]) (by kernel_rfl) ?_
  refine H_askK (.ptr 0 0 0) ([o1, o2]) (by kernel_rfl) ?_
  refine H_askK (.ptr 0 0 0) ([o1, o2]) (by kernel_rfl) ?_
  refine H_askK (.pd (.int .i64 p0)) ([o1, o2]) (by kernel_rfl) ?_
  refine H_split (p0 != (3 : Int)) (by kernel_rfl) (fun _ => ?_) (fun hc => by simp only [decide_eq_true_eq, decide_eq_false_iff_not, beq_iff_eq, bne_iff_ne, beq_eq_false_iff_ne, bne_eq_false_iff_eq, ne_eq] at hp1 hc; omega)
  refine H_askK (.ptr 0 0 0) ([o1, o2]) (by kernel_rfl) ?_
  refine H_askK (.ptr 0 2 0) ([o1, o2]) (by kernel_rfl) ?_
  refine H_askK (.agg [.pd (.str ([121] : List UInt8)), .pd (.bool true), .ptr 0 2 0]) ([o1, o2]) (by kernel_rfl) ?_
  refine H_askK (.ptr 0 0 0) ([o1, o2]) (by kernel_rfl) ?_
  refine H_askK (.ptr 0 0 0) ([o1, o2]) (by kernel_rfl) ?_
  refine H_askK (.pd (.int .i64 p0)) ([o1, o2]) (by kernel_rfl) ?_
  refine H_split (p0 == (3 : Int)) (by kernel_rfl) (fun hc => by simp only [decide_eq_true_eq, decide_eq_false_iff_not, beq_iff_eq, bne_iff_ne, beq_eq_false_iff_ne, bne_eq_false_iff_eq, ne_eq] at hp1 hc; omega) (fun _ => ?_)
  refine H_askK (.ptr 0 0 0) ([o1, o2]) (by kernel_rfl) ?_
  refine H_askK (.ptr 0 3 0) ([o1, o2]) (by kernel_rfl) ?_
  refine H_askK (.agg [.pd (.str ([114, 97, 121] : List UInt8)), .pd (.bool false), .ptr 0 3 0]) ([o1, o2]) (by kernel_rfl) ?_
  refine H_askK (.agg [.pd (.str ([120] : List UInt8)), .pd (.bool false), .ptr 0 1 0, .pd (.str ([121] : List UInt8)), .pd (.bool true), .ptr 0 2 0, .pd (.str ([114, 97, 121] : List UInt8)), .pd (.bool false), .ptr 0 3 0]) ([o1, o2]) (by kernel_rfl) ?_
  let o11 : Ob := .cells [.pd (.str ([120] : List UInt8)), .pd (.bool false), .ptr 0 1 0, .pd (.str ([121] : List UInt8)), .pd (.bool true), .ptr 0 2 0, .pd (.str ([114, 97, 121] : List UInt8)), .pd (.bool false), .ptr 0 3 0] 1 0 false
  refine H_askK (.junk) ([o1, o11]) (by kernel_rfl) ?_
  refine H_endM .ret (.agg [.pd (.str ([120] : List UInt8)), .pd (.bool false), .ptr 0 1 0, .pd (.str ([121] : List UInt8)), .pd (.bool true), .ptr 0 2 0, .pd (.str ([114, 97, 121] : List UInt8)), .pd (.bool false), .ptr 0 3 0]) ([o1, o11]) (by kernel_rfl) rfl (by kernel_rfl) (by kernel_rfl) (by kernel_rfl) ?_
  refine H_unroll 4 mixedT (askG [9, 10, 11] false) (by kernel_rfl) ?_
  refine H_split true (by kernel_rfl) (fun _ => ?_) (fun hc => by cases hc)
  refine H_askK (.agg [.pd (.str ([120] : List UInt8)), .pd (.bool false), .ptr 0 1 0]) ([o1, o11]) (by kernel_rfl) ?_
  let o12 : Ob := .cells [.pd (.str ([120] : List UInt8)), .pd (.bool false), .ptr 0 1 0] 1 0 false
  refine H_askK (.junk) ([o1, o11, o12]) (by kernel_rfl) ?_
  refine H_askK (.ptr 2 1 0) ([o1, o11, o12]) (by kernel_rfl) ?_
  refine H_askK (.pd (.bool false)) ([o1, o11, o12]) (by kernel_rfl) ?_
  refine H_askK (.ptr 2 2 0) ([o1, o11, o12]) (by kernel_rfl) ?_
  refine H_askK (.ptr 0 1 0) ([o1, o11, o12]) (by kernel_rfl) ?_
  refine H_askK (.ptr 0 1 0) ([o1, o11, o12]) (by kernel_rfl) ?_
  refine H_askK (.pd (.sl (p1.map elABLU32LU32Z))) ([o1, o11, o12]) (by kernel_rfl) ?_
  refine H_ask _ _ (by kernel_rfl) (ask_len (P := Tryz.prog) (M := [o1, o11, o12]) (t := 23) (et := 44) (el := elABLU32LU32Z) (by kernel_rfl) (e := p1)) ?_
  refine H_split (decide ((p1.length : Int) > (0 : Int))) (by kernel_rfl) (fun hp11 => ?_) (fun hp11 => ?_)
  · replace h := h.t hp11
    exact H_end .ret (.pd (.bool false)) (by kernel_rfl) rfl (by kernel_rfl) (by subst h; rfl)
  replace h := h.f hp11
  refine H_askK (.ptr 2 2 0) ([o1, o11, o12]) (by kernel_rfl) ?_
  refine H_askK (.ptr 0 1 0) ([o1, o11, o12]) (by kernel_rfl) ?_
  refine H_askK (.ptr 0 1 0) ([o1, o11, o12]) (by kernel_rfl) ?_
  refine H_askK (.pd (.sl (p1.map elABLU32LU32Z))) ([o1, o11, o12]) (by kernel_rfl) ?_
  refine H_ask _ _ (by kernel_rfl) (ask_len (P := Tryz.prog) (M := [o1, o11, o12]) (t := 23) (et := 44) (el := elABLU32LU32Z) (by kernel_rfl) (e := p1)) ?_
  refine H_split (decide ((p1.length : Int) > (180 : Int))) (by kernel_rfl) (fun hc => by simp only [decide_eq_true_eq, decide_eq_false_iff_not, beq_iff_eq, bne_iff_ne, beq_eq_false_iff_ne, bne_eq_false_iff_eq, ne_eq] at hp11 hc; omega) (fun _ => ?_)
  refine H_split true (by kernel_rfl) (fun _ => ?_) (fun hc => by cases hc)
  refine H_askK (.agg [.pd (.str ([121] : List UInt8)), .pd (.bool true), .ptr 0 2 0]) ([o1, o11, o12]) (by kernel_rfl) ?_
  let o13 : Ob := .cells [.pd (.str ([121] : List UInt8)), .pd (.bool true), .ptr 0 2 0] 1 0 false
  refine H_askK (.junk) ([o1, o11, o12, o13]) (by kernel_rfl) ?_
  refine H_askK (.ptr 3 1 0) ([o1, o11, o12, o13]) (by kernel_rfl) ?_
  refine H_askK (.pd (.bool true)) ([o1, o11, o12, o13]) (by kernel_rfl) ?_
  refine H_askK (.ptr 3 2 0) ([o1, o11, o12, o13]) (by kernel_rfl) ?_
  refine H_askK (.ptr 0 2 0) ([o1, o11, o12, o13]) (by kernel_rfl) ?_
  refine H_askK (.ptr 0 2 0) ([o1, o11, o12, o13]) (by kernel_rfl) ?_
  refine H_askK (.pd (.sl (p2.map elABLU32LU32Z))) ([o1, o11, o12, o13]) (by kernel_rfl) ?_
  refine H_ask _ _ (by kernel_rfl) (ask_len (P := Tryz.prog) (M := [o1, o11, o12, o13]) (t := 23) (et := 44) (el := elABLU32LU32Z) (by kernel_rfl) (e := p2)) ?_
  refine H_split (decide ((p2.length : Int) > (180 : Int))) (by kernel_rfl) (fun hp12 => ?_) (fun hp12 => ?_)
  · replace h := h.t hp12
    exact H_end .ret (.pd (.bool false)) (by kernel_rfl) rfl (by kernel_rfl) (by subst h; rfl)
  replace h := h.f hp12
  refine H_split true (by kernel_rfl) (fun _ => ?_) (fun hc => by cases hc)
  refine H_askK (.agg [.pd (.str ([114, 97, 121] : List UInt8)), .pd (.bool false), .ptr 0 3 0]) ([o1, o11, o12, o13]) (by kernel_rfl) ?_
  let o14 : Ob := .cells [.pd (.str ([114, 97, 121] : List UInt8)), .pd (.bool false), .ptr 0 3 0] 1 0 false
  let m15 : Mem := [o1, o11, o12, o13, o14]
  refine H_askK (.junk) (m15) (by kernel_rfl) ?_
  refine H_askK (.ptr 4 1 0) (m15) (by kernel_rfl) ?_
  refine H_askK (.pd (.bool false)) (m15) (by kernel_rfl) ?_
  refine H_askK (.ptr 4 2 0) (m15) (by kernel_rfl) ?_
  refine H_askK (.ptr 0 3 0) (m15) (by kernel_rfl) ?_
  refine H_askK (.ptr 0 3 0) (m15) (by kernel_rfl) ?_
  refine H_askK (.pd (.sl (p3.map elABLU32LU32Z))) (m15) (by kernel_rfl) ?_
  refine H_ask _ _ (by kernel_rfl) (ask_len (P := Tryz.prog) (M := m15) (t := 23) (et := 44) (el := elABLU32LU32Z) (by kernel_rfl) (e := p3)) ?_
  refine H_split (decide ((p3.length : Int) > (0 : Int))) (by kernel_rfl) (fun hp13 => ?_) (fun hp13 => ?_)
  · replace h := h.t hp13
    exact H_end .ret (.pd (.bool false)) (by kernel_rfl) rfl (by kernel_rfl) (by subst h; rfl)
  replace h := h.f hp13
  refine H_askK (.ptr 4 2 0) (m15) (by kernel_rfl) ?_
  refine H_askK (.ptr 0 3 0) (m15) (by kernel_rfl) ?_
  refine H_askK (.ptr 0 3 0) (m15) (by kernel_rfl) ?_
  refine H_askK (.pd (.sl (p3.map elABLU32LU32Z))) (m15) (by kernel_rfl) ?_
  refine H_ask _ _ (by kernel_rfl) (ask_len (P := Tryz.prog) (M := m15) (t := 23) (et := 44) (el := elABLU32LU32Z) (by kernel_rfl) (e := p3)) ?_
  refine H_split (decide ((p3.length : Int) > (180 : Int))) (by kernel_rfl) (fun hc => by simp only [decide_eq_true_eq, decide_eq_false_iff_not, beq_iff_eq, bne_iff_ne, beq_eq_false_iff_ne, bne_eq_false_iff_eq, ne_eq] at hp13 hc; omega) (fun _ => ?_)
  refine H_split false (by kernel_rfl) (fun hc => by cases hc) (fun _ => ?_)
  refine H_askK (.ptr 0 0 0) (m15) (by kernel_rfl) ?_
  refine H_askK (.pd (.int .i64 p0)) (m15) (by kernel_rfl) ?_
  refine H_split (decide (p0 ≥ (1 : Int))) (by kernel_rfl) (fun _ => ?_) (fun hc => by simp only [decide_eq_true_eq, decide_eq_false_iff_not, beq_iff_eq, bne_iff_ne, beq_eq_false_iff_ne, bne_eq_false_iff_eq, ne_eq] at hp1 hc; omega)
  refine H_askK (.ptr 0 0 0) (m15) (by kernel_rfl) ?_
  refine H_askK (.pd (.int .i64 p0)) (m15) (by kernel_rfl) ?_
  refine H_split (decide (p0 ≤ (3 : Int))) (by kernel_rfl) (fun _ => ?_) (fun hc => by simp only [decide_eq_true_eq, decide_eq_false_iff_not, beq_iff_eq, bne_iff_ne, beq_eq_false_iff_ne, bne_eq_false_iff_eq, ne_eq] at hp1 hc; omega)
  exact H_end .ret (.pd (.bool true)) (by kernel_rfl) rfl (by kernel_rfl) (by subst h; rfl)

theorem offcutlaw13_right_ok (m : Tp) (p0 : Int) (p1 : List (Bool × (List Int) × (List Int))) (p2 : List (Bool × (List Int) × (List Int))) (p3 : List (Bool × (List Int) × (List Int))) {r : Bool} (h : offcutlaw13_right p0 p1 p2 p3 r) : ASpec Tryz.prog (gtT m) 17 [.agg [.pd (.int .i64 p0), .pd (.sl (p1.map elABLU32LU32Z)), .pd (.sl (p2.map elABLU32LU32Z)), .pd (.sl (p3.map elABLU32LU32Z))]] (· = .pd (.bool r)) := by
  refine ASpec_tree Tryz.f17 mixedT (askG [9, 10, 11] false) (by kernel_rfl) ?_
  unfold offcutlaw13_right at h
  refine H_askK (.ptr 0 0 0) ([.cells [.pd (.int .i64 p0), .pd (.sl (p1.map elABLU32LU32Z)), .pd (.sl (p2.map elABLU32LU32Z)), .pd (.sl (p3.map elABLU32LU32Z))] 1 0 false]) (by kernel_rfl) ?_
  refine H_askK (.ptr 0 0 0) ([.cells [.pd (.int .i64 p0), .pd (.sl (p1.map elABLU32LU32Z)), .pd (.sl (p2.map elABLU32LU32Z)), .pd (.sl (p3.map elABLU32LU32Z))] 1 0 false]) (by kernel_rfl) ?_
  refine H_askK (.pd (.int .i64 p0)) ([.cells [.pd (.int .i64 p0), .pd (.sl (p1.map elABLU32LU32Z)), .pd (.sl (p2.map elABLU32LU32Z)), .pd (.sl (p3.map elABLU32LU32Z))] 1 0 false]) (by kernel_rfl) ?_
  refine H_split (p0 == (1 : Int)) (by kernel_rfl) (fun hp1 => ?_) (fun hp1 => ?_)
  · replace h := h.t hp1
    refine H_askK (.ptr 0 3 0) ([.cells [.pd (.int .i64 p0), .pd (.sl (p1.map elABLU32LU32Z)), .pd (.sl (p2.map elABLU32LU32Z)), .pd (.sl (p3.map elABLU32LU32Z))] 1 0 false]) (by kernel_rfl) ?_
    refine H_askK (.pd (.sl (p3.map elABLU32LU32Z))) ([.cells [.pd (.int .i64 p0), .pd (.sl (p1.map elABLU32LU32Z)), .pd (.sl (p2.map elABLU32LU32Z)), .pd (.sl (p3.map elABLU32LU32Z))] 1 0 false]) (by kernel_rfl) ?_
    refine H_ask _ _ (by kernel_rfl) (ask_len (P := Tryz.prog) (M := [.cells [.pd (.int .i64 p0), .pd (.sl (p1.map elABLU32LU32Z)), .pd (.sl (p2.map elABLU32LU32Z)), .pd (.sl (p3.map elABLU32LU32Z))] 1 0 false]) (t := 23) (et := 44) (el := elABLU32LU32Z) (by kernel_rfl) (e := p3)) ?_
    refine H_split ((p3.length : Int) == (0 : Int)) (by kernel_rfl) (fun hp2 => ?_) (fun hp2 => ?_)
    · replace h := h.t hp2
      exact H_end .ret (.pd (.bool true)) (by kernel_rfl) rfl (by kernel_rfl) (by subst h; rfl)
    · replace h := h.f hp2
      exact H_end .ret (.pd (.bool false)) (by kernel_rfl) rfl (by kernel_rfl) (by subst h; rfl)
  · replace h := h.f hp1
    refine H_split (p0 == (2 : Int)) (by kernel_rfl) (fun hp3 => ?_) (fun hp3 => ?_)
    · replace h := h.t hp3
      refine H_askK (.ptr 0 1 0) ([.cells [.pd (.int .i64 p0), .pd (.sl (p1.map elABLU32LU32Z)), .pd (.sl (p2.map elABLU32LU32Z)), .pd (.sl (p3.map elABLU32LU32Z))] 1 0 false]) (by kernel_rfl) ?_
      refine H_askK (.pd (.sl (p1.map elABLU32LU32Z))) ([.cells [.pd (.int .i64 p0), .pd (.sl (p1.map elABLU32LU32Z)), .pd (.sl (p2.map elABLU32LU32Z)), .pd (.sl (p3.map elABLU32LU32Z))] 1 0 false]) (by kernel_rfl) ?_
      refine H_ask _ _ (by kernel_rfl) (ask_len (P := Tryz.prog) (M := [.cells [.pd (.int .i64 p0), .pd (.sl (p1.map elABLU32LU32Z)), .pd (.sl (p2.map elABLU32LU32Z)), .pd (.sl (p3.map elABLU32LU32Z))] 1 0 false]) (t := 23) (et := 44) (el := elABLU32LU32Z) (by kernel_rfl) (e := p1)) ?_
      refine H_askK (.ptr 0 3 0) ([.cells [.pd (.int .i64 p0), .pd (.sl (p1.map elABLU32LU32Z)), .pd (.sl (p2.map elABLU32LU32Z)), .pd (.sl (p3.map elABLU32LU32Z))] 1 0 false]) (by kernel_rfl) ?_
      refine H_askK (.pd (.sl (p3.map elABLU32LU32Z))) ([.cells [.pd (.int .i64 p0), .pd (.sl (p1.map elABLU32LU32Z)), .pd (.sl (p2.map elABLU32LU32Z)), .pd (.sl (p3.map elABLU32LU32Z))] 1 0 false]) (by kernel_rfl) ?_
      refine H_ask _ _ (by kernel_rfl) (ask_len (P := Tryz.prog) (M := [.cells [.pd (.int .i64 p0), .pd (.sl (p1.map elABLU32LU32Z)), .pd (.sl (p2.map elABLU32LU32Z)), .pd (.sl (p3.map elABLU32LU32Z))] 1 0 false]) (t := 23) (et := 44) (el := elABLU32LU32Z) (by kernel_rfl) (e := p3)) ?_
      refine H_split ((IntKind.i64.wrap ((p1.length : Int) + (p3.length : Int))) == (0 : Int)) (by kernel_rfl) (fun hp4 => ?_) (fun hp4 => ?_)
      · replace h := h.t hp4
        exact H_end .ret (.pd (.bool true)) (by kernel_rfl) rfl (by kernel_rfl) (by subst h; rfl)
      · replace h := h.f hp4
        exact H_end .ret (.pd (.bool false)) (by kernel_rfl) rfl (by kernel_rfl) (by subst h; rfl)
    · replace h := h.f hp3
      refine H_split (p0 == (3 : Int)) (by kernel_rfl) (fun hp5 => ?_) (fun hp5 => ?_)
      · replace h := h.t hp5
        refine H_askK (.ptr 0 2 0) ([.cells [.pd (.int .i64 p0), .pd (.sl (p1.map elABLU32LU32Z)), .pd (.sl (p2.map elABLU32LU32Z)), .pd (.sl (p3.map elABLU32LU32Z))] 1 0 false]) (by kernel_rfl) ?_
        refine H_askK (.pd (.sl (p2.map elABLU32LU32Z))) ([.cells [.pd (.int .i64 p0), .pd (.sl (p1.map elABLU32LU32Z)), .pd (.sl (p2.map elABLU32LU32Z)), .pd (.sl (p3.map elABLU32LU32Z))] 1 0 false]) (by kernel_rfl) ?_
        refine H_ask _ _ (by kernel_rfl) (ask_len (P := Tryz.prog) (M := [.cells [.pd (.int .i64 p0), .pd (.sl (p1.map elABLU32LU32Z)), .pd (.sl (p2.map elABLU32LU32Z)), .pd (.sl (p3.map elABLU32LU32Z))] 1 0 false]) (t := 23) (et := 44) (el := elABLU32LU32Z) (by kernel_rfl) (e := p2)) ?_
        refine H_split ((p2.length : Int) == (0 : Int)) (by kernel_rfl) (fun hp6 => ?_) (fun hp6 => ?_)
        · replace h := h.t hp6
          exact H_end .ret (.pd (.bool true)) (by kernel_rfl) rfl (by kernel_rfl) (by subst h; rfl)
        · replace h := h.f hp6
          exact H_end .ret (.pd (.bool false)) (by kernel_rfl) rfl (by kernel_rfl) (by subst h; rfl)
      · replace h := h.f hp5
        exact H_end .ret (.pd (.bool false)) (by kernel_rfl) rfl (by kernel_rfl) (by subst h; rfl)

end Go.Abs
end
