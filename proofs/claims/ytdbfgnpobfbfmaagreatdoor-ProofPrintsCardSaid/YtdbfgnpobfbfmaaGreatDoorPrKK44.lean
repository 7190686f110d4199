/- Part of a proof, in few files: G13pW. -/
import Derived.Test.YtdbfgnpobfbfmaaGreatDoorPrKK30
import Derived.Test.YtdbfgnpobfbfmaaGreatDoorPrKK31
import Derived.Test.YtdbfgnpobfbfmaaGreatDoorPrKK35
import Derived.Test.YtdbfgnpobfbfmaaGreatDoorPrKK43
import Derived.Test.YtdbfgnpobfbfmaaGreatDoorPrKK37

section
/- Printed by gen.py: the functions do what these conditions say. -/
namespace Go.Abs
open Go.Proofs
set_option maxHeartbeats 4000000
set_option maxRecDepth 20000
set_option linter.unusedVariables false
set_option linter.unusedSimpArgs false
set_option linter.unnecessarySimpa false

def lvABLU32LU32Z (x : Bool × (List Int) × (List Int)) : List PD := [.bool x.1, .sl (x.2.1.map elU32), .sl (x.2.2.map elU32)]
def elABLU32LU32Z (x : Bool × (List Int) × (List Int)) : PD := .agg [.bool x.1, .sl (x.2.1.map elU32), .sl (x.2.2.map elU32)]
theorem okABLU32LU32Z : LVok lvABLU32LU32Z 3 := fun _ => ⟨rfl, rfl⟩
theorem leABLU32LU32Z : ELok elABLU32LU32Z lvABLU32LU32Z := fun _ => rfl
theorem lgABLU32LU32Z : ELg elABLU32LU32Z lvABLU32LU32Z 3 := fun _ => rfl

theorem offcutlaw05_Few_ok (m : Tp) (p0 : List (Bool × (List Int) × (List Int))) {r : Bool} (h : offcutlaw05_Few p0 r) : ASpec Tryz.prog (gtT m) 22 [.pd (.sl (p0.map elABLU32LU32Z))] (· = .pd (.bool r)) := by
  refine ASpec_tree Tryz.f22 mixedT (askG [9, 10, 11] false) (by kernel_rfl) ?_
  unfold offcutlaw05_Few at h
  refine H_loopP (F := offcutlaw05_Few_L1 p0 r) (s0 := (0 : Int)) h () 34 0
    (fun (s100 : Int) (() : Unit) => [(0, .pd (.sl (p0.map elABLU32LU32Z))), (3, .pd (.int .i64 s100))])
    (fun (s100 : Int) (() : Unit) => []) (fun (s100 : Int) (() : Unit) => True) trivial [] mixedT (askG [9, 10, 11] false)
    (by kernel_rfl) (by kernel_rfl) (by kernel_rfl) (by kernel_rfl) (by kernel_rfl) (fun _ _ => rfl) ?_
  rintro X1 s100 ⟨⟩ - h
  dsimp only [offcutlaw05_Few_L1] at h
  refine H_ask _ _ (by kernel_rfl) (ask_len (P := Tryz.prog) (M := []) (t := 23) (et := 44) (el := elABLU32LU32Z) (by kernel_rfl) (e := p0)) ?_
  refine H_split (decide (s100 < (p0.length : Int))) (by kernel_rfl) (fun hp1 => ?_) (fun hp1 => ?_)
  · replace h := h.t hp1
    refine H_split (decide (s100 ≤ (8 : Int))) (by kernel_rfl) (fun hp2 => ?_) (fun hp2 => ?_)
    · replace h := h.t hp2
      obtain ⟨x3, x4, x5, hx6, h⟩ := h
      refine H_ask _ _ (by kernel_rfl) (ask_idx (P := Tryz.prog) (M := []) (t := 23) (et := 44) (k := .i64) (lv := lvABLU32LU32Z) okABLU32LU32Z leABLU32LU32Z (by kernel_rfl) (by kernel_rfl) hx6) ?_
      refine H_askK (.rd [.bool x3, .sl (x4.map elU32), .sl (x5.map elU32)]) ([]) (by kernel_rfl) ?_
      refine H_askK (.rd [.sl (x4.map elU32), .sl (x5.map elU32)]) ([]) (by kernel_rfl) ?_
      refine H_askK (.pd (.sl (x4.map elU32))) ([]) (by kernel_rfl) ?_
      refine H_ask _ _ (by kernel_rfl) (ask_len (P := Tryz.prog) (M := []) (t := 40) (et := 179) (el := elU32) (by kernel_rfl) (e := x4)) ?_
      refine H_split (decide ((x4.length : Int) > (3 : Int))) (by kernel_rfl) (fun hp7 => ?_) (fun hp7 => ?_)
      · replace h := h.t hp7
        refine H_leaveP .ret (by kernel_rfl) rfl ?_
        exact H_end .ret (.pd (.bool false)) (by kernel_rfl) rfl (by kernel_rfl) (by subst h; rfl)
      · replace h := h.f hp7
        obtain ⟨x8, x9, x10, hx11, h⟩ := h
        refine H_ask _ _ (by kernel_rfl) (ask_idx (P := Tryz.prog) (M := []) (t := 23) (et := 44) (k := .i64) (lv := lvABLU32LU32Z) okABLU32LU32Z leABLU32LU32Z (by kernel_rfl) (by kernel_rfl) hx11) ?_
        refine H_askK (.rd [.sl (x10.map elU32)]) ([]) (by kernel_rfl) ?_
        refine H_askK (.pd (.sl (x10.map elU32))) ([]) (by kernel_rfl) ?_
        refine H_ask _ _ (by kernel_rfl) (ask_len (P := Tryz.prog) (M := []) (t := 40) (et := 179) (el := elU32) (by kernel_rfl) (e := x10)) ?_
        refine H_split (decide ((x10.length : Int) > (3 : Int))) (by kernel_rfl) (fun hp12 => ?_) (fun hp12 => ?_)
        · replace h := h.t hp12
          refine H_leaveP .ret (by kernel_rfl) rfl ?_
          exact H_end .ret (.pd (.bool false)) (by kernel_rfl) rfl (by kernel_rfl) (by subst h; rfl)
        · replace h := h.f hp12
          exact H_againP (st := _) (IntKind.i64.wrap (s100 + 1)) () h trivial (by kernel_rfl) (by kernel_rfl) (by kernel_rfl) (by kernel_rfl) (by kernel_rfl)
    · replace h := h.f hp2
      refine H_leaveP (.exit 0) (by kernel_rfl) rfl ?_
      refine H_ask _ _ (by kernel_rfl) (ask_len (P := Tryz.prog) (M := []) (t := 23) (et := 44) (el := elABLU32LU32Z) (by kernel_rfl) (e := p0)) ?_
      refine H_split (decide ((p0.length : Int) ≤ (8 : Int))) (by kernel_rfl) (fun hp13 => ?_) (fun hp13 => ?_)
      · replace h := h.t hp13
        exact H_end .ret (.pd (.bool true)) (by kernel_rfl) rfl (by kernel_rfl) (by subst h; rfl)
      · replace h := h.f hp13
        exact H_end .ret (.pd (.bool false)) (by kernel_rfl) rfl (by kernel_rfl) (by subst h; rfl)
  · replace h := h.f hp1
    refine H_leaveP (.exit 0) (by kernel_rfl) rfl ?_
    refine H_ask _ _ (by kernel_rfl) (ask_len (P := Tryz.prog) (M := []) (t := 23) (et := 44) (el := elABLU32LU32Z) (by kernel_rfl) (e := p0)) ?_
    refine H_split (decide ((p0.length : Int) ≤ (8 : Int))) (by kernel_rfl) (fun hp14 => ?_) (fun hp14 => ?_)
    · replace h := h.t hp14
      exact H_end .ret (.pd (.bool true)) (by kernel_rfl) rfl (by kernel_rfl) (by subst h; rfl)
    · replace h := h.f hp14
      exact H_end .ret (.pd (.bool false)) (by kernel_rfl) rfl (by kernel_rfl) (by subst h; rfl)

theorem offcutlaw13_Few_ok (m : Tp) (p0 : Int) (p1 : List (Bool × (List Int) × (List Int))) (p2 : List (Bool × (List Int) × (List Int))) (p3 : List (Bool × (List Int) × (List Int))) {r : Bool} (h : offcutlaw13_Few p0 p1 p2 p3 r) : ASpec Tryz.prog (gtT m) 13 [.agg [.pd (.int .i64 p0), .pd (.sl (p1.map elABLU32LU32Z)), .pd (.sl (p2.map elABLU32LU32Z)), .pd (.sl (p3.map elABLU32LU32Z))]] (· = .pd (.bool r)) := by
  refine ASpec_tree Tryz.f13 mixedT (askG [9, 10, 11] false) (by kernel_rfl) ?_
  unfold offcutlaw13_Few at h
  refine H_askK (.ptr 0 0 0) ([.cells [.pd (.int .i64 p0), .pd (.sl (p1.map elABLU32LU32Z)), .pd (.sl (p2.map elABLU32LU32Z)), .pd (.sl (p3.map elABLU32LU32Z))] 1 0 false]) (by kernel_rfl) ?_
  refine H_askK (.ptr 0 1 0) ([.cells [.pd (.int .i64 p0), .pd (.sl (p1.map elABLU32LU32Z)), .pd (.sl (p2.map elABLU32LU32Z)), .pd (.sl (p3.map elABLU32LU32Z))] 1 0 false]) (by kernel_rfl) ?_
  refine H_askK (.pd (.sl (p1.map elABLU32LU32Z))) ([.cells [.pd (.int .i64 p0), .pd (.sl (p1.map elABLU32LU32Z)), .pd (.sl (p2.map elABLU32LU32Z)), .pd (.sl (p3.map elABLU32LU32Z))] 1 0 false]) (by kernel_rfl) ?_
  obtain ⟨x1, hx2, h⟩ := h
  refine H_valW (g := 22) (args := [.pd (.sl (p1.map elABLU32LU32Z))]) (M := [.cells [.pd (.int .i64 p0), .pd (.sl (p1.map elABLU32LU32Z)), .pd (.sl (p2.map elABLU32LU32Z)), .pd (.sl (p3.map elABLU32LU32Z))] 1 0 false]) (.pd (.bool x1)) (.inl (by kernel_rfl)) (by kernel_rfl) (offcutlaw05_Few_ok m _ hx2) (by kernel_rfl) (hasT 22 (by kernel_rfl)) ?_
  cases x1
  · replace h := h.f rfl
    exact H_end .ret (.pd (.bool false)) (by kernel_rfl) rfl (by kernel_rfl) (by subst h; rfl)
  · replace h := h.t rfl
    refine H_askK (.ptr 0 2 0) ([.cells [.pd (.int .i64 p0), .pd (.sl (p1.map elABLU32LU32Z)), .pd (.sl (p2.map elABLU32LU32Z)), .pd (.sl (p3.map elABLU32LU32Z))] 1 0 false]) (by kernel_rfl) ?_
    refine H_askK (.pd (.sl (p2.map elABLU32LU32Z))) ([.cells [.pd (.int .i64 p0), .pd (.sl (p1.map elABLU32LU32Z)), .pd (.sl (p2.map elABLU32LU32Z)), .pd (.sl (p3.map elABLU32LU32Z))] 1 0 false]) (by kernel_rfl) ?_
    obtain ⟨x3, hx4, h⟩ := h
    refine H_valW (g := 22) (args := [.pd (.sl (p2.map elABLU32LU32Z))]) (M := [.cells [.pd (.int .i64 p0), .pd (.sl (p1.map elABLU32LU32Z)), .pd (.sl (p2.map elABLU32LU32Z)), .pd (.sl (p3.map elABLU32LU32Z))] 1 0 false]) (.pd (.bool x3)) (.inl (by kernel_rfl)) (by kernel_rfl) (offcutlaw05_Few_ok m _ hx4) (by kernel_rfl) (hasT 22 (by kernel_rfl)) ?_
    cases x3
    · replace h := h.f rfl
      exact H_end .ret (.pd (.bool false)) (by kernel_rfl) rfl (by kernel_rfl) (by subst h; rfl)
    · replace h := h.t rfl
      refine H_askK (.ptr 0 3 0) ([.cells [.pd (.int .i64 p0), .pd (.sl (p1.map elABLU32LU32Z)), .pd (.sl (p2.map elABLU32LU32Z)), .pd (.sl (p3.map elABLU32LU32Z))] 1 0 false]) (by kernel_rfl) ?_
      refine H_askK (.pd (.sl (p3.map elABLU32LU32Z))) ([.cells [.pd (.int .i64 p0), .pd (.sl (p1.map elABLU32LU32Z)), .pd (.sl (p2.map elABLU32LU32Z)), .pd (.sl (p3.map elABLU32LU32Z))] 1 0 false]) (by kernel_rfl) ?_
      obtain ⟨x5, hx6, h⟩ := h
      refine H_valW (g := 22) (args := [.pd (.sl (p3.map elABLU32LU32Z))]) (M := [.cells [.pd (.int .i64 p0), .pd (.sl (p1.map elABLU32LU32Z)), .pd (.sl (p2.map elABLU32LU32Z)), .pd (.sl (p3.map elABLU32LU32Z))] 1 0 false]) (.pd (.bool x5)) (.inl (by kernel_rfl)) (by kernel_rfl) (offcutlaw05_Few_ok m _ hx6) (by kernel_rfl) (hasT 22 (by kernel_rfl)) ?_
      cases x5
      · replace h := h.f rfl
        exact H_end .ret (.pd (.bool false)) (by kernel_rfl) rfl (by kernel_rfl) (by subst h; rfl)
      · replace h := h.t rfl
        exact H_end .ret (.pd (.bool true)) (by kernel_rfl) rfl (by kernel_rfl) (by subst h; rfl)

theorem proof_Right_ok (m : Tp) (p0 : Int) (p1 : List (Bool × (List Int) × (List Int))) (p2 : List (Bool × (List Int) × (List Int))) (p3 : List (Bool × (List Int) × (List Int))) {r : Bool} (h : proof_Right p0 p1 p2 p3 r) : ASpec Tryz.prog (gtT m) 16 [.agg [.pd (.int .i64 p0), .pd (.sl (p1.map elABLU32LU32Z)), .pd (.sl (p2.map elABLU32LU32Z)), .pd (.sl (p3.map elABLU32LU32Z))]] (· = .pd (.bool r)) := by
  refine ASpec_tree Tryz.f16 mixedT (askG [9, 10, 11] false) (by kernel_rfl) ?_
  unfold proof_Right at h
  let o1 : Ob := .cells [.pd (.int .i64 p0), .pd (.sl (p1.map elABLU32LU32Z)), .pd (.sl (p2.map elABLU32LU32Z)), .pd (.sl (p3.map elABLU32LU32Z))] 1 0 false
  refine H_askK (.ptr 0 0 0) ([o1]) (by kernel_rfl) ?_
  refine H_inl (g := 45) (args := [.ptr 0 0 0]) (M := [o1]) Tryz.f45 mixedT (askG [9, 10, 11] false) (by kernel_rfl) (by kernel_rfl) (hasT 45 (by kernel_rfl)) ?_
  refine H_draw (by kernel_rfl) ?_
  let o2 : Ob := .cells [.pd (.str ([] : List UInt8)), .pd (.bool false), .nilp, .pd (.str ([] : List UInt8)), .pd (.bool false), .nilp, .pd (.str ([] : List UInt8)), .pd (.bool false), .nilp] 1 0 false
  refine H_askK (.ptr 0 0 0) ([o1, o2]) (by kernel_rfl) ?_
  refine H_askK (.ptr 0 0 0) ([o1, o2]) (by kernel_rfl) ?_
  refine H_askK (.pd (.int .i64 p0)) ([o1, o2]) (by kernel_rfl) ?_
  refine H_split (p0 != (2 : Int)) (by kernel_rfl) (fun hp1 => ?_) (fun hp1 => ?_)
  · replace h := h.t hp1
    refine H_askK (.ptr 0 0 0) ([o1, o2]) (by kernel_rfl) ?_
    refine H_askK (.ptr 0 1 0) ([o1, o2]) (by kernel_rfl) ?_
    refine H_askK (.agg [.pd (.str ([120] : List UInt8)), .pd (.bool true), .ptr 0 1 0]) ([o1, o2]) (by kernel_rfl) ?_
    refine H_askK (.ptr 0 0 0) ([o1, o2]) (by kernel_rfl) ?_
    refine H_askK (.ptr 0 0 0) ([o1, o2]) (by kernel_rfl) ?_
    refine H_askK (.pd (.int .i64 p0)) ([o1, o2]) (by kernel_rfl) ?_
    refine H_split (p0 != (3 : Int)) (by kernel_rfl) (fun hp2 => ?_) (fun hp2 => ?_)
    · replace h := h.t hp2
      refine H_askK (.ptr 0 0 0) ([o1, o2]) (by kernel_rfl) ?_
      refine H_askK (.ptr 0 2 0) ([o1, o2]) (by kernel_rfl) ?_
      refine H_askK (.agg [.pd (.str ([121] : List UInt8)), .pd (.bool true), .ptr 0 2 0]) ([o1, o2]) (by kernel_rfl) ?_
      refine H_askK (.ptr 0 0 0) ([o1, o2]) (by kernel_rfl) ?_
      refine H_askK (.ptr 0 0 0) ([o1, o2]) (by kernel_rfl) ?_
      refine H_askK (.pd (.int .i64 p0)) ([o1, o2]) (by kernel_rfl) ?_
      refine H_split (p0 == (3 : Int)) (by kernel_rfl) (fun hc => by simp only [decide_eq_true_eq, decide_eq_false_iff_not, beq_iff_eq, bne_iff_ne, beq_eq_false_iff_ne, bne_eq_false_iff_eq, ne_eq] at hp2 hc; omega) (fun _ => ?_)
      refine H_askK (.ptr 0 0 0) ([o1, o2]) (by kernel_rfl) ?_
      refine H_askK (.ptr 0 3 0) ([o1, o2]) (by kernel_rfl) ?_
      refine H_askK (.agg [.pd (.str ([114, 97, 121] : List UInt8)), .pd (.bool false), .ptr 0 3 0]) ([o1, o2]) (by kernel_rfl) ?_
      refine H_askK (.agg [.pd (.str ([120] : List UInt8)), .pd (.bool true), .ptr 0 1 0, .pd (.str ([121] : List UInt8)), .pd (.bool true), .ptr 0 2 0, .pd (.str ([114, 97, 121] : List UInt8)), .pd (.bool false), .ptr 0 3 0]) ([o1, o2]) (by kernel_rfl) ?_
      let o3 : Ob := .cells [.pd (.str ([120] : List UInt8)), .pd (.bool true), .ptr 0 1 0, .pd (.str ([121] : List UInt8)), .pd (.bool true), .ptr 0 2 0, .pd (.str ([114, 97, 121] : List UInt8)), .pd (.bool false), .ptr 0 3 0] 1 0 false
      refine H_askK (.junk) ([o1, o3]) (by kernel_rfl) ?_
      refine H_endM .ret (.agg [.pd (.str ([120] : List UInt8)), .pd (.bool true), .ptr 0 1 0, .pd (.str ([121] : List UInt8)), .pd (.bool true), .ptr 0 2 0, .pd (.str ([114, 97, 121] : List UInt8)), .pd (.bool false), .ptr 0 3 0]) ([o1, o3]) (by kernel_rfl) rfl (by kernel_rfl) (by kernel_rfl) (by kernel_rfl) ?_
      refine H_unroll 4 mixedT (askG [9, 10, 11] false) (by kernel_rfl) ?_
      refine H_split true (by kernel_rfl) (fun _ => ?_) (fun hc => by cases hc)
      refine H_askK (.agg [.pd (.str ([120] : List UInt8)), .pd (.bool true), .ptr 0 1 0]) ([o1, o3]) (by kernel_rfl) ?_
      let o4 : Ob := .cells [.pd (.str ([120] : List UInt8)), .pd (.bool true), .ptr 0 1 0] 1 0 false
      refine H_askK (.junk) ([o1, o3, o4]) (by kernel_rfl) ?_
      refine H_askK (.ptr 2 1 0) ([o1, o3, o4]) (by kernel_rfl) ?_
      refine H_askK (.pd (.bool true)) ([o1, o3, o4]) (by kernel_rfl) ?_
      refine H_askK (.ptr 2 2 0) ([o1, o3, o4]) (by kernel_rfl) ?_
      refine H_askK (.ptr 0 1 0) ([o1, o3, o4]) (by kernel_rfl) ?_
      refine H_askK (.ptr 0 1 0) ([o1, o3, o4]) (by kernel_rfl) ?_
      refine H_askK (.pd (.sl (p1.map elABLU32LU32Z))) ([o1, o3, o4]) (by kernel_rfl) ?_
      refine H_ask _ _ (by kernel_rfl) (ask_len (P := Tryz.prog) (M := [o1, o3, o4]) (t := 23) (et := 44) (el := elABLU32LU32Z) (by kernel_rfl) (e := p1)) ?_
      refine H_split (decide ((p1.length : Int) > (180 : Int))) (by kernel_rfl) (fun hp3 => ?_) (fun hp3 => ?_)
      · replace h := h.t hp3
        exact H_end .ret (.pd (.bool false)) (by kernel_rfl) rfl (by kernel_rfl) (by subst h; rfl)
      replace h := h.f hp3
      refine H_split true (by kernel_rfl) (fun _ => ?_) (fun hc => by cases hc)
      refine H_askK (.agg [.pd (.str ([121] : List UInt8)), .pd (.bool true), .ptr 0 2 0]) ([o1, o3, o4]) (by kernel_rfl) ?_
      let o5 : Ob := .cells [.pd (.str ([121] : List UInt8)), .pd (.bool true), .ptr 0 2 0] 1 0 false
      refine H_askK (.junk) ([o1, o3, o4, o5]) (by kernel_rfl) ?_
      refine H_askK (.ptr 3 1 0) ([o1, o3, o4, o5]) (by kernel_rfl) ?_
      refine H_askK (.pd (.bool true)) ([o1, o3, o4, o5]) (by kernel_rfl) ?_
      refine H_askK (.ptr 3 2 0) ([o1, o3, o4, o5]) (by kernel_rfl) ?_
      refine H_askK (.ptr 0 2 0) ([o1, o3, o4, o5]) (by kernel_rfl) ?_
      refine H_askK (.ptr 0 2 0) ([o1, o3, o4, o5]) (by kernel_rfl) ?_
      refine H_askK (.pd (.sl (p2.map elABLU32LU32Z))) ([o1, o3, o4, o5]) (by kernel_rfl) ?_
      refine H_ask _ _ (by kernel_rfl) (ask_len (P := Tryz.prog) (M := [o1, o3, o4, o5]) (t := 23) (et := 44) (el := elABLU32LU32Z) (by kernel_rfl) (e := p2)) ?_
      refine H_split (decide ((p2.length : Int) > (180 : Int))) (by kernel_rfl) (fun hp4 => ?_) (fun hp4 => ?_)
      · replace h := h.t hp4
        exact H_end .ret (.pd (.bool false)) (by kernel_rfl) rfl (by kernel_rfl) (by subst h; rfl)
      replace h := h.f hp4
      refine H_split true (by kernel_rfl) (fun _ => ?_) (fun hc => by cases hc)
      refine H_askK (.agg [.pd (.str ([114, 97, 121] : List UInt8)), .pd (.bool false), .ptr 0 3 0]) ([o1, o3, o4, o5]) (by kernel_rfl) ?_
      let o6 : Ob := .cells [.pd (.str ([114, 97, 121] : List UInt8)), .pd (.bool false), .ptr 0 3 0] 1 0 false
      refine H_askK (.junk) ([o1, o3, o4, o5, o6]) (by kernel_rfl) ?_
      refine H_askK (.ptr 4 1 0) ([o1, o3, o4, o5, o6]) (by kernel_rfl) ?_
      refine H_askK (.pd (.bool false)) ([o1, o3, o4, o5, o6]) (by kernel_rfl) ?_
      refine H_askK (.ptr 4 2 0) ([o1, o3, o4, o5, o6]) (by kernel_rfl) ?_
      refine H_askK (.ptr 0 3 0) ([o1, o3, o4, o5, o6]) (by kernel_rfl) ?_
      refine H_askK (.ptr 0 3 0) ([o1, o3, o4, o5, o6]) (by kernel_rfl) ?_
      refine H_askK (.pd (.sl (p3.map elABLU32LU32Z))) ([o1, o3, o4, o5, o6]) (by kernel_rfl) ?_
      refine H_ask _ _ (by kernel_rfl) (ask_len (P := Tryz.prog) (M := [o1, o3, o4, o5, o6]) (t := 23) (et := 44) (el := elABLU32LU32Z) (by kernel_rfl) (e := p3)) ?_
      refine H_split (decide ((p3.length : Int) > (0 : Int))) (by kernel_rfl) (fun hp5 => ?_) (fun hp5 => ?_)
      · replace h := h.t hp5
        exact H_end .ret (.pd (.bool false)) (by kernel_rfl) rfl (by kernel_rfl) (by subst h; rfl)
      replace h := h.f hp5
      refine H_askK (.ptr 4 2 0) ([o1, o3, o4, o5, o6]) (by kernel_rfl) ?_
      refine H_askK (.ptr 0 3 0) ([o1, o3, o4, o5, o6]) (by kernel_rfl) ?_
      refine H_askK (.ptr 0 3 0) ([o1, o3, o4, o5, o6]) (by kernel_rfl) ?_
      refine H_askK (.pd (.sl (p3.map elABLU32LU32Z))) ([o1, o3, o4, o5, o6]) (by kernel_rfl) ?_
      refine H_ask _ _ (by kernel_rfl) (ask_len (P := Tryz.prog) (M := [o1, o3, o4, o5, o6]) (t := 23) (et := 44) (el := elABLU32LU32Z) (by kernel_rfl) (e := p3)) ?_
      refine H_split (decide ((p3.length : Int) > (180 : Int))) (by kernel_rfl) (fun hc => by simp only [decide_eq_true_eq, decide_eq_false_iff_not, beq_iff_eq, bne_iff_ne, beq_eq_false_iff_ne, bne_eq_false_iff_eq, ne_eq] at hp5 hc; omega) (fun _ => ?_)
      refine H_split false (by kernel_rfl) (fun hc => by cases hc) (fun _ => ?_)
      refine H_askK (.ptr 0 0 0) ([o1, o3, o4, o5, o6]) (by kernel_rfl) ?_
      refine H_askK (.pd (.int .i64 p0)) ([o1, o3, o4, o5, o6]) (by kernel_rfl) ?_
      refine H_split (decide (p0 ≥ (1 : Int))) (by kernel_rfl) (fun hp6 => ?_) (fun hp6 => ?_)
      · replace h := h.t hp6
        refine H_askK (.ptr 0 0 0) ([o1, o3, o4, o5, o6]) (by kernel_rfl) ?_
        refine H_askK (.pd (.int .i64 p0)) ([o1, o3, o4, o5, o6]) (by kernel_rfl) ?_
        refine H_split (decide (p0 ≤ (3 : Int))) (by kernel_rfl) (fun hp7 => ?_) (fun hp7 => ?_)
        · replace h := h.t hp7
          exact H_end .ret (.pd (.bool true)) (by kernel_rfl) rfl (by kernel_rfl) (by subst h; rfl)
        replace h := h.f hp7
        exact H_end .ret (.pd (.bool false)) (by kernel_rfl) rfl (by kernel_rfl) (by subst h; rfl)
      replace h := h.f hp6
      exact H_end .ret (.pd (.bool false)) (by kernel_rfl) rfl (by kernel_rfl) (by subst h; rfl)
    replace h := h.f hp2
    refine H_askK (.ptr 0 0 0) ([o1, o2]) (by kernel_rfl) ?_
    refine H_askK (.ptr 0 2 0) ([o1, o2]) (by kernel_rfl) ?_
    refine H_askK (.agg [.pd (.str ([121] : List UInt8)), .pd (.bool false), .ptr 0 2 0]) ([o1, o2]) (by kernel_rfl) ?_
    refine H_askK (.ptr 0 0 0) ([o1, o2]) (by kernel_rfl) ?_
    refine H_askK (.ptr 0 0 0) ([o1, o2]) (by kernel_rfl) ?_
    refine H_askK (.pd (.int .i64 p0)) ([o1, o2]) (by kernel_rfl) ?_
    refine H_split (p0 == (3 : Int)) (by kernel_rfl) (fun _ => ?_) (fun hc => by simp only [decide_eq_true_eq, decide_eq_false_iff_not, beq_iff_eq, bne_iff_ne, beq_eq_false_iff_ne, bne_eq_false_iff_eq, ne_eq] at hp2 hc; omega)
    refine H_askK (.ptr 0 0 0) ([o1, o2]) (by kernel_rfl) ?_
    refine H_askK (.ptr 0 3 0) ([o1, o2]) (by kernel_rfl) ?_
    refine H_askK (.agg [.pd (.str ([114, 97, 121] : List UInt8)), .pd (.bool true), .ptr 0 3 0]) ([o1, o2]) (by kernel_rfl) ?_
    refine H_askK (.agg [.pd (.str ([120] : List UInt8)), .pd (.bool true), .ptr 0 1 0, .pd (.str ([121] : List UInt8)), .pd (.bool false), .ptr 0 2 0, .pd (.str ([114, 97, 121] : List UInt8)), .pd (.bool true), .ptr 0 3 0]) ([o1, o2]) (by kernel_rfl) ?_
    let o7 : Ob := .cells [.pd (.str ([120] : List UInt8)), .pd (.bool true), .ptr 0 1 0, .pd (.str ([121] : List UInt8)), .pd (.bool false), .ptr 0 2 0, .pd (.str ([114, 97, 121] : List UInt8)), .pd (.bool true), .ptr 0 3 0] 1 0 false
    refine H_askK (.junk) ([o1, o7]) (by kernel_rfl) ?_
    refine H_endM .ret (.agg [.pd (.str ([120] : List UInt8)), .pd (.bool true), .ptr 0 1 0, .pd (.str ([121] : List UInt8)), .pd (.bool false), .ptr 0 2 0, .pd (.str ([114, 97, 121] : List UInt8)), .pd (.bool true), .ptr 0 3 0]) ([o1, o7]) (by kernel_rfl) rfl (by kernel_rfl) (by kernel_rfl) (by kernel_rfl) ?_
    refine H_unroll 4 mixedT (askG [9, 10, 11] false) (by kernel_rfl) ?_
    refine H_split true (by kernel_rfl) (fun _ => ?_) (fun hc => by cases hc)
    refine H_askK (.agg [.pd (.str ([120] : List UInt8)), .pd (.bool true), .ptr 0 1 0]) ([o1, o7]) (by kernel_rfl) ?_
    let o8 : Ob := .cells [.pd (.str ([120] : List UInt8)), .pd (.bool true), .ptr 0 1 0] 1 0 false
    refine H_askK (.junk) ([o1, o7, o8]) (by kernel_rfl) ?_
    refine H_askK (.ptr 2 1 0) ([o1, o7, o8]) (by kernel_rfl) ?_
    refine H_askK (.pd (.bool true)) ([o1, o7, o8]) (by kernel_rfl) ?_
    refine H_askK (.ptr 2 2 0) ([o1, o7, o8]) (by kernel_rfl) ?_
    refine H_askK (.ptr 0 1 0) ([o1, o7, o8]) (by kernel_rfl) ?_
    refine H_askK (.ptr 0 1 0) ([o1, o7, o8]) (by kernel_rfl) ?_
    refine H_askK (.pd (.sl (p1.map elABLU32LU32Z))) ([o1, o7, o8]) (by kernel_rfl) ?_
    refine H_ask _ _ (by kernel_rfl) (ask_len (P := Tryz.prog) (M := [o1, o7, o8]) (t := 23) (et := 44) (el := elABLU32LU32Z) (by kernel_rfl) (e := p1)) ?_
    refine H_split (decide ((p1.length : Int) > (180 : Int))) (by kernel_rfl) (fun hp8 => ?_) (fun hp8 => ?_)
    · replace h := h.t hp8
      exact H_end .ret (.pd (.bool false)) (by kernel_rfl) rfl (by kernel_rfl) (by subst h; rfl)
    replace h := h.f hp8
    refine H_split true (by kernel_rfl) (fun _ => ?_) (fun hc => by cases hc)
    refine H_askK (.agg [.pd (.str ([121] : List UInt8)), .pd (.bool false), .ptr 0 2 0]) ([o1, o7, o8]) (by kernel_rfl) ?_
    let o9 : Ob := .cells [.pd (.str ([121] : List UInt8)), .pd (.bool false), .ptr 0 2 0] 1 0 false
    refine H_askK (.junk) ([o1, o7, o8, o9]) (by kernel_rfl) ?_
    refine H_askK (.ptr 3 1 0) ([o1, o7, o8, o9]) (by kernel_rfl) ?_
    refine H_askK (.pd (.bool false)) ([o1, o7, o8, o9]) (by kernel_rfl) ?_
    refine H_askK (.ptr 3 2 0) ([o1, o7, o8, o9]) (by kernel_rfl) ?_
    refine H_askK (.ptr 0 2 0) ([o1, o7, o8, o9]) (by kernel_rfl) ?_
    refine H_askK (.ptr 0 2 0) ([o1, o7, o8, o9]) (by kernel_rfl) ?_
    refine H_askK (.pd (.sl (p2.map elABLU32LU32Z))) ([o1, o7, o8, o9]) (by kernel_rfl) ?_
    refine H_ask _ _ (by kernel_rfl) (ask_len (P := Tryz.prog) (M := [o1, o7, o8, o9]) (t := 23) (et := 44) (el := elABLU32LU32Z) (by kernel_rfl) (e := p2)) ?_
    refine H_split (decide ((p2.length : Int) > (0 : Int))) (by kernel_rfl) (fun hp9 => ?_) (fun hp9 => ?_)
    · replace h := h.t hp9
      exact H_end .ret (.pd (.bool false)) (by kernel_rfl) rfl (by kernel_rfl) (by subst h; rfl)
    replace h := h.f hp9
    refine H_askK (.ptr 3 2 0) ([o1, o7, o8, o9]) (by kernel_rfl) ?_
    refine H_askK (.ptr 0 2 0) ([o1, o7, o8, o9]) (by kernel_rfl) ?_
    refine H_askK (.ptr 0 2 0) ([o1, o7, o8, o9]) (by kernel_rfl) ?_
    refine H_askK (.pd (.sl (p2.map elABLU32LU32Z))) ([o1, o7, o8, o9]) (by kernel_rfl) ?_
    refine H_ask _ _ (by kernel_rfl) (ask_len (P := Tryz.prog) (M := [o1, o7, o8, o9]) (t := 23) (et := 44) (el := elABLU32LU32Z) (by kernel_rfl) (e := p2)) ?_
    refine H_split (decide ((p2.length : Int) > (180 : Int))) (by kernel_rfl) (fun hc => by simp only [decide_eq_true_eq, decide_eq_false_iff_not, beq_iff_eq, bne_iff_ne, beq_eq_false_iff_ne, bne_eq_false_iff_eq, ne_eq] at hp9 hc; omega) (fun _ => ?_)
    refine H_split true (by kernel_rfl) (fun _ => ?_) (fun hc => by cases hc)
    refine H_askK (.agg [.pd (.str ([114, 97, 121] : List UInt8)), .pd (.bool true), .ptr 0 3 0]) ([o1, o7, o8, o9]) (by kernel_rfl) ?_
    let o10 : Ob := .cells [.pd (.str ([114, 97, 121] : List UInt8)), .pd (.bool true), .ptr 0 3 0] 1 0 false
    refine H_askK (.junk) ([o1, o7, o8, o9, o10]) (by kernel_rfl) ?_
    refine H_askK (.ptr 4 1 0) ([o1, o7, o8, o9, o10]) (by kernel_rfl) ?_
    refine H_askK (.pd (.bool true)) ([o1, o7, o8, o9, o10]) (by kernel_rfl) ?_
    refine H_askK (.ptr 4 2 0) ([o1, o7, o8, o9, o10]) (by kernel_rfl) ?_
    refine H_askK (.ptr 0 3 0) ([o1, o7, o8, o9, o10]) (by kernel_rfl) ?_
    refine H_askK (.ptr 0 3 0) ([o1, o7, o8, o9, o10]) (by kernel_rfl) ?_
    refine H_askK (.pd (.sl (p3.map elABLU32LU32Z))) ([o1, o7, o8, o9, o10]) (by kernel_rfl) ?_
    refine H_ask _ _ (by kernel_rfl) (ask_len (P := Tryz.prog) (M := [o1, o7, o8, o9, o10]) (t := 23) (et := 44) (el := elABLU32LU32Z) (by kernel_rfl) (e := p3)) ?_
    refine H_split (decide ((p3.length : Int) > (180 : Int))) (by kernel_rfl) (fun hp10 => ?_) (fun hp10 => ?_)
    · replace h := h.t hp10
      exact H_end .ret (.pd (.bool false)) (by kernel_rfl) rfl (by kernel_rfl) (by subst h; rfl)
    replace h := h.f hp10
    refine H_split false (by kernel_rfl) (fun hc => by cases hc) (fun _ => ?_)
    refine H_askK (.ptr 0 0 0) ([o1, o7, o8, o9, o10]) (by kernel_rfl) ?_
    refine H_askK (.pd (.int .i64 p0)) ([o1, o7, o8, o9, o10]) (by kernel_rfl) ?_
    refine H_split (decide (p0 ≥ (1 : Int))) (by kernel_rfl) (fun _ => ?_) (fun hc => by simp only [decide_eq_true_eq, decide_eq_false_iff_not, beq_iff_eq, bne_iff_ne, beq_eq_false_iff_ne, bne_eq_false_iff_eq, ne_eq] at hp2 hc; omega)
    refine H_askK (.ptr 0 0 0) ([o1, o7, o8, o9, o10]) (by kernel_rfl) ?_
    refine H_askK (.pd (.int .i64 p0)) ([o1, o7, o8, o9, o10]) (by kernel_rfl) ?_
    refine H_split (decide (p0 ≤ (3 : Int))) (by kernel_rfl) (fun _ => ?_) (fun hc => by simp only [decide_eq_true_eq, decide_eq_false_iff_not, beq_iff_eq, bne_iff_ne, beq_eq_false_iff_ne, bne_eq_false_iff_eq, ne_eq] at hp2 hc; omega)
    exact H_end .ret (.pd (.bool true)) (by kernel_rfl) rfl (by kernel_rfl) (by subst h; rfl)
  replace h := h.f hp1
  refine H_askK (.ptr 0 0 0) ([o1, o2]) (by kernel_rfl) ?_
  refine H_askK (.ptr 0 1 0) ([o1, o2]) (by kernel_rfl) ?_
  refine H_askK (.agg [.pd (.str ([120] : List UInt8)), .pd (.bool false), .ptr 0 1 0]) ([o1, o2]) (by kernel_rfl) ?_
  refine H_askK (.ptr 0 0 0) ([o1, o2]) (by kernel_rfl) ?_
  refine H_askK (.ptr 0 0 0) ([o1, o2]) (by kernel_rfl) ?_
  refine H_askK (.pd (.int .i64 p0)) ([o1, o2]) (by kernel_rfl) ?_
  refine H_split (p0 != (3 : Int)) (by kernel_rfl) (fun _ => ?_) (fun hc => by simp only [decide_eq_true_eq, decide_eq_false_iff_not, beq_iff_eq, bne_iff_ne, beq_eq_false_iff_ne, bne_eq_false_iff_eq, ne_eq] at hp1 hc; omega)
  refine H_askK (.ptr 0 0 0) ([o1, o2]) (by kernel_rfl) ?_
  refine H_askK (.ptr 0 2 0) ([o1, o2]) (by kernel_rfl) ?_
  refine H_askK (.agg [.pd (.str ([121] : List UInt8)), .pd (.bool true), .ptr 0 2 0]) ([o1, o2]) (by kernel_rfl) ?_
  refine H_askK (.ptr 0 0 0) ([o1, o2]) (by kernel_rfl) ?_
  refine H_askK (.ptr 0 0 0) ([o1, o2]) (by kernel_rfl) ?_
  refine H_askK (.pd (.int .i64 p0)) ([o1, o2]) (by kernel_rfl) ?_
  refine H_split (p0 == (3 : Int)) (by kernel_rfl) (fun hc => by simp only [decide_eq_true_eq, decide_eq_false_iff_not, beq_iff_eq, bne_iff_ne, beq_eq_false_iff_ne, bne_eq_false_iff_eq, ne_eq] at hp1 hc; omega) (fun _ => ?_)
  refine H_askK (.ptr 0 0 0) ([o1, o2]) (by kernel_rfl) ?_
  refine H_askK (.ptr 0 3 0) ([o1, o2]) (by kernel_rfl) ?_
  refine H_askK (.agg [.pd (.str ([114, 97, 121] : List UInt8)), .pd (.bool false), .ptr 0 3 0]) ([o1, o2]) (by kernel_rfl) ?_
  refine H_askK (.agg [.pd (.str ([120] : List UInt8)), .pd (.bool false), .ptr 0 1 0, .pd (.str ([121] : List UInt8)), .pd (.bool true), .ptr 0 2 0, .pd (.str ([114, 97, 121] : List UInt8)), .pd (.bool false), .ptr 0 3 0]) ([o1, o2]) (by kernel_rfl) ?_
  let o11 : Ob := .cells [.pd (.str ([120] : List UInt8)), .pd (.bool false), .ptr 0 1 0, .pd (.str ([121] : List UInt8)), .pd (.bool true), .ptr 0 2 0, .pd (.str ([114, 97, 121] : List UInt8)), .pd (.bool false), .ptr 0 3 0] 1 0 false
  refine H_askK (.junk) ([o1, o11]) (by kernel_rfl) ?_
  refine H_endM .ret (.agg [.pd (.str ([120] : List UInt8)), .pd (.bool false), .ptr 0 1 0, .pd (.str ([121] : List UInt8)), .pd (.bool true), .ptr 0 2 0, .pd (.str ([114, 97, 121] : List UInt8)), .pd (.bool false), .ptr 0 3 0]) ([o1, o11]) (by kernel_rfl) rfl (by kernel_rfl) (by kernel_rfl) (by kernel_rfl) ?_
  refine H_unroll 4 mixedT (askG [9, 10, 11] false) (by kernel_rfl) ?_
  refine H_split true (by kernel_rfl) (fun _ => ?_) (fun hc => by cases hc)
  refine H_askK (.agg [.pd (.str ([120] : List UInt8)), .pd (.bool false), .ptr 0 1 0]) ([o1, o11]) (by kernel_rfl) ?_
  let o12 : Ob := .cells [.pd (.str ([120] : List UInt8)), .pd (.bool false), .ptr 0 1 0] 1 0 false
  refine H_askK (.junk) ([o1, o11, o12]) (by kernel_rfl) ?_
  refine H_askK (.ptr 2 1 0) ([o1, o11, o12]) (by kernel_rfl) ?_
  refine H_askK (.pd (.bool false)) ([o1, o11, o12]) (by kernel_rfl) ?_
  refine H_askK (.ptr 2 2 0) ([o1, o11, o12]) (by kernel_rfl) ?_
  refine H_askK (.ptr 0 1 0) ([o1, o11, o12]) (by kernel_rfl) ?_
  refine H_askK (.ptr 0 1 0) ([o1, o11, o12]) (by kernel_rfl) ?_
  refine H_askK (.pd (.sl (p1.map elABLU32LU32Z))) ([o1, o11, o12]) (by kernel_rfl) ?_
  refine H_ask _ _ (by kernel_rfl) (ask_len (P := Tryz.prog) (M := [o1, o11, o12]) (t := 23) (et := 44) (el := elABLU32LU32Z) (by kernel_rfl) (e := p1)) ?_
  refine H_split (decide ((p1.length : Int) > (0 : Int))) (by kernel_rfl) (fun hp11 => ?_) (fun hp11 => ?_)
  · replace h := h.t hp11
    exact H_end .ret (.pd (.bool false)) (by kernel_rfl) rfl (by kernel_rfl) (by subst h; rfl)
  replace h := h.f hp11
  refine H_askK (.ptr 2 2 0) ([o1, o11, o12]) (by kernel_rfl) ?_
  refine H_askK (.ptr 0 1 0) ([o1, o11, o12]) (by kernel_rfl) ?_
  refine H_askK (.ptr 0 1 0) ([o1, o11, o12]) (by kernel_rfl) ?_
  refine H_askK (.pd (.sl (p1.map elABLU32LU32Z))) ([o1, o11, o12]) (by kernel_rfl) ?_
  refine H_ask _ _ (by kernel_rfl) (ask_len (P := Tryz.prog) (M := [o1, o11, o12]) (t := 23) (et := 44) (el := elABLU32LU32Z) (by kernel_rfl) (e := p1)) ?_
  refine H_split (decide ((p1.length : Int) > (180 : Int))) (by kernel_rfl) (fun hc => by simp only [decide_eq_true_eq, decide_eq_false_iff_not, beq_iff_eq, bne_iff_ne, beq_eq_false_iff_ne, bne_eq_false_iff_eq, ne_eq] at hp11 hc; omega) (fun _ => ?_)
  refine H_split true (by kernel_rfl) (fun _ => ?_) (fun hc => by cases hc)
  refine H_askK (.agg [.pd (.str ([121] : List UInt8)), .pd (.bool true), .ptr 0 2 0]) ([o1, o11, o12]) (by kernel_rfl) ?_
  let o13 : Ob := .cells [.pd (.str ([121] : List UInt8)), .pd (.bool true), .ptr 0 2 0] 1 0 false
  refine H_askK (.junk) ([o1, o11, o12, o13]) (by kernel_rfl) ?_
  refine H_askK (.ptr 3 1 0) ([o1, o11, o12, o13]) (by kernel_rfl) ?_
  refine H_askK (.pd (.bool true)) ([o1, o11, o12, o13]) (by kernel_rfl) ?_
  refine H_askK (.ptr 3 2 0) ([o1, o11, o12, o13]) (by kernel_rfl) ?_
  refine H_askK (.ptr 0 2 0) ([o1, o11, o12, o13]) (by kernel_rfl) ?_
  refine H_askK (.ptr 0 2 0) ([o1, o11, o12, o13]) (by kernel_rfl) ?_
  refine H_askK (.pd (.sl (p2.map elABLU32LU32Z))) ([o1, o11, o12, o13]) (by kernel_rfl) ?_
  refine H_ask _ _ (by kernel_rfl) (ask_len (P := Tryz.prog) (M := [o1, o11, o12, o13]) (t := 23) (et := 44) (el := elABLU32LU32Z) (by kernel_rfl) (e := p2)) ?_
  refine H_split (decide ((p2.length : Int) > (180 : Int))) (by kernel_rfl) (fun hp12 => ?_) (fun hp12 => ?_)
  · replace h := h.t hp12
    exact H_end .ret (.pd (.bool false)) (by kernel_rfl) rfl (by kernel_rfl) (by subst h; rfl)
  replace h := h.f hp12
  refine H_split true (by kernel_rfl) (fun _ => ?_) (fun hc => by cases hc)
  refine H_askK (.agg [.pd (.str ([114, 97, 121] : List UInt8)), .pd (.bool false), .ptr 0 3 0]) ([o1, o11, o12, o13]) (by kernel_rfl) ?_
  let o14 : Ob := .cells [.pd (.str ([114, 97, 121] : List UInt8)), .pd (.bool false), .ptr 0 3 0] 1 0 false
  let m15 : Mem := [o1, o11, o12, o13, o14]
  refine H_askK (.junk) (m15) (by kernel_rfl) ?_
  refine H_askK (.ptr 4 1 0) (m15) (by kernel_rfl) ?_
  refine H_askK (.pd (.bool false)) (m15) (by kernel_rfl) ?_
  refine H_askK (.ptr 4 2 0) (m15) (by kernel_rfl) ?_
  refine H_askK (.ptr 0 3 0) (m15) (by kernel_rfl) ?_
  refine H_askK (.ptr 0 3 0) (m15) (by kernel_rfl) ?_
  refine H_askK (.pd (.sl (p3.map elABLU32LU32Z))) (m15) (by kernel_rfl) ?_
  refine H_ask _ _ (by kernel_rfl) (ask_len (P := Tryz.prog) (M := m15) (t := 23) (et := 44) (el := elABLU32LU32Z) (by kernel_rfl) (e := p3)) ?_
  refine H_split (decide ((p3.length : Int) > (0 : Int))) (by kernel_rfl) (fun hp13 => ?_) (fun hp13 => ?_)
  · replace h := h.t hp13
    exact H_end .ret (.pd (.bool false)) (by kernel_rfl) rfl (by kernel_rfl) (by subst h; rfl)
  replace h := h.f hp13
  refine H_askK (.ptr 4 2 0) (m15) (by kernel_rfl) ?_
  refine H_askK (.ptr 0 3 0) (m15) (by kernel_rfl) ?_
  refine H_askK (.ptr 0 3 0) (m15) (by kernel_rfl) ?_
  refine H_askK (.pd (.sl (p3.map elABLU32LU32Z))) (m15) (by kernel_rfl) ?_
  refine H_ask _ _ (by kernel_rfl) (ask_len (P := Tryz.prog) (M := m15) (t := 23) (et := 44) (el := elABLU32LU32Z) (by kernel_rfl) (e := p3)) ?_
  refine H_split (decide ((p3.length : Int) > (180 : Int))) (by kernel_rfl) (fun hc => by simp only [decide_eq_true_eq, decide_eq_false_iff_not, beq_iff_eq, bne_iff_ne, beq_eq_false_iff_ne, bne_eq_false_iff_eq, ne_eq] at hp13 hc; omega) (fun _ => ?_)
  refine H_split false (by kernel_rfl) (fun hc => by cases hc) (fun _ => ?_)
  refine H_askK (.ptr 0 0 0) (m15) (by kernel_rfl) ?_
  refine H_askK (.pd (.int .i64 p0)) (m15) (by kernel_rfl) ?_
  refine H_split (decide (p0 ≥ (1 : Int))) (by kernel_rfl) (fun _ => ?_) (fun hc => by simp only [decide_eq_true_eq, decide_eq_false_iff_not, beq_iff_eq, bne_iff_ne, beq_eq_false_iff_ne, bne_eq_false_iff_eq, ne_eq] at hp1 hc; omega)
  refine H_askK (.ptr 0 0 0) (m15) (by kernel_rfl) ?_
  refine H_askK (.pd (.int .i64 p0)) (m15) (by kernel_rfl) ?_
  refine H_split (decide (p0 ≤ (3 : Int))) (by kernel_rfl) (fun _ => ?_) (fun hc => by simp only [decide_eq_true_eq, decide_eq_false_iff_not, beq_iff_eq, bne_iff_ne, beq_eq_false_iff_ne, bne_eq_false_iff_eq, ne_eq] at hp1 hc; omega)
  exact H_end .ret (.pd (.bool true)) (by kernel_rfl) rfl (by kernel_rfl) (by subst h; rfl)

theorem offcutlaw13_right_ok (m : Tp) (p0 : Int) (p1 : List (Bool × (List Int) × (List Int))) (p2 : List (Bool × (List Int) × (List Int))) (p3 : List (Bool × (List Int) × (List Int))) {r : Bool} (h : offcutlaw13_right p0 p1 p2 p3 r) : ASpec Tryz.prog (gtT m) 17 [.agg [.pd (.int .i64 p0), .pd (.sl (p1.map elABLU32LU32Z)), .pd (.sl (p2.map elABLU32LU32Z)), .pd (.sl (p3.map elABLU32LU32Z))]] (· = .pd (.bool r)) := by
  refine ASpec_tree Tryz.f17 mixedT (askG [9, 10, 11] false) (by kernel_rfl) ?_
  unfold offcutlaw13_right at h
  refine H_askK (.ptr 0 0 0) ([.cells [.pd (.int .i64 p0), .pd (.sl (p1.map elABLU32LU32Z)), .pd (.sl (p2.map elABLU32LU32Z)), .pd (.sl (p3.map elABLU32LU32Z))] 1 0 false]) (by kernel_rfl) ?_
  refine H_askK (.ptr 0 0 0) ([.cells [.pd (.int .i64 p0), .pd (.sl (p1.map elABLU32LU32Z)), .pd (.sl (p2.map elABLU32LU32Z)), .pd (.sl (p3.map elABLU32LU32Z))] 1 0 false]) (by kernel_rfl) ?_
  refine H_askK (.pd (.int .i64 p0)) ([.cells [.pd (.int .i64 p0), .pd (.sl (p1.map elABLU32LU32Z)), .pd (.sl (p2.map elABLU32LU32Z)), .pd (.sl (p3.map elABLU32LU32Z))] 1 0 false]) (by kernel_rfl) ?_
  refine H_split (p0 == (1 : Int)) (by kernel_rfl) (fun hp1 => ?_) (fun hp1 => ?_)
  · replace h := h.t hp1
    refine H_askK (.ptr 0 3 0) ([.cells [.pd (.int .i64 p0), .pd (.sl (p1.map elABLU32LU32Z)), .pd (.sl (p2.map elABLU32LU32Z)), .pd (.sl (p3.map elABLU32LU32Z))] 1 0 false]) (by kernel_rfl) ?_
    refine H_askK (.pd (.sl (p3.map elABLU32LU32Z))) ([.cells [.pd (.int .i64 p0), .pd (.sl (p1.map elABLU32LU32Z)), .pd (.sl (p2.map elABLU32LU32Z)), .pd (.sl (p3.map elABLU32LU32Z))] 1 0 false]) (by kernel_rfl) ?_
    refine H_ask _ _ (by kernel_rfl) (ask_len (P := Tryz.prog) (M := [.cells [.pd (.int .i64 p0), .pd (.sl (p1.map elABLU32LU32Z)), .pd (.sl (p2.map elABLU32LU32Z)), .pd (.sl (p3.map elABLU32LU32Z))] 1 0 false]) (t := 23) (et := 44) (el := elABLU32LU32Z) (by kernel_rfl) (e := p3)) ?_
    refine H_split ((p3.length : Int) == (0 : Int)) (by kernel_rfl) (fun hp2 => ?_) (fun hp2 => ?_)
    · replace h := h.t hp2
      exact H_end .ret (.pd (.bool true)) (by kernel_rfl) rfl (by kernel_rfl) (by subst h; rfl)
    · replace h := h.f hp2
      exact H_end .ret (.pd (.bool false)) (by kernel_rfl) rfl (by kernel_rfl) (by subst h; rfl)
  · replace h := h.f hp1
    refine H_split (p0 == (2 : Int)) (by kernel_rfl) (fun hp3 => ?_) (fun hp3 => ?_)
    · replace h := h.t hp3
      refine H_askK (.ptr 0 1 0) ([.cells [.pd (.int .i64 p0), .pd (.sl (p1.map elABLU32LU32Z)), .pd (.sl (p2.map elABLU32LU32Z)), .pd (.sl (p3.map elABLU32LU32Z))] 1 0 false]) (by kernel_rfl) ?_
      refine H_askK (.pd (.sl (p1.map elABLU32LU32Z))) ([.cells [.pd (.int .i64 p0), .pd (.sl (p1.map elABLU32LU32Z)), .pd (.sl (p2.map elABLU32LU32Z)), .pd (.sl (p3.map elABLU32LU32Z))] 1 0 false]) (by kernel_rfl) ?_
      refine H_ask _ _ (by kernel_rfl) (ask_len (P := Tryz.prog) (M := [.cells [.pd (.int .i64 p0), .pd (.sl (p1.map elABLU32LU32Z)), .pd (.sl (p2.map elABLU32LU32Z)), .pd (.sl (p3.map elABLU32LU32Z))] 1 0 false]) (t := 23) (et := 44) (el := elABLU32LU32Z) (by kernel_rfl) (e := p1)) ?_
      refine H_askK (.ptr 0 3 0) ([.cells [.pd (.int .i64 p0), .pd (.sl (p1.map elABLU32LU32Z)), .pd (.sl (p2.map elABLU32LU32Z)), .pd (.sl (p3.map elABLU32LU32Z))] 1 0 false]) (by kernel_rfl) ?_
      refine H_askK (.pd (.sl (p3.map elABLU32LU32Z))) ([.cells [.pd (.int .i64 p0), .pd (.sl (p1.map elABLU32LU32Z)), .pd (.sl (p2.map elABLU32LU32Z)), .pd (.sl (p3.map elABLU32LU32Z))] 1 0 false]) (by kernel_rfl) ?_
      refine H_ask _ _ (by kernel_rfl) (ask_len (P := Tryz.prog) (M := [.cells [.pd (.int .i64 p0), .pd (.sl (p1.map elABLU32LU32Z)), .pd (.sl (p2.map elABLU32LU32Z)), .pd (.sl (p3.map elABLU32LU32Z))] 1 0 false]) (t := 23) (et := 44) (el := elABLU32LU32Z) (by kernel_rfl) (e := p3)) ?_
      refine H_split ((IntKind.i64.wrap ((p1.length : Int) + (p3.length : Int))) == (0 : Int)) (by kernel_rfl) (fun hp4 => ?_) (fun hp4 => ?_)
      · replace h := h.t hp4
        exact H_end .ret (.pd (.bool true)) (by kernel_rfl) rfl (by kernel_rfl) (by subst h; rfl)
      · replace h := h.f hp4
        exact H_end .ret (.pd (.bool false)) (by kernel_rfl) rfl (by kernel_rfl) (by subst h; rfl)
    · replace h := h.f hp3
      refine H_split (p0 == (3 : Int)) (by kernel_rfl) (fun hp5 => ?_) (fun hp5 => ?_)
      · replace h := h.t hp5
        refine H_askK (.ptr 0 2 0) ([.cells [.pd (.int .i64 p0), .pd (.sl (p1.map elABLU32LU32Z)), .pd (.sl (p2.map elABLU32LU32Z)), .pd (.sl (p3.map elABLU32LU32Z))] 1 0 false]) (by kernel_rfl) ?_
        refine H_askK (.pd (.sl (p2.map elABLU32LU32Z))) ([.cells [.pd (.int .i64 p0), .pd (.sl (p1.map elABLU32LU32Z)), .pd (.sl (p2.map elABLU32LU32Z)), .pd (.sl (p3.map elABLU32LU32Z))] 1 0 false]) (by kernel_rfl) ?_
        refine H_ask _ _ (by kernel_rfl) (ask_len (P := Tryz.prog) (M := [.cells [.pd (.int .i64 p0), .pd (.sl (p1.map elABLU32LU32Z)), .pd (.sl (p2.map elABLU32LU32Z)), .pd (.sl (p3.map elABLU32LU32Z))] 1 0 false]) (t := 23) (et := 44) (el := elABLU32LU32Z) (by kernel_rfl) (e := p2)) ?_
        refine H_split ((p2.length : Int) == (0 : Int)) (by kernel_rfl) (fun hp6 => ?_) (fun hp6 => ?_)
        · replace h := h.t hp6
          exact H_end .ret (.pd (.bool true)) (by kernel_rfl) rfl (by kernel_rfl) (by subst h; rfl)
        · replace h := h.f hp6
          exact H_end .ret (.pd (.bool false)) (by kernel_rfl) rfl (by kernel_rfl) (by subst h; rfl)
      · replace h := h.f hp5
        exact H_end .ret (.pd (.bool false)) (by kernel_rfl) rfl (by kernel_rfl) (by subst h; rfl)

theorem proof_words_ok (m : Tp)  {r : (List UInt8) × (List UInt8) × (List UInt8) × (List UInt8)} (h : proof_words r) : ASpec Tryz.prog (gtT m) 58 [] (· = .agg [.pd (.str r.1), .pd (.str r.2.1), .pd (.str r.2.2.1), .pd (.str r.2.2.2)]) := by
  refine ASpec_tree Tryz.f58 mixedT (askG [9, 10, 11] false) (by kernel_rfl) ?_
  unfold proof_words at h
  refine H_askK (.agg [.pd (.str ([] : List UInt8)), .pd (.str ([111, 112, 116, 105, 109, 97, 108] : List UInt8)), .pd (.str ([105, 110, 102, 101, 97, 115, 105, 98, 108, 101] : List UInt8)), .pd (.str ([117, 110, 98, 111, 117, 110, 100, 101, 100] : List UInt8))]) ([.cells [.pd (.str ([] : List UInt8)), .pd (.str ([] : List UInt8)), .pd (.str ([] : List UInt8)), .pd (.str ([] : List UInt8))] 1 0 false]) (by kernel_rfl) ?_
  refine H_askK (.junk) ([.cells [.pd (.str ([] : List UInt8)), .pd (.str ([111, 112, 116, 105, 109, 97, 108] : List UInt8)), .pd (.str ([105, 110, 102, 101, 97, 115, 105, 98, 108, 101] : List UInt8)), .pd (.str ([117, 110, 98, 111, 117, 110, 100, 101, 100] : List UInt8))] 1 0 false]) (by kernel_rfl) ?_
  exact H_end .ret (.agg [.pd (.str ([] : List UInt8)), .pd (.str ([111, 112, 116, 105, 109, 97, 108] : List UInt8)), .pd (.str ([105, 110, 102, 101, 97, 115, 105, 98, 108, 101] : List UInt8)), .pd (.str ([117, 110, 98, 111, 117, 110, 100, 101, 100] : List UInt8))]) (by kernel_rfl) rfl (by kernel_rfl) (by subst h; rfl)

theorem vec_Texts_ok (m : Tp) (p0 : List (Bool × (List Int) × (List Int))) {r : (List (List UInt8))} (h : vec_Texts p0 r) : ASpec Tryz.prog (gtT m) 60 [.pd (.sl (p0.map elABLU32LU32Z))] (· = .pd (.sl (r.map elS))) := by
  refine ASpec_tree Tryz.f60 mixedT (askG [9, 10, 11] true) (by kernel_rfl) ?_
  unfold vec_Texts at h
  refine H_ask _ _ (by kernel_rfl) (ask_len (P := Tryz.prog) (M := [rowV lvS 1 ([] : List (List UInt8)) 0 false, rowV lvS 1 ([] : List (List UInt8)) 0 false]) (t := 23) (et := 44) (el := elABLU32LU32Z) (by kernel_rfl) (e := p0)) ?_
  refine H_loopP (F := vec_Texts_L1 p0 r) (s0 := ((0 : Int), ([] : List (List UInt8)))) h (0, (([] : List (List UInt8)).length)) 19 2
    (fun ((s100, s151) : Int × (List (List UInt8))) ((v101, n101) : Nat × Nat) => [(3, .own 1 n101 v101), (6, .pd (.sl (p0.map elABLU32LU32Z))), (7, .pd (.int .i64 (p0.length : Int))), (8, .pd (.int .i64 s100))])
    (fun ((s100, s151) : Int × (List (List UInt8))) ((v101, n101) : Nat × Nat) => [rowV lvS 1 ([] : List (List UInt8)) 0 false, rowV lvS 1 s151 v101 false]) (fun ((s100, s151) : Int × (List (List UInt8))) ((v101, n101) : Nat × Nat) => n101 = s151.length) rfl [] mixedT (askG [9, 10, 11] true)
    (by kernel_rfl) (by kernel_rfl) (by kernel_rfl) (by kernel_rfl) (by kernel_rfl) (fun _ _ => rfl) ?_
  rintro X1 ⟨s100, s151⟩ ⟨v101, n101⟩ hn101 h
  dsimp only [vec_Texts_L1] at h
  refine H_split (decide (s100 < (p0.length : Int))) (by kernel_rfl) (fun hp1 => ?_) (fun hp1 => ?_)
  · replace h := h.t hp1
    obtain ⟨x2, x3, x4, hx5, h⟩ := h
    refine H_ask _ _ (by kernel_rfl) (ask_idx (P := Tryz.prog) (M := [rowV lvS 1 ([] : List (List UInt8)) 0 false, rowV lvS 1 s151 v101 false]) (t := 23) (et := 44) (k := .i64) (lv := lvABLU32LU32Z) okABLU32LU32Z leABLU32LU32Z (by kernel_rfl) (by kernel_rfl) hx5) ?_
    refine H_askK (.agg [.pd (.bool x2), .pd (.sl (x3.map elU32)), .pd (.sl (x4.map elU32))]) ([rowV lvS 1 ([] : List (List UInt8)) 0 false, rowV lvS 1 s151 v101 false]) (by kernel_rfl) ?_
    refine H_askK (.junk) ([rowV lvS 1 ([] : List (List UInt8)) 0 false, rowV lvS 1 s151 v101 false, .cells [.pd (.bool x2), .pd (.sl (x3.map elU32)), .pd (.sl (x4.map elU32))] 1 0 false]) (by kernel_rfl) ?_
    refine H_askK (.agg [.pd (.bool x2), .pd (.sl (x3.map elU32)), .pd (.sl (x4.map elU32))]) ([rowV lvS 1 ([] : List (List UInt8)) 0 false, rowV lvS 1 s151 v101 false, .cells [.pd (.bool x2), .pd (.sl (x3.map elU32)), .pd (.sl (x4.map elU32))] 1 0 false]) (by kernel_rfl) ?_
    obtain ⟨x6, hx7, h⟩ := h
    refine H_valW (g := 75) (args := [.agg [.pd (.bool x2), .pd (.sl (x3.map elU32)), .pd (.sl (x4.map elU32))]]) (M := [rowV lvS 1 ([] : List (List UInt8)) 0 false, rowV lvS 1 s151 v101 false, .cells [.pd (.bool x2), .pd (.sl (x3.map elU32)), .pd (.sl (x4.map elU32))] 1 0 false]) (.pd (.str x6)) (.inl (by kernel_rfl)) (by kernel_rfl) (rat_Text_ok m _ _ _ hx7) (by kernel_rfl) (hasT 75 (by kernel_rfl)) ?_
    obtain ⟨hx8, h⟩ := h
    refine H_ask _ _ (by kernel_rfl) (ask_appV (P := Tryz.prog) (M := [rowV lvS 1 ([] : List (List UInt8)) 0 false, rowV lvS 1 s151 v101 false, .cells [.pd (.bool x2), .pd (.sl (x3.map elU32)), .pd (.sl (x4.map elU32))] 1 0 false]) (lv := lvS) (s := 1) (b := 1) (e := s151) (e2 := [x6]) (ver := v101) (sT := 57) (xT := 57) (by_ := 16) okS (by kernel_rfl) (src_fixed (M := [rowV lvS 1 ([] : List (List UInt8)) 0 false, rowV lvS 1 s151 v101 false, .cells [.pd (.bool x2), .pd (.sl (x3.map elU32)), .pd (.sl (x4.map elU32))] 1 0 false]) okS leS) (by kernel_rfl) (n := n101) hn101 hx8) ?_
    exact H_againC (st := _) ((IntKind.i64.wrap (s100 + 1)), (s151 ++ [x6])) ((vnext s151 [x6] v101), ((s151 ++ [x6]).length)) h rfl (by kernel_rfl) (by kernel_rfl) (by kernel_rfl) (by kernel_rfl) (by kernel_rfl) (by kernel_rfl) (all_c (bel_rowV _) (all_c (bel_rowV _) all_n)) (by kernel_rfl) (by kernel_rfl)
  · replace h := h.f hp1
    refine H_leaveP (.exit 0) (by kernel_rfl) rfl ?_
    exact H_endX .ret (.own 1 n101 v101) (.pd (.sl (s151.map elS))) ([rowV lvS 1 ([] : List (List UInt8)) 0 false, rowV lvS 1 s151 v101 false]) (by kernel_rfl) rfl (by kernel_rfl) (by kernel_rfl) (pure_2to3 (pure_1to2 (pure1_own okS (by decide) lgS (M := [rowV lvS 1 ([] : List (List UInt8)) 0 false, rowV lvS 1 s151 v101 false]) (b := 1) (o := rowV lvS 1 s151 v101 false) (by kernel_rfl) (rowIs_v' (lv := lvS) (s := 1) (e := s151) (ver := v101) (z := false)) (n := n101) hn101) rfl) rfl) (by subst h; rfl)

theorem proof_Print_ok (m : Tp) (p0 : Int) (p1 : List (Bool × (List Int) × (List Int))) (p2 : List (Bool × (List Int) × (List Int))) (p3 : List (Bool × (List Int) × (List Int))) {r : (List UInt8) × Int} (h : proof_Print p0 p1 p2 p3 r) : ASpec Tryz.prog (gtT m) 25 [.agg [.pd (.int .i64 p0), .pd (.sl (p1.map elABLU32LU32Z)), .pd (.sl (p2.map elABLU32LU32Z)), .pd (.sl (p3.map elABLU32LU32Z))]] (· = .tup [.pd (.str r.1), .pd (.int .i64 r.2)]) := by
  refine ASpec_tree Tryz.f25 mixedT (askG [9, 10, 11] false) (by kernel_rfl) ?_
  unfold proof_Print at h
  let o1 : Ob := .cells [.pd (.int .i64 p0), .pd (.sl (p1.map elABLU32LU32Z)), .pd (.sl (p2.map elABLU32LU32Z)), .pd (.sl (p3.map elABLU32LU32Z))] 1 0 false
  refine H_askK (.ptr 0 0 0) ([o1]) (by kernel_rfl) ?_
  refine H_askK (.agg [.pd (.int .i64 p0), .pd (.sl (p1.map elABLU32LU32Z)), .pd (.sl (p2.map elABLU32LU32Z)), .pd (.sl (p3.map elABLU32LU32Z))]) ([o1]) (by kernel_rfl) ?_
  obtain ⟨x1, hx2, h⟩ := h
  refine H_valW (g := 16) (args := [.agg [.pd (.int .i64 p0), .pd (.sl (p1.map elABLU32LU32Z)), .pd (.sl (p2.map elABLU32LU32Z)), .pd (.sl (p3.map elABLU32LU32Z))]]) (M := [o1]) (.pd (.bool x1)) (.inl (by kernel_rfl)) (by kernel_rfl) (proof_Right_ok m _ _ _ _ hx2) (by kernel_rfl) (hasT 16 (by kernel_rfl)) ?_
  cases x1
  · replace h := h.f rfl
    exact H_end .ret (.tup [.pd (.str ([] : List UInt8)), .pd (.int .i64 1)]) (by kernel_rfl) rfl (by kernel_rfl) (by subst h; rfl)
  replace h := h.t rfl
  refine H_draw (by kernel_rfl) ?_
  obtain ⟨x3, x4, x5, x6, hx7, h⟩ := h
  refine H_valW (g := 58) (args := []) (M := [o1]) (.agg [.pd (.str x3), .pd (.str x4), .pd (.str x5), .pd (.str x6)]) (.inr (by kernel_rfl)) (by kernel_rfl) (proof_words_ok m  hx7) (by kernel_rfl) (hasT 58 (by kernel_rfl)) ?_
  refine H_askK (.ptr 0 0 0) ([o1]) (by kernel_rfl) ?_
  refine H_askK (.pd (.int .i64 p0)) ([o1]) (by kernel_rfl) ?_
  obtain ⟨x8, hx9, h⟩ := h
  refine H_ask _ _ (by kernel_rfl) (ask_aidx (P := Tryz.prog) (t := 101) (e := 9) (n := 4) (M := [o1]) (k := .i64) PD.str ([x3, x4, x5, x6] : List (List UInt8)) (by kernel_rfl) (by kernel_rfl) (by kernel_rfl) rfl hx9) ?_
  obtain ⟨hx10, h⟩ := h
  refine H_ask _ _ (by kernel_rfl) (ask_cat (P := Tryz.prog) (M := [o1]) (t := 9) hx10) ?_
  refine H_inl (g := 45) (args := [.ptr 0 0 0]) (M := [o1]) Tryz.f45 mixedT (askG [9, 10, 11] false) (by kernel_rfl) (by kernel_rfl) (hasT 45 (by kernel_rfl)) ?_
  refine H_draw (by kernel_rfl) ?_
  let o2 : Ob := .cells [.pd (.str ([] : List UInt8)), .pd (.bool false), .nilp, .pd (.str ([] : List UInt8)), .pd (.bool false), .nilp, .pd (.str ([] : List UInt8)), .pd (.bool false), .nilp] 1 0 false
  refine H_askK (.ptr 0 0 0) ([o1, o2]) (by kernel_rfl) ?_
  refine H_askK (.ptr 0 0 0) ([o1, o2]) (by kernel_rfl) ?_
  refine H_askK (.pd (.int .i64 p0)) ([o1, o2]) (by kernel_rfl) ?_
  refine H_split (p0 != (2 : Int)) (by kernel_rfl) (fun hp11 => ?_) (fun hp11 => ?_)
  · replace h := h.t hp11
    refine H_askK (.ptr 0 0 0) ([o1, o2]) (by kernel_rfl) ?_
    refine H_askK (.ptr 0 1 0) ([o1, o2]) (by kernel_rfl) ?_
    refine H_askK (.agg [.pd (.str ([120] : List UInt8)), .pd (.bool true), .ptr 0 1 0]) ([o1, o2]) (by kernel_rfl) ?_
    refine H_askK (.ptr 0 0 0) ([o1, o2]) (by kernel_rfl) ?_
    refine H_askK (.ptr 0 0 0) ([o1, o2]) (by kernel_rfl) ?_
    refine H_askK (.pd (.int .i64 p0)) ([o1, o2]) (by kernel_rfl) ?_
    refine H_split (p0 != (3 : Int)) (by kernel_rfl) (fun hp12 => ?_) (fun hp12 => ?_)
    · replace h := h.t hp12
      refine H_askK (.ptr 0 0 0) ([o1, o2]) (by kernel_rfl) ?_
      refine H_askK (.ptr 0 2 0) ([o1, o2]) (by kernel_rfl) ?_
      refine H_askK (.agg [.pd (.str ([121] : List UInt8)), .pd (.bool true), .ptr 0 2 0]) ([o1, o2]) (by kernel_rfl) ?_
      refine H_askK (.ptr 0 0 0) ([o1, o2]) (by kernel_rfl) ?_
      refine H_askK (.ptr 0 0 0) ([o1, o2]) (by kernel_rfl) ?_
      refine H_askK (.pd (.int .i64 p0)) ([o1, o2]) (by kernel_rfl) ?_
      refine H_split (p0 == (3 : Int)) (by kernel_rfl) (fun hc => by simp only [decide_eq_true_eq, decide_eq_false_iff_not, beq_iff_eq, bne_iff_ne, beq_eq_false_iff_ne, bne_eq_false_iff_eq, ne_eq] at hp12 hc; omega) (fun _ => ?_)
      refine H_askK (.ptr 0 0 0) ([o1, o2]) (by kernel_rfl) ?_
      refine H_askK (.ptr 0 3 0) ([o1, o2]) (by kernel_rfl) ?_
      refine H_askK (.agg [.pd (.str ([114, 97, 121] : List UInt8)), .pd (.bool false), .ptr 0 3 0]) ([o1, o2]) (by kernel_rfl) ?_
      refine H_askK (.agg [.pd (.str ([120] : List UInt8)), .pd (.bool true), .ptr 0 1 0, .pd (.str ([121] : List UInt8)), .pd (.bool true), .ptr 0 2 0, .pd (.str ([114, 97, 121] : List UInt8)), .pd (.bool false), .ptr 0 3 0]) ([o1, o2]) (by kernel_rfl) ?_
      let o3 : Ob := .cells [.pd (.str ([120] : List UInt8)), .pd (.bool true), .ptr 0 1 0, .pd (.str ([121] : List UInt8)), .pd (.bool true), .ptr 0 2 0, .pd (.str ([114, 97, 121] : List UInt8)), .pd (.bool false), .ptr 0 3 0] 1 0 false
      refine H_askK (.junk) ([o1, o3]) (by kernel_rfl) ?_
      refine H_endM .ret (.agg [.pd (.str ([120] : List UInt8)), .pd (.bool true), .ptr 0 1 0, .pd (.str ([121] : List UInt8)), .pd (.bool true), .ptr 0 2 0, .pd (.str ([114, 97, 121] : List UInt8)), .pd (.bool false), .ptr 0 3 0]) ([o1, o3]) (by kernel_rfl) rfl (by kernel_rfl) (by kernel_rfl) (by kernel_rfl) ?_
      refine H_unroll 4 mixedT (askG [9, 10, 11] false) (by kernel_rfl) ?_
      refine H_split true (by kernel_rfl) (fun _ => ?_) (fun hc => by cases hc)
      refine H_askK (.agg [.pd (.str ([120] : List UInt8)), .pd (.bool true), .ptr 0 1 0]) ([o1, o3]) (by kernel_rfl) ?_
      let o4 : Ob := .cells [.pd (.str ([120] : List UInt8)), .pd (.bool true), .ptr 0 1 0] 1 0 false
      refine H_askK (.junk) ([o1, o3, o4]) (by kernel_rfl) ?_
      refine H_askK (.ptr 2 1 0) ([o1, o3, o4]) (by kernel_rfl) ?_
      refine H_askK (.pd (.bool true)) ([o1, o3, o4]) (by kernel_rfl) ?_
      refine H_draw (by kernel_rfl) ?_
      refine H_askK (.ptr 2 0 0) ([o1, o3, o4]) (by kernel_rfl) ?_
      refine H_askK (.pd (.str ([120] : List UInt8))) ([o1, o3, o4]) (by kernel_rfl) ?_
      refine H_askK (.ptr 2 2 0) ([o1, o3, o4]) (by kernel_rfl) ?_
      refine H_askK (.ptr 0 1 0) ([o1, o3, o4]) (by kernel_rfl) ?_
      refine H_askK (.ptr 0 1 0) ([o1, o3, o4]) (by kernel_rfl) ?_
      refine H_askK (.pd (.sl (p1.map elABLU32LU32Z))) ([o1, o3, o4]) (by kernel_rfl) ?_
      obtain ⟨x13, hx14, h⟩ := h
      refine H_valW (g := 60) (args := [.pd (.sl (p1.map elABLU32LU32Z))]) (M := [o1, o3, o4]) (.pd (.sl (x13.map elS))) (.inr (by kernel_rfl)) (by kernel_rfl) (vec_Texts_ok m _ hx14) (by kernel_rfl) (hasT 60 (by kernel_rfl)) ?_
      cases hx15 : (x13).isEmpty
      · replace h := h.f hx15
        obtain ⟨hx32, h⟩ := h
        refine H_ask _ _ (by kernel_rfl) (ask_appF (P := Tryz.prog) (M := [o1, o3, o4]) (lv := lvS) (s := 1) (e := [([120] : List UInt8)]) (e2 := x13) (sT := 57) (xT := 57) (by_ := 16) okS leS (by kernel_rfl) (src_pd (M := [o1, o3, o4]) okS leS) (ne_of_isEmpty hx15) hx32) ?_
        obtain ⟨x33, hx34, h⟩ := h
        let o5 : Ob := .cells (rowC lvS ([([120] : List UInt8)] ++ x13)) 1 0 false
        refine H_valO (g := 59) (args := [.own 3 (([([120] : List UInt8)] ++ x13).length) 0]) (M := [o1, o3, o4, o5]) (.pd (.str x33)) (.inr (by kernel_rfl)) (pl_cons (un_own (own_pd okS (by decide) lgS (o := .cells (rowC lvS ([([120] : List UInt8)] ++ x13)) 1 0 false) (by kernel_rfl) (rowIs_c (lv := lvS) (s := 1) (e := ([([120] : List UInt8)] ++ x13)) (ver := 0) (z := false)) (n := ([([120] : List UInt8)] ++ x13).length) rfl)) pl_nil) (lines_Join_ok m _ hx34) (by kernel_rfl) rfl (hasT 59 (by kernel_rfl)) ?_
        obtain ⟨hx35, h⟩ := h
        refine H_ask _ _ (by kernel_rfl) (ask_cat (P := Tryz.prog) (M := [o1, o3, o4, o5]) (t := 9) hx35) ?_
        obtain ⟨hx36, h⟩ := h
        refine H_ask _ _ (by kernel_rfl) (ask_cat (P := Tryz.prog) (M := [o1, o3, o4, o5]) (t := 9) hx36) ?_
        refine H_split true (by kernel_rfl) (fun _ => ?_) (fun hc => by cases hc)
        refine H_askK (.agg [.pd (.str ([121] : List UInt8)), .pd (.bool true), .ptr 0 2 0]) ([o1, o3, o4, o5]) (by kernel_rfl) ?_
        let o6 : Ob := .cells [.pd (.str ([121] : List UInt8)), .pd (.bool true), .ptr 0 2 0] 1 0 false
        refine H_askK (.junk) ([o1, o3, o4, o5, o6]) (by kernel_rfl) ?_
        refine H_askK (.ptr 4 1 0) ([o1, o3, o4, o5, o6]) (by kernel_rfl) ?_
        refine H_askK (.pd (.bool true)) ([o1, o3, o4, o5, o6]) (by kernel_rfl) ?_
        refine H_draw (by kernel_rfl) ?_
        refine H_askK (.ptr 4 0 0) ([o1, o3, o4, o5, o6]) (by kernel_rfl) ?_
        refine H_askK (.pd (.str ([121] : List UInt8))) ([o1, o3, o4, o5, o6]) (by kernel_rfl) ?_
        refine H_askK (.ptr 4 2 0) ([o1, o3, o4, o5, o6]) (by kernel_rfl) ?_
        refine H_askK (.ptr 0 2 0) ([o1, o3, o4, o5, o6]) (by kernel_rfl) ?_
        refine H_askK (.ptr 0 2 0) ([o1, o3, o4, o5, o6]) (by kernel_rfl) ?_
        refine H_askK (.pd (.sl (p2.map elABLU32LU32Z))) ([o1, o3, o4, o5, o6]) (by kernel_rfl) ?_
        obtain ⟨x37, hx38, h⟩ := h
        refine H_valW (g := 60) (args := [.pd (.sl (p2.map elABLU32LU32Z))]) (M := [o1, o3, o4, o5, o6]) (.pd (.sl (x37.map elS))) (.inr (by kernel_rfl)) (by kernel_rfl) (vec_Texts_ok m _ hx38) (by kernel_rfl) (hasT 60 (by kernel_rfl)) ?_
        cases hx39 : (x37).isEmpty
        · replace h := h.f hx39
          obtain ⟨hx44, h⟩ := h
          refine H_ask _ _ (by kernel_rfl) (ask_appF (P := Tryz.prog) (M := [o1, o3, o4, o5, o6]) (lv := lvS) (s := 1) (e := [([121] : List UInt8)]) (e2 := x37) (sT := 57) (xT := 57) (by_ := 16) okS leS (by kernel_rfl) (src_pd (M := [o1, o3, o4, o5, o6]) okS leS) (ne_of_isEmpty hx39) hx44) ?_
          obtain ⟨x45, hx46, h⟩ := h
          let o7 : Ob := .cells (rowC lvS ([([121] : List UInt8)] ++ x37)) 1 0 false
          let m8 : Mem := [o1, o3, o4, o5, o6, o7]
          refine H_valO (g := 59) (args := [.own 5 (([([121] : List UInt8)] ++ x37).length) 0]) (M := m8) (.pd (.str x45)) (.inr (by kernel_rfl)) (pl_cons (un_own (own_pd okS (by decide) lgS (o := .cells (rowC lvS ([([121] : List UInt8)] ++ x37)) 1 0 false) (by kernel_rfl) (rowIs_c (lv := lvS) (s := 1) (e := ([([121] : List UInt8)] ++ x37)) (ver := 0) (z := false)) (n := ([([121] : List UInt8)] ++ x37).length) rfl)) pl_nil) (lines_Join_ok m _ hx46) (by kernel_rfl) rfl (hasT 59 (by kernel_rfl)) ?_
          obtain ⟨hx47, h⟩ := h
          refine H_ask _ _ (by kernel_rfl) (ask_cat (P := Tryz.prog) (M := m8) (t := 9) hx47) ?_
          obtain ⟨hx48, h⟩ := h
          refine H_ask _ _ (by kernel_rfl) (ask_cat (P := Tryz.prog) (M := m8) (t := 9) hx48) ?_
          refine H_split true (by kernel_rfl) (fun _ => ?_) (fun hc => by cases hc)
          refine H_askK (.agg [.pd (.str ([114, 97, 121] : List UInt8)), .pd (.bool false), .ptr 0 3 0]) (m8) (by kernel_rfl) ?_
          let o9 : Ob := .cells [.pd (.str ([114, 97, 121] : List UInt8)), .pd (.bool false), .ptr 0 3 0] 1 0 false
          let m10 : Mem := [o1, o3, o4, o5, o6, o7, o9]
          refine H_askK (.junk) (m10) (by kernel_rfl) ?_
          refine H_askK (.ptr 6 1 0) (m10) (by kernel_rfl) ?_
          refine H_askK (.pd (.bool false)) (m10) (by kernel_rfl) ?_
          refine H_split false (by kernel_rfl) (fun hc => by cases hc) (fun _ => ?_)
          exact H_end .ret (.tup [.pd (.str (((x8 ++ ([10] : List UInt8)) ++ (x33 ++ ([10] : List UInt8))) ++ (x45 ++ ([10] : List UInt8)))), .pd (.int .i64 0)]) (by kernel_rfl) rfl (by kernel_rfl) (by subst h; rfl)
        replace h := h.t hx39
        refine H_ask _ _ (by kernel_rfl) (ask_app0 (P := Tryz.prog) (M := [o1, o3, o4, o5, o6]) (lv := lvS) (s := 1) (e := [([121] : List UInt8)]) (e2 := x37) (sT := 57) (xT := 57) (by_ := 16) okS leS (by kernel_rfl) (src_pd (M := [o1, o3, o4, o5, o6]) okS leS) hx39) ?_
        obtain ⟨x40, hx41, h⟩ := h
        refine H_valW (g := 59) (args := [.fixed ([([121] : List UInt8)].map elS)]) (M := [o1, o3, o4, o5, o6]) (.pd (.str x40)) (.inr (by kernel_rfl)) (by kernel_rfl) (lines_Join_ok m _ hx41) (by kernel_rfl) (hasT 59 (by kernel_rfl)) ?_
        obtain ⟨hx42, h⟩ := h
        refine H_ask _ _ (by kernel_rfl) (ask_cat (P := Tryz.prog) (M := [o1, o3, o4, o5, o6]) (t := 9) hx42) ?_
        obtain ⟨hx43, h⟩ := h
        refine H_ask _ _ (by kernel_rfl) (ask_cat (P := Tryz.prog) (M := [o1, o3, o4, o5, o6]) (t := 9) hx43) ?_
        refine H_split true (by kernel_rfl) (fun _ => ?_) (fun hc => by cases hc)
        refine H_askK (.agg [.pd (.str ([114, 97, 121] : List UInt8)), .pd (.bool false), .ptr 0 3 0]) ([o1, o3, o4, o5, o6]) (by kernel_rfl) ?_
        let o11 : Ob := .cells [.pd (.str ([114, 97, 121] : List UInt8)), .pd (.bool false), .ptr 0 3 0] 1 0 false
        let m12 : Mem := [o1, o3, o4, o5, o6, o11]
        refine H_askK (.junk) (m12) (by kernel_rfl) ?_
        refine H_askK (.ptr 5 1 0) (m12) (by kernel_rfl) ?_
        refine H_askK (.pd (.bool false)) (m12) (by kernel_rfl) ?_
        refine H_split false (by kernel_rfl) (fun hc => by cases hc) (fun _ => ?_)
        exact H_end .ret (.tup [.pd (.str (((x8 ++ ([10] : List UInt8)) ++ (x33 ++ ([10] : List UInt8))) ++ (x40 ++ ([10] : List UInt8)))), .pd (.int .i64 0)]) (by kernel_rfl) rfl (by kernel_rfl) (by subst h; rfl)
      replace h := h.t hx15
      refine H_ask _ _ (by kernel_rfl) (ask_app0 (P := Tryz.prog) (M := [o1, o3, o4]) (lv := lvS) (s := 1) (e := [([120] : List UInt8)]) (e2 := x13) (sT := 57) (xT := 57) (by_ := 16) okS leS (by kernel_rfl) (src_pd (M := [o1, o3, o4]) okS leS) hx15) ?_
      obtain ⟨x16, hx17, h⟩ := h
      refine H_valW (g := 59) (args := [.fixed ([([120] : List UInt8)].map elS)]) (M := [o1, o3, o4]) (.pd (.str x16)) (.inr (by kernel_rfl)) (by kernel_rfl) (lines_Join_ok m _ hx17) (by kernel_rfl) (hasT 59 (by kernel_rfl)) ?_
      obtain ⟨hx18, h⟩ := h
      refine H_ask _ _ (by kernel_rfl) (ask_cat (P := Tryz.prog) (M := [o1, o3, o4]) (t := 9) hx18) ?_
      obtain ⟨hx19, h⟩ := h
      refine H_ask _ _ (by kernel_rfl) (ask_cat (P := Tryz.prog) (M := [o1, o3, o4]) (t := 9) hx19) ?_
      refine H_split true (by kernel_rfl) (fun _ => ?_) (fun hc => by cases hc)
      refine H_askK (.agg [.pd (.str ([121] : List UInt8)), .pd (.bool true), .ptr 0 2 0]) ([o1, o3, o4]) (by kernel_rfl) ?_
      let o13 : Ob := .cells [.pd (.str ([121] : List UInt8)), .pd (.bool true), .ptr 0 2 0] 1 0 false
      refine H_askK (.junk) ([o1, o3, o4, o13]) (by kernel_rfl) ?_
      refine H_askK (.ptr 3 1 0) ([o1, o3, o4, o13]) (by kernel_rfl) ?_
      refine H_askK (.pd (.bool true)) ([o1, o3, o4, o13]) (by kernel_rfl) ?_
      refine H_draw (by kernel_rfl) ?_
      refine H_askK (.ptr 3 0 0) ([o1, o3, o4, o13]) (by kernel_rfl) ?_
      refine H_askK (.pd (.str ([121] : List UInt8))) ([o1, o3, o4, o13]) (by kernel_rfl) ?_
      refine H_askK (.ptr 3 2 0) ([o1, o3, o4, o13]) (by kernel_rfl) ?_
      refine H_askK (.ptr 0 2 0) ([o1, o3, o4, o13]) (by kernel_rfl) ?_
      refine H_askK (.ptr 0 2 0) ([o1, o3, o4, o13]) (by kernel_rfl) ?_
      refine H_askK (.pd (.sl (p2.map elABLU32LU32Z))) ([o1, o3, o4, o13]) (by kernel_rfl) ?_
      obtain ⟨x20, hx21, h⟩ := h
      refine H_valW (g := 60) (args := [.pd (.sl (p2.map elABLU32LU32Z))]) (M := [o1, o3, o4, o13]) (.pd (.sl (x20.map elS))) (.inr (by kernel_rfl)) (by kernel_rfl) (vec_Texts_ok m _ hx21) (by kernel_rfl) (hasT 60 (by kernel_rfl)) ?_
      cases hx22 : (x20).isEmpty
      · replace h := h.f hx22
        obtain ⟨hx27, h⟩ := h
        refine H_ask _ _ (by kernel_rfl) (ask_appF (P := Tryz.prog) (M := [o1, o3, o4, o13]) (lv := lvS) (s := 1) (e := [([121] : List UInt8)]) (e2 := x20) (sT := 57) (xT := 57) (by_ := 16) okS leS (by kernel_rfl) (src_pd (M := [o1, o3, o4, o13]) okS leS) (ne_of_isEmpty hx22) hx27) ?_
        obtain ⟨x28, hx29, h⟩ := h
        let o14 : Ob := .cells (rowC lvS ([([121] : List UInt8)] ++ x20)) 1 0 false
        refine H_valO (g := 59) (args := [.own 4 (([([121] : List UInt8)] ++ x20).length) 0]) (M := [o1, o3, o4, o13, o14]) (.pd (.str x28)) (.inr (by kernel_rfl)) (pl_cons (un_own (own_pd okS (by decide) lgS (o := .cells (rowC lvS ([([121] : List UInt8)] ++ x20)) 1 0 false) (by kernel_rfl) (rowIs_c (lv := lvS) (s := 1) (e := ([([121] : List UInt8)] ++ x20)) (ver := 0) (z := false)) (n := ([([121] : List UInt8)] ++ x20).length) rfl)) pl_nil) (lines_Join_ok m _ hx29) (by kernel_rfl) rfl (hasT 59 (by kernel_rfl)) ?_
        obtain ⟨hx30, h⟩ := h
        refine H_ask _ _ (by kernel_rfl) (ask_cat (P := Tryz.prog) (M := [o1, o3, o4, o13, o14]) (t := 9) hx30) ?_
        obtain ⟨hx31, h⟩ := h
        refine H_ask _ _ (by kernel_rfl) (ask_cat (P := Tryz.prog) (M := [o1, o3, o4, o13, o14]) (t := 9) hx31) ?_
        refine H_split true (by kernel_rfl) (fun _ => ?_) (fun hc => by cases hc)
        refine H_askK (.agg [.pd (.str ([114, 97, 121] : List UInt8)), .pd (.bool false), .ptr 0 3 0]) ([o1, o3, o4, o13, o14]) (by kernel_rfl) ?_
        let o15 : Ob := .cells [.pd (.str ([114, 97, 121] : List UInt8)), .pd (.bool false), .ptr 0 3 0] 1 0 false
        let m16 : Mem := [o1, o3, o4, o13, o14, o15]
        refine H_askK (.junk) (m16) (by kernel_rfl) ?_
        refine H_askK (.ptr 5 1 0) (m16) (by kernel_rfl) ?_
        refine H_askK (.pd (.bool false)) (m16) (by kernel_rfl) ?_
        refine H_split false (by kernel_rfl) (fun hc => by cases hc) (fun _ => ?_)
        exact H_end .ret (.tup [.pd (.str (((x8 ++ ([10] : List UInt8)) ++ (x16 ++ ([10] : List UInt8))) ++ (x28 ++ ([10] : List UInt8)))), .pd (.int .i64 0)]) (by kernel_rfl) rfl (by kernel_rfl) (by subst h; rfl)
      replace h := h.t hx22
      refine H_ask _ _ (by kernel_rfl) (ask_app0 (P := Tryz.prog) (M := [o1, o3, o4, o13]) (lv := lvS) (s := 1) (e := [([121] : List UInt8)]) (e2 := x20) (sT := 57) (xT := 57) (by_ := 16) okS leS (by kernel_rfl) (src_pd (M := [o1, o3, o4, o13]) okS leS) hx22) ?_
      obtain ⟨x23, hx24, h⟩ := h
      refine H_valW (g := 59) (args := [.fixed ([([121] : List UInt8)].map elS)]) (M := [o1, o3, o4, o13]) (.pd (.str x23)) (.inr (by kernel_rfl)) (by kernel_rfl) (lines_Join_ok m _ hx24) (by kernel_rfl) (hasT 59 (by kernel_rfl)) ?_
      obtain ⟨hx25, h⟩ := h
      refine H_ask _ _ (by kernel_rfl) (ask_cat (P := Tryz.prog) (M := [o1, o3, o4, o13]) (t := 9) hx25) ?_
      obtain ⟨hx26, h⟩ := h
      refine H_ask _ _ (by kernel_rfl) (ask_cat (P := Tryz.prog) (M := [o1, o3, o4, o13]) (t := 9) hx26) ?_
      refine H_split true (by kernel_rfl) (fun _ => ?_) (fun hc => by cases hc)
      refine H_askK (.agg [.pd (.str ([114, 97, 121] : List UInt8)), .pd (.bool false), .ptr 0 3 0]) ([o1, o3, o4, o13]) (by kernel_rfl) ?_
      let o17 : Ob := .cells [.pd (.str ([114, 97, 121] : List UInt8)), .pd (.bool false), .ptr 0 3 0] 1 0 false
      refine H_askK (.junk) ([o1, o3, o4, o13, o17]) (by kernel_rfl) ?_
      refine H_askK (.ptr 4 1 0) ([o1, o3, o4, o13, o17]) (by kernel_rfl) ?_
      refine H_askK (.pd (.bool false)) ([o1, o3, o4, o13, o17]) (by kernel_rfl) ?_
      refine H_split false (by kernel_rfl) (fun hc => by cases hc) (fun _ => ?_)
      exact H_end .ret (.tup [.pd (.str (((x8 ++ ([10] : List UInt8)) ++ (x16 ++ ([10] : List UInt8))) ++ (x23 ++ ([10] : List UInt8)))), .pd (.int .i64 0)]) (by kernel_rfl) rfl (by kernel_rfl) (by subst h; rfl)
    replace h := h.f hp12
    refine H_askK (.ptr 0 0 0) ([o1, o2]) (by kernel_rfl) ?_
    refine H_askK (.ptr 0 2 0) ([o1, o2]) (by kernel_rfl) ?_
    refine H_askK (.agg [.pd (.str ([121] : List UInt8)), .pd (.bool false), .ptr 0 2 0]) ([o1, o2]) (by kernel_rfl) ?_
    refine H_askK (.ptr 0 0 0) ([o1, o2]) (by kernel_rfl) ?_
    refine H_askK (.ptr 0 0 0) ([o1, o2]) (by kernel_rfl) ?_
    refine H_askK (.pd (.int .i64 p0)) ([o1, o2]) (by kernel_rfl) ?_
    refine H_split (p0 == (3 : Int)) (by kernel_rfl) (fun _ => ?_) (fun hc => by simp only [decide_eq_true_eq, decide_eq_false_iff_not, beq_iff_eq, bne_iff_ne, beq_eq_false_iff_ne, bne_eq_false_iff_eq, ne_eq] at hp12 hc; omega)
    refine H_askK (.ptr 0 0 0) ([o1, o2]) (by kernel_rfl) ?_
    refine H_askK (.ptr 0 3 0) ([o1, o2]) (by kernel_rfl) ?_
    refine H_askK (.agg [.pd (.str ([114, 97, 121] : List UInt8)), .pd (.bool true), .ptr 0 3 0]) ([o1, o2]) (by kernel_rfl) ?_
    refine H_askK (.agg [.pd (.str ([120] : List UInt8)), .pd (.bool true), .ptr 0 1 0, .pd (.str ([121] : List UInt8)), .pd (.bool false), .ptr 0 2 0, .pd (.str ([114, 97, 121] : List UInt8)), .pd (.bool true), .ptr 0 3 0]) ([o1, o2]) (by kernel_rfl) ?_
    let o18 : Ob := .cells [.pd (.str ([120] : List UInt8)), .pd (.bool true), .ptr 0 1 0, .pd (.str ([121] : List UInt8)), .pd (.bool false), .ptr 0 2 0, .pd (.str ([114, 97, 121] : List UInt8)), .pd (.bool true), .ptr 0 3 0] 1 0 false
    refine H_askK (.junk) ([o1, o18]) (by kernel_rfl) ?_
    refine H_endM .ret (.agg [.pd (.str ([120] : List UInt8)), .pd (.bool true), .ptr 0 1 0, .pd (.str ([121] : List UInt8)), .pd (.bool false), .ptr 0 2 0, .pd (.str ([114, 97, 121] : List UInt8)), .pd (.bool true), .ptr 0 3 0]) ([o1, o18]) (by kernel_rfl) rfl (by kernel_rfl) (by kernel_rfl) (by kernel_rfl) ?_
    refine H_unroll 4 mixedT (askG [9, 10, 11] false) (by kernel_rfl) ?_
    refine H_split true (by kernel_rfl) (fun _ => ?_) (fun hc => by cases hc)
    refine H_askK (.agg [.pd (.str ([120] : List UInt8)), .pd (.bool true), .ptr 0 1 0]) ([o1, o18]) (by kernel_rfl) ?_
    let o19 : Ob := .cells [.pd (.str ([120] : List UInt8)), .pd (.bool true), .ptr 0 1 0] 1 0 false
    refine H_askK (.junk) ([o1, o18, o19]) (by kernel_rfl) ?_
    refine H_askK (.ptr 2 1 0) ([o1, o18, o19]) (by kernel_rfl) ?_
    refine H_askK (.pd (.bool true)) ([o1, o18, o19]) (by kernel_rfl) ?_
    refine H_draw (by kernel_rfl) ?_
    refine H_askK (.ptr 2 0 0) ([o1, o18, o19]) (by kernel_rfl) ?_
    refine H_askK (.pd (.str ([120] : List UInt8))) ([o1, o18, o19]) (by kernel_rfl) ?_
    refine H_askK (.ptr 2 2 0) ([o1, o18, o19]) (by kernel_rfl) ?_
    refine H_askK (.ptr 0 1 0) ([o1, o18, o19]) (by kernel_rfl) ?_
    refine H_askK (.ptr 0 1 0) ([o1, o18, o19]) (by kernel_rfl) ?_
    refine H_askK (.pd (.sl (p1.map elABLU32LU32Z))) ([o1, o18, o19]) (by kernel_rfl) ?_
    obtain ⟨x49, hx50, h⟩ := h
    refine H_valW (g := 60) (args := [.pd (.sl (p1.map elABLU32LU32Z))]) (M := [o1, o18, o19]) (.pd (.sl (x49.map elS))) (.inr (by kernel_rfl)) (by kernel_rfl) (vec_Texts_ok m _ hx50) (by kernel_rfl) (hasT 60 (by kernel_rfl)) ?_
    cases hx51 : (x49).isEmpty
    · replace h := h.f hx51
      obtain ⟨hx68, h⟩ := h
      refine H_ask _ _ (by kernel_rfl) (ask_appF (P := Tryz.prog) (M := [o1, o18, o19]) (lv := lvS) (s := 1) (e := [([120] : List UInt8)]) (e2 := x49) (sT := 57) (xT := 57) (by_ := 16) okS leS (by kernel_rfl) (src_pd (M := [o1, o18, o19]) okS leS) (ne_of_isEmpty hx51) hx68) ?_
      obtain ⟨x69, hx70, h⟩ := h
      let o20 : Ob := .cells (rowC lvS ([([120] : List UInt8)] ++ x49)) 1 0 false
      refine H_valO (g := 59) (args := [.own 3 (([([120] : List UInt8)] ++ x49).length) 0]) (M := [o1, o18, o19, o20]) (.pd (.str x69)) (.inr (by kernel_rfl)) (pl_cons (un_own (own_pd okS (by decide) lgS (o := .cells (rowC lvS ([([120] : List UInt8)] ++ x49)) 1 0 false) (by kernel_rfl) (rowIs_c (lv := lvS) (s := 1) (e := ([([120] : List UInt8)] ++ x49)) (ver := 0) (z := false)) (n := ([([120] : List UInt8)] ++ x49).length) rfl)) pl_nil) (lines_Join_ok m _ hx70) (by kernel_rfl) rfl (hasT 59 (by kernel_rfl)) ?_
      obtain ⟨hx71, h⟩ := h
      refine H_ask _ _ (by kernel_rfl) (ask_cat (P := Tryz.prog) (M := [o1, o18, o19, o20]) (t := 9) hx71) ?_
      obtain ⟨hx72, h⟩ := h
      refine H_ask _ _ (by kernel_rfl) (ask_cat (P := Tryz.prog) (M := [o1, o18, o19, o20]) (t := 9) hx72) ?_
      refine H_split true (by kernel_rfl) (fun _ => ?_) (fun hc => by cases hc)
      refine H_askK (.agg [.pd (.str ([121] : List UInt8)), .pd (.bool false), .ptr 0 2 0]) ([o1, o18, o19, o20]) (by kernel_rfl) ?_
      let o21 : Ob := .cells [.pd (.str ([121] : List UInt8)), .pd (.bool false), .ptr 0 2 0] 1 0 false
      let m22 : Mem := [o1, o18, o19, o20, o21]
      refine H_askK (.junk) (m22) (by kernel_rfl) ?_
      refine H_askK (.ptr 4 1 0) (m22) (by kernel_rfl) ?_
      refine H_askK (.pd (.bool false)) (m22) (by kernel_rfl) ?_
      refine H_split true (by kernel_rfl) (fun _ => ?_) (fun hc => by cases hc)
      refine H_askK (.agg [.pd (.str ([114, 97, 121] : List UInt8)), .pd (.bool true), .ptr 0 3 0]) (m22) (by kernel_rfl) ?_
      let o23 : Ob := .cells [.pd (.str ([114, 97, 121] : List UInt8)), .pd (.bool true), .ptr 0 3 0] 1 0 false
      let m24 : Mem := [o1, o18, o19, o20, o21, o23]
      refine H_askK (.junk) (m24) (by kernel_rfl) ?_
      refine H_askK (.ptr 5 1 0) (m24) (by kernel_rfl) ?_
      refine H_askK (.pd (.bool true)) (m24) (by kernel_rfl) ?_
      refine H_draw (by kernel_rfl) ?_
      refine H_askK (.ptr 5 0 0) (m24) (by kernel_rfl) ?_
      refine H_askK (.pd (.str ([114, 97, 121] : List UInt8))) (m24) (by kernel_rfl) ?_
      refine H_askK (.ptr 5 2 0) (m24) (by kernel_rfl) ?_
      refine H_askK (.ptr 0 3 0) (m24) (by kernel_rfl) ?_
      refine H_askK (.ptr 0 3 0) (m24) (by kernel_rfl) ?_
      refine H_askK (.pd (.sl (p3.map elABLU32LU32Z))) (m24) (by kernel_rfl) ?_
      obtain ⟨x73, hx74, h⟩ := h
      refine H_valW (g := 60) (args := [.pd (.sl (p3.map elABLU32LU32Z))]) (M := m24) (.pd (.sl (x73.map elS))) (.inr (by kernel_rfl)) (by kernel_rfl) (vec_Texts_ok m _ hx74) (by kernel_rfl) (hasT 60 (by kernel_rfl)) ?_
      cases hx75 : (x73).isEmpty
      · replace h := h.f hx75
        obtain ⟨hx80, h⟩ := h
        refine H_ask _ _ (by kernel_rfl) (ask_appF (P := Tryz.prog) (M := m24) (lv := lvS) (s := 1) (e := [([114, 97, 121] : List UInt8)]) (e2 := x73) (sT := 57) (xT := 57) (by_ := 16) okS leS (by kernel_rfl) (src_pd (M := m24) okS leS) (ne_of_isEmpty hx75) hx80) ?_
        obtain ⟨x81, hx82, h⟩ := h
        let o25 : Ob := .cells (rowC lvS ([([114, 97, 121] : List UInt8)] ++ x73)) 1 0 false
        let m26 : Mem := [o1, o18, o19, o20, o21, o23, o25]
        refine H_valO (g := 59) (args := [.own 6 (([([114, 97, 121] : List UInt8)] ++ x73).length) 0]) (M := m26) (.pd (.str x81)) (.inr (by kernel_rfl)) (pl_cons (un_own (own_pd okS (by decide) lgS (o := .cells (rowC lvS ([([114, 97, 121] : List UInt8)] ++ x73)) 1 0 false) (by kernel_rfl) (rowIs_c (lv := lvS) (s := 1) (e := ([([114, 97, 121] : List UInt8)] ++ x73)) (ver := 0) (z := false)) (n := ([([114, 97, 121] : List UInt8)] ++ x73).length) rfl)) pl_nil) (lines_Join_ok m _ hx82) (by kernel_rfl) rfl (hasT 59 (by kernel_rfl)) ?_
        obtain ⟨hx83, h⟩ := h
        refine H_ask _ _ (by kernel_rfl) (ask_cat (P := Tryz.prog) (M := m26) (t := 9) hx83) ?_
        obtain ⟨hx84, h⟩ := h
        refine H_ask _ _ (by kernel_rfl) (ask_cat (P := Tryz.prog) (M := m26) (t := 9) hx84) ?_
        refine H_split false (by kernel_rfl) (fun hc => by cases hc) (fun _ => ?_)
        exact H_end .ret (.tup [.pd (.str (((x8 ++ ([10] : List UInt8)) ++ (x69 ++ ([10] : List UInt8))) ++ (x81 ++ ([10] : List UInt8)))), .pd (.int .i64 0)]) (by kernel_rfl) rfl (by kernel_rfl) (by subst h; rfl)
      replace h := h.t hx75
      refine H_ask _ _ (by kernel_rfl) (ask_app0 (P := Tryz.prog) (M := m24) (lv := lvS) (s := 1) (e := [([114, 97, 121] : List UInt8)]) (e2 := x73) (sT := 57) (xT := 57) (by_ := 16) okS leS (by kernel_rfl) (src_pd (M := m24) okS leS) hx75) ?_
      obtain ⟨x76, hx77, h⟩ := h
      refine H_valW (g := 59) (args := [.fixed ([([114, 97, 121] : List UInt8)].map elS)]) (M := m24) (.pd (.str x76)) (.inr (by kernel_rfl)) (by kernel_rfl) (lines_Join_ok m _ hx77) (by kernel_rfl) (hasT 59 (by kernel_rfl)) ?_
      obtain ⟨hx78, h⟩ := h
      refine H_ask _ _ (by kernel_rfl) (ask_cat (P := Tryz.prog) (M := m24) (t := 9) hx78) ?_
      obtain ⟨hx79, h⟩ := h
      refine H_ask _ _ (by kernel_rfl) (ask_cat (P := Tryz.prog) (M := m24) (t := 9) hx79) ?_
      refine H_split false (by kernel_rfl) (fun hc => by cases hc) (fun _ => ?_)
      exact H_end .ret (.tup [.pd (.str (((x8 ++ ([10] : List UInt8)) ++ (x69 ++ ([10] : List UInt8))) ++ (x76 ++ ([10] : List UInt8)))), .pd (.int .i64 0)]) (by kernel_rfl) rfl (by kernel_rfl) (by subst h; rfl)
    replace h := h.t hx51
    refine H_ask _ _ (by kernel_rfl) (ask_app0 (P := Tryz.prog) (M := [o1, o18, o19]) (lv := lvS) (s := 1) (e := [([120] : List UInt8)]) (e2 := x49) (sT := 57) (xT := 57) (by_ := 16) okS leS (by kernel_rfl) (src_pd (M := [o1, o18, o19]) okS leS) hx51) ?_
    obtain ⟨x52, hx53, h⟩ := h
    refine H_valW (g := 59) (args := [.fixed ([([120] : List UInt8)].map elS)]) (M := [o1, o18, o19]) (.pd (.str x52)) (.inr (by kernel_rfl)) (by kernel_rfl) (lines_Join_ok m _ hx53) (by kernel_rfl) (hasT 59 (by kernel_rfl)) ?_
    obtain ⟨hx54, h⟩ := h
    refine H_ask _ _ (by kernel_rfl) (ask_cat (P := Tryz.prog) (M := [o1, o18, o19]) (t := 9) hx54) ?_
    obtain ⟨hx55, h⟩ := h
    refine H_ask _ _ (by kernel_rfl) (ask_cat (P := Tryz.prog) (M := [o1, o18, o19]) (t := 9) hx55) ?_
    refine H_split true (by kernel_rfl) (fun _ => ?_) (fun hc => by cases hc)
    refine H_askK (.agg [.pd (.str ([121] : List UInt8)), .pd (.bool false), .ptr 0 2 0]) ([o1, o18, o19]) (by kernel_rfl) ?_
    let o27 : Ob := .cells [.pd (.str ([121] : List UInt8)), .pd (.bool false), .ptr 0 2 0] 1 0 false
    refine H_askK (.junk) ([o1, o18, o19, o27]) (by kernel_rfl) ?_
    refine H_askK (.ptr 3 1 0) ([o1, o18, o19, o27]) (by kernel_rfl) ?_
    refine H_askK (.pd (.bool false)) ([o1, o18, o19, o27]) (by kernel_rfl) ?_
    refine H_split true (by kernel_rfl) (fun _ => ?_) (fun hc => by cases hc)
    refine H_askK (.agg [.pd (.str ([114, 97, 121] : List UInt8)), .pd (.bool true), .ptr 0 3 0]) ([o1, o18, o19, o27]) (by kernel_rfl) ?_
    let o28 : Ob := .cells [.pd (.str ([114, 97, 121] : List UInt8)), .pd (.bool true), .ptr 0 3 0] 1 0 false
    let m29 : Mem := [o1, o18, o19, o27, o28]
    refine H_askK (.junk) (m29) (by kernel_rfl) ?_
    refine H_askK (.ptr 4 1 0) (m29) (by kernel_rfl) ?_
    refine H_askK (.pd (.bool true)) (m29) (by kernel_rfl) ?_
    refine H_draw (by kernel_rfl) ?_
    refine H_askK (.ptr 4 0 0) (m29) (by kernel_rfl) ?_
    refine H_askK (.pd (.str ([114, 97, 121] : List UInt8))) (m29) (by kernel_rfl) ?_
    refine H_askK (.ptr 4 2 0) (m29) (by kernel_rfl) ?_
    refine H_askK (.ptr 0 3 0) (m29) (by kernel_rfl) ?_
    refine H_askK (.ptr 0 3 0) (m29) (by kernel_rfl) ?_
    refine H_askK (.pd (.sl (p3.map elABLU32LU32Z))) (m29) (by kernel_rfl) ?_
    obtain ⟨x56, hx57, h⟩ := h
    refine H_valW (g := 60) (args := [.pd (.sl (p3.map elABLU32LU32Z))]) (M := m29) (.pd (.sl (x56.map elS))) (.inr (by kernel_rfl)) (by kernel_rfl) (vec_Texts_ok m _ hx57) (by kernel_rfl) (hasT 60 (by kernel_rfl)) ?_
    cases hx58 : (x56).isEmpty
    · replace h := h.f hx58
      obtain ⟨hx63, h⟩ := h
      refine H_ask _ _ (by kernel_rfl) (ask_appF (P := Tryz.prog) (M := m29) (lv := lvS) (s := 1) (e := [([114, 97, 121] : List UInt8)]) (e2 := x56) (sT := 57) (xT := 57) (by_ := 16) okS leS (by kernel_rfl) (src_pd (M := m29) okS leS) (ne_of_isEmpty hx58) hx63) ?_
      obtain ⟨x64, hx65, h⟩ := h
      let o30 : Ob := .cells (rowC lvS ([([114, 97, 121] : List UInt8)] ++ x56)) 1 0 false
      let m31 : Mem := [o1, o18, o19, o27, o28, o30]
      refine H_valO (g := 59) (args := [.own 5 (([([114, 97, 121] : List UInt8)] ++ x56).length) 0]) (M := m31) (.pd (.str x64)) (.inr (by kernel_rfl)) (pl_cons (un_own (own_pd okS (by decide) lgS (o := .cells (rowC lvS ([([114, 97, 121] : List UInt8)] ++ x56)) 1 0 false) (by kernel_rfl) (rowIs_c (lv := lvS) (s := 1) (e := ([([114, 97, 121] : List UInt8)] ++ x56)) (ver := 0) (z := false)) (n := ([([114, 97, 121] : List UInt8)] ++ x56).length) rfl)) pl_nil) (lines_Join_ok m _ hx65) (by kernel_rfl) rfl (hasT 59 (by kernel_rfl)) ?_
      obtain ⟨hx66, h⟩ := h
      refine H_ask _ _ (by kernel_rfl) (ask_cat (P := Tryz.prog) (M := m31) (t := 9) hx66) ?_
      obtain ⟨hx67, h⟩ := h
      refine H_ask _ _ (by kernel_rfl) (ask_cat (P := Tryz.prog) (M := m31) (t := 9) hx67) ?_
      refine H_split false (by kernel_rfl) (fun hc => by cases hc) (fun _ => ?_)
      exact H_end .ret (.tup [.pd (.str (((x8 ++ ([10] : List UInt8)) ++ (x52 ++ ([10] : List UInt8))) ++ (x64 ++ ([10] : List UInt8)))), .pd (.int .i64 0)]) (by kernel_rfl) rfl (by kernel_rfl) (by subst h; rfl)
    replace h := h.t hx58
    refine H_ask _ _ (by kernel_rfl) (ask_app0 (P := Tryz.prog) (M := m29) (lv := lvS) (s := 1) (e := [([114, 97, 121] : List UInt8)]) (e2 := x56) (sT := 57) (xT := 57) (by_ := 16) okS leS (by kernel_rfl) (src_pd (M := m29) okS leS) hx58) ?_
    obtain ⟨x59, hx60, h⟩ := h
    refine H_valW (g := 59) (args := [.fixed ([([114, 97, 121] : List UInt8)].map elS)]) (M := m29) (.pd (.str x59)) (.inr (by kernel_rfl)) (by kernel_rfl) (lines_Join_ok m _ hx60) (by kernel_rfl) (hasT 59 (by kernel_rfl)) ?_
    obtain ⟨hx61, h⟩ := h
    refine H_ask _ _ (by kernel_rfl) (ask_cat (P := Tryz.prog) (M := m29) (t := 9) hx61) ?_
    obtain ⟨hx62, h⟩ := h
    refine H_ask _ _ (by kernel_rfl) (ask_cat (P := Tryz.prog) (M := m29) (t := 9) hx62) ?_
    refine H_split false (by kernel_rfl) (fun hc => by cases hc) (fun _ => ?_)
    exact H_end .ret (.tup [.pd (.str (((x8 ++ ([10] : List UInt8)) ++ (x52 ++ ([10] : List UInt8))) ++ (x59 ++ ([10] : List UInt8)))), .pd (.int .i64 0)]) (by kernel_rfl) rfl (by kernel_rfl) (by subst h; rfl)
  replace h := h.f hp11
  refine H_askK (.ptr 0 0 0) ([o1, o2]) (by kernel_rfl) ?_
  refine H_askK (.ptr 0 1 0) ([o1, o2]) (by kernel_rfl) ?_
  refine H_askK (.agg [.pd (.str ([120] : List UInt8)), .pd (.bool false), .ptr 0 1 0]) ([o1, o2]) (by kernel_rfl) ?_
  refine H_askK (.ptr 0 0 0) ([o1, o2]) (by kernel_rfl) ?_
  refine H_askK (.ptr 0 0 0) ([o1, o2]) (by kernel_rfl) ?_
  refine H_askK (.pd (.int .i64 p0)) ([o1, o2]) (by kernel_rfl) ?_
  refine H_split (p0 != (3 : Int)) (by kernel_rfl) (fun _ => ?_) (fun hc => by simp only [decide_eq_true_eq, decide_eq_false_iff_not, beq_iff_eq, bne_iff_ne, beq_eq_false_iff_ne, bne_eq_false_iff_eq, ne_eq] at hp11 hc; omega)
  refine H_askK (.ptr 0 0 0) ([o1, o2]) (by kernel_rfl) ?_
  refine H_askK (.ptr 0 2 0) ([o1, o2]) (by kernel_rfl) ?_
  refine H_askK (.agg [.pd (.str ([121] : List UInt8)), .pd (.bool true), .ptr 0 2 0]) ([o1, o2]) (by kernel_rfl) ?_
  refine H_askK (.ptr 0 0 0) ([o1, o2]) (by kernel_rfl) ?_
  refine H_askK (.ptr 0 0 0) ([o1, o2]) (by kernel_rfl) ?_
  refine H_askK (.pd (.int .i64 p0)) ([o1, o2]) (by kernel_rfl) ?_
  refine H_split (p0 == (3 : Int)) (by kernel_rfl) (fun hc => by simp only [decide_eq_true_eq, decide_eq_false_iff_not, beq_iff_eq, bne_iff_ne, beq_eq_false_iff_ne, bne_eq_false_iff_eq, ne_eq] at hp11 hc; omega) (fun _ => ?_)
  refine H_askK (.ptr 0 0 0) ([o1, o2]) (by kernel_rfl) ?_
  refine H_askK (.ptr 0 3 0) ([o1, o2]) (by kernel_rfl) ?_
  refine H_askK (.agg [.pd (.str ([114, 97, 121] : List UInt8)), .pd (.bool false), .ptr 0 3 0]) ([o1, o2]) (by kernel_rfl) ?_
  refine H_askK (.agg [.pd (.str ([120] : List UInt8)), .pd (.bool false), .ptr 0 1 0, .pd (.str ([121] : List UInt8)), .pd (.bool true), .ptr 0 2 0, .pd (.str ([114, 97, 121] : List UInt8)), .pd (.bool false), .ptr 0 3 0]) ([o1, o2]) (by kernel_rfl) ?_
  let o32 : Ob := .cells [.pd (.str ([120] : List UInt8)), .pd (.bool false), .ptr 0 1 0, .pd (.str ([121] : List UInt8)), .pd (.bool true), .ptr 0 2 0, .pd (.str ([114, 97, 121] : List UInt8)), .pd (.bool false), .ptr 0 3 0] 1 0 false
  refine H_askK (.junk) ([o1, o32]) (by kernel_rfl) ?_
  refine H_endM .ret (.agg [.pd (.str ([120] : List UInt8)), .pd (.bool false), .ptr 0 1 0, .pd (.str ([121] : List UInt8)), .pd (.bool true), .ptr 0 2 0, .pd (.str ([114, 97, 121] : List UInt8)), .pd (.bool false), .ptr 0 3 0]) ([o1, o32]) (by kernel_rfl) rfl (by kernel_rfl) (by kernel_rfl) (by kernel_rfl) ?_
  refine H_unroll 4 mixedT (askG [9, 10, 11] false) (by kernel_rfl) ?_
  refine H_split true (by kernel_rfl) (fun _ => ?_) (fun hc => by cases hc)
  refine H_askK (.agg [.pd (.str ([120] : List UInt8)), .pd (.bool false), .ptr 0 1 0]) ([o1, o32]) (by kernel_rfl) ?_
  let o33 : Ob := .cells [.pd (.str ([120] : List UInt8)), .pd (.bool false), .ptr 0 1 0] 1 0 false
  refine H_askK (.junk) ([o1, o32, o33]) (by kernel_rfl) ?_
  refine H_askK (.ptr 2 1 0) ([o1, o32, o33]) (by kernel_rfl) ?_
  refine H_askK (.pd (.bool false)) ([o1, o32, o33]) (by kernel_rfl) ?_
  refine H_split true (by kernel_rfl) (fun _ => ?_) (fun hc => by cases hc)
  refine H_askK (.agg [.pd (.str ([121] : List UInt8)), .pd (.bool true), .ptr 0 2 0]) ([o1, o32, o33]) (by kernel_rfl) ?_
  let o34 : Ob := .cells [.pd (.str ([121] : List UInt8)), .pd (.bool true), .ptr 0 2 0] 1 0 false
  refine H_askK (.junk) ([o1, o32, o33, o34]) (by kernel_rfl) ?_
  refine H_askK (.ptr 3 1 0) ([o1, o32, o33, o34]) (by kernel_rfl) ?_
  refine H_askK (.pd (.bool true)) ([o1, o32, o33, o34]) (by kernel_rfl) ?_
  refine H_draw (by kernel_rfl) ?_
  refine H_askK (.ptr 3 0 0) ([o1, o32, o33, o34]) (by kernel_rfl) ?_
  refine H_askK (.pd (.str ([121] : List UInt8))) ([o1, o32, o33, o34]) (by kernel_rfl) ?_
  refine H_askK (.ptr 3 2 0) ([o1, o32, o33, o34]) (by kernel_rfl) ?_
  refine H_askK (.ptr 0 2 0) ([o1, o32, o33, o34]) (by kernel_rfl) ?_
  refine H_askK (.ptr 0 2 0) ([o1, o32, o33, o34]) (by kernel_rfl) ?_
  refine H_askK (.pd (.sl (p2.map elABLU32LU32Z))) ([o1, o32, o33, o34]) (by kernel_rfl) ?_
  obtain ⟨x85, hx86, h⟩ := h
  refine H_valW (g := 60) (args := [.pd (.sl (p2.map elABLU32LU32Z))]) (M := [o1, o32, o33, o34]) (.pd (.sl (x85.map elS))) (.inr (by kernel_rfl)) (by kernel_rfl) (vec_Texts_ok m _ hx86) (by kernel_rfl) (hasT 60 (by kernel_rfl)) ?_
  cases hx87 : (x85).isEmpty
  · replace h := h.f hx87
    obtain ⟨hx92, h⟩ := h
    refine H_ask _ _ (by kernel_rfl) (ask_appF (P := Tryz.prog) (M := [o1, o32, o33, o34]) (lv := lvS) (s := 1) (e := [([121] : List UInt8)]) (e2 := x85) (sT := 57) (xT := 57) (by_ := 16) okS leS (by kernel_rfl) (src_pd (M := [o1, o32, o33, o34]) okS leS) (ne_of_isEmpty hx87) hx92) ?_
    obtain ⟨x93, hx94, h⟩ := h
    let o35 : Ob := .cells (rowC lvS ([([121] : List UInt8)] ++ x85)) 1 0 false
    let m36 : Mem := [o1, o32, o33, o34, o35]
    refine H_valO (g := 59) (args := [.own 4 (([([121] : List UInt8)] ++ x85).length) 0]) (M := m36) (.pd (.str x93)) (.inr (by kernel_rfl)) (pl_cons (un_own (own_pd okS (by decide) lgS (o := .cells (rowC lvS ([([121] : List UInt8)] ++ x85)) 1 0 false) (by kernel_rfl) (rowIs_c (lv := lvS) (s := 1) (e := ([([121] : List UInt8)] ++ x85)) (ver := 0) (z := false)) (n := ([([121] : List UInt8)] ++ x85).length) rfl)) pl_nil) (lines_Join_ok m _ hx94) (by kernel_rfl) rfl (hasT 59 (by kernel_rfl)) ?_
    obtain ⟨hx95, h⟩ := h
    refine H_ask _ _ (by kernel_rfl) (ask_cat (P := Tryz.prog) (M := m36) (t := 9) hx95) ?_
    obtain ⟨hx96, h⟩ := h
    refine H_ask _ _ (by kernel_rfl) (ask_cat (P := Tryz.prog) (M := m36) (t := 9) hx96) ?_
    refine H_split true (by kernel_rfl) (fun _ => ?_) (fun hc => by cases hc)
    refine H_askK (.agg [.pd (.str ([114, 97, 121] : List UInt8)), .pd (.bool false), .ptr 0 3 0]) (m36) (by kernel_rfl) ?_
    let o37 : Ob := .cells [.pd (.str ([114, 97, 121] : List UInt8)), .pd (.bool false), .ptr 0 3 0] 1 0 false
    let m38 : Mem := [o1, o32, o33, o34, o35, o37]
    refine H_askK (.junk) (m38) (by kernel_rfl) ?_
    refine H_askK (.ptr 5 1 0) (m38) (by kernel_rfl) ?_
    refine H_askK (.pd (.bool false)) (m38) (by kernel_rfl) ?_
    refine H_split false (by kernel_rfl) (fun hc => by cases hc) (fun _ => ?_)
    exact H_end .ret (.tup [.pd (.str ((x8 ++ ([10] : List UInt8)) ++ (x93 ++ ([10] : List UInt8)))), .pd (.int .i64 0)]) (by kernel_rfl) rfl (by kernel_rfl) (by subst h; rfl)
  replace h := h.t hx87
  refine H_ask _ _ (by kernel_rfl) (ask_app0 (P := Tryz.prog) (M := [o1, o32, o33, o34]) (lv := lvS) (s := 1) (e := [([121] : List UInt8)]) (e2 := x85) (sT := 57) (xT := 57) (by_ := 16) okS leS (by kernel_rfl) (src_pd (M := [o1, o32, o33, o34]) okS leS) hx87) ?_
  obtain ⟨x88, hx89, h⟩ := h
  refine H_valW (g := 59) (args := [.fixed ([([121] : List UInt8)].map elS)]) (M := [o1, o32, o33, o34]) (.pd (.str x88)) (.inr (by kernel_rfl)) (by kernel_rfl) (lines_Join_ok m _ hx89) (by kernel_rfl) (hasT 59 (by kernel_rfl)) ?_
  obtain ⟨hx90, h⟩ := h
  refine H_ask _ _ (by kernel_rfl) (ask_cat (P := Tryz.prog) (M := [o1, o32, o33, o34]) (t := 9) hx90) ?_
  obtain ⟨hx91, h⟩ := h
  refine H_ask _ _ (by kernel_rfl) (ask_cat (P := Tryz.prog) (M := [o1, o32, o33, o34]) (t := 9) hx91) ?_
  refine H_split true (by kernel_rfl) (fun _ => ?_) (fun hc => by cases hc)
  refine H_askK (.agg [.pd (.str ([114, 97, 121] : List UInt8)), .pd (.bool false), .ptr 0 3 0]) ([o1, o32, o33, o34]) (by kernel_rfl) ?_
  let o39 : Ob := .cells [.pd (.str ([114, 97, 121] : List UInt8)), .pd (.bool false), .ptr 0 3 0] 1 0 false
  let m40 : Mem := [o1, o32, o33, o34, o39]
  refine H_askK (.junk) (m40) (by kernel_rfl) ?_
  refine H_askK (.ptr 4 1 0) (m40) (by kernel_rfl) ?_
  refine H_askK (.pd (.bool false)) (m40) (by kernel_rfl) ?_
  refine H_split false (by kernel_rfl) (fun hc => by cases hc) (fun _ => ?_)
  exact H_end .ret (.tup [.pd (.str ((x8 ++ ([10] : List UInt8)) ++ (x88 ++ ([10] : List UInt8)))), .pd (.int .i64 0)]) (by kernel_rfl) rfl (by kernel_rfl) (by subst h; rfl)

theorem lines_Number_ok (m : Tp) (p0 : List UInt8) {r : Bool × (List Int) × (List Int) × Bool} (h : lines_Number p0 r) : ASpec Tryz.prog (gtT m) 109 [.pd (.str p0)] (· = .tup [.agg [.pd (.bool r.1), .pd (.sl (r.2.1.map elU32)), .pd (.sl (r.2.2.1.map elU32))], .pd (.bool r.2.2.2)]) := by
  refine ASpec_tree Tryz.f109 mixedT (askG [9, 10, 11] false) (by kernel_rfl) ?_
  unfold lines_Number at h
  obtain ⟨x1, x2, x3, x4, hx5, h⟩ := h
  refine H_valW (g := 30) (args := [.pd (.str p0)]) (M := [.cells [.pd (.bool false), .fixed (([] : List Int).map elU32), .fixed (([] : List Int).map elU32)] 1 0 false]) (.tup [.agg [.pd (.bool x1), .pd (.sl (x2.map elU32)), .pd (.sl (x3.map elU32))], .pd (.int .i64 x4)]) (.inl (by kernel_rfl)) (by kernel_rfl) (rat_Parse_ok m _ hx5) (by kernel_rfl) (hasT 30 (by kernel_rfl)) ?_
  refine H_askK (.junk) ([.cells [.pd (.bool false), .fixed (([] : List Int).map elU32), .fixed (([] : List Int).map elU32)] 1 0 false, .cells [.pd (.bool x1), .pd (.sl (x2.map elU32)), .pd (.sl (x3.map elU32))] 1 0 false]) (by kernel_rfl) ?_
  refine H_split (x4 != (0 : Int)) (by kernel_rfl) (fun hp6 => ?_) (fun hp6 => ?_)
  · replace h := h.t hp6
    obtain ⟨x7, x8, x9, hx10, h⟩ := h
    refine H_valW (g := 49) (args := [.pd (.int .i64 0)]) (M := [.cells [.pd (.bool false), .fixed (([] : List Int).map elU32), .fixed (([] : List Int).map elU32)] 1 0 false, .cells [.pd (.bool x1), .pd (.sl (x2.map elU32)), .pd (.sl (x3.map elU32))] 1 0 false]) (.agg [.pd (.bool x7), .pd (.sl (x8.map elU32)), .pd (.sl (x9.map elU32))]) (.inl (by kernel_rfl)) (by kernel_rfl) (rat_Int_ok m _ hx10) (by kernel_rfl) (hasT 49 (by kernel_rfl)) ?_
    refine H_askK (.junk) ([.cells [.pd (.bool x7), .pd (.sl (x8.map elU32)), .pd (.sl (x9.map elU32))] 1 0 false, .cells [.pd (.bool x1), .pd (.sl (x2.map elU32)), .pd (.sl (x3.map elU32))] 1 0 false]) (by kernel_rfl) ?_
    exact H_end .ret (.tup [.agg [.pd (.bool x7), .pd (.sl (x8.map elU32)), .pd (.sl (x9.map elU32))], .pd (.bool false)]) (by kernel_rfl) rfl (by kernel_rfl) (by subst h; rfl)
  · replace h := h.f hp6
    refine H_askK (.agg [.pd (.bool x1), .pd (.sl (x2.map elU32)), .pd (.sl (x3.map elU32))]) ([.cells [.pd (.bool false), .fixed (([] : List Int).map elU32), .fixed (([] : List Int).map elU32)] 1 0 false, .cells [.pd (.bool x1), .pd (.sl (x2.map elU32)), .pd (.sl (x3.map elU32))] 1 0 false]) (by kernel_rfl) ?_
    refine H_askK (.junk) ([.cells [.pd (.bool x1), .pd (.sl (x2.map elU32)), .pd (.sl (x3.map elU32))] 1 0 false, .cells [.pd (.bool x1), .pd (.sl (x2.map elU32)), .pd (.sl (x3.map elU32))] 1 0 false]) (by kernel_rfl) ?_
    exact H_end .ret (.tup [.agg [.pd (.bool x1), .pd (.sl (x2.map elU32)), .pd (.sl (x3.map elU32))], .pd (.bool true)]) (by kernel_rfl) rfl (by kernel_rfl) (by subst h; rfl)

theorem proof_numbers_ok (m : Tp) (p0 : List (List UInt8)) {r : (List (Bool × (List Int) × (List Int))) × Bool} (h : proof_numbers p0 r) : ASpec Tryz.prog (gtT m) 62 [.pd (.sl (p0.map elS))] (· = .tup [.pd (.sl (r.1.map elABLU32LU32Z)), .pd (.bool r.2)]) := by
  refine ASpec_tree Tryz.f62 mixedT (askG [9, 10, 11] true) (by kernel_rfl) ?_
  unfold proof_numbers at h
  let o1 : Ob := rowV lvABLU32LU32Z 3 ([] : List (Bool × (List Int) × (List Int))) 0 false
  refine H_ask _ _ (by kernel_rfl) (ask_len (P := Tryz.prog) (M := [o1, o1]) (t := 57) (et := 9) (el := elS) (by kernel_rfl) (e := p0)) ?_
  refine H_loopP (F := proof_numbers_L1 p0 r) (s0 := ((0 : Int), ([] : List (Bool × (List Int) × (List Int))))) h (0, (([] : List (Bool × (List Int) × (List Int))).length)) 31 2
    (fun ((s100, s151) : Int × (List (Bool × (List Int) × (List Int)))) ((v101, n101) : Nat × Nat) => [(4, .own 1 n101 v101), (9, .pd (.sl (p0.map elS))), (10, .pd (.int .i64 (p0.length : Int))), (11, .pd (.int .i64 s100))])
    (fun ((s100, s151) : Int × (List (Bool × (List Int) × (List Int)))) ((v101, n101) : Nat × Nat) => [rowV lvABLU32LU32Z 3 ([] : List (Bool × (List Int) × (List Int))) 0 false, rowV lvABLU32LU32Z 3 s151 v101 false]) (fun ((s100, s151) : Int × (List (Bool × (List Int) × (List Int)))) ((v101, n101) : Nat × Nat) => n101 = s151.length) rfl [] mixedT (askG [9, 10, 11] true)
    (by kernel_rfl) (by kernel_rfl) (by kernel_rfl) (by kernel_rfl) (by kernel_rfl) (fun _ _ => rfl) ?_
  rintro X1 ⟨s100, s151⟩ ⟨v101, n101⟩ hn101 h
  dsimp only [proof_numbers_L1] at h
  refine H_split (decide (s100 < (p0.length : Int))) (by kernel_rfl) (fun hp1 => ?_) (fun hp1 => ?_)
  · replace h := h.t hp1
    obtain ⟨x2, hx3, h⟩ := h
    let o2 : Ob := rowV lvABLU32LU32Z 3 s151 v101 false
    refine H_ask _ _ (by kernel_rfl) (ask_idx (P := Tryz.prog) (M := [o1, o2]) (t := 57) (et := 9) (k := .i64) (lv := lvS) okS leS (by kernel_rfl) (by kernel_rfl) hx3) ?_
    refine H_askK (.pd (.str x2)) ([o1, o2]) (by kernel_rfl) ?_
    obtain ⟨x4, x5, x6, x7, hx8, h⟩ := h
    refine H_valW (g := 109) (args := [.pd (.str x2)]) (M := [o1, o2]) (.tup [.agg [.pd (.bool x4), .pd (.sl (x5.map elU32)), .pd (.sl (x6.map elU32))], .pd (.bool x7)]) (.inl (by kernel_rfl)) (by kernel_rfl) (lines_Number_ok m _ hx8) (by kernel_rfl) (hasT 109 (by kernel_rfl)) ?_
    cases x7
    · replace h := h.f rfl
      let o3 : Ob := .cells [.pd (.bool x4), .pd (.sl (x5.map elU32)), .pd (.sl (x6.map elU32))] 1 0 false
      refine H_askK (.junk) ([o1, o2, o3]) (by kernel_rfl) ?_
      refine H_leaveP .ret (by kernel_rfl) rfl ?_
      exact H_endX .ret (.tup [.own 3 (([] : List (Bool × (List Int) × (List Int))).length) 0, .pd (.bool false)]) (.tup [.pd (.sl (([] : List (Bool × (List Int) × (List Int))).map elABLU32LU32Z)), .pd (.bool false)]) ([o1, o2, o3, o1]) (by kernel_rfl) rfl (by kernel_rfl) (by kernel_rfl) (pure_tup (pl_cons (pure_1to2 (pure1_own okABLU32LU32Z (by decide) lgABLU32LU32Z (M := [o1, o2, o3, o1]) (b := 3) (o := rowV lvABLU32LU32Z 3 ([] : List (Bool × (List Int) × (List Int))) 0 false) (by kernel_rfl) (rowIs_v' (lv := lvABLU32LU32Z) (s := 3) (e := ([] : List (Bool × (List Int) × (List Int)))) (ver := 0) (z := false)) (n := ([] : List (Bool × (List Int) × (List Int))).length) rfl) rfl) (pl_cons rfl pl_nil))) (by subst h; rfl)
    replace h := h.t rfl
    let o4 : Ob := .cells [.pd (.bool x4), .pd (.sl (x5.map elU32)), .pd (.sl (x6.map elU32))] 1 0 false
    refine H_askK (.junk) ([o1, o2, o4]) (by kernel_rfl) ?_
    refine H_askK (.agg [.pd (.bool x4), .pd (.sl (x5.map elU32)), .pd (.sl (x6.map elU32))]) ([o1, o2, o4]) (by kernel_rfl) ?_
    obtain ⟨hx9, h⟩ := h
    refine H_ask _ _ (by kernel_rfl) (ask_appV (P := Tryz.prog) (M := [o1, o2, o4]) (lv := lvABLU32LU32Z) (s := 3) (b := 1) (e := s151) (e2 := [(x4, x5, x6)]) (ver := v101) (sT := 23) (xT := 23) (by_ := 56) okABLU32LU32Z (by kernel_rfl) (src_fixed (M := [o1, o2, o4]) okABLU32LU32Z leABLU32LU32Z) (by kernel_rfl) (n := n101) hn101 hx9) ?_
    exact H_againC (st := _) ((IntKind.i64.wrap (s100 + 1)), (s151 ++ [(x4, x5, x6)])) ((vnext s151 [(x4, x5, x6)] v101), ((s151 ++ [(x4, x5, x6)]).length)) h rfl (by kernel_rfl) (by kernel_rfl) (by kernel_rfl) (by kernel_rfl) (by kernel_rfl) (by kernel_rfl) (all_c (bel_rowV _) (all_c (bel_rowV _) all_n)) (by kernel_rfl) (by kernel_rfl)
  replace h := h.f hp1
  refine H_leaveP (.exit 0) (by kernel_rfl) rfl ?_
  let o5 : Ob := rowV lvABLU32LU32Z 3 s151 v101 false
  refine H_ask _ _ (by kernel_rfl) (ask_olen (P := Tryz.prog) (M := [o1, o5]) (t := 23) (et := 44) (lv := lvABLU32LU32Z) (e := s151) (b := 1) (n := n101) (by kernel_rfl) (by kernel_rfl) (rowIs_v' (lv := lvABLU32LU32Z) (s := 3) (e := s151) (ver := v101) (z := false)) hn101) ?_
  refine H_split (decide ((s151.length : Int) ≤ (180 : Int))) (by kernel_rfl) (fun hp10 => ?_) (fun hp10 => ?_)
  · replace h := h.t hp10
    exact H_endX .ret (.tup [.own 1 n101 v101, .pd (.bool true)]) (.tup [.pd (.sl (s151.map elABLU32LU32Z)), .pd (.bool true)]) ([o1, o5]) (by kernel_rfl) rfl (by kernel_rfl) (by kernel_rfl) (pure_tup (pl_cons (pure_1to2 (pure1_own okABLU32LU32Z (by decide) lgABLU32LU32Z (M := [o1, o5]) (b := 1) (o := rowV lvABLU32LU32Z 3 s151 v101 false) (by kernel_rfl) (rowIs_v' (lv := lvABLU32LU32Z) (s := 3) (e := s151) (ver := v101) (z := false)) (n := n101) hn101) rfl) (pl_cons rfl pl_nil))) (by subst h; rfl)
  replace h := h.f hp10
  exact H_endX .ret (.tup [.own 1 n101 v101, .pd (.bool false)]) (.tup [.pd (.sl (s151.map elABLU32LU32Z)), .pd (.bool false)]) ([o1, o5]) (by kernel_rfl) rfl (by kernel_rfl) (by kernel_rfl) (pure_tup (pl_cons (pure_1to2 (pure1_own okABLU32LU32Z (by decide) lgABLU32LU32Z (M := [o1, o5]) (b := 1) (o := rowV lvABLU32LU32Z 3 s151 v101 false) (by kernel_rfl) (rowIs_v' (lv := lvABLU32LU32Z) (s := 3) (e := s151) (ver := v101) (z := false)) (n := n101) hn101) rfl) (pl_cons rfl pl_nil))) (by subst h; rfl)

theorem proof_Parse_ok (m : Tp) (p0 : List UInt8) {r : Int × (List (Bool × (List Int) × (List Int))) × (List (Bool × (List Int) × (List Int))) × (List (Bool × (List Int) × (List Int))) × Int × Int} (h : proof_Parse p0 r) : ASpec Tryz.prog (gtT m) 26 [.pd (.str p0)] (· = .tup [.agg [.pd (.int .i64 r.1), .pd (.sl (r.2.1.map elABLU32LU32Z)), .pd (.sl (r.2.2.1.map elABLU32LU32Z)), .pd (.sl (r.2.2.2.1.map elABLU32LU32Z))], .pd (.int .i64 r.2.2.2.2.1), .pd (.int .i64 r.2.2.2.2.2)]) := by
  refine ASpec_tree Tryz.f26 mixedT (askG [9, 10, 11] false) (by kernel_rfl) ?_
  unfold proof_Parse at h
  obtain ⟨x1, x2, hx3, h⟩ := h
  let o1 : Ob := .cells [.pd (.int .i64 0), .fixed (([] : List (Bool × (List Int) × (List Int))).map elABLU32LU32Z), .fixed (([] : List (Bool × (List Int) × (List Int))).map elABLU32LU32Z), .fixed (([] : List (Bool × (List Int) × (List Int))).map elABLU32LU32Z)] 1 0 false
  refine H_valW (g := 61) (args := [.pd (.str p0)]) (M := [o1]) (.tup [.pd (.sl (x1.map elAI64LSZ)), .pd (.int .i64 x2)]) (.inl (by kernel_rfl)) (by kernel_rfl) (lines_All_ok m _ hx3) (by kernel_rfl) (hasT 61 (by kernel_rfl)) ?_
  refine H_split (x2 != (0 : Int)) (by kernel_rfl) (fun hp4 => ?_) (fun hp4 => ?_)
  · replace h := h.t hp4
    refine H_askK (.agg [.pd (.int .i64 0), .fixed (([] : List (Bool × (List Int) × (List Int))).map elABLU32LU32Z), .fixed (([] : List (Bool × (List Int) × (List Int))).map elABLU32LU32Z), .fixed (([] : List (Bool × (List Int) × (List Int))).map elABLU32LU32Z)]) ([o1]) (by kernel_rfl) ?_
    refine H_askK (.junk) ([o1]) (by kernel_rfl) ?_
    exact H_end .ret (.tup [.agg [.pd (.int .i64 0), .pd (.sl (([] : List (Bool × (List Int) × (List Int))).map elABLU32LU32Z)), .pd (.sl (([] : List (Bool × (List Int) × (List Int))).map elABLU32LU32Z)), .pd (.sl (([] : List (Bool × (List Int) × (List Int))).map elABLU32LU32Z))], .pd (.int .i64 0), .pd (.int .i64 x2)]) (by kernel_rfl) rfl (by kernel_rfl) (by subst h; rfl)
  replace h := h.f hp4
  refine H_ask _ _ (by kernel_rfl) (ask_len (P := Tryz.prog) (M := [o1]) (t := 105) (et := 109) (el := elAI64LSZ) (by kernel_rfl) (e := x1)) ?_
  refine H_split ((x1.length : Int) == (0 : Int)) (by kernel_rfl) (fun hp5 => ?_) (fun hp5 => ?_)
  · replace h := h.t hp5
    refine H_askK (.agg [.pd (.int .i64 0), .fixed (([] : List (Bool × (List Int) × (List Int))).map elABLU32LU32Z), .fixed (([] : List (Bool × (List Int) × (List Int))).map elABLU32LU32Z), .fixed (([] : List (Bool × (List Int) × (List Int))).map elABLU32LU32Z)]) ([o1]) (by kernel_rfl) ?_
    refine H_askK (.junk) ([o1]) (by kernel_rfl) ?_
    exact H_end .ret (.tup [.agg [.pd (.int .i64 0), .pd (.sl (([] : List (Bool × (List Int) × (List Int))).map elABLU32LU32Z)), .pd (.sl (([] : List (Bool × (List Int) × (List Int))).map elABLU32LU32Z)), .pd (.sl (([] : List (Bool × (List Int) × (List Int))).map elABLU32LU32Z))], .pd (.int .i64 0), .pd (.int .i64 2)]) (by kernel_rfl) rfl (by kernel_rfl) (by subst h; rfl)
  replace h := h.f hp5
  obtain ⟨x6, x7, x8, x9, hx10, h⟩ := h
  refine H_valW (g := 58) (args := []) (M := [o1, o1]) (.agg [.pd (.str x6), .pd (.str x7), .pd (.str x8), .pd (.str x9)]) (.inl (by kernel_rfl)) (by kernel_rfl) (proof_words_ok m  hx10) (by kernel_rfl) (hasT 58 (by kernel_rfl)) ?_
  refine H_loopP (F := proof_Parse_L1 x1 x6 x7 x8 x9 r) (s0 := ((0 : Int), (0 : Int))) h () 132 2
    (fun ((s100, s101) : Int × Int) (() : Unit) => [(2, .ptr 0 0 0), (5, .pd (.sl (x1.map elAI64LSZ))), (7, .ptr 1 0 0), (31, .agg [.pd (.str x6), .pd (.str x7), .pd (.str x8), .pd (.str x9)]), (32, .pd (.int .i64 s100))])
    (fun ((s100, s101) : Int × Int) (() : Unit) => [.cells [.pd (.int .i64 0), .fixed (([] : List (Bool × (List Int) × (List Int))).map elABLU32LU32Z), .fixed (([] : List (Bool × (List Int) × (List Int))).map elABLU32LU32Z), .fixed (([] : List (Bool × (List Int) × (List Int))).map elABLU32LU32Z)] 1 0 false, .cells [.pd (.int .i64 s101), .fixed (([] : List (Bool × (List Int) × (List Int))).map elABLU32LU32Z), .fixed (([] : List (Bool × (List Int) × (List Int))).map elABLU32LU32Z), .fixed (([] : List (Bool × (List Int) × (List Int))).map elABLU32LU32Z)] 1 0 false]) (fun ((s100, s101) : Int × Int) (() : Unit) => True) trivial [] mixedT (askG [9, 10, 11] false)
    (by kernel_rfl) (by kernel_rfl) (by kernel_rfl) (by kernel_rfl) (by kernel_rfl) (fun _ _ => rfl) ?_
  rintro X1 ⟨s100, s101⟩ ⟨⟩ - h
  dsimp only [proof_Parse_L1] at h
  refine H_split (decide (s100 < (4 : Int))) (by kernel_rfl) (fun hp11 => ?_) (fun hp11 => ?_)
  · replace h := h.t hp11
    obtain ⟨x12, hx13, h⟩ := h
    let o2 : Ob := .cells [.pd (.int .i64 s101), .fixed (([] : List (Bool × (List Int) × (List Int))).map elABLU32LU32Z), .fixed (([] : List (Bool × (List Int) × (List Int))).map elABLU32LU32Z), .fixed (([] : List (Bool × (List Int) × (List Int))).map elABLU32LU32Z)] 1 0 false
    refine H_ask _ _ (by kernel_rfl) (ask_aidx (P := Tryz.prog) (t := 101) (e := 9) (n := 4) (M := [o1, o2]) (k := .i64) PD.str ([x6, x7, x8, x9] : List (List UInt8)) (by kernel_rfl) (by kernel_rfl) (by kernel_rfl) rfl hx13) ?_
    refine H_split (decide (s100 > (0 : Int))) (by kernel_rfl) (fun hp14 => ?_) (fun hp14 => ?_)
    · replace h := h.t hp14
      obtain ⟨x15, x16, hx17, h⟩ := h
      refine H_ask _ _ (by kernel_rfl) (ask_idx (P := Tryz.prog) (M := [o1, o2]) (t := 105) (et := 109) (k := .i64) (lv := lvAI64LSZ) okAI64LSZ leAI64LSZ (by kernel_rfl) (by kernel_rfl) hx17) ?_
      refine H_askK (.rd [.sl (x16.map elS)]) ([o1, o2]) (by kernel_rfl) ?_
      refine H_askK (.pd (.sl (x16.map elS))) ([o1, o2]) (by kernel_rfl) ?_
      refine H_ask _ _ (by kernel_rfl) (ask_len (P := Tryz.prog) (M := [o1, o2]) (t := 57) (et := 9) (el := elS) (by kernel_rfl) (e := x16)) ?_
      refine H_split ((x16.length : Int) == (1 : Int)) (by kernel_rfl) (fun hp18 => ?_) (fun hp18 => ?_)
      · replace h := h.t hp18
        obtain ⟨x19, x20, hx21, h⟩ := h
        refine H_ask _ _ (by kernel_rfl) (ask_idx (P := Tryz.prog) (M := [o1, o2]) (t := 105) (et := 109) (k := .i64) (lv := lvAI64LSZ) okAI64LSZ leAI64LSZ (by kernel_rfl) (by kernel_rfl) hx21) ?_
        refine H_askK (.rd [.sl (x20.map elS)]) ([o1, o2]) (by kernel_rfl) ?_
        refine H_askK (.pd (.sl (x20.map elS))) ([o1, o2]) (by kernel_rfl) ?_
        obtain ⟨x22, hx23, h⟩ := h
        refine H_ask _ _ (by kernel_rfl) (ask_idx (P := Tryz.prog) (M := [o1, o2]) (t := 57) (et := 9) (k := .i64) (lv := lvS) okS leS (by kernel_rfl) (by kernel_rfl) hx23) ?_
        refine H_askK (.pd (.str x22)) ([o1, o2]) (by kernel_rfl) ?_
        refine H_split (x22 == x12) (by kernel_rfl) (fun hc => ?_) (fun hc => ?_)
        · replace h := h.t hc; clear hc
          refine H_askK (.ptr 1 0 0) ([o1, o2]) (by kernel_rfl) ?_
          let o3 : Ob := .cells [.pd (.int .i64 s100), .fixed (([] : List (Bool × (List Int) × (List Int))).map elABLU32LU32Z), .fixed (([] : List (Bool × (List Int) × (List Int))).map elABLU32LU32Z), .fixed (([] : List (Bool × (List Int) × (List Int))).map elABLU32LU32Z)] 1 0 false
          refine H_askK (.junk) ([o1, o3]) (by kernel_rfl) ?_
          exact H_againP (st := _) ((IntKind.i64.wrap (s100 + 1)), s100) () h trivial (by kernel_rfl) (by kernel_rfl) (by kernel_rfl) (by kernel_rfl) (by kernel_rfl)
        replace h := h.f hc; clear hc
        exact H_againP (st := _) ((IntKind.i64.wrap (s100 + 1)), s101) () h trivial (by kernel_rfl) (by kernel_rfl) (by kernel_rfl) (by kernel_rfl) (by kernel_rfl)
      replace h := h.f hp18
      exact H_againP (st := _) ((IntKind.i64.wrap (s100 + 1)), s101) () h trivial (by kernel_rfl) (by kernel_rfl) (by kernel_rfl) (by kernel_rfl) (by kernel_rfl)
    replace h := h.f hp14
    exact H_againP (st := _) ((IntKind.i64.wrap (s100 + 1)), s101) () h trivial (by kernel_rfl) (by kernel_rfl) (by kernel_rfl) (by kernel_rfl) (by kernel_rfl)
  replace h := h.f hp11
  refine H_leaveP (.exit 1) (by kernel_rfl) rfl ?_
  let o4 : Ob := .cells [.pd (.int .i64 s101), .fixed (([] : List (Bool × (List Int) × (List Int))).map elABLU32LU32Z), .fixed (([] : List (Bool × (List Int) × (List Int))).map elABLU32LU32Z), .fixed (([] : List (Bool × (List Int) × (List Int))).map elABLU32LU32Z)] 1 0 false
  refine H_askK (.ptr 1 0 0) ([o1, o4]) (by kernel_rfl) ?_
  refine H_askK (.pd (.int .i64 s101)) ([o1, o4]) (by kernel_rfl) ?_
  refine H_split (s101 == (0 : Int)) (by kernel_rfl) (fun hp24 => ?_) (fun hp24 => ?_)
  · replace h := h.t hp24
    refine H_drawF [2, 3, 4] (by kernel_rfl) ?_
    refine H_askK (.agg [.pd (.int .i64 0), .fixed (([] : List (Bool × (List Int) × (List Int))).map elABLU32LU32Z), .fixed (([] : List (Bool × (List Int) × (List Int))).map elABLU32LU32Z), .fixed (([] : List (Bool × (List Int) × (List Int))).map elABLU32LU32Z)]) ([o1, o4]) (by kernel_rfl) ?_
    obtain ⟨x25, x26, hx27, h⟩ := h
    refine H_askall _ (by kernel_rfl) (fun M' => ask_idx (P := Tryz.prog) (M := M') (t := 105) (et := 109) (k := .i64) (lv := lvAI64LSZ) okAI64LSZ leAI64LSZ (by kernel_rfl) (by kernel_rfl) hx27) ?_
    refine H_askall (.rd [.int .i64 x25, .sl (x26.map elS)]) (f := fun M' => some (.rd [.int .i64 x25, .sl (x26.map elS)], M')) (by kernel_rfl) (fun _ => rfl) ?_
    refine H_askall (.pd (.int .i64 x25)) (f := fun M' => some (.pd (.int .i64 x25), M')) (by kernel_rfl) (fun _ => rfl) ?_
    refine H_askK (.junk) ([o1, o4]) (by kernel_rfl) ?_
    exact H_end .ret (.tup [.agg [.pd (.int .i64 0), .pd (.sl (([] : List (Bool × (List Int) × (List Int))).map elABLU32LU32Z)), .pd (.sl (([] : List (Bool × (List Int) × (List Int))).map elABLU32LU32Z)), .pd (.sl (([] : List (Bool × (List Int) × (List Int))).map elABLU32LU32Z))], .pd (.int .i64 x25), .pd (.int .i64 2)]) (by kernel_rfl) rfl (by kernel_rfl) (by subst h; rfl)
  replace h := h.f hp24
  refine H_draw (by kernel_rfl) ?_
  obtain ⟨x28, x29, hx30, h⟩ := h
  refine H_ask _ _ (by kernel_rfl) (ask_idx (P := Tryz.prog) (M := [o1, o4]) (t := 105) (et := 109) (k := .i64) (lv := lvAI64LSZ) okAI64LSZ leAI64LSZ (by kernel_rfl) (by kernel_rfl) hx30) ?_
  refine H_askK (.rd [.int .i64 x28, .sl (x29.map elS)]) ([o1, o4]) (by kernel_rfl) ?_
  refine H_askK (.pd (.int .i64 x28)) ([o1, o4]) (by kernel_rfl) ?_
  obtain ⟨hx31, h⟩ := h
  refine H_ask _ _ (by kernel_rfl) (ask_sub (P := Tryz.prog) (M := [o1, o4]) (t := 105) (et := 109) (lv := lvAI64LSZ) (lo := (some (1 : Int))) (hi := none) okAI64LSZ leAI64LSZ (by kernel_rfl) (by kernel_rfl) hx31) ?_
  refine H_inl (g := 45) (args := [.ptr 1 0 0]) (M := [o1, o4]) Tryz.f45 mixedT (askG [9, 10, 11] false) (by kernel_rfl) (by kernel_rfl) (hasT 45 (by kernel_rfl)) ?_
  refine H_draw (by kernel_rfl) ?_
  let o5 : Ob := .cells [.pd (.str ([] : List UInt8)), .pd (.bool false), .nilp, .pd (.str ([] : List UInt8)), .pd (.bool false), .nilp, .pd (.str ([] : List UInt8)), .pd (.bool false), .nilp] 1 0 false
  refine H_askK (.ptr 1 0 0) ([o1, o4, o5]) (by kernel_rfl) ?_
  refine H_askK (.ptr 1 0 0) ([o1, o4, o5]) (by kernel_rfl) ?_
  refine H_askK (.pd (.int .i64 s101)) ([o1, o4, o5]) (by kernel_rfl) ?_
  refine H_split (s101 != (2 : Int)) (by kernel_rfl) (fun hp32 => ?_) (fun hp32 => ?_)
  · replace h := h.t hp32
    refine H_askK (.ptr 1 0 0) ([o1, o4, o5]) (by kernel_rfl) ?_
    refine H_askK (.ptr 1 1 0) ([o1, o4, o5]) (by kernel_rfl) ?_
    refine H_askK (.agg [.pd (.str ([120] : List UInt8)), .pd (.bool true), .ptr 1 1 0]) ([o1, o4, o5]) (by kernel_rfl) ?_
    refine H_askK (.ptr 1 0 0) ([o1, o4, o5]) (by kernel_rfl) ?_
    refine H_askK (.ptr 1 0 0) ([o1, o4, o5]) (by kernel_rfl) ?_
    refine H_askK (.pd (.int .i64 s101)) ([o1, o4, o5]) (by kernel_rfl) ?_
    refine H_split (s101 != (3 : Int)) (by kernel_rfl) (fun hp33 => ?_) (fun hp33 => ?_)
    · replace h := h.t hp33
      refine H_askK (.ptr 1 0 0) ([o1, o4, o5]) (by kernel_rfl) ?_
      refine H_askK (.ptr 1 2 0) ([o1, o4, o5]) (by kernel_rfl) ?_
      refine H_askK (.agg [.pd (.str ([121] : List UInt8)), .pd (.bool true), .ptr 1 2 0]) ([o1, o4, o5]) (by kernel_rfl) ?_
      refine H_askK (.ptr 1 0 0) ([o1, o4, o5]) (by kernel_rfl) ?_
      refine H_askK (.ptr 1 0 0) ([o1, o4, o5]) (by kernel_rfl) ?_
      refine H_askK (.pd (.int .i64 s101)) ([o1, o4, o5]) (by kernel_rfl) ?_
      refine H_split (s101 == (3 : Int)) (by kernel_rfl) (fun hc => by simp only [decide_eq_true_eq, decide_eq_false_iff_not, beq_iff_eq, bne_iff_ne, beq_eq_false_iff_ne, bne_eq_false_iff_eq, ne_eq] at hp33 hc; omega) (fun _ => ?_)
      refine H_askK (.ptr 1 0 0) ([o1, o4, o5]) (by kernel_rfl) ?_
      refine H_askK (.ptr 1 3 0) ([o1, o4, o5]) (by kernel_rfl) ?_
      refine H_askK (.agg [.pd (.str ([114, 97, 121] : List UInt8)), .pd (.bool false), .ptr 1 3 0]) ([o1, o4, o5]) (by kernel_rfl) ?_
      refine H_askK (.agg [.pd (.str ([120] : List UInt8)), .pd (.bool true), .ptr 1 1 0, .pd (.str ([121] : List UInt8)), .pd (.bool true), .ptr 1 2 0, .pd (.str ([114, 97, 121] : List UInt8)), .pd (.bool false), .ptr 1 3 0]) ([o1, o4, o5]) (by kernel_rfl) ?_
      let o6 : Ob := .cells [.pd (.str ([120] : List UInt8)), .pd (.bool true), .ptr 1 1 0, .pd (.str ([121] : List UInt8)), .pd (.bool true), .ptr 1 2 0, .pd (.str ([114, 97, 121] : List UInt8)), .pd (.bool false), .ptr 1 3 0] 1 0 false
      refine H_askK (.junk) ([o1, o4, o6]) (by kernel_rfl) ?_
      refine H_endM .ret (.agg [.pd (.str ([120] : List UInt8)), .pd (.bool true), .ptr 1 1 0, .pd (.str ([121] : List UInt8)), .pd (.bool true), .ptr 1 2 0, .pd (.str ([114, 97, 121] : List UInt8)), .pd (.bool false), .ptr 1 3 0]) ([o1, o4, o6]) (by kernel_rfl) rfl (by kernel_rfl) (by kernel_rfl) (by kernel_rfl) ?_
      refine H_unroll 4 mixedT (askG [9, 10, 11] false) (by kernel_rfl) ?_
      refine H_split true (by kernel_rfl) (fun _ => ?_) (fun hc => by cases hc)
      refine H_askK (.agg [.pd (.str ([120] : List UInt8)), .pd (.bool true), .ptr 1 1 0]) ([o1, o4, o6]) (by kernel_rfl) ?_
      let o7 : Ob := .cells [.pd (.str ([120] : List UInt8)), .pd (.bool true), .ptr 1 1 0] 1 0 false
      refine H_askK (.junk) ([o1, o4, o6, o7]) (by kernel_rfl) ?_
      refine H_askK (.ptr 3 1 0) ([o1, o4, o6, o7]) (by kernel_rfl) ?_
      refine H_askK (.pd (.bool true)) ([o1, o4, o6, o7]) (by kernel_rfl) ?_
      refine H_ask _ _ (by kernel_rfl) (ask_len (P := Tryz.prog) (M := [o1, o4, o6, o7]) (t := 105) (et := 109) (el := elAI64LSZ) (by kernel_rfl) (e := (sub x1 (1 : Int) (x1.length : Int)))) ?_
      refine H_split (((sub x1 (1 : Int) (x1.length : Int)).length : Int) == (0 : Int)) (by kernel_rfl) (fun hp34 => ?_) (fun hp34 => ?_)
      · replace h := h.t hp34
        refine H_askK (.agg [.pd (.int .i64 0), .fixed (([] : List (Bool × (List Int) × (List Int))).map elABLU32LU32Z), .fixed (([] : List (Bool × (List Int) × (List Int))).map elABLU32LU32Z), .fixed (([] : List (Bool × (List Int) × (List Int))).map elABLU32LU32Z)]) ([o1, o4, o6, o7]) (by kernel_rfl) ?_
        refine H_askK (.junk) ([o1, o4, o6, o7]) (by kernel_rfl) ?_
        exact H_end .ret (.tup [.agg [.pd (.int .i64 0), .pd (.sl (([] : List (Bool × (List Int) × (List Int))).map elABLU32LU32Z)), .pd (.sl (([] : List (Bool × (List Int) × (List Int))).map elABLU32LU32Z)), .pd (.sl (([] : List (Bool × (List Int) × (List Int))).map elABLU32LU32Z))], .pd (.int .i64 x28), .pd (.int .i64 2)]) (by kernel_rfl) rfl (by kernel_rfl) (by subst h; rfl)
      replace h := h.f hp34
      obtain ⟨x35, x36, hx37, h⟩ := h
      refine H_ask _ _ (by kernel_rfl) (ask_idx (P := Tryz.prog) (M := [o1, o4, o6, o7]) (t := 105) (et := 109) (k := .i64) (lv := lvAI64LSZ) okAI64LSZ leAI64LSZ (by kernel_rfl) (by kernel_rfl) hx37) ?_
      refine H_askK (.rd [.sl (x36.map elS)]) ([o1, o4, o6, o7]) (by kernel_rfl) ?_
      refine H_askK (.pd (.sl (x36.map elS))) ([o1, o4, o6, o7]) (by kernel_rfl) ?_
      obtain ⟨hx38, h⟩ := h
      refine H_ask _ _ (by kernel_rfl) (ask_sub (P := Tryz.prog) (M := [o1, o4, o6, o7]) (t := 57) (et := 9) (lv := lvS) (lo := (some (1 : Int))) (hi := none) okS leS (by kernel_rfl) (by kernel_rfl) hx38) ?_
      obtain ⟨x39, x40, hx41, h⟩ := h
      refine H_valW (g := 62) (args := [.pd (.sl ((sub x36 (1 : Int) (x36.length : Int)).map elS))]) (M := [o1, o4, o6, o7]) (.tup [.pd (.sl (x39.map elABLU32LU32Z)), .pd (.bool x40)]) (.inl (by kernel_rfl)) (by kernel_rfl) (proof_numbers_ok m _ hx41) (by kernel_rfl) (hasT 62 (by kernel_rfl)) ?_
      cases x40
      · replace h := h.f rfl
        refine H_draw (by kernel_rfl) ?_
        obtain ⟨x89, x90, hx91, h⟩ := h
        refine H_ask _ _ (by kernel_rfl) (ask_idx (P := Tryz.prog) (M := [o1, o4, o6, o7]) (t := 105) (et := 109) (k := .i64) (lv := lvAI64LSZ) okAI64LSZ leAI64LSZ (by kernel_rfl) (by kernel_rfl) hx91) ?_
        refine H_askK (.rd [.sl (x90.map elS)]) ([o1, o4, o6, o7]) (by kernel_rfl) ?_
        refine H_askK (.pd (.sl (x90.map elS))) ([o1, o4, o6, o7]) (by kernel_rfl) ?_
        obtain ⟨x92, hx93, h⟩ := h
        refine H_ask _ _ (by kernel_rfl) (ask_idx (P := Tryz.prog) (M := [o1, o4, o6, o7]) (t := 57) (et := 9) (k := .i64) (lv := lvS) okS leS (by kernel_rfl) (by kernel_rfl) hx93) ?_
        refine H_askK (.pd (.str x92)) ([o1, o4, o6, o7]) (by kernel_rfl) ?_
        refine H_askK (.ptr 3 0 0) ([o1, o4, o6, o7]) (by kernel_rfl) ?_
        refine H_askK (.pd (.str ([120] : List UInt8))) ([o1, o4, o6, o7]) (by kernel_rfl) ?_
        refine H_split (!(x92 == ([120] : List UInt8))) (by kernel_rfl) (fun hc => ?_) (fun hc => ?_)
        · replace h := h.t hc; clear hc
          refine H_drawF [2, 3, 4] (by kernel_rfl) ?_
          refine H_askK (.agg [.pd (.int .i64 0), .fixed (([] : List (Bool × (List Int) × (List Int))).map elABLU32LU32Z), .fixed (([] : List (Bool × (List Int) × (List Int))).map elABLU32LU32Z), .fixed (([] : List (Bool × (List Int) × (List Int))).map elABLU32LU32Z)]) ([o1, o4, o6, o7]) (by kernel_rfl) ?_
          obtain ⟨x94, x95, hx96, h⟩ := h
          refine H_askall _ (by kernel_rfl) (fun M' => ask_idx (P := Tryz.prog) (M := M') (t := 105) (et := 109) (k := .i64) (lv := lvAI64LSZ) okAI64LSZ leAI64LSZ (by kernel_rfl) (by kernel_rfl) hx96) ?_
          refine H_askall (.rd [.int .i64 x94, .sl (x95.map elS)]) (f := fun M' => some (.rd [.int .i64 x94, .sl (x95.map elS)], M')) (by kernel_rfl) (fun _ => rfl) ?_
          refine H_askall (.pd (.int .i64 x94)) (f := fun M' => some (.pd (.int .i64 x94), M')) (by kernel_rfl) (fun _ => rfl) ?_
          refine H_askK (.junk) ([o1, o4, o6, o7]) (by kernel_rfl) ?_
          exact H_end .ret (.tup [.agg [.pd (.int .i64 0), .pd (.sl (([] : List (Bool × (List Int) × (List Int))).map elABLU32LU32Z)), .pd (.sl (([] : List (Bool × (List Int) × (List Int))).map elABLU32LU32Z)), .pd (.sl (([] : List (Bool × (List Int) × (List Int))).map elABLU32LU32Z))], .pd (.int .i64 x94), .pd (.int .i64 2)]) (by kernel_rfl) rfl (by kernel_rfl) (by subst h; rfl)
        replace h := h.f hc; clear hc
        refine H_drawF [2, 3, 4] (by kernel_rfl) ?_
        refine H_askK (.agg [.pd (.int .i64 0), .fixed (([] : List (Bool × (List Int) × (List Int))).map elABLU32LU32Z), .fixed (([] : List (Bool × (List Int) × (List Int))).map elABLU32LU32Z), .fixed (([] : List (Bool × (List Int) × (List Int))).map elABLU32LU32Z)]) ([o1, o4, o6, o7]) (by kernel_rfl) ?_
        obtain ⟨x97, x98, hx99, h⟩ := h
        refine H_askall _ (by kernel_rfl) (fun M' => ask_idx (P := Tryz.prog) (M := M') (t := 105) (et := 109) (k := .i64) (lv := lvAI64LSZ) okAI64LSZ leAI64LSZ (by kernel_rfl) (by kernel_rfl) hx99) ?_
        refine H_askall (.rd [.int .i64 x97, .sl (x98.map elS)]) (f := fun M' => some (.rd [.int .i64 x97, .sl (x98.map elS)], M')) (by kernel_rfl) (fun _ => rfl) ?_
        refine H_askall (.pd (.int .i64 x97)) (f := fun M' => some (.pd (.int .i64 x97), M')) (by kernel_rfl) (fun _ => rfl) ?_
        refine H_askK (.junk) ([o1, o4, o6, o7]) (by kernel_rfl) ?_
        exact H_end .ret (.tup [.agg [.pd (.int .i64 0), .pd (.sl (([] : List (Bool × (List Int) × (List Int))).map elABLU32LU32Z)), .pd (.sl (([] : List (Bool × (List Int) × (List Int))).map elABLU32LU32Z)), .pd (.sl (([] : List (Bool × (List Int) × (List Int))).map elABLU32LU32Z))], .pd (.int .i64 x97), .pd (.int .i64 2)]) (by kernel_rfl) rfl (by kernel_rfl) (by subst h; rfl)
      replace h := h.t rfl
      refine H_draw (by kernel_rfl) ?_
      obtain ⟨x42, x43, hx44, h⟩ := h
      refine H_ask _ _ (by kernel_rfl) (ask_idx (P := Tryz.prog) (M := [o1, o4, o6, o7]) (t := 105) (et := 109) (k := .i64) (lv := lvAI64LSZ) okAI64LSZ leAI64LSZ (by kernel_rfl) (by kernel_rfl) hx44) ?_
      refine H_askK (.rd [.sl (x43.map elS)]) ([o1, o4, o6, o7]) (by kernel_rfl) ?_
      refine H_askK (.pd (.sl (x43.map elS))) ([o1, o4, o6, o7]) (by kernel_rfl) ?_
      obtain ⟨x45, hx46, h⟩ := h
      refine H_ask _ _ (by kernel_rfl) (ask_idx (P := Tryz.prog) (M := [o1, o4, o6, o7]) (t := 57) (et := 9) (k := .i64) (lv := lvS) okS leS (by kernel_rfl) (by kernel_rfl) hx46) ?_
      refine H_askK (.pd (.str x45)) ([o1, o4, o6, o7]) (by kernel_rfl) ?_
      refine H_askK (.ptr 3 0 0) ([o1, o4, o6, o7]) (by kernel_rfl) ?_
      refine H_askK (.pd (.str ([120] : List UInt8))) ([o1, o4, o6, o7]) (by kernel_rfl) ?_
      refine H_split (!(x45 == ([120] : List UInt8))) (by kernel_rfl) (fun hc => ?_) (fun hc => ?_)
      · replace h := h.t hc; clear hc
        refine H_drawF [2, 3, 4] (by kernel_rfl) ?_
        refine H_askK (.agg [.pd (.int .i64 0), .fixed (([] : List (Bool × (List Int) × (List Int))).map elABLU32LU32Z), .fixed (([] : List (Bool × (List Int) × (List Int))).map elABLU32LU32Z), .fixed (([] : List (Bool × (List Int) × (List Int))).map elABLU32LU32Z)]) ([o1, o4, o6, o7]) (by kernel_rfl) ?_
        obtain ⟨x47, x48, hx49, h⟩ := h
        refine H_askall _ (by kernel_rfl) (fun M' => ask_idx (P := Tryz.prog) (M := M') (t := 105) (et := 109) (k := .i64) (lv := lvAI64LSZ) okAI64LSZ leAI64LSZ (by kernel_rfl) (by kernel_rfl) hx49) ?_
        refine H_askall (.rd [.int .i64 x47, .sl (x48.map elS)]) (f := fun M' => some (.rd [.int .i64 x47, .sl (x48.map elS)], M')) (by kernel_rfl) (fun _ => rfl) ?_
        refine H_askall (.pd (.int .i64 x47)) (f := fun M' => some (.pd (.int .i64 x47), M')) (by kernel_rfl) (fun _ => rfl) ?_
        refine H_askK (.junk) ([o1, o4, o6, o7]) (by kernel_rfl) ?_
        exact H_end .ret (.tup [.agg [.pd (.int .i64 0), .pd (.sl (([] : List (Bool × (List Int) × (List Int))).map elABLU32LU32Z)), .pd (.sl (([] : List (Bool × (List Int) × (List Int))).map elABLU32LU32Z)), .pd (.sl (([] : List (Bool × (List Int) × (List Int))).map elABLU32LU32Z))], .pd (.int .i64 x47), .pd (.int .i64 2)]) (by kernel_rfl) rfl (by kernel_rfl) (by subst h; rfl)
      replace h := h.f hc; clear hc
      refine H_askK (.ptr 3 2 0) ([o1, o4, o6, o7]) (by kernel_rfl) ?_
      refine H_askK (.ptr 1 1 0) ([o1, o4, o6, o7]) (by kernel_rfl) ?_
      refine H_askK (.ptr 1 1 0) ([o1, o4, o6, o7]) (by kernel_rfl) ?_
      let o8 : Ob := .cells [.pd (.int .i64 s101), .pd (.sl (x39.map elABLU32LU32Z)), .fixed (([] : List (Bool × (List Int) × (List Int))).map elABLU32LU32Z), .fixed (([] : List (Bool × (List Int) × (List Int))).map elABLU32LU32Z)] 1 0 false
      refine H_askK (.junk) ([o1, o8, o6, o7]) (by kernel_rfl) ?_
      refine H_draw (by kernel_rfl) ?_
      obtain ⟨x50, x51, hx52, h⟩ := h
      refine H_ask _ _ (by kernel_rfl) (ask_idx (P := Tryz.prog) (M := [o1, o8, o6, o7]) (t := 105) (et := 109) (k := .i64) (lv := lvAI64LSZ) okAI64LSZ leAI64LSZ (by kernel_rfl) (by kernel_rfl) hx52) ?_
      refine H_askK (.rd [.int .i64 x50, .sl (x51.map elS)]) ([o1, o8, o6, o7]) (by kernel_rfl) ?_
      refine H_askK (.pd (.int .i64 x50)) ([o1, o8, o6, o7]) (by kernel_rfl) ?_
      obtain ⟨hx53, h⟩ := h
      refine H_ask _ _ (by kernel_rfl) (ask_sub (P := Tryz.prog) (M := [o1, o8, o6, o7]) (t := 105) (et := 109) (lv := lvAI64LSZ) (lo := (some (1 : Int))) (hi := none) okAI64LSZ leAI64LSZ (by kernel_rfl) (by kernel_rfl) hx53) ?_
      refine H_split true (by kernel_rfl) (fun _ => ?_) (fun hc => by cases hc)
      refine H_askK (.agg [.pd (.str ([121] : List UInt8)), .pd (.bool true), .ptr 1 2 0]) ([o1, o8, o6, o7]) (by kernel_rfl) ?_
      let o9 : Ob := .cells [.pd (.str ([121] : List UInt8)), .pd (.bool true), .ptr 1 2 0] 1 0 false
      refine H_askK (.junk) ([o1, o8, o6, o7, o9]) (by kernel_rfl) ?_
      refine H_askK (.ptr 4 1 0) ([o1, o8, o6, o7, o9]) (by kernel_rfl) ?_
      refine H_askK (.pd (.bool true)) ([o1, o8, o6, o7, o9]) (by kernel_rfl) ?_
      refine H_ask _ _ (by kernel_rfl) (ask_len (P := Tryz.prog) (M := [o1, o8, o6, o7, o9]) (t := 105) (et := 109) (el := elAI64LSZ) (by kernel_rfl) (e := (sub (sub x1 (1 : Int) (x1.length : Int)) (1 : Int) ((sub x1 (1 : Int) (x1.length : Int)).length : Int)))) ?_
      refine H_split (((sub (sub x1 (1 : Int) (x1.length : Int)) (1 : Int) ((sub x1 (1 : Int) (x1.length : Int)).length : Int)).length : Int) == (0 : Int)) (by kernel_rfl) (fun hp54 => ?_) (fun hp54 => ?_)
      · replace h := h.t hp54
        refine H_askK (.agg [.pd (.int .i64 0), .fixed (([] : List (Bool × (List Int) × (List Int))).map elABLU32LU32Z), .fixed (([] : List (Bool × (List Int) × (List Int))).map elABLU32LU32Z), .fixed (([] : List (Bool × (List Int) × (List Int))).map elABLU32LU32Z)]) ([o1, o8, o6, o7, o9]) (by kernel_rfl) ?_
        refine H_askK (.junk) ([o1, o8, o6, o7, o9]) (by kernel_rfl) ?_
        exact H_end .ret (.tup [.agg [.pd (.int .i64 0), .pd (.sl (([] : List (Bool × (List Int) × (List Int))).map elABLU32LU32Z)), .pd (.sl (([] : List (Bool × (List Int) × (List Int))).map elABLU32LU32Z)), .pd (.sl (([] : List (Bool × (List Int) × (List Int))).map elABLU32LU32Z))], .pd (.int .i64 x50), .pd (.int .i64 2)]) (by kernel_rfl) rfl (by kernel_rfl) (by subst h; rfl)
      replace h := h.f hp54
      obtain ⟨x55, x56, hx57, h⟩ := h
      refine H_ask _ _ (by kernel_rfl) (ask_idx (P := Tryz.prog) (M := [o1, o8, o6, o7, o9]) (t := 105) (et := 109) (k := .i64) (lv := lvAI64LSZ) okAI64LSZ leAI64LSZ (by kernel_rfl) (by kernel_rfl) hx57) ?_
      refine H_askK (.rd [.sl (x56.map elS)]) ([o1, o8, o6, o7, o9]) (by kernel_rfl) ?_
      refine H_askK (.pd (.sl (x56.map elS))) ([o1, o8, o6, o7, o9]) (by kernel_rfl) ?_
      obtain ⟨hx58, h⟩ := h
      refine H_ask _ _ (by kernel_rfl) (ask_sub (P := Tryz.prog) (M := [o1, o8, o6, o7, o9]) (t := 57) (et := 9) (lv := lvS) (lo := (some (1 : Int))) (hi := none) okS leS (by kernel_rfl) (by kernel_rfl) hx58) ?_
      obtain ⟨x59, x60, hx61, h⟩ := h
      refine H_valW (g := 62) (args := [.pd (.sl ((sub x56 (1 : Int) (x56.length : Int)).map elS))]) (M := [o1, o8, o6, o7, o9]) (.tup [.pd (.sl (x59.map elABLU32LU32Z)), .pd (.bool x60)]) (.inl (by kernel_rfl)) (by kernel_rfl) (proof_numbers_ok m _ hx61) (by kernel_rfl) (hasT 62 (by kernel_rfl)) ?_
      cases x60
      · replace h := h.f rfl
        refine H_draw (by kernel_rfl) ?_
        obtain ⟨x78, x79, hx80, h⟩ := h
        refine H_ask _ _ (by kernel_rfl) (ask_idx (P := Tryz.prog) (M := [o1, o8, o6, o7, o9]) (t := 105) (et := 109) (k := .i64) (lv := lvAI64LSZ) okAI64LSZ leAI64LSZ (by kernel_rfl) (by kernel_rfl) hx80) ?_
        refine H_askK (.rd [.sl (x79.map elS)]) ([o1, o8, o6, o7, o9]) (by kernel_rfl) ?_
        refine H_askK (.pd (.sl (x79.map elS))) ([o1, o8, o6, o7, o9]) (by kernel_rfl) ?_
        obtain ⟨x81, hx82, h⟩ := h
        refine H_ask _ _ (by kernel_rfl) (ask_idx (P := Tryz.prog) (M := [o1, o8, o6, o7, o9]) (t := 57) (et := 9) (k := .i64) (lv := lvS) okS leS (by kernel_rfl) (by kernel_rfl) hx82) ?_
        refine H_askK (.pd (.str x81)) ([o1, o8, o6, o7, o9]) (by kernel_rfl) ?_
        refine H_askK (.ptr 4 0 0) ([o1, o8, o6, o7, o9]) (by kernel_rfl) ?_
        refine H_askK (.pd (.str ([121] : List UInt8))) ([o1, o8, o6, o7, o9]) (by kernel_rfl) ?_
        refine H_split (!(x81 == ([121] : List UInt8))) (by kernel_rfl) (fun hc => ?_) (fun hc => ?_)
        · replace h := h.t hc; clear hc
          refine H_drawF [2, 3, 4] (by kernel_rfl) ?_
          refine H_askK (.agg [.pd (.int .i64 0), .fixed (([] : List (Bool × (List Int) × (List Int))).map elABLU32LU32Z), .fixed (([] : List (Bool × (List Int) × (List Int))).map elABLU32LU32Z), .fixed (([] : List (Bool × (List Int) × (List Int))).map elABLU32LU32Z)]) ([o1, o8, o6, o7, o9]) (by kernel_rfl) ?_
          obtain ⟨x83, x84, hx85, h⟩ := h
          refine H_askall _ (by kernel_rfl) (fun M' => ask_idx (P := Tryz.prog) (M := M') (t := 105) (et := 109) (k := .i64) (lv := lvAI64LSZ) okAI64LSZ leAI64LSZ (by kernel_rfl) (by kernel_rfl) hx85) ?_
          refine H_askall (.rd [.int .i64 x83, .sl (x84.map elS)]) (f := fun M' => some (.rd [.int .i64 x83, .sl (x84.map elS)], M')) (by kernel_rfl) (fun _ => rfl) ?_
          refine H_askall (.pd (.int .i64 x83)) (f := fun M' => some (.pd (.int .i64 x83), M')) (by kernel_rfl) (fun _ => rfl) ?_
          refine H_askK (.junk) ([o1, o8, o6, o7, o9]) (by kernel_rfl) ?_
          exact H_end .ret (.tup [.agg [.pd (.int .i64 0), .pd (.sl (([] : List (Bool × (List Int) × (List Int))).map elABLU32LU32Z)), .pd (.sl (([] : List (Bool × (List Int) × (List Int))).map elABLU32LU32Z)), .pd (.sl (([] : List (Bool × (List Int) × (List Int))).map elABLU32LU32Z))], .pd (.int .i64 x83), .pd (.int .i64 2)]) (by kernel_rfl) rfl (by kernel_rfl) (by subst h; rfl)
        replace h := h.f hc; clear hc
        refine H_drawF [2, 3, 4] (by kernel_rfl) ?_
        refine H_askK (.agg [.pd (.int .i64 0), .fixed (([] : List (Bool × (List Int) × (List Int))).map elABLU32LU32Z), .fixed (([] : List (Bool × (List Int) × (List Int))).map elABLU32LU32Z), .fixed (([] : List (Bool × (List Int) × (List Int))).map elABLU32LU32Z)]) ([o1, o8, o6, o7, o9]) (by kernel_rfl) ?_
        obtain ⟨x86, x87, hx88, h⟩ := h
        refine H_askall _ (by kernel_rfl) (fun M' => ask_idx (P := Tryz.prog) (M := M') (t := 105) (et := 109) (k := .i64) (lv := lvAI64LSZ) okAI64LSZ leAI64LSZ (by kernel_rfl) (by kernel_rfl) hx88) ?_
        refine H_askall (.rd [.int .i64 x86, .sl (x87.map elS)]) (f := fun M' => some (.rd [.int .i64 x86, .sl (x87.map elS)], M')) (by kernel_rfl) (fun _ => rfl) ?_
        refine H_askall (.pd (.int .i64 x86)) (f := fun M' => some (.pd (.int .i64 x86), M')) (by kernel_rfl) (fun _ => rfl) ?_
        refine H_askK (.junk) ([o1, o8, o6, o7, o9]) (by kernel_rfl) ?_
        exact H_end .ret (.tup [.agg [.pd (.int .i64 0), .pd (.sl (([] : List (Bool × (List Int) × (List Int))).map elABLU32LU32Z)), .pd (.sl (([] : List (Bool × (List Int) × (List Int))).map elABLU32LU32Z)), .pd (.sl (([] : List (Bool × (List Int) × (List Int))).map elABLU32LU32Z))], .pd (.int .i64 x86), .pd (.int .i64 2)]) (by kernel_rfl) rfl (by kernel_rfl) (by subst h; rfl)
      replace h := h.t rfl
      refine H_draw (by kernel_rfl) ?_
      obtain ⟨x62, x63, hx64, h⟩ := h
      refine H_ask _ _ (by kernel_rfl) (ask_idx (P := Tryz.prog) (M := [o1, o8, o6, o7, o9]) (t := 105) (et := 109) (k := .i64) (lv := lvAI64LSZ) okAI64LSZ leAI64LSZ (by kernel_rfl) (by kernel_rfl) hx64) ?_
      refine H_askK (.rd [.sl (x63.map elS)]) ([o1, o8, o6, o7, o9]) (by kernel_rfl) ?_
      refine H_askK (.pd (.sl (x63.map elS))) ([o1, o8, o6, o7, o9]) (by kernel_rfl) ?_
      obtain ⟨x65, hx66, h⟩ := h
      refine H_ask _ _ (by kernel_rfl) (ask_idx (P := Tryz.prog) (M := [o1, o8, o6, o7, o9]) (t := 57) (et := 9) (k := .i64) (lv := lvS) okS leS (by kernel_rfl) (by kernel_rfl) hx66) ?_
      refine H_askK (.pd (.str x65)) ([o1, o8, o6, o7, o9]) (by kernel_rfl) ?_
      refine H_askK (.ptr 4 0 0) ([o1, o8, o6, o7, o9]) (by kernel_rfl) ?_
      refine H_askK (.pd (.str ([121] : List UInt8))) ([o1, o8, o6, o7, o9]) (by kernel_rfl) ?_
      refine H_split (!(x65 == ([121] : List UInt8))) (by kernel_rfl) (fun hc => ?_) (fun hc => ?_)
      · replace h := h.t hc; clear hc
        refine H_drawF [2, 3, 4] (by kernel_rfl) ?_
        refine H_askK (.agg [.pd (.int .i64 0), .fixed (([] : List (Bool × (List Int) × (List Int))).map elABLU32LU32Z), .fixed (([] : List (Bool × (List Int) × (List Int))).map elABLU32LU32Z), .fixed (([] : List (Bool × (List Int) × (List Int))).map elABLU32LU32Z)]) ([o1, o8, o6, o7, o9]) (by kernel_rfl) ?_
        obtain ⟨x67, x68, hx69, h⟩ := h
        refine H_askall _ (by kernel_rfl) (fun M' => ask_idx (P := Tryz.prog) (M := M') (t := 105) (et := 109) (k := .i64) (lv := lvAI64LSZ) okAI64LSZ leAI64LSZ (by kernel_rfl) (by kernel_rfl) hx69) ?_
        refine H_askall (.rd [.int .i64 x67, .sl (x68.map elS)]) (f := fun M' => some (.rd [.int .i64 x67, .sl (x68.map elS)], M')) (by kernel_rfl) (fun _ => rfl) ?_
        refine H_askall (.pd (.int .i64 x67)) (f := fun M' => some (.pd (.int .i64 x67), M')) (by kernel_rfl) (fun _ => rfl) ?_
        refine H_askK (.junk) ([o1, o8, o6, o7, o9]) (by kernel_rfl) ?_
        exact H_end .ret (.tup [.agg [.pd (.int .i64 0), .pd (.sl (([] : List (Bool × (List Int) × (List Int))).map elABLU32LU32Z)), .pd (.sl (([] : List (Bool × (List Int) × (List Int))).map elABLU32LU32Z)), .pd (.sl (([] : List (Bool × (List Int) × (List Int))).map elABLU32LU32Z))], .pd (.int .i64 x67), .pd (.int .i64 2)]) (by kernel_rfl) rfl (by kernel_rfl) (by subst h; rfl)
      replace h := h.f hc; clear hc
      refine H_askK (.ptr 4 2 0) ([o1, o8, o6, o7, o9]) (by kernel_rfl) ?_
      refine H_askK (.ptr 1 2 0) ([o1, o8, o6, o7, o9]) (by kernel_rfl) ?_
      refine H_askK (.ptr 1 2 0) ([o1, o8, o6, o7, o9]) (by kernel_rfl) ?_
      let o10 : Ob := .cells [.pd (.int .i64 s101), .pd (.sl (x39.map elABLU32LU32Z)), .pd (.sl (x59.map elABLU32LU32Z)), .fixed (([] : List (Bool × (List Int) × (List Int))).map elABLU32LU32Z)] 1 0 false
      refine H_askK (.junk) ([o1, o10, o6, o7, o9]) (by kernel_rfl) ?_
      refine H_draw (by kernel_rfl) ?_
      obtain ⟨x70, x71, hx72, h⟩ := h
      refine H_ask _ _ (by kernel_rfl) (ask_idx (P := Tryz.prog) (M := [o1, o10, o6, o7, o9]) (t := 105) (et := 109) (k := .i64) (lv := lvAI64LSZ) okAI64LSZ leAI64LSZ (by kernel_rfl) (by kernel_rfl) hx72) ?_
      refine H_askK (.rd [.int .i64 x70, .sl (x71.map elS)]) ([o1, o10, o6, o7, o9]) (by kernel_rfl) ?_
      refine H_askK (.pd (.int .i64 x70)) ([o1, o10, o6, o7, o9]) (by kernel_rfl) ?_
      obtain ⟨hx73, h⟩ := h
      refine H_ask _ _ (by kernel_rfl) (ask_sub (P := Tryz.prog) (M := [o1, o10, o6, o7, o9]) (t := 105) (et := 109) (lv := lvAI64LSZ) (lo := (some (1 : Int))) (hi := none) okAI64LSZ leAI64LSZ (by kernel_rfl) (by kernel_rfl) hx73) ?_
      refine H_split true (by kernel_rfl) (fun _ => ?_) (fun hc => by cases hc)
      refine H_askK (.agg [.pd (.str ([114, 97, 121] : List UInt8)), .pd (.bool false), .ptr 1 3 0]) ([o1, o10, o6, o7, o9]) (by kernel_rfl) ?_
      let o11 : Ob := .cells [.pd (.str ([114, 97, 121] : List UInt8)), .pd (.bool false), .ptr 1 3 0] 1 0 false
      let m12 : Mem := [o1, o10, o6, o7, o9, o11]
      refine H_askK (.junk) (m12) (by kernel_rfl) ?_
      refine H_askK (.ptr 5 1 0) (m12) (by kernel_rfl) ?_
      refine H_askK (.pd (.bool false)) (m12) (by kernel_rfl) ?_
      refine H_split false (by kernel_rfl) (fun hc => by cases hc) (fun _ => ?_)
      refine H_ask _ _ (by kernel_rfl) (ask_len (P := Tryz.prog) (M := m12) (t := 105) (et := 109) (el := elAI64LSZ) (by kernel_rfl) (e := (sub (sub (sub x1 (1 : Int) (x1.length : Int)) (1 : Int) ((sub x1 (1 : Int) (x1.length : Int)).length : Int)) (1 : Int) ((sub (sub x1 (1 : Int) (x1.length : Int)) (1 : Int) ((sub x1 (1 : Int) (x1.length : Int)).length : Int)).length : Int)))) ?_
      refine H_split (decide (((sub (sub (sub x1 (1 : Int) (x1.length : Int)) (1 : Int) ((sub x1 (1 : Int) (x1.length : Int)).length : Int)) (1 : Int) ((sub (sub x1 (1 : Int) (x1.length : Int)) (1 : Int) ((sub x1 (1 : Int) (x1.length : Int)).length : Int)).length : Int)).length : Int) > (0 : Int))) (by kernel_rfl) (fun hp74 => ?_) (fun hp74 => ?_)
      · replace h := h.t hp74
        refine H_drawF [2, 3, 4] (by kernel_rfl) ?_
        refine H_askK (.agg [.pd (.int .i64 0), .fixed (([] : List (Bool × (List Int) × (List Int))).map elABLU32LU32Z), .fixed (([] : List (Bool × (List Int) × (List Int))).map elABLU32LU32Z), .fixed (([] : List (Bool × (List Int) × (List Int))).map elABLU32LU32Z)]) (m12) (by kernel_rfl) ?_
        obtain ⟨x75, x76, hx77, h⟩ := h
        refine H_askall _ (by kernel_rfl) (fun M' => ask_idx (P := Tryz.prog) (M := M') (t := 105) (et := 109) (k := .i64) (lv := lvAI64LSZ) okAI64LSZ leAI64LSZ (by kernel_rfl) (by kernel_rfl) hx77) ?_
        refine H_askall (.rd [.int .i64 x75, .sl (x76.map elS)]) (f := fun M' => some (.rd [.int .i64 x75, .sl (x76.map elS)], M')) (by kernel_rfl) (fun _ => rfl) ?_
        refine H_askall (.pd (.int .i64 x75)) (f := fun M' => some (.pd (.int .i64 x75), M')) (by kernel_rfl) (fun _ => rfl) ?_
        refine H_askK (.junk) (m12) (by kernel_rfl) ?_
        exact H_end .ret (.tup [.agg [.pd (.int .i64 0), .pd (.sl (([] : List (Bool × (List Int) × (List Int))).map elABLU32LU32Z)), .pd (.sl (([] : List (Bool × (List Int) × (List Int))).map elABLU32LU32Z)), .pd (.sl (([] : List (Bool × (List Int) × (List Int))).map elABLU32LU32Z))], .pd (.int .i64 x75), .pd (.int .i64 2)]) (by kernel_rfl) rfl (by kernel_rfl) (by subst h; rfl)
      replace h := h.f hp74
      refine H_askK (.agg [.pd (.int .i64 s101), .pd (.sl (x39.map elABLU32LU32Z)), .pd (.sl (x59.map elABLU32LU32Z)), .fixed (([] : List (Bool × (List Int) × (List Int))).map elABLU32LU32Z)]) (m12) (by kernel_rfl) ?_
      let m13 : Mem := [o10, o10, o6, o7, o9, o11]
      refine H_askK (.junk) (m13) (by kernel_rfl) ?_
      exact H_end .ret (.tup [.agg [.pd (.int .i64 s101), .pd (.sl (x39.map elABLU32LU32Z)), .pd (.sl (x59.map elABLU32LU32Z)), .pd (.sl (([] : List (Bool × (List Int) × (List Int))).map elABLU32LU32Z))], .pd (.int .i64 0), .pd (.int .i64 0)]) (by kernel_rfl) rfl (by kernel_rfl) (by subst h; rfl)
    replace h := h.f hp33
    refine H_askK (.ptr 1 0 0) ([o1, o4, o5]) (by kernel_rfl) ?_
    refine H_askK (.ptr 1 2 0) ([o1, o4, o5]) (by kernel_rfl) ?_
    refine H_askK (.agg [.pd (.str ([121] : List UInt8)), .pd (.bool false), .ptr 1 2 0]) ([o1, o4, o5]) (by kernel_rfl) ?_
    refine H_askK (.ptr 1 0 0) ([o1, o4, o5]) (by kernel_rfl) ?_
    refine H_askK (.ptr 1 0 0) ([o1, o4, o5]) (by kernel_rfl) ?_
    refine H_askK (.pd (.int .i64 s101)) ([o1, o4, o5]) (by kernel_rfl) ?_
    refine H_split (s101 == (3 : Int)) (by kernel_rfl) (fun _ => ?_) (fun hc => by simp only [decide_eq_true_eq, decide_eq_false_iff_not, beq_iff_eq, bne_iff_ne, beq_eq_false_iff_ne, bne_eq_false_iff_eq, ne_eq] at hp33 hc; omega)
    refine H_askK (.ptr 1 0 0) ([o1, o4, o5]) (by kernel_rfl) ?_
    refine H_askK (.ptr 1 3 0) ([o1, o4, o5]) (by kernel_rfl) ?_
    refine H_askK (.agg [.pd (.str ([114, 97, 121] : List UInt8)), .pd (.bool true), .ptr 1 3 0]) ([o1, o4, o5]) (by kernel_rfl) ?_
    refine H_askK (.agg [.pd (.str ([120] : List UInt8)), .pd (.bool true), .ptr 1 1 0, .pd (.str ([121] : List UInt8)), .pd (.bool false), .ptr 1 2 0, .pd (.str ([114, 97, 121] : List UInt8)), .pd (.bool true), .ptr 1 3 0]) ([o1, o4, o5]) (by kernel_rfl) ?_
    let o14 : Ob := .cells [.pd (.str ([120] : List UInt8)), .pd (.bool true), .ptr 1 1 0, .pd (.str ([121] : List UInt8)), .pd (.bool false), .ptr 1 2 0, .pd (.str ([114, 97, 121] : List UInt8)), .pd (.bool true), .ptr 1 3 0] 1 0 false
    refine H_askK (.junk) ([o1, o4, o14]) (by kernel_rfl) ?_
    refine H_endM .ret (.agg [.pd (.str ([120] : List UInt8)), .pd (.bool true), .ptr 1 1 0, .pd (.str ([121] : List UInt8)), .pd (.bool false), .ptr 1 2 0, .pd (.str ([114, 97, 121] : List UInt8)), .pd (.bool true), .ptr 1 3 0]) ([o1, o4, o14]) (by kernel_rfl) rfl (by kernel_rfl) (by kernel_rfl) (by kernel_rfl) ?_
    refine H_unroll 4 mixedT (askG [9, 10, 11] false) (by kernel_rfl) ?_
    refine H_split true (by kernel_rfl) (fun _ => ?_) (fun hc => by cases hc)
    refine H_askK (.agg [.pd (.str ([120] : List UInt8)), .pd (.bool true), .ptr 1 1 0]) ([o1, o4, o14]) (by kernel_rfl) ?_
    let o15 : Ob := .cells [.pd (.str ([120] : List UInt8)), .pd (.bool true), .ptr 1 1 0] 1 0 false
    refine H_askK (.junk) ([o1, o4, o14, o15]) (by kernel_rfl) ?_
    refine H_askK (.ptr 3 1 0) ([o1, o4, o14, o15]) (by kernel_rfl) ?_
    refine H_askK (.pd (.bool true)) ([o1, o4, o14, o15]) (by kernel_rfl) ?_
    refine H_ask _ _ (by kernel_rfl) (ask_len (P := Tryz.prog) (M := [o1, o4, o14, o15]) (t := 105) (et := 109) (el := elAI64LSZ) (by kernel_rfl) (e := (sub x1 (1 : Int) (x1.length : Int)))) ?_
    refine H_split (((sub x1 (1 : Int) (x1.length : Int)).length : Int) == (0 : Int)) (by kernel_rfl) (fun hp100 => ?_) (fun hp100 => ?_)
    · replace h := h.t hp100
      refine H_askK (.agg [.pd (.int .i64 0), .fixed (([] : List (Bool × (List Int) × (List Int))).map elABLU32LU32Z), .fixed (([] : List (Bool × (List Int) × (List Int))).map elABLU32LU32Z), .fixed (([] : List (Bool × (List Int) × (List Int))).map elABLU32LU32Z)]) ([o1, o4, o14, o15]) (by kernel_rfl) ?_
      refine H_askK (.junk) ([o1, o4, o14, o15]) (by kernel_rfl) ?_
      exact H_end .ret (.tup [.agg [.pd (.int .i64 0), .pd (.sl (([] : List (Bool × (List Int) × (List Int))).map elABLU32LU32Z)), .pd (.sl (([] : List (Bool × (List Int) × (List Int))).map elABLU32LU32Z)), .pd (.sl (([] : List (Bool × (List Int) × (List Int))).map elABLU32LU32Z))], .pd (.int .i64 x28), .pd (.int .i64 2)]) (by kernel_rfl) rfl (by kernel_rfl) (by subst h; rfl)
    replace h := h.f hp100
    obtain ⟨x101, x102, hx103, h⟩ := h
    refine H_ask _ _ (by kernel_rfl) (ask_idx (P := Tryz.prog) (M := [o1, o4, o14, o15]) (t := 105) (et := 109) (k := .i64) (lv := lvAI64LSZ) okAI64LSZ leAI64LSZ (by kernel_rfl) (by kernel_rfl) hx103) ?_
    refine H_askK (.rd [.sl (x102.map elS)]) ([o1, o4, o14, o15]) (by kernel_rfl) ?_
    refine H_askK (.pd (.sl (x102.map elS))) ([o1, o4, o14, o15]) (by kernel_rfl) ?_
    obtain ⟨hx104, h⟩ := h
    refine H_ask _ _ (by kernel_rfl) (ask_sub (P := Tryz.prog) (M := [o1, o4, o14, o15]) (t := 57) (et := 9) (lv := lvS) (lo := (some (1 : Int))) (hi := none) okS leS (by kernel_rfl) (by kernel_rfl) hx104) ?_
    obtain ⟨x105, x106, hx107, h⟩ := h
    refine H_valW (g := 62) (args := [.pd (.sl ((sub x102 (1 : Int) (x102.length : Int)).map elS))]) (M := [o1, o4, o14, o15]) (.tup [.pd (.sl (x105.map elABLU32LU32Z)), .pd (.bool x106)]) (.inl (by kernel_rfl)) (by kernel_rfl) (proof_numbers_ok m _ hx107) (by kernel_rfl) (hasT 62 (by kernel_rfl)) ?_
    cases x106
    · replace h := h.f rfl
      refine H_draw (by kernel_rfl) ?_
      obtain ⟨x155, x156, hx157, h⟩ := h
      refine H_ask _ _ (by kernel_rfl) (ask_idx (P := Tryz.prog) (M := [o1, o4, o14, o15]) (t := 105) (et := 109) (k := .i64) (lv := lvAI64LSZ) okAI64LSZ leAI64LSZ (by kernel_rfl) (by kernel_rfl) hx157) ?_
      refine H_askK (.rd [.sl (x156.map elS)]) ([o1, o4, o14, o15]) (by kernel_rfl) ?_
      refine H_askK (.pd (.sl (x156.map elS))) ([o1, o4, o14, o15]) (by kernel_rfl) ?_
      obtain ⟨x158, hx159, h⟩ := h
      refine H_ask _ _ (by kernel_rfl) (ask_idx (P := Tryz.prog) (M := [o1, o4, o14, o15]) (t := 57) (et := 9) (k := .i64) (lv := lvS) okS leS (by kernel_rfl) (by kernel_rfl) hx159) ?_
      refine H_askK (.pd (.str x158)) ([o1, o4, o14, o15]) (by kernel_rfl) ?_
      refine H_askK (.ptr 3 0 0) ([o1, o4, o14, o15]) (by kernel_rfl) ?_
      refine H_askK (.pd (.str ([120] : List UInt8))) ([o1, o4, o14, o15]) (by kernel_rfl) ?_
      refine H_split (!(x158 == ([120] : List UInt8))) (by kernel_rfl) (fun hc => ?_) (fun hc => ?_)
      · replace h := h.t hc; clear hc
        refine H_drawF [2, 3, 4] (by kernel_rfl) ?_
        refine H_askK (.agg [.pd (.int .i64 0), .fixed (([] : List (Bool × (List Int) × (List Int))).map elABLU32LU32Z), .fixed (([] : List (Bool × (List Int) × (List Int))).map elABLU32LU32Z), .fixed (([] : List (Bool × (List Int) × (List Int))).map elABLU32LU32Z)]) ([o1, o4, o14, o15]) (by kernel_rfl) ?_
        obtain ⟨x160, x161, hx162, h⟩ := h
        refine H_askall _ (by kernel_rfl) (fun M' => ask_idx (P := Tryz.prog) (M := M') (t := 105) (et := 109) (k := .i64) (lv := lvAI64LSZ) okAI64LSZ leAI64LSZ (by kernel_rfl) (by kernel_rfl) hx162) ?_
        refine H_askall (.rd [.int .i64 x160, .sl (x161.map elS)]) (f := fun M' => some (.rd [.int .i64 x160, .sl (x161.map elS)], M')) (by kernel_rfl) (fun _ => rfl) ?_
        refine H_askall (.pd (.int .i64 x160)) (f := fun M' => some (.pd (.int .i64 x160), M')) (by kernel_rfl) (fun _ => rfl) ?_
        refine H_askK (.junk) ([o1, o4, o14, o15]) (by kernel_rfl) ?_
        exact H_end .ret (.tup [.agg [.pd (.int .i64 0), .pd (.sl (([] : List (Bool × (List Int) × (List Int))).map elABLU32LU32Z)), .pd (.sl (([] : List (Bool × (List Int) × (List Int))).map elABLU32LU32Z)), .pd (.sl (([] : List (Bool × (List Int) × (List Int))).map elABLU32LU32Z))], .pd (.int .i64 x160), .pd (.int .i64 2)]) (by kernel_rfl) rfl (by kernel_rfl) (by subst h; rfl)
      replace h := h.f hc; clear hc
      refine H_drawF [2, 3, 4] (by kernel_rfl) ?_
      refine H_askK (.agg [.pd (.int .i64 0), .fixed (([] : List (Bool × (List Int) × (List Int))).map elABLU32LU32Z), .fixed (([] : List (Bool × (List Int) × (List Int))).map elABLU32LU32Z), .fixed (([] : List (Bool × (List Int) × (List Int))).map elABLU32LU32Z)]) ([o1, o4, o14, o15]) (by kernel_rfl) ?_
      obtain ⟨x163, x164, hx165, h⟩ := h
      refine H_askall _ (by kernel_rfl) (fun M' => ask_idx (P := Tryz.prog) (M := M') (t := 105) (et := 109) (k := .i64) (lv := lvAI64LSZ) okAI64LSZ leAI64LSZ (by kernel_rfl) (by kernel_rfl) hx165) ?_
      refine H_askall (.rd [.int .i64 x163, .sl (x164.map elS)]) (f := fun M' => some (.rd [.int .i64 x163, .sl (x164.map elS)], M')) (by kernel_rfl) (fun _ => rfl) ?_
      refine H_askall (.pd (.int .i64 x163)) (f := fun M' => some (.pd (.int .i64 x163), M')) (by kernel_rfl) (fun _ => rfl) ?_
      refine H_askK (.junk) ([o1, o4, o14, o15]) (by kernel_rfl) ?_
      exact H_end .ret (.tup [.agg [.pd (.int .i64 0), .pd (.sl (([] : List (Bool × (List Int) × (List Int))).map elABLU32LU32Z)), .pd (.sl (([] : List (Bool × (List Int) × (List Int))).map elABLU32LU32Z)), .pd (.sl (([] : List (Bool × (List Int) × (List Int))).map elABLU32LU32Z))], .pd (.int .i64 x163), .pd (.int .i64 2)]) (by kernel_rfl) rfl (by kernel_rfl) (by subst h; rfl)
    replace h := h.t rfl
    refine H_draw (by kernel_rfl) ?_
    obtain ⟨x108, x109, hx110, h⟩ := h
    refine H_ask _ _ (by kernel_rfl) (ask_idx (P := Tryz.prog) (M := [o1, o4, o14, o15]) (t := 105) (et := 109) (k := .i64) (lv := lvAI64LSZ) okAI64LSZ leAI64LSZ (by kernel_rfl) (by kernel_rfl) hx110) ?_
    refine H_askK (.rd [.sl (x109.map elS)]) ([o1, o4, o14, o15]) (by kernel_rfl) ?_
    refine H_askK (.pd (.sl (x109.map elS))) ([o1, o4, o14, o15]) (by kernel_rfl) ?_
    obtain ⟨x111, hx112, h⟩ := h
    refine H_ask _ _ (by kernel_rfl) (ask_idx (P := Tryz.prog) (M := [o1, o4, o14, o15]) (t := 57) (et := 9) (k := .i64) (lv := lvS) okS leS (by kernel_rfl) (by kernel_rfl) hx112) ?_
    refine H_askK (.pd (.str x111)) ([o1, o4, o14, o15]) (by kernel_rfl) ?_
    refine H_askK (.ptr 3 0 0) ([o1, o4, o14, o15]) (by kernel_rfl) ?_
    refine H_askK (.pd (.str ([120] : List UInt8))) ([o1, o4, o14, o15]) (by kernel_rfl) ?_
    refine H_split (!(x111 == ([120] : List UInt8))) (by kernel_rfl) (fun hc => ?_) (fun hc => ?_)
    · replace h := h.t hc; clear hc
      refine H_drawF [2, 3, 4] (by kernel_rfl) ?_
      refine H_askK (.agg [.pd (.int .i64 0), .fixed (([] : List (Bool × (List Int) × (List Int))).map elABLU32LU32Z), .fixed (([] : List (Bool × (List Int) × (List Int))).map elABLU32LU32Z), .fixed (([] : List (Bool × (List Int) × (List Int))).map elABLU32LU32Z)]) ([o1, o4, o14, o15]) (by kernel_rfl) ?_
      obtain ⟨x113, x114, hx115, h⟩ := h
      refine H_askall _ (by kernel_rfl) (fun M' => ask_idx (P := Tryz.prog) (M := M') (t := 105) (et := 109) (k := .i64) (lv := lvAI64LSZ) okAI64LSZ leAI64LSZ (by kernel_rfl) (by kernel_rfl) hx115) ?_
      refine H_askall (.rd [.int .i64 x113, .sl (x114.map elS)]) (f := fun M' => some (.rd [.int .i64 x113, .sl (x114.map elS)], M')) (by kernel_rfl) (fun _ => rfl) ?_
      refine H_askall (.pd (.int .i64 x113)) (f := fun M' => some (.pd (.int .i64 x113), M')) (by kernel_rfl) (fun _ => rfl) ?_
      refine H_askK (.junk) ([o1, o4, o14, o15]) (by kernel_rfl) ?_
      exact H_end .ret (.tup [.agg [.pd (.int .i64 0), .pd (.sl (([] : List (Bool × (List Int) × (List Int))).map elABLU32LU32Z)), .pd (.sl (([] : List (Bool × (List Int) × (List Int))).map elABLU32LU32Z)), .pd (.sl (([] : List (Bool × (List Int) × (List Int))).map elABLU32LU32Z))], .pd (.int .i64 x113), .pd (.int .i64 2)]) (by kernel_rfl) rfl (by kernel_rfl) (by subst h; rfl)
    replace h := h.f hc; clear hc
    refine H_askK (.ptr 3 2 0) ([o1, o4, o14, o15]) (by kernel_rfl) ?_
    refine H_askK (.ptr 1 1 0) ([o1, o4, o14, o15]) (by kernel_rfl) ?_
    refine H_askK (.ptr 1 1 0) ([o1, o4, o14, o15]) (by kernel_rfl) ?_
    let o16 : Ob := .cells [.pd (.int .i64 s101), .pd (.sl (x105.map elABLU32LU32Z)), .fixed (([] : List (Bool × (List Int) × (List Int))).map elABLU32LU32Z), .fixed (([] : List (Bool × (List Int) × (List Int))).map elABLU32LU32Z)] 1 0 false
    refine H_askK (.junk) ([o1, o16, o14, o15]) (by kernel_rfl) ?_
    refine H_draw (by kernel_rfl) ?_
    obtain ⟨x116, x117, hx118, h⟩ := h
    refine H_ask _ _ (by kernel_rfl) (ask_idx (P := Tryz.prog) (M := [o1, o16, o14, o15]) (t := 105) (et := 109) (k := .i64) (lv := lvAI64LSZ) okAI64LSZ leAI64LSZ (by kernel_rfl) (by kernel_rfl) hx118) ?_
    refine H_askK (.rd [.int .i64 x116, .sl (x117.map elS)]) ([o1, o16, o14, o15]) (by kernel_rfl) ?_
    refine H_askK (.pd (.int .i64 x116)) ([o1, o16, o14, o15]) (by kernel_rfl) ?_
    obtain ⟨hx119, h⟩ := h
    refine H_ask _ _ (by kernel_rfl) (ask_sub (P := Tryz.prog) (M := [o1, o16, o14, o15]) (t := 105) (et := 109) (lv := lvAI64LSZ) (lo := (some (1 : Int))) (hi := none) okAI64LSZ leAI64LSZ (by kernel_rfl) (by kernel_rfl) hx119) ?_
    refine H_split true (by kernel_rfl) (fun _ => ?_) (fun hc => by cases hc)
    refine H_askK (.agg [.pd (.str ([121] : List UInt8)), .pd (.bool false), .ptr 1 2 0]) ([o1, o16, o14, o15]) (by kernel_rfl) ?_
    let o17 : Ob := .cells [.pd (.str ([121] : List UInt8)), .pd (.bool false), .ptr 1 2 0] 1 0 false
    let m18 : Mem := [o1, o16, o14, o15, o17]
    refine H_askK (.junk) (m18) (by kernel_rfl) ?_
    refine H_askK (.ptr 4 1 0) (m18) (by kernel_rfl) ?_
    refine H_askK (.pd (.bool false)) (m18) (by kernel_rfl) ?_
    refine H_split true (by kernel_rfl) (fun _ => ?_) (fun hc => by cases hc)
    refine H_askK (.agg [.pd (.str ([114, 97, 121] : List UInt8)), .pd (.bool true), .ptr 1 3 0]) (m18) (by kernel_rfl) ?_
    let o19 : Ob := .cells [.pd (.str ([114, 97, 121] : List UInt8)), .pd (.bool true), .ptr 1 3 0] 1 0 false
    let m20 : Mem := [o1, o16, o14, o15, o17, o19]
    refine H_askK (.junk) (m20) (by kernel_rfl) ?_
    refine H_askK (.ptr 5 1 0) (m20) (by kernel_rfl) ?_
    refine H_askK (.pd (.bool true)) (m20) (by kernel_rfl) ?_
    refine H_ask _ _ (by kernel_rfl) (ask_len (P := Tryz.prog) (M := m20) (t := 105) (et := 109) (el := elAI64LSZ) (by kernel_rfl) (e := (sub (sub x1 (1 : Int) (x1.length : Int)) (1 : Int) ((sub x1 (1 : Int) (x1.length : Int)).length : Int)))) ?_
    refine H_split (((sub (sub x1 (1 : Int) (x1.length : Int)) (1 : Int) ((sub x1 (1 : Int) (x1.length : Int)).length : Int)).length : Int) == (0 : Int)) (by kernel_rfl) (fun hp120 => ?_) (fun hp120 => ?_)
    · replace h := h.t hp120
      refine H_askK (.agg [.pd (.int .i64 0), .fixed (([] : List (Bool × (List Int) × (List Int))).map elABLU32LU32Z), .fixed (([] : List (Bool × (List Int) × (List Int))).map elABLU32LU32Z), .fixed (([] : List (Bool × (List Int) × (List Int))).map elABLU32LU32Z)]) (m20) (by kernel_rfl) ?_
      refine H_askK (.junk) (m20) (by kernel_rfl) ?_
      exact H_end .ret (.tup [.agg [.pd (.int .i64 0), .pd (.sl (([] : List (Bool × (List Int) × (List Int))).map elABLU32LU32Z)), .pd (.sl (([] : List (Bool × (List Int) × (List Int))).map elABLU32LU32Z)), .pd (.sl (([] : List (Bool × (List Int) × (List Int))).map elABLU32LU32Z))], .pd (.int .i64 x116), .pd (.int .i64 2)]) (by kernel_rfl) rfl (by kernel_rfl) (by subst h; rfl)
    replace h := h.f hp120
    obtain ⟨x121, x122, hx123, h⟩ := h
    refine H_ask _ _ (by kernel_rfl) (ask_idx (P := Tryz.prog) (M := m20) (t := 105) (et := 109) (k := .i64) (lv := lvAI64LSZ) okAI64LSZ leAI64LSZ (by kernel_rfl) (by kernel_rfl) hx123) ?_
    refine H_askK (.rd [.sl (x122.map elS)]) (m20) (by kernel_rfl) ?_
    refine H_askK (.pd (.sl (x122.map elS))) (m20) (by kernel_rfl) ?_
    obtain ⟨hx124, h⟩ := h
    refine H_ask _ _ (by kernel_rfl) (ask_sub (P := Tryz.prog) (M := m20) (t := 57) (et := 9) (lv := lvS) (lo := (some (1 : Int))) (hi := none) okS leS (by kernel_rfl) (by kernel_rfl) hx124) ?_
    obtain ⟨x125, x126, hx127, h⟩ := h
    refine H_valW (g := 62) (args := [.pd (.sl ((sub x122 (1 : Int) (x122.length : Int)).map elS))]) (M := m20) (.tup [.pd (.sl (x125.map elABLU32LU32Z)), .pd (.bool x126)]) (.inl (by kernel_rfl)) (by kernel_rfl) (proof_numbers_ok m _ hx127) (by kernel_rfl) (hasT 62 (by kernel_rfl)) ?_
    cases x126
    · replace h := h.f rfl
      refine H_draw (by kernel_rfl) ?_
      obtain ⟨x144, x145, hx146, h⟩ := h
      refine H_ask _ _ (by kernel_rfl) (ask_idx (P := Tryz.prog) (M := m20) (t := 105) (et := 109) (k := .i64) (lv := lvAI64LSZ) okAI64LSZ leAI64LSZ (by kernel_rfl) (by kernel_rfl) hx146) ?_
      refine H_askK (.rd [.sl (x145.map elS)]) (m20) (by kernel_rfl) ?_
      refine H_askK (.pd (.sl (x145.map elS))) (m20) (by kernel_rfl) ?_
      obtain ⟨x147, hx148, h⟩ := h
      refine H_ask _ _ (by kernel_rfl) (ask_idx (P := Tryz.prog) (M := m20) (t := 57) (et := 9) (k := .i64) (lv := lvS) okS leS (by kernel_rfl) (by kernel_rfl) hx148) ?_
      refine H_askK (.pd (.str x147)) (m20) (by kernel_rfl) ?_
      refine H_askK (.ptr 5 0 0) (m20) (by kernel_rfl) ?_
      refine H_askK (.pd (.str ([114, 97, 121] : List UInt8))) (m20) (by kernel_rfl) ?_
      refine H_split (!(x147 == ([114, 97, 121] : List UInt8))) (by kernel_rfl) (fun hc => ?_) (fun hc => ?_)
      · replace h := h.t hc; clear hc
        refine H_drawF [2, 3, 4] (by kernel_rfl) ?_
        refine H_askK (.agg [.pd (.int .i64 0), .fixed (([] : List (Bool × (List Int) × (List Int))).map elABLU32LU32Z), .fixed (([] : List (Bool × (List Int) × (List Int))).map elABLU32LU32Z), .fixed (([] : List (Bool × (List Int) × (List Int))).map elABLU32LU32Z)]) (m20) (by kernel_rfl) ?_
        obtain ⟨x149, x150, hx151, h⟩ := h
        refine H_askall _ (by kernel_rfl) (fun M' => ask_idx (P := Tryz.prog) (M := M') (t := 105) (et := 109) (k := .i64) (lv := lvAI64LSZ) okAI64LSZ leAI64LSZ (by kernel_rfl) (by kernel_rfl) hx151) ?_
        refine H_askall (.rd [.int .i64 x149, .sl (x150.map elS)]) (f := fun M' => some (.rd [.int .i64 x149, .sl (x150.map elS)], M')) (by kernel_rfl) (fun _ => rfl) ?_
        refine H_askall (.pd (.int .i64 x149)) (f := fun M' => some (.pd (.int .i64 x149), M')) (by kernel_rfl) (fun _ => rfl) ?_
        refine H_askK (.junk) (m20) (by kernel_rfl) ?_
        exact H_end .ret (.tup [.agg [.pd (.int .i64 0), .pd (.sl (([] : List (Bool × (List Int) × (List Int))).map elABLU32LU32Z)), .pd (.sl (([] : List (Bool × (List Int) × (List Int))).map elABLU32LU32Z)), .pd (.sl (([] : List (Bool × (List Int) × (List Int))).map elABLU32LU32Z))], .pd (.int .i64 x149), .pd (.int .i64 2)]) (by kernel_rfl) rfl (by kernel_rfl) (by subst h; rfl)
      replace h := h.f hc; clear hc
      refine H_drawF [2, 3, 4] (by kernel_rfl) ?_
      refine H_askK (.agg [.pd (.int .i64 0), .fixed (([] : List (Bool × (List Int) × (List Int))).map elABLU32LU32Z), .fixed (([] : List (Bool × (List Int) × (List Int))).map elABLU32LU32Z), .fixed (([] : List (Bool × (List Int) × (List Int))).map elABLU32LU32Z)]) (m20) (by kernel_rfl) ?_
      obtain ⟨x152, x153, hx154, h⟩ := h
      refine H_askall _ (by kernel_rfl) (fun M' => ask_idx (P := Tryz.prog) (M := M') (t := 105) (et := 109) (k := .i64) (lv := lvAI64LSZ) okAI64LSZ leAI64LSZ (by kernel_rfl) (by kernel_rfl) hx154) ?_
      refine H_askall (.rd [.int .i64 x152, .sl (x153.map elS)]) (f := fun M' => some (.rd [.int .i64 x152, .sl (x153.map elS)], M')) (by kernel_rfl) (fun _ => rfl) ?_
      refine H_askall (.pd (.int .i64 x152)) (f := fun M' => some (.pd (.int .i64 x152), M')) (by kernel_rfl) (fun _ => rfl) ?_
      refine H_askK (.junk) (m20) (by kernel_rfl) ?_
      exact H_end .ret (.tup [.agg [.pd (.int .i64 0), .pd (.sl (([] : List (Bool × (List Int) × (List Int))).map elABLU32LU32Z)), .pd (.sl (([] : List (Bool × (List Int) × (List Int))).map elABLU32LU32Z)), .pd (.sl (([] : List (Bool × (List Int) × (List Int))).map elABLU32LU32Z))], .pd (.int .i64 x152), .pd (.int .i64 2)]) (by kernel_rfl) rfl (by kernel_rfl) (by subst h; rfl)
    replace h := h.t rfl
    refine H_draw (by kernel_rfl) ?_
    obtain ⟨x128, x129, hx130, h⟩ := h
    refine H_ask _ _ (by kernel_rfl) (ask_idx (P := Tryz.prog) (M := m20) (t := 105) (et := 109) (k := .i64) (lv := lvAI64LSZ) okAI64LSZ leAI64LSZ (by kernel_rfl) (by kernel_rfl) hx130) ?_
    refine H_askK (.rd [.sl (x129.map elS)]) (m20) (by kernel_rfl) ?_
    refine H_askK (.pd (.sl (x129.map elS))) (m20) (by kernel_rfl) ?_
    obtain ⟨x131, hx132, h⟩ := h
    refine H_ask _ _ (by kernel_rfl) (ask_idx (P := Tryz.prog) (M := m20) (t := 57) (et := 9) (k := .i64) (lv := lvS) okS leS (by kernel_rfl) (by kernel_rfl) hx132) ?_
    refine H_askK (.pd (.str x131)) (m20) (by kernel_rfl) ?_
    refine H_askK (.ptr 5 0 0) (m20) (by kernel_rfl) ?_
    refine H_askK (.pd (.str ([114, 97, 121] : List UInt8))) (m20) (by kernel_rfl) ?_
    refine H_split (!(x131 == ([114, 97, 121] : List UInt8))) (by kernel_rfl) (fun hc => ?_) (fun hc => ?_)
    · replace h := h.t hc; clear hc
      refine H_drawF [2, 3, 4] (by kernel_rfl) ?_
      refine H_askK (.agg [.pd (.int .i64 0), .fixed (([] : List (Bool × (List Int) × (List Int))).map elABLU32LU32Z), .fixed (([] : List (Bool × (List Int) × (List Int))).map elABLU32LU32Z), .fixed (([] : List (Bool × (List Int) × (List Int))).map elABLU32LU32Z)]) (m20) (by kernel_rfl) ?_
      obtain ⟨x133, x134, hx135, h⟩ := h
      refine H_askall _ (by kernel_rfl) (fun M' => ask_idx (P := Tryz.prog) (M := M') (t := 105) (et := 109) (k := .i64) (lv := lvAI64LSZ) okAI64LSZ leAI64LSZ (by kernel_rfl) (by kernel_rfl) hx135) ?_
      refine H_askall (.rd [.int .i64 x133, .sl (x134.map elS)]) (f := fun M' => some (.rd [.int .i64 x133, .sl (x134.map elS)], M')) (by kernel_rfl) (fun _ => rfl) ?_
      refine H_askall (.pd (.int .i64 x133)) (f := fun M' => some (.pd (.int .i64 x133), M')) (by kernel_rfl) (fun _ => rfl) ?_
      refine H_askK (.junk) (m20) (by kernel_rfl) ?_
      exact H_end .ret (.tup [.agg [.pd (.int .i64 0), .pd (.sl (([] : List (Bool × (List Int) × (List Int))).map elABLU32LU32Z)), .pd (.sl (([] : List (Bool × (List Int) × (List Int))).map elABLU32LU32Z)), .pd (.sl (([] : List (Bool × (List Int) × (List Int))).map elABLU32LU32Z))], .pd (.int .i64 x133), .pd (.int .i64 2)]) (by kernel_rfl) rfl (by kernel_rfl) (by subst h; rfl)
    replace h := h.f hc; clear hc
    refine H_askK (.ptr 5 2 0) (m20) (by kernel_rfl) ?_
    refine H_askK (.ptr 1 3 0) (m20) (by kernel_rfl) ?_
    refine H_askK (.ptr 1 3 0) (m20) (by kernel_rfl) ?_
    let o21 : Ob := .cells [.pd (.int .i64 s101), .pd (.sl (x105.map elABLU32LU32Z)), .fixed (([] : List (Bool × (List Int) × (List Int))).map elABLU32LU32Z), .pd (.sl (x125.map elABLU32LU32Z))] 1 0 false
    let m22 : Mem := [o1, o21, o14, o15, o17, o19]
    refine H_askK (.junk) (m22) (by kernel_rfl) ?_
    refine H_draw (by kernel_rfl) ?_
    obtain ⟨x136, x137, hx138, h⟩ := h
    refine H_ask _ _ (by kernel_rfl) (ask_idx (P := Tryz.prog) (M := m22) (t := 105) (et := 109) (k := .i64) (lv := lvAI64LSZ) okAI64LSZ leAI64LSZ (by kernel_rfl) (by kernel_rfl) hx138) ?_
    refine H_askK (.rd [.int .i64 x136, .sl (x137.map elS)]) (m22) (by kernel_rfl) ?_
    refine H_askK (.pd (.int .i64 x136)) (m22) (by kernel_rfl) ?_
    obtain ⟨hx139, h⟩ := h
    refine H_ask _ _ (by kernel_rfl) (ask_sub (P := Tryz.prog) (M := m22) (t := 105) (et := 109) (lv := lvAI64LSZ) (lo := (some (1 : Int))) (hi := none) okAI64LSZ leAI64LSZ (by kernel_rfl) (by kernel_rfl) hx139) ?_
    refine H_split false (by kernel_rfl) (fun hc => by cases hc) (fun _ => ?_)
    refine H_ask _ _ (by kernel_rfl) (ask_len (P := Tryz.prog) (M := m22) (t := 105) (et := 109) (el := elAI64LSZ) (by kernel_rfl) (e := (sub (sub (sub x1 (1 : Int) (x1.length : Int)) (1 : Int) ((sub x1 (1 : Int) (x1.length : Int)).length : Int)) (1 : Int) ((sub (sub x1 (1 : Int) (x1.length : Int)) (1 : Int) ((sub x1 (1 : Int) (x1.length : Int)).length : Int)).length : Int)))) ?_
    refine H_split (decide (((sub (sub (sub x1 (1 : Int) (x1.length : Int)) (1 : Int) ((sub x1 (1 : Int) (x1.length : Int)).length : Int)) (1 : Int) ((sub (sub x1 (1 : Int) (x1.length : Int)) (1 : Int) ((sub x1 (1 : Int) (x1.length : Int)).length : Int)).length : Int)).length : Int) > (0 : Int))) (by kernel_rfl) (fun hp140 => ?_) (fun hp140 => ?_)
    · replace h := h.t hp140
      refine H_drawF [2, 3, 4] (by kernel_rfl) ?_
      refine H_askK (.agg [.pd (.int .i64 0), .fixed (([] : List (Bool × (List Int) × (List Int))).map elABLU32LU32Z), .fixed (([] : List (Bool × (List Int) × (List Int))).map elABLU32LU32Z), .fixed (([] : List (Bool × (List Int) × (List Int))).map elABLU32LU32Z)]) (m22) (by kernel_rfl) ?_
      obtain ⟨x141, x142, hx143, h⟩ := h
      refine H_askall _ (by kernel_rfl) (fun M' => ask_idx (P := Tryz.prog) (M := M') (t := 105) (et := 109) (k := .i64) (lv := lvAI64LSZ) okAI64LSZ leAI64LSZ (by kernel_rfl) (by kernel_rfl) hx143) ?_
      refine H_askall (.rd [.int .i64 x141, .sl (x142.map elS)]) (f := fun M' => some (.rd [.int .i64 x141, .sl (x142.map elS)], M')) (by kernel_rfl) (fun _ => rfl) ?_
      refine H_askall (.pd (.int .i64 x141)) (f := fun M' => some (.pd (.int .i64 x141), M')) (by kernel_rfl) (fun _ => rfl) ?_
      refine H_askK (.junk) (m22) (by kernel_rfl) ?_
      exact H_end .ret (.tup [.agg [.pd (.int .i64 0), .pd (.sl (([] : List (Bool × (List Int) × (List Int))).map elABLU32LU32Z)), .pd (.sl (([] : List (Bool × (List Int) × (List Int))).map elABLU32LU32Z)), .pd (.sl (([] : List (Bool × (List Int) × (List Int))).map elABLU32LU32Z))], .pd (.int .i64 x141), .pd (.int .i64 2)]) (by kernel_rfl) rfl (by kernel_rfl) (by subst h; rfl)
    replace h := h.f hp140
    refine H_askK (.agg [.pd (.int .i64 s101), .pd (.sl (x105.map elABLU32LU32Z)), .fixed (([] : List (Bool × (List Int) × (List Int))).map elABLU32LU32Z), .pd (.sl (x125.map elABLU32LU32Z))]) (m22) (by kernel_rfl) ?_
    let m23 : Mem := [o21, o21, o14, o15, o17, o19]
    refine H_askK (.junk) (m23) (by kernel_rfl) ?_
    exact H_end .ret (.tup [.agg [.pd (.int .i64 s101), .pd (.sl (x105.map elABLU32LU32Z)), .pd (.sl (([] : List (Bool × (List Int) × (List Int))).map elABLU32LU32Z)), .pd (.sl (x125.map elABLU32LU32Z))], .pd (.int .i64 0), .pd (.int .i64 0)]) (by kernel_rfl) rfl (by kernel_rfl) (by subst h; rfl)
  replace h := h.f hp32
  refine H_askK (.ptr 1 0 0) ([o1, o4, o5]) (by kernel_rfl) ?_
  refine H_askK (.ptr 1 1 0) ([o1, o4, o5]) (by kernel_rfl) ?_
  refine H_askK (.agg [.pd (.str ([120] : List UInt8)), .pd (.bool false), .ptr 1 1 0]) ([o1, o4, o5]) (by kernel_rfl) ?_
  refine H_askK (.ptr 1 0 0) ([o1, o4, o5]) (by kernel_rfl) ?_
  refine H_askK (.ptr 1 0 0) ([o1, o4, o5]) (by kernel_rfl) ?_
  refine H_askK (.pd (.int .i64 s101)) ([o1, o4, o5]) (by kernel_rfl) ?_
  refine H_split (s101 != (3 : Int)) (by kernel_rfl) (fun _ => ?_) (fun hc => by simp only [decide_eq_true_eq, decide_eq_false_iff_not, beq_iff_eq, bne_iff_ne, beq_eq_false_iff_ne, bne_eq_false_iff_eq, ne_eq] at hp32 hc; omega)
  refine H_askK (.ptr 1 0 0) ([o1, o4, o5]) (by kernel_rfl) ?_
  refine H_askK (.ptr 1 2 0) ([o1, o4, o5]) (by kernel_rfl) ?_
  refine H_askK (.agg [.pd (.str ([121] : List UInt8)), .pd (.bool true), .ptr 1 2 0]) ([o1, o4, o5]) (by kernel_rfl) ?_
  refine H_askK (.ptr 1 0 0) ([o1, o4, o5]) (by kernel_rfl) ?_
  refine H_askK (.ptr 1 0 0) ([o1, o4, o5]) (by kernel_rfl) ?_
  refine H_askK (.pd (.int .i64 s101)) ([o1, o4, o5]) (by kernel_rfl) ?_
  refine H_split (s101 == (3 : Int)) (by kernel_rfl) (fun hc => by simp only [decide_eq_true_eq, decide_eq_false_iff_not, beq_iff_eq, bne_iff_ne, beq_eq_false_iff_ne, bne_eq_false_iff_eq, ne_eq] at hp32 hc; omega) (fun _ => ?_)
  refine H_askK (.ptr 1 0 0) ([o1, o4, o5]) (by kernel_rfl) ?_
  refine H_askK (.ptr 1 3 0) ([o1, o4, o5]) (by kernel_rfl) ?_
  refine H_askK (.agg [.pd (.str ([114, 97, 121] : List UInt8)), .pd (.bool false), .ptr 1 3 0]) ([o1, o4, o5]) (by kernel_rfl) ?_
  refine H_askK (.agg [.pd (.str ([120] : List UInt8)), .pd (.bool false), .ptr 1 1 0, .pd (.str ([121] : List UInt8)), .pd (.bool true), .ptr 1 2 0, .pd (.str ([114, 97, 121] : List UInt8)), .pd (.bool false), .ptr 1 3 0]) ([o1, o4, o5]) (by kernel_rfl) ?_
  let o24 : Ob := .cells [.pd (.str ([120] : List UInt8)), .pd (.bool false), .ptr 1 1 0, .pd (.str ([121] : List UInt8)), .pd (.bool true), .ptr 1 2 0, .pd (.str ([114, 97, 121] : List UInt8)), .pd (.bool false), .ptr 1 3 0] 1 0 false
  refine H_askK (.junk) ([o1, o4, o24]) (by kernel_rfl) ?_
  refine H_endM .ret (.agg [.pd (.str ([120] : List UInt8)), .pd (.bool false), .ptr 1 1 0, .pd (.str ([121] : List UInt8)), .pd (.bool true), .ptr 1 2 0, .pd (.str ([114, 97, 121] : List UInt8)), .pd (.bool false), .ptr 1 3 0]) ([o1, o4, o24]) (by kernel_rfl) rfl (by kernel_rfl) (by kernel_rfl) (by kernel_rfl) ?_
  refine H_unroll 4 mixedT (askG [9, 10, 11] false) (by kernel_rfl) ?_
  refine H_split true (by kernel_rfl) (fun _ => ?_) (fun hc => by cases hc)
  refine H_askK (.agg [.pd (.str ([120] : List UInt8)), .pd (.bool false), .ptr 1 1 0]) ([o1, o4, o24]) (by kernel_rfl) ?_
  let o25 : Ob := .cells [.pd (.str ([120] : List UInt8)), .pd (.bool false), .ptr 1 1 0] 1 0 false
  refine H_askK (.junk) ([o1, o4, o24, o25]) (by kernel_rfl) ?_
  refine H_askK (.ptr 3 1 0) ([o1, o4, o24, o25]) (by kernel_rfl) ?_
  refine H_askK (.pd (.bool false)) ([o1, o4, o24, o25]) (by kernel_rfl) ?_
  refine H_split true (by kernel_rfl) (fun _ => ?_) (fun hc => by cases hc)
  refine H_askK (.agg [.pd (.str ([121] : List UInt8)), .pd (.bool true), .ptr 1 2 0]) ([o1, o4, o24, o25]) (by kernel_rfl) ?_
  let o26 : Ob := .cells [.pd (.str ([121] : List UInt8)), .pd (.bool true), .ptr 1 2 0] 1 0 false
  refine H_askK (.junk) ([o1, o4, o24, o25, o26]) (by kernel_rfl) ?_
  refine H_askK (.ptr 4 1 0) ([o1, o4, o24, o25, o26]) (by kernel_rfl) ?_
  refine H_askK (.pd (.bool true)) ([o1, o4, o24, o25, o26]) (by kernel_rfl) ?_
  refine H_ask _ _ (by kernel_rfl) (ask_len (P := Tryz.prog) (M := [o1, o4, o24, o25, o26]) (t := 105) (et := 109) (el := elAI64LSZ) (by kernel_rfl) (e := (sub x1 (1 : Int) (x1.length : Int)))) ?_
  refine H_split (((sub x1 (1 : Int) (x1.length : Int)).length : Int) == (0 : Int)) (by kernel_rfl) (fun hp166 => ?_) (fun hp166 => ?_)
  · replace h := h.t hp166
    refine H_askK (.agg [.pd (.int .i64 0), .fixed (([] : List (Bool × (List Int) × (List Int))).map elABLU32LU32Z), .fixed (([] : List (Bool × (List Int) × (List Int))).map elABLU32LU32Z), .fixed (([] : List (Bool × (List Int) × (List Int))).map elABLU32LU32Z)]) ([o1, o4, o24, o25, o26]) (by kernel_rfl) ?_
    refine H_askK (.junk) ([o1, o4, o24, o25, o26]) (by kernel_rfl) ?_
    exact H_end .ret (.tup [.agg [.pd (.int .i64 0), .pd (.sl (([] : List (Bool × (List Int) × (List Int))).map elABLU32LU32Z)), .pd (.sl (([] : List (Bool × (List Int) × (List Int))).map elABLU32LU32Z)), .pd (.sl (([] : List (Bool × (List Int) × (List Int))).map elABLU32LU32Z))], .pd (.int .i64 x28), .pd (.int .i64 2)]) (by kernel_rfl) rfl (by kernel_rfl) (by subst h; rfl)
  replace h := h.f hp166
  obtain ⟨x167, x168, hx169, h⟩ := h
  refine H_ask _ _ (by kernel_rfl) (ask_idx (P := Tryz.prog) (M := [o1, o4, o24, o25, o26]) (t := 105) (et := 109) (k := .i64) (lv := lvAI64LSZ) okAI64LSZ leAI64LSZ (by kernel_rfl) (by kernel_rfl) hx169) ?_
  refine H_askK (.rd [.sl (x168.map elS)]) ([o1, o4, o24, o25, o26]) (by kernel_rfl) ?_
  refine H_askK (.pd (.sl (x168.map elS))) ([o1, o4, o24, o25, o26]) (by kernel_rfl) ?_
  obtain ⟨hx170, h⟩ := h
  refine H_ask _ _ (by kernel_rfl) (ask_sub (P := Tryz.prog) (M := [o1, o4, o24, o25, o26]) (t := 57) (et := 9) (lv := lvS) (lo := (some (1 : Int))) (hi := none) okS leS (by kernel_rfl) (by kernel_rfl) hx170) ?_
  obtain ⟨x171, x172, hx173, h⟩ := h
  refine H_valW (g := 62) (args := [.pd (.sl ((sub x168 (1 : Int) (x168.length : Int)).map elS))]) (M := [o1, o4, o24, o25, o26]) (.tup [.pd (.sl (x171.map elABLU32LU32Z)), .pd (.bool x172)]) (.inl (by kernel_rfl)) (by kernel_rfl) (proof_numbers_ok m _ hx173) (by kernel_rfl) (hasT 62 (by kernel_rfl)) ?_
  cases x172
  · replace h := h.f rfl
    refine H_draw (by kernel_rfl) ?_
    obtain ⟨x190, x191, hx192, h⟩ := h
    refine H_ask _ _ (by kernel_rfl) (ask_idx (P := Tryz.prog) (M := [o1, o4, o24, o25, o26]) (t := 105) (et := 109) (k := .i64) (lv := lvAI64LSZ) okAI64LSZ leAI64LSZ (by kernel_rfl) (by kernel_rfl) hx192) ?_
    refine H_askK (.rd [.sl (x191.map elS)]) ([o1, o4, o24, o25, o26]) (by kernel_rfl) ?_
    refine H_askK (.pd (.sl (x191.map elS))) ([o1, o4, o24, o25, o26]) (by kernel_rfl) ?_
    obtain ⟨x193, hx194, h⟩ := h
    refine H_ask _ _ (by kernel_rfl) (ask_idx (P := Tryz.prog) (M := [o1, o4, o24, o25, o26]) (t := 57) (et := 9) (k := .i64) (lv := lvS) okS leS (by kernel_rfl) (by kernel_rfl) hx194) ?_
    refine H_askK (.pd (.str x193)) ([o1, o4, o24, o25, o26]) (by kernel_rfl) ?_
    refine H_askK (.ptr 4 0 0) ([o1, o4, o24, o25, o26]) (by kernel_rfl) ?_
    refine H_askK (.pd (.str ([121] : List UInt8))) ([o1, o4, o24, o25, o26]) (by kernel_rfl) ?_
    refine H_split (!(x193 == ([121] : List UInt8))) (by kernel_rfl) (fun hc => ?_) (fun hc => ?_)
    · replace h := h.t hc; clear hc
      refine H_drawF [2, 3, 4] (by kernel_rfl) ?_
      refine H_askK (.agg [.pd (.int .i64 0), .fixed (([] : List (Bool × (List Int) × (List Int))).map elABLU32LU32Z), .fixed (([] : List (Bool × (List Int) × (List Int))).map elABLU32LU32Z), .fixed (([] : List (Bool × (List Int) × (List Int))).map elABLU32LU32Z)]) ([o1, o4, o24, o25, o26]) (by kernel_rfl) ?_
      obtain ⟨x195, x196, hx197, h⟩ := h
      refine H_askall _ (by kernel_rfl) (fun M' => ask_idx (P := Tryz.prog) (M := M') (t := 105) (et := 109) (k := .i64) (lv := lvAI64LSZ) okAI64LSZ leAI64LSZ (by kernel_rfl) (by kernel_rfl) hx197) ?_
      refine H_askall (.rd [.int .i64 x195, .sl (x196.map elS)]) (f := fun M' => some (.rd [.int .i64 x195, .sl (x196.map elS)], M')) (by kernel_rfl) (fun _ => rfl) ?_
      refine H_askall (.pd (.int .i64 x195)) (f := fun M' => some (.pd (.int .i64 x195), M')) (by kernel_rfl) (fun _ => rfl) ?_
      refine H_askK (.junk) ([o1, o4, o24, o25, o26]) (by kernel_rfl) ?_
      exact H_end .ret (.tup [.agg [.pd (.int .i64 0), .pd (.sl (([] : List (Bool × (List Int) × (List Int))).map elABLU32LU32Z)), .pd (.sl (([] : List (Bool × (List Int) × (List Int))).map elABLU32LU32Z)), .pd (.sl (([] : List (Bool × (List Int) × (List Int))).map elABLU32LU32Z))], .pd (.int .i64 x195), .pd (.int .i64 2)]) (by kernel_rfl) rfl (by kernel_rfl) (by subst h; rfl)
    replace h := h.f hc; clear hc
    refine H_drawF [2, 3, 4] (by kernel_rfl) ?_
    refine H_askK (.agg [.pd (.int .i64 0), .fixed (([] : List (Bool × (List Int) × (List Int))).map elABLU32LU32Z), .fixed (([] : List (Bool × (List Int) × (List Int))).map elABLU32LU32Z), .fixed (([] : List (Bool × (List Int) × (List Int))).map elABLU32LU32Z)]) ([o1, o4, o24, o25, o26]) (by kernel_rfl) ?_
    obtain ⟨x198, x199, hx200, h⟩ := h
    refine H_askall _ (by kernel_rfl) (fun M' => ask_idx (P := Tryz.prog) (M := M') (t := 105) (et := 109) (k := .i64) (lv := lvAI64LSZ) okAI64LSZ leAI64LSZ (by kernel_rfl) (by kernel_rfl) hx200) ?_
    refine H_askall (.rd [.int .i64 x198, .sl (x199.map elS)]) (f := fun M' => some (.rd [.int .i64 x198, .sl (x199.map elS)], M')) (by kernel_rfl) (fun _ => rfl) ?_
    refine H_askall (.pd (.int .i64 x198)) (f := fun M' => some (.pd (.int .i64 x198), M')) (by kernel_rfl) (fun _ => rfl) ?_
    refine H_askK (.junk) ([o1, o4, o24, o25, o26]) (by kernel_rfl) ?_
    exact H_end .ret (.tup [.agg [.pd (.int .i64 0), .pd (.sl (([] : List (Bool × (List Int) × (List Int))).map elABLU32LU32Z)), .pd (.sl (([] : List (Bool × (List Int) × (List Int))).map elABLU32LU32Z)), .pd (.sl (([] : List (Bool × (List Int) × (List Int))).map elABLU32LU32Z))], .pd (.int .i64 x198), .pd (.int .i64 2)]) (by kernel_rfl) rfl (by kernel_rfl) (by subst h; rfl)
  replace h := h.t rfl
  refine H_draw (by kernel_rfl) ?_
  obtain ⟨x174, x175, hx176, h⟩ := h
  refine H_ask _ _ (by kernel_rfl) (ask_idx (P := Tryz.prog) (M := [o1, o4, o24, o25, o26]) (t := 105) (et := 109) (k := .i64) (lv := lvAI64LSZ) okAI64LSZ leAI64LSZ (by kernel_rfl) (by kernel_rfl) hx176) ?_
  refine H_askK (.rd [.sl (x175.map elS)]) ([o1, o4, o24, o25, o26]) (by kernel_rfl) ?_
  refine H_askK (.pd (.sl (x175.map elS))) ([o1, o4, o24, o25, o26]) (by kernel_rfl) ?_
  obtain ⟨x177, hx178, h⟩ := h
  refine H_ask _ _ (by kernel_rfl) (ask_idx (P := Tryz.prog) (M := [o1, o4, o24, o25, o26]) (t := 57) (et := 9) (k := .i64) (lv := lvS) okS leS (by kernel_rfl) (by kernel_rfl) hx178) ?_
  refine H_askK (.pd (.str x177)) ([o1, o4, o24, o25, o26]) (by kernel_rfl) ?_
  refine H_askK (.ptr 4 0 0) ([o1, o4, o24, o25, o26]) (by kernel_rfl) ?_
  refine H_askK (.pd (.str ([121] : List UInt8))) ([o1, o4, o24, o25, o26]) (by kernel_rfl) ?_
  refine H_split (!(x177 == ([121] : List UInt8))) (by kernel_rfl) (fun hc => ?_) (fun hc => ?_)
  · replace h := h.t hc; clear hc
    refine H_drawF [2, 3, 4] (by kernel_rfl) ?_
    refine H_askK (.agg [.pd (.int .i64 0), .fixed (([] : List (Bool × (List Int) × (List Int))).map elABLU32LU32Z), .fixed (([] : List (Bool × (List Int) × (List Int))).map elABLU32LU32Z), .fixed (([] : List (Bool × (List Int) × (List Int))).map elABLU32LU32Z)]) ([o1, o4, o24, o25, o26]) (by kernel_rfl) ?_
    obtain ⟨x179, x180, hx181, h⟩ := h
    refine H_askall _ (by kernel_rfl) (fun M' => ask_idx (P := Tryz.prog) (M := M') (t := 105) (et := 109) (k := .i64) (lv := lvAI64LSZ) okAI64LSZ leAI64LSZ (by kernel_rfl) (by kernel_rfl) hx181) ?_
    refine H_askall (.rd [.int .i64 x179, .sl (x180.map elS)]) (f := fun M' => some (.rd [.int .i64 x179, .sl (x180.map elS)], M')) (by kernel_rfl) (fun _ => rfl) ?_
    refine H_askall (.pd (.int .i64 x179)) (f := fun M' => some (.pd (.int .i64 x179), M')) (by kernel_rfl) (fun _ => rfl) ?_
    refine H_askK (.junk) ([o1, o4, o24, o25, o26]) (by kernel_rfl) ?_
    exact H_end .ret (.tup [.agg [.pd (.int .i64 0), .pd (.sl (([] : List (Bool × (List Int) × (List Int))).map elABLU32LU32Z)), .pd (.sl (([] : List (Bool × (List Int) × (List Int))).map elABLU32LU32Z)), .pd (.sl (([] : List (Bool × (List Int) × (List Int))).map elABLU32LU32Z))], .pd (.int .i64 x179), .pd (.int .i64 2)]) (by kernel_rfl) rfl (by kernel_rfl) (by subst h; rfl)
  replace h := h.f hc; clear hc
  refine H_askK (.ptr 4 2 0) ([o1, o4, o24, o25, o26]) (by kernel_rfl) ?_
  refine H_askK (.ptr 1 2 0) ([o1, o4, o24, o25, o26]) (by kernel_rfl) ?_
  refine H_askK (.ptr 1 2 0) ([o1, o4, o24, o25, o26]) (by kernel_rfl) ?_
  let o27 : Ob := .cells [.pd (.int .i64 s101), .fixed (([] : List (Bool × (List Int) × (List Int))).map elABLU32LU32Z), .pd (.sl (x171.map elABLU32LU32Z)), .fixed (([] : List (Bool × (List Int) × (List Int))).map elABLU32LU32Z)] 1 0 false
  let m28 : Mem := [o1, o27, o24, o25, o26]
  refine H_askK (.junk) (m28) (by kernel_rfl) ?_
  refine H_draw (by kernel_rfl) ?_
  obtain ⟨x182, x183, hx184, h⟩ := h
  refine H_ask _ _ (by kernel_rfl) (ask_idx (P := Tryz.prog) (M := m28) (t := 105) (et := 109) (k := .i64) (lv := lvAI64LSZ) okAI64LSZ leAI64LSZ (by kernel_rfl) (by kernel_rfl) hx184) ?_
  refine H_askK (.rd [.int .i64 x182, .sl (x183.map elS)]) (m28) (by kernel_rfl) ?_
  refine H_askK (.pd (.int .i64 x182)) (m28) (by kernel_rfl) ?_
  obtain ⟨hx185, h⟩ := h
  refine H_ask _ _ (by kernel_rfl) (ask_sub (P := Tryz.prog) (M := m28) (t := 105) (et := 109) (lv := lvAI64LSZ) (lo := (some (1 : Int))) (hi := none) okAI64LSZ leAI64LSZ (by kernel_rfl) (by kernel_rfl) hx185) ?_
  refine H_split true (by kernel_rfl) (fun _ => ?_) (fun hc => by cases hc)
  refine H_askK (.agg [.pd (.str ([114, 97, 121] : List UInt8)), .pd (.bool false), .ptr 1 3 0]) (m28) (by kernel_rfl) ?_
  let o29 : Ob := .cells [.pd (.str ([114, 97, 121] : List UInt8)), .pd (.bool false), .ptr 1 3 0] 1 0 false
  let m30 : Mem := [o1, o27, o24, o25, o26, o29]
  refine H_askK (.junk) (m30) (by kernel_rfl) ?_
  refine H_askK (.ptr 5 1 0) (m30) (by kernel_rfl) ?_
  refine H_askK (.pd (.bool false)) (m30) (by kernel_rfl) ?_
  refine H_split false (by kernel_rfl) (fun hc => by cases hc) (fun _ => ?_)
  refine H_ask _ _ (by kernel_rfl) (ask_len (P := Tryz.prog) (M := m30) (t := 105) (et := 109) (el := elAI64LSZ) (by kernel_rfl) (e := (sub (sub x1 (1 : Int) (x1.length : Int)) (1 : Int) ((sub x1 (1 : Int) (x1.length : Int)).length : Int)))) ?_
  refine H_split (decide (((sub (sub x1 (1 : Int) (x1.length : Int)) (1 : Int) ((sub x1 (1 : Int) (x1.length : Int)).length : Int)).length : Int) > (0 : Int))) (by kernel_rfl) (fun hp186 => ?_) (fun hp186 => ?_)
  · replace h := h.t hp186
    refine H_drawF [2, 3, 4] (by kernel_rfl) ?_
    refine H_askK (.agg [.pd (.int .i64 0), .fixed (([] : List (Bool × (List Int) × (List Int))).map elABLU32LU32Z), .fixed (([] : List (Bool × (List Int) × (List Int))).map elABLU32LU32Z), .fixed (([] : List (Bool × (List Int) × (List Int))).map elABLU32LU32Z)]) (m30) (by kernel_rfl) ?_
    obtain ⟨x187, x188, hx189, h⟩ := h
    refine H_askall _ (by kernel_rfl) (fun M' => ask_idx (P := Tryz.prog) (M := M') (t := 105) (et := 109) (k := .i64) (lv := lvAI64LSZ) okAI64LSZ leAI64LSZ (by kernel_rfl) (by kernel_rfl) hx189) ?_
    refine H_askall (.rd [.int .i64 x187, .sl (x188.map elS)]) (f := fun M' => some (.rd [.int .i64 x187, .sl (x188.map elS)], M')) (by kernel_rfl) (fun _ => rfl) ?_
    refine H_askall (.pd (.int .i64 x187)) (f := fun M' => some (.pd (.int .i64 x187), M')) (by kernel_rfl) (fun _ => rfl) ?_
    refine H_askK (.junk) (m30) (by kernel_rfl) ?_
    exact H_end .ret (.tup [.agg [.pd (.int .i64 0), .pd (.sl (([] : List (Bool × (List Int) × (List Int))).map elABLU32LU32Z)), .pd (.sl (([] : List (Bool × (List Int) × (List Int))).map elABLU32LU32Z)), .pd (.sl (([] : List (Bool × (List Int) × (List Int))).map elABLU32LU32Z))], .pd (.int .i64 x187), .pd (.int .i64 2)]) (by kernel_rfl) rfl (by kernel_rfl) (by subst h; rfl)
  replace h := h.f hp186
  refine H_askK (.agg [.pd (.int .i64 s101), .fixed (([] : List (Bool × (List Int) × (List Int))).map elABLU32LU32Z), .pd (.sl (x171.map elABLU32LU32Z)), .fixed (([] : List (Bool × (List Int) × (List Int))).map elABLU32LU32Z)]) (m30) (by kernel_rfl) ?_
  let m31 : Mem := [o27, o27, o24, o25, o26, o29]
  refine H_askK (.junk) (m31) (by kernel_rfl) ?_
  exact H_end .ret (.tup [.agg [.pd (.int .i64 s101), .pd (.sl (([] : List (Bool × (List Int) × (List Int))).map elABLU32LU32Z)), .pd (.sl (x171.map elABLU32LU32Z)), .pd (.sl (([] : List (Bool × (List Int) × (List Int))).map elABLU32LU32Z))], .pd (.int .i64 0), .pd (.int .i64 0)]) (by kernel_rfl) rfl (by kernel_rfl) (by subst h; rfl)

theorem vec_Same_1_ok (m : Tp) (p0 : Bool) (p1 : List Int) (p2 : List Int) (p3 : Bool) (p4 : List Int) (p5 : List Int) {r : Bool} (h : vec_Same_1 p0 p1 p2 p3 p4 p5 r) : ASpec Tryz.prog (gtT m) 77 [.agg [.pd (.bool p0), .pd (.sl (p1.map elU32)), .pd (.sl (p2.map elU32))], .agg [.pd (.bool p3), .pd (.sl (p4.map elU32)), .pd (.sl (p5.map elU32))]] (· = .pd (.bool r)) := by
  refine ASpec_tree Tryz.f77 mixedT (askG [9, 10, 11] false) (by kernel_rfl) ?_
  unfold vec_Same_1 at h
  refine H_askK (.ptr 0 0 0) ([.cells [.pd (.bool p0), .pd (.sl (p1.map elU32)), .pd (.sl (p2.map elU32))] 1 0 false]) (by kernel_rfl) ?_
  refine H_askK (.ptr 1 0 0) ([.cells [.pd (.bool p0), .pd (.sl (p1.map elU32)), .pd (.sl (p2.map elU32))] 1 0 false, .cells [.pd (.bool p3), .pd (.sl (p4.map elU32)), .pd (.sl (p5.map elU32))] 1 0 false]) (by kernel_rfl) ?_
  refine H_askK (.agg [.pd (.bool p0), .pd (.sl (p1.map elU32)), .pd (.sl (p2.map elU32))]) ([.cells [.pd (.bool p0), .pd (.sl (p1.map elU32)), .pd (.sl (p2.map elU32))] 1 0 false, .cells [.pd (.bool p3), .pd (.sl (p4.map elU32)), .pd (.sl (p5.map elU32))] 1 0 false]) (by kernel_rfl) ?_
  refine H_askK (.agg [.pd (.bool p3), .pd (.sl (p4.map elU32)), .pd (.sl (p5.map elU32))]) ([.cells [.pd (.bool p0), .pd (.sl (p1.map elU32)), .pd (.sl (p2.map elU32))] 1 0 false, .cells [.pd (.bool p3), .pd (.sl (p4.map elU32)), .pd (.sl (p5.map elU32))] 1 0 false]) (by kernel_rfl) ?_
  obtain ⟨x1, hx2, h⟩ := h
  refine H_valW (g := 20) (args := [.agg [.pd (.bool p0), .pd (.sl (p1.map elU32)), .pd (.sl (p2.map elU32))], .agg [.pd (.bool p3), .pd (.sl (p4.map elU32)), .pd (.sl (p5.map elU32))]]) (M := [.cells [.pd (.bool p0), .pd (.sl (p1.map elU32)), .pd (.sl (p2.map elU32))] 1 0 false, .cells [.pd (.bool p3), .pd (.sl (p4.map elU32)), .pd (.sl (p5.map elU32))] 1 0 false]) (.pd (.int .i64 x1)) (.inl (by kernel_rfl)) (by kernel_rfl) (rat_Compare_ok m _ _ _ _ _ _ hx2) (by kernel_rfl) (hasT 20 (by kernel_rfl)) ?_
  refine H_split (x1 == (0 : Int)) (by kernel_rfl) (fun hp3 => ?_) (fun hp3 => ?_)
  · replace h := h.t hp3
    exact H_end .ret (.pd (.bool true)) (by kernel_rfl) rfl (by kernel_rfl) (by subst h; rfl)
  · replace h := h.f hp3
    exact H_end .ret (.pd (.bool false)) (by kernel_rfl) rfl (by kernel_rfl) (by subst h; rfl)

theorem vec_Same_ok (m : Tp) (p0 : List (Bool × (List Int) × (List Int))) (p1 : List (Bool × (List Int) × (List Int))) {r : Bool} (h : vec_Same p0 p1 r) : ASpec Tryz.prog (gtT m) 34 [.pd (.sl (p0.map elABLU32LU32Z)), .pd (.sl (p1.map elABLU32LU32Z))] (· = .pd (.bool r)) := by
  refine ASpec_tree Tryz.f34 mixedT (askG [9, 10, 11] false) (by kernel_rfl) ?_
  unfold vec_Same at h
  refine H_inl (g := 76) (args := [.pd (.sl (p0.map elABLU32LU32Z)), .pd (.sl (p1.map elABLU32LU32Z)), .fn (.func 77) [] []]) (M := []) Tryz.f76 mixedT (askG [9, 10, 11] false) (by kernel_rfl) (by kernel_rfl) (hasT 76 (by kernel_rfl)) ?_
  refine H_ask _ _ (by kernel_rfl) (ask_len (P := Tryz.prog) (M := []) (t := 23) (et := 44) (el := elABLU32LU32Z) (by kernel_rfl) (e := p0)) ?_
  refine H_ask _ _ (by kernel_rfl) (ask_len (P := Tryz.prog) (M := []) (t := 23) (et := 44) (el := elABLU32LU32Z) (by kernel_rfl) (e := p1)) ?_
  refine H_split ((p0.length : Int) != (p1.length : Int)) (by kernel_rfl) (fun hp1 => ?_) (fun hp1 => ?_)
  · replace h := h.t hp1
    refine H_endM .ret (.pd (.bool false)) ([]) (by kernel_rfl) rfl (by kernel_rfl) (by kernel_rfl) (by kernel_rfl) ?_
    exact H_end .ret (.pd (.bool false)) (by kernel_rfl) rfl (by kernel_rfl) (by subst h; rfl)
  · replace h := h.f hp1
    refine H_ask _ _ (by kernel_rfl) (ask_len (P := Tryz.prog) (M := []) (t := 23) (et := 44) (el := elABLU32LU32Z) (by kernel_rfl) (e := p0)) ?_
    refine H_loopP (F := vec_Same_L1 p0 p1 r) (s0 := (0 : Int)) h () 32 0
      (fun (s100 : Int) (() : Unit) => [(1, .pd (.sl (p1.map elABLU32LU32Z))), (2, .fn (.func 77) [] []), (15, .pd (.sl (p0.map elABLU32LU32Z))), (16, .pd (.int .i64 (p0.length : Int))), (17, .pd (.int .i64 s100))])
      (fun (s100 : Int) (() : Unit) => []) (fun (s100 : Int) (() : Unit) => True) trivial [] mixedT (askG [9, 10, 11] false)
      (by kernel_rfl) (by kernel_rfl) (by kernel_rfl) (by kernel_rfl) (by kernel_rfl) (fun _ _ => rfl) ?_
    rintro X1 s100 ⟨⟩ - h
    dsimp only [vec_Same_L1] at h
    refine H_split (decide (s100 < (p0.length : Int))) (by kernel_rfl) (fun hp2 => ?_) (fun hp2 => ?_)
    · replace h := h.t hp2
      obtain ⟨x3, x4, x5, hx6, h⟩ := h
      refine H_ask _ _ (by kernel_rfl) (ask_idx (P := Tryz.prog) (M := []) (t := 23) (et := 44) (k := .i64) (lv := lvABLU32LU32Z) okABLU32LU32Z leABLU32LU32Z (by kernel_rfl) (by kernel_rfl) hx6) ?_
      refine H_askK (.agg [.pd (.bool x3), .pd (.sl (x4.map elU32)), .pd (.sl (x5.map elU32))]) ([]) (by kernel_rfl) ?_
      refine H_askK (.junk) ([.cells [.pd (.bool x3), .pd (.sl (x4.map elU32)), .pd (.sl (x5.map elU32))] 1 0 false]) (by kernel_rfl) ?_
      obtain ⟨x7, x8, x9, hx10, h⟩ := h
      refine H_ask _ _ (by kernel_rfl) (ask_idx (P := Tryz.prog) (M := [.cells [.pd (.bool x3), .pd (.sl (x4.map elU32)), .pd (.sl (x5.map elU32))] 1 0 false]) (t := 23) (et := 44) (k := .i64) (lv := lvABLU32LU32Z) okABLU32LU32Z leABLU32LU32Z (by kernel_rfl) (by kernel_rfl) hx10) ?_
      refine H_askK (.agg [.pd (.bool x7), .pd (.sl (x8.map elU32)), .pd (.sl (x9.map elU32))]) ([.cells [.pd (.bool x3), .pd (.sl (x4.map elU32)), .pd (.sl (x5.map elU32))] 1 0 false]) (by kernel_rfl) ?_
      refine H_askK (.junk) ([.cells [.pd (.bool x3), .pd (.sl (x4.map elU32)), .pd (.sl (x5.map elU32))] 1 0 false, .cells [.pd (.bool x7), .pd (.sl (x8.map elU32)), .pd (.sl (x9.map elU32))] 1 0 false]) (by kernel_rfl) ?_
      refine H_askK (.agg [.pd (.bool x3), .pd (.sl (x4.map elU32)), .pd (.sl (x5.map elU32))]) ([.cells [.pd (.bool x3), .pd (.sl (x4.map elU32)), .pd (.sl (x5.map elU32))] 1 0 false, .cells [.pd (.bool x7), .pd (.sl (x8.map elU32)), .pd (.sl (x9.map elU32))] 1 0 false]) (by kernel_rfl) ?_
      refine H_askK (.agg [.pd (.bool x7), .pd (.sl (x8.map elU32)), .pd (.sl (x9.map elU32))]) ([.cells [.pd (.bool x3), .pd (.sl (x4.map elU32)), .pd (.sl (x5.map elU32))] 1 0 false, .cells [.pd (.bool x7), .pd (.sl (x8.map elU32)), .pd (.sl (x9.map elU32))] 1 0 false]) (by kernel_rfl) ?_
      obtain ⟨x11, hx12, h⟩ := h
      refine H_valW (g := 77) (args := [.agg [.pd (.bool x3), .pd (.sl (x4.map elU32)), .pd (.sl (x5.map elU32))], .agg [.pd (.bool x7), .pd (.sl (x8.map elU32)), .pd (.sl (x9.map elU32))]]) (M := [.cells [.pd (.bool x3), .pd (.sl (x4.map elU32)), .pd (.sl (x5.map elU32))] 1 0 false, .cells [.pd (.bool x7), .pd (.sl (x8.map elU32)), .pd (.sl (x9.map elU32))] 1 0 false]) (.pd (.bool x11)) (.inl (by kernel_rfl)) (by kernel_rfl) (vec_Same_1_ok m _ _ _ _ _ _ hx12) (by kernel_rfl) (hasT 77 (by kernel_rfl)) ?_
      cases x11
      · replace h := h.f rfl
        refine H_leaveP .ret (by kernel_rfl) rfl ?_
        refine H_endM .ret (.pd (.bool false)) ([.cells [.pd (.bool x3), .pd (.sl (x4.map elU32)), .pd (.sl (x5.map elU32))] 1 0 false, .cells [.pd (.bool x7), .pd (.sl (x8.map elU32)), .pd (.sl (x9.map elU32))] 1 0 false]) (by kernel_rfl) rfl (by kernel_rfl) (by kernel_rfl) (by kernel_rfl) ?_
        exact H_end .ret (.pd (.bool false)) (by kernel_rfl) rfl (by kernel_rfl) (by subst h; rfl)
      · replace h := h.t rfl
        exact H_againC (st := _) (IntKind.i64.wrap (s100 + 1)) () h trivial (by kernel_rfl) (by kernel_rfl) (by kernel_rfl) (by kernel_rfl) (by kernel_rfl) (by kernel_rfl) all_n (by kernel_rfl) (by kernel_rfl)
    · replace h := h.f hp2
      refine H_leaveP (.exit 0) (by kernel_rfl) rfl ?_
      refine H_endM .ret (.pd (.bool true)) ([]) (by kernel_rfl) rfl (by kernel_rfl) (by kernel_rfl) (by kernel_rfl) ?_
      exact H_end .ret (.pd (.bool true)) (by kernel_rfl) rfl (by kernel_rfl) (by subst h; rfl)

theorem proof_Same_ok (m : Tp) (p0 : Int) (p1 : List (Bool × (List Int) × (List Int))) (p2 : List (Bool × (List Int) × (List Int))) (p3 : List (Bool × (List Int) × (List Int))) (p4 : Int) (p5 : List (Bool × (List Int) × (List Int))) (p6 : List (Bool × (List Int) × (List Int))) (p7 : List (Bool × (List Int) × (List Int))) {r : Bool} (h : proof_Same p0 p1 p2 p3 p4 p5 p6 p7 r) : ASpec Tryz.prog (gtT m) 27 [.agg [.pd (.int .i64 p0), .pd (.sl (p1.map elABLU32LU32Z)), .pd (.sl (p2.map elABLU32LU32Z)), .pd (.sl (p3.map elABLU32LU32Z))], .agg [.pd (.int .i64 p4), .pd (.sl (p5.map elABLU32LU32Z)), .pd (.sl (p6.map elABLU32LU32Z)), .pd (.sl (p7.map elABLU32LU32Z))]] (· = .pd (.bool r)) := by
  refine ASpec_tree Tryz.f27 mixedT (askG [9, 10, 11] false) (by kernel_rfl) ?_
  unfold proof_Same at h
  let o1 : Ob := .cells [.pd (.int .i64 p0), .pd (.sl (p1.map elABLU32LU32Z)), .pd (.sl (p2.map elABLU32LU32Z)), .pd (.sl (p3.map elABLU32LU32Z))] 1 0 false
  refine H_askK (.ptr 0 0 0) ([o1]) (by kernel_rfl) ?_
  let o2 : Ob := .cells [.pd (.int .i64 p4), .pd (.sl (p5.map elABLU32LU32Z)), .pd (.sl (p6.map elABLU32LU32Z)), .pd (.sl (p7.map elABLU32LU32Z))] 1 0 false
  refine H_askK (.ptr 1 0 0) ([o1, o2]) (by kernel_rfl) ?_
  refine H_askK (.ptr 0 0 0) ([o1, o2]) (by kernel_rfl) ?_
  refine H_askK (.pd (.int .i64 p0)) ([o1, o2]) (by kernel_rfl) ?_
  refine H_askK (.ptr 1 0 0) ([o1, o2]) (by kernel_rfl) ?_
  refine H_askK (.pd (.int .i64 p4)) ([o1, o2]) (by kernel_rfl) ?_
  refine H_split (p0 == p4) (by kernel_rfl) (fun hp1 => ?_) (fun hp1 => ?_)
  · replace h := h.t hp1
    refine H_askK (.ptr 0 1 0) ([o1, o2]) (by kernel_rfl) ?_
    refine H_askK (.pd (.sl (p1.map elABLU32LU32Z))) ([o1, o2]) (by kernel_rfl) ?_
    refine H_askK (.ptr 1 1 0) ([o1, o2]) (by kernel_rfl) ?_
    refine H_askK (.pd (.sl (p5.map elABLU32LU32Z))) ([o1, o2]) (by kernel_rfl) ?_
    obtain ⟨x2, hx3, h⟩ := h
    refine H_valW (g := 34) (args := [.pd (.sl (p1.map elABLU32LU32Z)), .pd (.sl (p5.map elABLU32LU32Z))]) (M := [o1, o2]) (.pd (.bool x2)) (.inl (by kernel_rfl)) (by kernel_rfl) (vec_Same_ok m _ _ hx3) (by kernel_rfl) (hasT 34 (by kernel_rfl)) ?_
    cases x2
    · replace h := h.f rfl
      exact H_end .ret (.pd (.bool false)) (by kernel_rfl) rfl (by kernel_rfl) (by subst h; rfl)
    replace h := h.t rfl
    refine H_askK (.ptr 0 2 0) ([o1, o2]) (by kernel_rfl) ?_
    refine H_askK (.pd (.sl (p2.map elABLU32LU32Z))) ([o1, o2]) (by kernel_rfl) ?_
    refine H_askK (.ptr 1 2 0) ([o1, o2]) (by kernel_rfl) ?_
    refine H_askK (.pd (.sl (p6.map elABLU32LU32Z))) ([o1, o2]) (by kernel_rfl) ?_
    obtain ⟨x4, hx5, h⟩ := h
    refine H_valW (g := 34) (args := [.pd (.sl (p2.map elABLU32LU32Z)), .pd (.sl (p6.map elABLU32LU32Z))]) (M := [o1, o2]) (.pd (.bool x4)) (.inl (by kernel_rfl)) (by kernel_rfl) (vec_Same_ok m _ _ hx5) (by kernel_rfl) (hasT 34 (by kernel_rfl)) ?_
    cases x4
    · replace h := h.f rfl
      exact H_end .ret (.pd (.bool false)) (by kernel_rfl) rfl (by kernel_rfl) (by subst h; rfl)
    replace h := h.t rfl
    refine H_askK (.ptr 0 3 0) ([o1, o2]) (by kernel_rfl) ?_
    refine H_askK (.pd (.sl (p3.map elABLU32LU32Z))) ([o1, o2]) (by kernel_rfl) ?_
    refine H_askK (.ptr 1 3 0) ([o1, o2]) (by kernel_rfl) ?_
    refine H_askK (.pd (.sl (p7.map elABLU32LU32Z))) ([o1, o2]) (by kernel_rfl) ?_
    obtain ⟨x6, hx7, h⟩ := h
    refine H_valW (g := 34) (args := [.pd (.sl (p3.map elABLU32LU32Z)), .pd (.sl (p7.map elABLU32LU32Z))]) (M := [o1, o2]) (.pd (.bool x6)) (.inl (by kernel_rfl)) (by kernel_rfl) (vec_Same_ok m _ _ hx7) (by kernel_rfl) (hasT 34 (by kernel_rfl)) ?_
    cases x6
    · replace h := h.f rfl
      exact H_end .ret (.pd (.bool false)) (by kernel_rfl) rfl (by kernel_rfl) (by subst h; rfl)
    replace h := h.t rfl
    exact H_end .ret (.pd (.bool true)) (by kernel_rfl) rfl (by kernel_rfl) (by subst h; rfl)
  replace h := h.f hp1
  exact H_end .ret (.pd (.bool false)) (by kernel_rfl) rfl (by kernel_rfl) (by subst h; rfl)

theorem offcutlaw13_ProofPrints_ok (m : Tp) (p0 : Int) (p1 : List (Bool × (List Int) × (List Int))) (p2 : List (Bool × (List Int) × (List Int))) (p3 : List (Bool × (List Int) × (List Int))) {r : Bool} (h : offcutlaw13_ProofPrints p0 p1 p2 p3 r) : ASpec Tryz.prog (gtT m) 6 [.agg [.pd (.int .i64 p0), .pd (.sl (p1.map elABLU32LU32Z)), .pd (.sl (p2.map elABLU32LU32Z)), .pd (.sl (p3.map elABLU32LU32Z))]] (· = .pd (.bool r)) := by
  refine ASpec_tree Tryz.f6 mixedT (askG [9, 10, 11] false) (by kernel_rfl) ?_
  unfold offcutlaw13_ProofPrints at h
  let o1 : Ob := .cells [.pd (.int .i64 p0), .pd (.sl (p1.map elABLU32LU32Z)), .pd (.sl (p2.map elABLU32LU32Z)), .pd (.sl (p3.map elABLU32LU32Z))] 1 0 false
  refine H_askK (.ptr 0 0 0) ([o1]) (by kernel_rfl) ?_
  refine H_askK (.agg [.pd (.int .i64 p0), .pd (.sl (p1.map elABLU32LU32Z)), .pd (.sl (p2.map elABLU32LU32Z)), .pd (.sl (p3.map elABLU32LU32Z))]) ([o1]) (by kernel_rfl) ?_
  obtain ⟨x1, hx2, h⟩ := h
  refine H_valW (g := 13) (args := [.agg [.pd (.int .i64 p0), .pd (.sl (p1.map elABLU32LU32Z)), .pd (.sl (p2.map elABLU32LU32Z)), .pd (.sl (p3.map elABLU32LU32Z))]]) (M := [o1]) (.pd (.bool x1)) (.inl (by kernel_rfl)) (by kernel_rfl) (offcutlaw13_Few_ok m _ _ _ _ hx2) (by kernel_rfl) (hasT 13 (by kernel_rfl)) ?_
  cases x1
  · replace h := h.f rfl
    obtain ⟨x27, hx28, h⟩ := h
    refine H_valW (g := 14) (args := []) (M := [o1]) (.pd (.bool x27)) (.inl (by kernel_rfl)) (by kernel_rfl) (offcutlaw13_awake_ok m  hx28) (by kernel_rfl) (hasT 14 (by kernel_rfl)) ?_
    cases x27
    · replace h := h.f rfl
      exact H_end .ret (.pd (.bool false)) (by kernel_rfl) rfl (by kernel_rfl) (by subst h; rfl)
    replace h := h.t rfl
    exact H_end .ret (.pd (.bool true)) (by kernel_rfl) rfl (by kernel_rfl) (by subst h; rfl)
  replace h := h.t rfl
  refine H_askK (.agg [.pd (.int .i64 p0), .pd (.sl (p1.map elABLU32LU32Z)), .pd (.sl (p2.map elABLU32LU32Z)), .pd (.sl (p3.map elABLU32LU32Z))]) ([o1]) (by kernel_rfl) ?_
  obtain ⟨x3, x4, hx5, h⟩ := h
  refine H_valW (g := 25) (args := [.agg [.pd (.int .i64 p0), .pd (.sl (p1.map elABLU32LU32Z)), .pd (.sl (p2.map elABLU32LU32Z)), .pd (.sl (p3.map elABLU32LU32Z))]]) (M := [o1]) (.tup [.pd (.str x3), .pd (.int .i64 x4)]) (.inl (by kernel_rfl)) (by kernel_rfl) (proof_Print_ok m _ _ _ _ hx5) (by kernel_rfl) (hasT 25 (by kernel_rfl)) ?_
  refine H_askK (.agg [.pd (.int .i64 p0), .pd (.sl (p1.map elABLU32LU32Z)), .pd (.sl (p2.map elABLU32LU32Z)), .pd (.sl (p3.map elABLU32LU32Z))]) ([o1]) (by kernel_rfl) ?_
  obtain ⟨x6, hx7, h⟩ := h
  refine H_valW (g := 17) (args := [.agg [.pd (.int .i64 p0), .pd (.sl (p1.map elABLU32LU32Z)), .pd (.sl (p2.map elABLU32LU32Z)), .pd (.sl (p3.map elABLU32LU32Z))]]) (M := [o1]) (.pd (.bool x6)) (.inl (by kernel_rfl)) (by kernel_rfl) (offcutlaw13_right_ok m _ _ _ _ hx7) (by kernel_rfl) (hasT 17 (by kernel_rfl)) ?_
  cases x6
  · replace h := h.f rfl
    refine H_split (x3 == ([] : List UInt8)) (by kernel_rfl) (fun hc => ?_) (fun hc => ?_)
    · replace h := h.t hc; clear hc
      refine H_split (x4 == (1 : Int)) (by kernel_rfl) (fun hp24 => ?_) (fun hp24 => ?_)
      · replace h := h.t hp24
        obtain ⟨x25, hx26, h⟩ := h
        refine H_valW (g := 14) (args := []) (M := [o1]) (.pd (.bool x25)) (.inl (by kernel_rfl)) (by kernel_rfl) (offcutlaw13_awake_ok m  hx26) (by kernel_rfl) (hasT 14 (by kernel_rfl)) ?_
        cases x25
        · replace h := h.f rfl
          exact H_end .ret (.pd (.bool false)) (by kernel_rfl) rfl (by kernel_rfl) (by subst h; rfl)
        replace h := h.t rfl
        exact H_end .ret (.pd (.bool true)) (by kernel_rfl) rfl (by kernel_rfl) (by subst h; rfl)
      replace h := h.f hp24
      exact H_end .ret (.pd (.bool false)) (by kernel_rfl) rfl (by kernel_rfl) (by subst h; rfl)
    replace h := h.f hc; clear hc
    exact H_end .ret (.pd (.bool false)) (by kernel_rfl) rfl (by kernel_rfl) (by subst h; rfl)
  replace h := h.t rfl
  obtain ⟨x8, x9, x10, x11, x12, x13, hx14, h⟩ := h
  refine H_valW (g := 26) (args := [.pd (.str x3)]) (M := [o1]) (.tup [.agg [.pd (.int .i64 x8), .pd (.sl (x9.map elABLU32LU32Z)), .pd (.sl (x10.map elABLU32LU32Z)), .pd (.sl (x11.map elABLU32LU32Z))], .pd (.int .i64 x12), .pd (.int .i64 x13)]) (.inl (by kernel_rfl)) (by kernel_rfl) (proof_Parse_ok m _ hx14) (by kernel_rfl) (hasT 26 (by kernel_rfl)) ?_
  let o2 : Ob := .cells [.pd (.int .i64 x8), .pd (.sl (x9.map elABLU32LU32Z)), .pd (.sl (x10.map elABLU32LU32Z)), .pd (.sl (x11.map elABLU32LU32Z))] 1 0 false
  refine H_askK (.junk) ([o1, o2]) (by kernel_rfl) ?_
  refine H_split (x4 == (0 : Int)) (by kernel_rfl) (fun hp15 => ?_) (fun hp15 => ?_)
  · replace h := h.t hp15
    refine H_split (x13 == (0 : Int)) (by kernel_rfl) (fun hp16 => ?_) (fun hp16 => ?_)
    · replace h := h.t hp16
      refine H_split (x12 == (0 : Int)) (by kernel_rfl) (fun hp17 => ?_) (fun hp17 => ?_)
      · replace h := h.t hp17
        refine H_askK (.agg [.pd (.int .i64 p0), .pd (.sl (p1.map elABLU32LU32Z)), .pd (.sl (p2.map elABLU32LU32Z)), .pd (.sl (p3.map elABLU32LU32Z))]) ([o1, o2]) (by kernel_rfl) ?_
        refine H_askK (.agg [.pd (.int .i64 x8), .pd (.sl (x9.map elABLU32LU32Z)), .pd (.sl (x10.map elABLU32LU32Z)), .pd (.sl (x11.map elABLU32LU32Z))]) ([o1, o2]) (by kernel_rfl) ?_
        obtain ⟨x18, hx19, h⟩ := h
        refine H_valW (g := 27) (args := [.agg [.pd (.int .i64 p0), .pd (.sl (p1.map elABLU32LU32Z)), .pd (.sl (p2.map elABLU32LU32Z)), .pd (.sl (p3.map elABLU32LU32Z))], .agg [.pd (.int .i64 x8), .pd (.sl (x9.map elABLU32LU32Z)), .pd (.sl (x10.map elABLU32LU32Z)), .pd (.sl (x11.map elABLU32LU32Z))]]) (M := [o1, o2]) (.pd (.bool x18)) (.inl (by kernel_rfl)) (by kernel_rfl) (proof_Same_ok m _ _ _ _ _ _ _ _ hx19) (by kernel_rfl) (hasT 27 (by kernel_rfl)) ?_
        cases x18
        · replace h := h.f rfl
          exact H_end .ret (.pd (.bool false)) (by kernel_rfl) rfl (by kernel_rfl) (by subst h; rfl)
        replace h := h.t rfl
        refine H_askK (.agg [.pd (.int .i64 x8), .pd (.sl (x9.map elABLU32LU32Z)), .pd (.sl (x10.map elABLU32LU32Z)), .pd (.sl (x11.map elABLU32LU32Z))]) ([o1, o2]) (by kernel_rfl) ?_
        obtain ⟨x20, hx21, h⟩ := h
        refine H_valW (g := 16) (args := [.agg [.pd (.int .i64 x8), .pd (.sl (x9.map elABLU32LU32Z)), .pd (.sl (x10.map elABLU32LU32Z)), .pd (.sl (x11.map elABLU32LU32Z))]]) (M := [o1, o2]) (.pd (.bool x20)) (.inl (by kernel_rfl)) (by kernel_rfl) (proof_Right_ok m _ _ _ _ hx21) (by kernel_rfl) (hasT 16 (by kernel_rfl)) ?_
        cases x20
        · replace h := h.f rfl
          exact H_end .ret (.pd (.bool false)) (by kernel_rfl) rfl (by kernel_rfl) (by subst h; rfl)
        replace h := h.t rfl
        obtain ⟨x22, hx23, h⟩ := h
        refine H_valW (g := 14) (args := []) (M := [o1, o2]) (.pd (.bool x22)) (.inl (by kernel_rfl)) (by kernel_rfl) (offcutlaw13_awake_ok m  hx23) (by kernel_rfl) (hasT 14 (by kernel_rfl)) ?_
        cases x22
        · replace h := h.f rfl
          exact H_end .ret (.pd (.bool false)) (by kernel_rfl) rfl (by kernel_rfl) (by subst h; rfl)
        replace h := h.t rfl
        exact H_end .ret (.pd (.bool true)) (by kernel_rfl) rfl (by kernel_rfl) (by subst h; rfl)
      replace h := h.f hp17
      exact H_end .ret (.pd (.bool false)) (by kernel_rfl) rfl (by kernel_rfl) (by subst h; rfl)
    replace h := h.f hp16
    exact H_end .ret (.pd (.bool false)) (by kernel_rfl) rfl (by kernel_rfl) (by subst h; rfl)
  replace h := h.f hp15
  exact H_end .ret (.pd (.bool false)) (by kernel_rfl) rfl (by kernel_rfl) (by subst h; rfl)

end Go.Abs
end
