/- Part of a proof, in few files: G08sW. -/
import Derived.Test.YtdbfgnpobfbfmaaGreatDoorMSaK30
import Derived.Test.YtdbfgnpobfbfmaaGreatDoorMSaK32
import Derived.Test.YtdbfgnpobfbfmaaGreatDoorMSaK34
import Derived.Test.YtdbfgnpobfbfmaaGreatDoorMSaK48
import Derived.Test.YtdbfgnpobfbfmaaGreatDoorMSaK50

section
/- Printed by gen.py: the functions do what these conditions say. -/
namespace Go.Abs
open Go.Proofs
set_option maxHeartbeats 4000000
set_option maxRecDepth 20000
set_option linter.unusedVariables false
set_option linter.unusedSimpArgs false
set_option linter.unnecessarySimpa false

def lvASLABLU32LU32ZI64BLU32LU32Z (x : (List UInt8) × (List (Bool × (List Int) × (List Int))) × Int × Bool × (List Int) × (List Int)) : List PD := [.str x.1, .sl (x.2.1.map elABLU32LU32Z), .int .i64 x.2.2.1, .bool x.2.2.2.1, .sl (x.2.2.2.2.1.map elU32), .sl (x.2.2.2.2.2.map elU32)]
def elASLABLU32LU32ZI64BLU32LU32Z (x : (List UInt8) × (List (Bool × (List Int) × (List Int))) × Int × Bool × (List Int) × (List Int)) : PD := .agg [.str x.1, .sl (x.2.1.map elABLU32LU32Z), .int .i64 x.2.2.1, .bool x.2.2.2.1, .sl (x.2.2.2.2.1.map elU32), .sl (x.2.2.2.2.2.map elU32)]
theorem okASLABLU32LU32ZI64BLU32LU32Z : LVok lvASLABLU32LU32ZI64BLU32LU32Z 6 := fun _ => ⟨rfl, rfl⟩
theorem leASLABLU32LU32ZI64BLU32LU32Z : ELok elASLABLU32LU32ZI64BLU32LU32Z lvASLABLU32LU32ZI64BLU32LU32Z := fun _ => rfl
theorem model_Same_1_ok (m : Tp) (p0 : List UInt8) (p1 : List (Bool × (List Int) × (List Int))) (p2 : Int) (p3 : Bool) (p4 : List Int) (p5 : List Int) (p6 : List UInt8) (p7 : List (Bool × (List Int) × (List Int))) (p8 : Int) (p9 : Bool) (p10 : List Int) (p11 : List Int) {r : Bool} (h : model_Same_1 p0 p1 p2 p3 p4 p5 p6 p7 p8 p9 p10 p11 r) : ASpec Tryz.prog (gtT m) 78 [.agg [.pd (.str p0), .pd (.sl (p1.map elABLU32LU32Z)), .pd (.int .i64 p2), .pd (.bool p3), .pd (.sl (p4.map elU32)), .pd (.sl (p5.map elU32))], .agg [.pd (.str p6), .pd (.sl (p7.map elABLU32LU32Z)), .pd (.int .i64 p8), .pd (.bool p9), .pd (.sl (p10.map elU32)), .pd (.sl (p11.map elU32))]] (· = .pd (.bool r)) := by
  refine ASpec_tree Tryz.f78 mixedT (askG [9, 10, 11] false) (by kernel_rfl) ?_
  unfold model_Same_1 at h
  let o1 : Ob := .cells [.pd (.str p0), .pd (.sl (p1.map elABLU32LU32Z)), .pd (.int .i64 p2), .pd (.bool p3), .pd (.sl (p4.map elU32)), .pd (.sl (p5.map elU32))] 1 0 false
  let o2 : Ob := .cells [.pd (.str p6), .pd (.sl (p7.map elABLU32LU32Z)), .pd (.int .i64 p8), .pd (.bool p9), .pd (.sl (p10.map elU32)), .pd (.sl (p11.map elU32))] 1 0 false
  refine QK 6 ?_
  refine QP (p0 == p6) (fun hc => ?_) (fun hc => ?_)
  · replace h := h.t hc; clear hc
    refine QK 4 ?_
    refine QP (p2 == p8) (fun hp1 => ?_) (fun hp1 => ?_)
    · replace h := h.t hp1
      refine QK 4 ?_
      obtain ⟨x2, hx3, h⟩ := h
      refine QV [o1, o2] (vec_Same_ok m _ _ hx3) ?_
      cases x2
      · replace h := h.f rfl
        subst h; exact QE .ret
      replace h := h.t rfl
      refine QK 4 ?_
      obtain ⟨x4, hx5, h⟩ := h
      refine QV [o1, o2] (rat_Compare_ok m _ _ _ _ _ _ hx5) ?_
      refine QP (x4 == (0 : Int)) (fun hp6 => ?_) (fun hp6 => ?_)
      · replace h := h.t hp6
        subst h; exact QE .ret
      replace h := h.f hp6
      subst h; exact QE .ret
    replace h := h.f hp1
    subst h; exact QE .ret
  replace h := h.f hc; clear hc
  subst h; exact QE .ret

theorem slices_Equal_string_string_ok (m : Tp) (p0 : List (List UInt8)) (p1 : List (List UInt8)) {r : Bool} (h : slices_Equal_string_string p0 p1 r) : ASpec Tryz.prog (gtT m) 79 [.pd (.sl (p0.map elS)), .pd (.sl (p1.map elS))] (· = .pd (.bool r)) := by
  refine ASpec_tree Tryz.f79 mixedT (askG [9, 10, 11] false) (by kernel_rfl) ?_
  unfold slices_Equal_string_string at h
  refine QL [] 57 9 elS p0 ?_
  refine QL [] 57 9 elS p1 ?_
  refine QP ((p0.length : Int) != (p1.length : Int)) (fun hp1 => ?_) (fun hp1 => ?_)
  · replace h := h.t hp1
    subst h; exact QE .ret
  · replace h := h.f hp1
    refine QL [] 57 9 elS p0 ?_
    refine H_loopP (F := slices_Equal_string_string_L1 p0 p1 r) (s0 := (0 : Int)) h () 26 0
      (fun (s100 : Int) (() : Unit) => [(0, .pd (.sl (p0.map elS))), (1, .pd (.sl (p1.map elS))), (12, .pd (.int .i64 (p0.length : Int))), (13, .pd (.int .i64 s100))])
      (fun (s100 : Int) (() : Unit) => []) (fun (s100 : Int) (() : Unit) => True) trivial [] mixedT (askG [9, 10, 11] false)
      (by kernel_rfl) (by kernel_rfl) (by kernel_rfl) (by kernel_rfl) (by kernel_rfl) (fun _ _ => rfl) ?_
    rintro X1 s100 ⟨⟩ - h
    dsimp only [slices_Equal_string_string_L1] at h
    refine QP (decide (s100 < (p0.length : Int))) (fun hp2 => ?_) (fun hp2 => ?_)
    · replace h := h.t hp2
      refine QD ?_
      obtain ⟨x3, hx4, h⟩ := h
      refine QI [] 57 9 .i64 okS leS hx4 ?_
      refine QK 1 ?_
      obtain ⟨x5, hx6, h⟩ := h
      refine QI [] 57 9 .i64 okS leS hx6 ?_
      refine QK 1 ?_
      refine QP (!(x3 == x5)) (fun hc => ?_) (fun hc => ?_)
      · replace h := h.t hc; clear hc
        refine QR .ret ?_
        subst h; exact QE .ret
      · replace h := h.f hc; clear hc
        exact QG () h trivial
    · replace h := h.f hp2
      refine QR (.exit 0) ?_
      subst h; exact QE .ret

theorem model_Same_ok (m : Tp) (p0 : List (List UInt8)) (p1 : List (Bool × (List Int) × (List Int))) (p2 : List ((List UInt8) × (List (Bool × (List Int) × (List Int))) × Int × Bool × (List Int) × (List Int))) (p3 : List (List UInt8)) (p4 : List (Bool × (List Int) × (List Int))) (p5 : List ((List UInt8) × (List (Bool × (List Int) × (List Int))) × Int × Bool × (List Int) × (List Int))) {r : Bool} (h : model_Same p0 p1 p2 p3 p4 p5 r) : ASpec Tryz.prog (gtT m) 35 [.agg [.pd (.sl (p0.map elS)), .pd (.sl (p1.map elABLU32LU32Z)), .pd (.sl (p2.map elASLABLU32LU32ZI64BLU32LU32Z))], .agg [.pd (.sl (p3.map elS)), .pd (.sl (p4.map elABLU32LU32Z)), .pd (.sl (p5.map elASLABLU32LU32ZI64BLU32LU32Z))]] (· = .pd (.bool r)) := by
  refine ASpec_tree Tryz.f35 mixedT (askG [9, 10, 11] false) (by kernel_rfl) ?_
  unfold model_Same at h
  let o1 : Ob := .cells [.pd (.sl (p0.map elS)), .pd (.sl (p1.map elABLU32LU32Z)), .pd (.sl (p2.map elASLABLU32LU32ZI64BLU32LU32Z))] 1 0 false
  let o2 : Ob := .cells [.pd (.sl (p3.map elS)), .pd (.sl (p4.map elABLU32LU32Z)), .pd (.sl (p5.map elASLABLU32LU32ZI64BLU32LU32Z))] 1 0 false
  refine QK 6 ?_
  obtain ⟨x1, hx2, h⟩ := h
  refine QV [o1, o2] (slices_Equal_string_string_ok m _ _ hx2) ?_
  cases x1
  · replace h := h.f rfl
    subst h; exact QE .ret
  replace h := h.t rfl
  refine QK 4 ?_
  obtain ⟨x3, hx4, h⟩ := h
  refine QV [o1, o2] (vec_Same_ok m _ _ hx4) ?_
  cases x3
  · replace h := h.f rfl
    subst h; exact QE .ret
  replace h := h.t rfl
  refine QK 4 ?_
  refine H_inl (g := 80) (args := [.pd (.sl (p2.map elASLABLU32LU32ZI64BLU32LU32Z)), .pd (.sl (p5.map elASLABLU32LU32ZI64BLU32LU32Z)), .fn (.func 78) [] []]) (M := [o1, o2]) Tryz.f80 mixedT (askG [9, 10, 11] false) (by kernel_rfl) (by kernel_rfl) (hasT 80 (by kernel_rfl)) ?_
  refine QL [o1, o2] 63 79 elASLABLU32LU32ZI64BLU32LU32Z p2 ?_
  refine QL [o1, o2] 63 79 elASLABLU32LU32ZI64BLU32LU32Z p5 ?_
  refine QP ((p2.length : Int) != (p5.length : Int)) (fun hp5 => ?_) (fun hp5 => ?_)
  · replace h := h.t hp5
    refine H_endM .ret (.pd (.bool false)) ([o1, o2]) (by kernel_rfl) rfl (by kernel_rfl) (by kernel_rfl) (by kernel_rfl) ?_
    subst h; exact QE .ret
  replace h := h.f hp5
  refine QL [o1, o2] 63 79 elASLABLU32LU32ZI64BLU32LU32Z p2 ?_
  refine H_loopP (F := model_Same_L1 p2 p5 r) (s0 := (0 : Int)) h () 32 2
    (fun (s100 : Int) (() : Unit) => [(1, .pd (.sl (p5.map elASLABLU32LU32ZI64BLU32LU32Z))), (2, .fn (.func 78) [] []), (15, .pd (.sl (p2.map elASLABLU32LU32ZI64BLU32LU32Z))), (16, .pd (.int .i64 (p2.length : Int))), (17, .pd (.int .i64 s100))])
    (fun (s100 : Int) (() : Unit) => [.cells [.pd (.sl (p0.map elS)), .pd (.sl (p1.map elABLU32LU32Z)), .pd (.sl (p2.map elASLABLU32LU32ZI64BLU32LU32Z))] 1 0 false, .cells [.pd (.sl (p3.map elS)), .pd (.sl (p4.map elABLU32LU32Z)), .pd (.sl (p5.map elASLABLU32LU32ZI64BLU32LU32Z))] 1 0 false]) (fun (s100 : Int) (() : Unit) => True) trivial [] mixedT (askG [9, 10, 11] false)
    (by kernel_rfl) (by kernel_rfl) (by kernel_rfl) (by kernel_rfl) (by kernel_rfl) (fun _ _ => rfl) ?_
  rintro X1 s100 ⟨⟩ - h
  dsimp only [model_Same_L1] at h
  refine QP (decide (s100 < (p2.length : Int))) (fun hp6 => ?_) (fun hp6 => ?_)
  · replace h := h.t hp6
    obtain ⟨x7, x8, x9, x10, x11, x12, hx13, h⟩ := h
    refine QI [o1, o2] 63 79 .i64 okASLABLU32LU32ZI64BLU32LU32Z leASLABLU32LU32ZI64BLU32LU32Z hx13 ?_
    let o3 : Ob := .cells [.pd (.str x7), .pd (.sl (x8.map elABLU32LU32Z)), .pd (.int .i64 x9), .pd (.bool x10), .pd (.sl (x11.map elU32)), .pd (.sl (x12.map elU32))] 1 0 false
    refine QK 2 ?_
    obtain ⟨x14, x15, x16, x17, x18, x19, hx20, h⟩ := h
    refine QI [o1, o2, o3] 63 79 .i64 okASLABLU32LU32ZI64BLU32LU32Z leASLABLU32LU32ZI64BLU32LU32Z hx20 ?_
    let o4 : Ob := .cells [.pd (.str x14), .pd (.sl (x15.map elABLU32LU32Z)), .pd (.int .i64 x16), .pd (.bool x17), .pd (.sl (x18.map elU32)), .pd (.sl (x19.map elU32))] 1 0 false
    refine QK 4 ?_
    obtain ⟨x21, hx22, h⟩ := h
    refine QV [o1, o2, o3, o4] (model_Same_1_ok m _ _ _ _ _ _ _ _ _ _ _ _ hx22) ?_
    cases x21
    · replace h := h.f rfl
      refine QR .ret ?_
      refine H_endM .ret (.pd (.bool false)) ([o1, o2, o3, o4]) (by kernel_rfl) rfl (by kernel_rfl) (by kernel_rfl) (by kernel_rfl) ?_
      subst h; exact QE .ret
    replace h := h.t rfl
    exact QGC () h trivial (all_c (by kernel_rfl) (all_c (by kernel_rfl) all_n))
  replace h := h.f hp6
  refine QR (.exit 0) ?_
  refine H_endM .ret (.pd (.bool true)) ([o1, o2]) (by kernel_rfl) rfl (by kernel_rfl) (by kernel_rfl) (by kernel_rfl) ?_
  subst h; exact QE .ret

theorem offcutlaw08_Few_ok (m : Tp) (p0 : List (List UInt8)) (p1 : List (Bool × (List Int) × (List Int))) (p2 : List ((List UInt8) × (List (Bool × (List Int) × (List Int))) × Int × Bool × (List Int) × (List Int))) {r : Bool} (h : offcutlaw08_Few p0 p1 p2 r) : ASpec Tryz.prog (gtT m) 39 [.agg [.pd (.sl (p0.map elS)), .pd (.sl (p1.map elABLU32LU32Z)), .pd (.sl (p2.map elASLABLU32LU32ZI64BLU32LU32Z))]] (· = .pd (.bool r)) := by
  refine ASpec_tree Tryz.f39 mixedT (askG [9, 10, 11] false) (by kernel_rfl) ?_
  unfold offcutlaw08_Few at h
  let o1 : Ob := .cells [.pd (.sl (p0.map elS)), .pd (.sl (p1.map elABLU32LU32Z)), .pd (.sl (p2.map elASLABLU32LU32ZI64BLU32LU32Z))] 1 0 false
  refine QK 1 ?_
  refine H_loopP (F := offcutlaw08_Few_L1 p0 p1 p2 r) (s0 := (0 : Int)) h () 78 1
    (fun (s100 : Int) (() : Unit) => [(1, .ptr 0 0 0), (3, .pd (.int .i64 s100))])
    (fun (s100 : Int) (() : Unit) => [.cells [.pd (.sl (p0.map elS)), .pd (.sl (p1.map elABLU32LU32Z)), .pd (.sl (p2.map elASLABLU32LU32ZI64BLU32LU32Z))] 1 0 false]) (fun (s100 : Int) (() : Unit) => True) trivial [] mixedT (askG [9, 10, 11] false)
    (by kernel_rfl) (by kernel_rfl) (by kernel_rfl) (by kernel_rfl) (by kernel_rfl) (fun _ _ => rfl) ?_
  rintro X1 s100 ⟨⟩ - h
  dsimp only [offcutlaw08_Few_L1] at h
  refine QK 2 ?_
  refine QL [o1] 57 9 elS p0 ?_
  refine QP (decide (s100 < (p0.length : Int))) (fun hp1 => ?_) (fun hp1 => ?_)
  · replace h := h.t hp1
    refine QP (decide (s100 ≤ (8 : Int))) (fun hp2 => ?_) (fun hp2 => ?_)
    · replace h := h.t hp2
      refine QK 2 ?_
      obtain ⟨x3, hx4, h⟩ := h
      refine QI [o1] 57 9 .i64 okS leS hx4 ?_
      refine QK 2 ?_
      refine QP (decide ((x3.length : Int) > (20 : Int))) (fun hp5 => ?_) (fun hp5 => ?_)
      · replace h := h.t hp5
        refine QR .ret ?_
        subst h; exact QE .ret
      replace h := h.f hp5
      exact QG () h trivial
    replace h := h.f hp2
    refine QR (.exit 0) ?_
    refine H_loopP (F := offcutlaw08_Few_L2 p0 p1 p2 r) (s0 := (0 : Int)) h () 78 1
      (fun (s200 : Int) (() : Unit) => [(1, .ptr 0 0 0), (4, .pd (.int .i64 s200))])
      (fun (s200 : Int) (() : Unit) => [.cells [.pd (.sl (p0.map elS)), .pd (.sl (p1.map elABLU32LU32Z)), .pd (.sl (p2.map elASLABLU32LU32ZI64BLU32LU32Z))] 1 0 false]) (fun (s200 : Int) (() : Unit) => True) trivial [] mixedT (askG [9, 10, 11] false)
      (by kernel_rfl) (by kernel_rfl) (by kernel_rfl) (by kernel_rfl) (by kernel_rfl) (fun _ _ => rfl) ?_
    rintro X2 s200 ⟨⟩ - h
    dsimp only [offcutlaw08_Few_L2] at h
    refine QK 2 ?_
    refine QL [o1] 63 79 elASLABLU32LU32ZI64BLU32LU32Z p2 ?_
    refine QP (decide (s200 < (p2.length : Int))) (fun hp6 => ?_) (fun hp6 => ?_)
    · replace h := h.t hp6
      refine QP (decide (s200 ≤ (6 : Int))) (fun hp7 => ?_) (fun hp7 => ?_)
      · replace h := h.t hp7
        refine QK 2 ?_
        obtain ⟨x8, x9, x10, x11, x12, x13, hx14, h⟩ := h
        refine QI [o1] 63 79 .i64 okASLABLU32LU32ZI64BLU32LU32Z leASLABLU32LU32ZI64BLU32LU32Z hx14 ?_
        refine QK 3 ?_
        refine QP (decide ((x8.length : Int) > (20 : Int))) (fun hp15 => ?_) (fun hp15 => ?_)
        · replace h := h.t hp15
          refine QR .ret ?_
          subst h; exact QE .ret
        replace h := h.f hp15
        refine QK 2 ?_
        obtain ⟨x16, x17, x18, x19, x20, x21, hx22, h⟩ := h
        refine QI [o1] 63 79 .i64 okASLABLU32LU32ZI64BLU32LU32Z leASLABLU32LU32ZI64BLU32LU32Z hx22 ?_
        refine QK 2 ?_
        obtain ⟨x23, hx24, h⟩ := h
        refine QV [o1] (offcutlaw05_Few_ok m _ hx24) ?_
        cases x23
        · replace h := h.f rfl
          refine QR .ret ?_
          subst h; exact QE .ret
        replace h := h.t rfl
        refine QK 2 ?_
        obtain ⟨x25, x26, x27, x28, x29, x30, hx31, h⟩ := h
        refine QI [o1] 63 79 .i64 okASLABLU32LU32ZI64BLU32LU32Z leASLABLU32LU32ZI64BLU32LU32Z hx31 ?_
        refine QK 2 ?_
        obtain ⟨x32, hx33, h⟩ := h
        refine H_valW (g := 22) (args := [.fixed ([(x28, x29, x30)].map elABLU32LU32Z)]) (M := [o1]) (.pd (.bool x32)) (.inl (by kernel_rfl)) (by kernel_rfl) (offcutlaw05_Few_ok m _ hx33) (by kernel_rfl) (hasT 22 (by kernel_rfl)) ?_
        cases x32
        · replace h := h.f rfl
          refine QR .ret ?_
          subst h; exact QE .ret
        replace h := h.t rfl
        exact QG () h trivial
      replace h := h.f hp7
      refine QR (.exit 2) ?_
      refine QK 2 ?_
      refine QL [o1] 57 9 elS p0 ?_
      refine QP (decide ((p0.length : Int) ≤ (8 : Int))) (fun hp34 => ?_) (fun hp34 => ?_)
      · replace h := h.t hp34
        refine QK 2 ?_
        refine QL [o1] 63 79 elASLABLU32LU32ZI64BLU32LU32Z p2 ?_
        refine QP (decide ((p2.length : Int) ≤ (6 : Int))) (fun hp35 => ?_) (fun hp35 => ?_)
        · replace h := h.t hp35
          refine QK 2 ?_
          obtain ⟨x36, hx37, h⟩ := h
          refine QV [o1] (offcutlaw05_Few_ok m _ hx37) ?_
          cases x36
          · replace h := h.f rfl
            subst h; exact QE .ret
          replace h := h.t rfl
          subst h; exact QE .ret
        replace h := h.f hp35
        subst h; exact QE .ret
      replace h := h.f hp34
      subst h; exact QE .ret
    replace h := h.f hp6
    refine QR (.exit 2) ?_
    refine QK 2 ?_
    refine QL [o1] 57 9 elS p0 ?_
    refine QP (decide ((p0.length : Int) ≤ (8 : Int))) (fun hp38 => ?_) (fun hp38 => ?_)
    · replace h := h.t hp38
      refine QK 2 ?_
      refine QL [o1] 63 79 elASLABLU32LU32ZI64BLU32LU32Z p2 ?_
      refine QP (decide ((p2.length : Int) ≤ (6 : Int))) (fun hp39 => ?_) (fun hp39 => ?_)
      · replace h := h.t hp39
        refine QK 2 ?_
        obtain ⟨x40, hx41, h⟩ := h
        refine QV [o1] (offcutlaw05_Few_ok m _ hx41) ?_
        cases x40
        · replace h := h.f rfl
          subst h; exact QE .ret
        replace h := h.t rfl
        subst h; exact QE .ret
      replace h := h.f hp39
      subst h; exact QE .ret
    replace h := h.f hp38
    subst h; exact QE .ret
  replace h := h.f hp1
  refine QR (.exit 0) ?_
  refine H_loopP (F := offcutlaw08_Few_L3 p0 p1 p2 r) (s0 := (0 : Int)) h () 78 1
    (fun (s300 : Int) (() : Unit) => [(1, .ptr 0 0 0), (4, .pd (.int .i64 s300))])
    (fun (s300 : Int) (() : Unit) => [.cells [.pd (.sl (p0.map elS)), .pd (.sl (p1.map elABLU32LU32Z)), .pd (.sl (p2.map elASLABLU32LU32ZI64BLU32LU32Z))] 1 0 false]) (fun (s300 : Int) (() : Unit) => True) trivial [] mixedT (askG [9, 10, 11] false)
    (by kernel_rfl) (by kernel_rfl) (by kernel_rfl) (by kernel_rfl) (by kernel_rfl) (fun _ _ => rfl) ?_
  rintro X3 s300 ⟨⟩ - h
  dsimp only [offcutlaw08_Few_L3] at h
  refine QK 2 ?_
  refine QL [o1] 63 79 elASLABLU32LU32ZI64BLU32LU32Z p2 ?_
  refine QP (decide (s300 < (p2.length : Int))) (fun hp42 => ?_) (fun hp42 => ?_)
  · replace h := h.t hp42
    refine QP (decide (s300 ≤ (6 : Int))) (fun hp43 => ?_) (fun hp43 => ?_)
    · replace h := h.t hp43
      refine QK 2 ?_
      obtain ⟨x44, x45, x46, x47, x48, x49, hx50, h⟩ := h
      refine QI [o1] 63 79 .i64 okASLABLU32LU32ZI64BLU32LU32Z leASLABLU32LU32ZI64BLU32LU32Z hx50 ?_
      refine QK 3 ?_
      refine QP (decide ((x44.length : Int) > (20 : Int))) (fun hp51 => ?_) (fun hp51 => ?_)
      · replace h := h.t hp51
        refine QR .ret ?_
        subst h; exact QE .ret
      replace h := h.f hp51
      refine QK 2 ?_
      obtain ⟨x52, x53, x54, x55, x56, x57, hx58, h⟩ := h
      refine QI [o1] 63 79 .i64 okASLABLU32LU32ZI64BLU32LU32Z leASLABLU32LU32ZI64BLU32LU32Z hx58 ?_
      refine QK 2 ?_
      obtain ⟨x59, hx60, h⟩ := h
      refine QV [o1] (offcutlaw05_Few_ok m _ hx60) ?_
      cases x59
      · replace h := h.f rfl
        refine QR .ret ?_
        subst h; exact QE .ret
      replace h := h.t rfl
      refine QK 2 ?_
      obtain ⟨x61, x62, x63, x64, x65, x66, hx67, h⟩ := h
      refine QI [o1] 63 79 .i64 okASLABLU32LU32ZI64BLU32LU32Z leASLABLU32LU32ZI64BLU32LU32Z hx67 ?_
      refine QK 2 ?_
      obtain ⟨x68, hx69, h⟩ := h
      refine H_valW (g := 22) (args := [.fixed ([(x64, x65, x66)].map elABLU32LU32Z)]) (M := [o1]) (.pd (.bool x68)) (.inl (by kernel_rfl)) (by kernel_rfl) (offcutlaw05_Few_ok m _ hx69) (by kernel_rfl) (hasT 22 (by kernel_rfl)) ?_
      cases x68
      · replace h := h.f rfl
        refine QR .ret ?_
        subst h; exact QE .ret
      replace h := h.t rfl
      exact QG () h trivial
    replace h := h.f hp43
    refine QR (.exit 2) ?_
    refine QK 2 ?_
    refine QL [o1] 57 9 elS p0 ?_
    refine QP (decide ((p0.length : Int) ≤ (8 : Int))) (fun hp70 => ?_) (fun hp70 => ?_)
    · replace h := h.t hp70
      refine QK 2 ?_
      refine QL [o1] 63 79 elASLABLU32LU32ZI64BLU32LU32Z p2 ?_
      refine QP (decide ((p2.length : Int) ≤ (6 : Int))) (fun hp71 => ?_) (fun hp71 => ?_)
      · replace h := h.t hp71
        refine QK 2 ?_
        obtain ⟨x72, hx73, h⟩ := h
        refine QV [o1] (offcutlaw05_Few_ok m _ hx73) ?_
        cases x72
        · replace h := h.f rfl
          subst h; exact QE .ret
        replace h := h.t rfl
        subst h; exact QE .ret
      replace h := h.f hp71
      subst h; exact QE .ret
    replace h := h.f hp70
    subst h; exact QE .ret
  replace h := h.f hp42
  refine QR (.exit 2) ?_
  refine QK 2 ?_
  refine QL [o1] 57 9 elS p0 ?_
  refine QP (decide ((p0.length : Int) ≤ (8 : Int))) (fun hp74 => ?_) (fun hp74 => ?_)
  · replace h := h.t hp74
    refine QK 2 ?_
    refine QL [o1] 63 79 elASLABLU32LU32ZI64BLU32LU32Z p2 ?_
    refine QP (decide ((p2.length : Int) ≤ (6 : Int))) (fun hp75 => ?_) (fun hp75 => ?_)
    · replace h := h.t hp75
      refine QK 2 ?_
      obtain ⟨x76, hx77, h⟩ := h
      refine QV [o1] (offcutlaw05_Few_ok m _ hx77) ?_
      cases x76
      · replace h := h.f rfl
        subst h; exact QE .ret
      replace h := h.t rfl
      subst h; exact QE .ret
    replace h := h.f hp75
    subst h; exact QE .ret
  replace h := h.f hp74
  subst h; exact QE .ret

theorem offcutlaw08_ModelSame_ok (m : Tp) (p0 : List (List UInt8)) (p1 : List (Bool × (List Int) × (List Int))) (p2 : List ((List UInt8) × (List (Bool × (List Int) × (List Int))) × Int × Bool × (List Int) × (List Int))) (p3 : Int) (p4 : Bool) (p5 : List Int) (p6 : List Int) {r : Bool} (h : offcutlaw08_ModelSame p0 p1 p2 p3 p4 p5 p6 r) : ASpec Tryz.prog (gtT m) 11 [.agg [.pd (.sl (p0.map elS)), .pd (.sl (p1.map elABLU32LU32Z)), .pd (.sl (p2.map elASLABLU32LU32ZI64BLU32LU32Z))], .pd (.int .i64 p3), .agg [.pd (.bool p4), .pd (.sl (p5.map elU32)), .pd (.sl (p6.map elU32))]] (· = .pd (.bool r)) := by
  refine ASpec_tree Tryz.f11 mixedT (askG [9, 10, 11] false) (by kernel_rfl) ?_
  unfold offcutlaw08_ModelSame at h
  let o1 : Ob := .cells [.pd (.sl (p0.map elS)), .pd (.sl (p1.map elABLU32LU32Z)), .pd (.sl (p2.map elASLABLU32LU32ZI64BLU32LU32Z))] 1 0 false
  let o2 : Ob := .cells [.pd (.bool p4), .pd (.sl (p5.map elU32)), .pd (.sl (p6.map elU32))] 1 0 false
  refine QK 3 ?_
  obtain ⟨x1, hx2, h⟩ := h
  refine QV [o1, o2] (offcutlaw08_Few_ok m _ _ _ hx2) ?_
  cases x1
  · replace h := h.f rfl
    obtain ⟨x53, hx54, h⟩ := h
    refine QV [o1, o2] (offcutlaw08_awake_ok m  hx54) ?_
    cases x53
    · replace h := h.f rfl
      subst h; exact QE .ret
    replace h := h.t rfl
    subst h; exact QE .ret
  replace h := h.t rfl
  refine QK 1 ?_
  obtain ⟨x3, hx4, h⟩ := h
  refine H_valW (g := 22) (args := [.fixed ([(p4, p5, p6)].map elABLU32LU32Z)]) (M := [o1, o2]) (.pd (.bool x3)) (.inl (by kernel_rfl)) (by kernel_rfl) (offcutlaw05_Few_ok m _ hx4) (by kernel_rfl) (hasT 22 (by kernel_rfl)) ?_
  cases x3
  · replace h := h.f rfl
    obtain ⟨x51, hx52, h⟩ := h
    refine QV [o1, o2] (offcutlaw08_awake_ok m  hx52) ?_
    cases x51
    · replace h := h.f rfl
      subst h; exact QE .ret
    replace h := h.t rfl
    subst h; exact QE .ret
  replace h := h.t rfl
  refine QK 2 ?_
  obtain ⟨x5, hx6, h⟩ := h
  refine QV [o1, o2] (model_Same_ok m _ _ _ _ _ _ hx6) ?_
  cases x5
  · replace h := h.f rfl
    subst h; exact QE .ret
  replace h := h.t rfl
  refine QP (decide (p3 < (0 : Int))) (fun hp7 => ?_) (fun hp7 => ?_)
  · replace h := h.t hp7
    obtain ⟨x8, hx9, h⟩ := h
    refine QV [o1, o2] (offcutlaw08_awake_ok m  hx9) ?_
    cases x8
    · replace h := h.f rfl
      subst h; exact QE .ret
    replace h := h.t rfl
    subst h; exact QE .ret
  replace h := h.f hp7
  refine QK 2 ?_
  refine QL [o1, o2] 23 44 elABLU32LU32Z p1 ?_
  refine QP (decide (p3 ≥ (p1.length : Int))) (fun hp10 => ?_) (fun hp10 => ?_)
  · replace h := h.t hp10
    obtain ⟨x11, hx12, h⟩ := h
    refine QV [o1, o2] (offcutlaw08_awake_ok m  hx12) ?_
    cases x11
    · replace h := h.f rfl
      subst h; exact QE .ret
    replace h := h.t rfl
    subst h; exact QE .ret
  replace h := h.f hp10
  refine QK 4 ?_
  cases hx13 : (p1).isEmpty
  · replace h := h.f hx13
    obtain ⟨hx26, h⟩ := h
    refine H_ask _ _ (by kernel_rfl) (ask_appF (P := Tryz.prog) (M := [o1, o2, o1]) (lv := lvABLU32LU32Z) (s := 3) (e := ([] : List (Bool × (List Int) × (List Int)))) (e2 := p1) (sT := 23) (xT := 23) (by_ := 56) okABLU32LU32Z leABLU32LU32Z (by kernel_rfl) (src_pd (M := [o1, o2, o1]) okABLU32LU32Z leABLU32LU32Z) (ne_of_isEmpty hx13) hx26) ?_
    let o3 : Ob := .cells (rowC lvABLU32LU32Z (([] : List (Bool × (List Int) × (List Int))) ++ p1)) 3 0 false
    refine QK 1 ?_
    refine QC [o1, o2, o1, o3] 23 2 1 0 1 1 [.own 3 ((([] : List (Bool × (List Int) × (List Int))) ++ p1).length) 0] (.own 3 ((([] : List (Bool × (List Int) × (List Int))) ++ p1).length) 0) (all_c (ok_own (o := .cells (rowC lvABLU32LU32Z (([] : List (Bool × (List Int) × (List Int))) ++ p1)) 3 0 false) (by kernel_rfl) (rowIs_c (lv := lvABLU32LU32Z) (s := 3) (e := (([] : List (Bool × (List Int) × (List Int))) ++ p1)) (ver := 0) (z := false))) all_n) ?_
    refine QD ?_
    let o4 : Ob := .cells [.pd (.sl (p0.map elS)), .own 3 ((([] : List (Bool × (List Int) × (List Int))) ++ p1).length) 0, .pd (.sl (p2.map elASLABLU32LU32ZI64BLU32LU32Z))] 1 0 false
    refine QK 4 ?_
    obtain ⟨x27, x28, x29, hx30, h⟩ := h
    refine QI [o1, o2, o4, o3] 23 44 .i64 okABLU32LU32Z leABLU32LU32Z hx30 ?_
    refine QK 2 ?_
    obtain ⟨x31, x32, x33, hx34, h⟩ := h
    refine QVd [o1, o2, o4, o3] (rat_Add_ok m _ _ _ _ _ _ hx34) ?_
    obtain ⟨x35, x36, x37, hx38, h⟩ := h
    refine H_ask _ _ (by kernel_rfl) (ask_oidx (P := Tryz.prog) (M := [o1, o2, o4, o3]) (t := 23) (et := 44) (k := .i64) (lv := lvABLU32LU32Z) (e := (([] : List (Bool × (List Int) × (List Int))) ++ p1)) (s := 3) (b := 3) (by kernel_rfl) (by kernel_rfl) (by kernel_rfl) (rowIs_c (lv := lvABLU32LU32Z) (s := 3) (e := (([] : List (Bool × (List Int) × (List Int))) ++ p1)) (ver := 0) (z := false)) (n := (([] : List (Bool × (List Int) × (List Int))) ++ p1).length) rfl hx38) ?_
    refine H_ask _ _ (by kernel_rfl) (ask_ostore (P := Tryz.prog) (M := [o1, o2, o4, o3]) (t := 44) (lv := lvABLU32LU32Z) (b := 3) (i := p3) (y := (x31, x32, x33)) (X := .agg [.pd (.bool x31), .pd (.sl (x32.map elU32)), .pd (.sl (x33.map elU32))]) okABLU32LU32Z (by kernel_rfl) (by kernel_rfl) (rowIs_c (lv := lvABLU32LU32Z) (s := 3) (e := (([] : List (Bool × (List Int) × (List Int))) ++ p1)) (ver := 0) (z := false)) hx38 (by kernel_rfl)) ?_
    refine QD ?_
    let o5 : Ob := .cells (rowC lvABLU32LU32Z ((([] : List (Bool × (List Int) × (List Int))) ++ p1).set (Int.toNat p3) (x31, x32, x33))) 3 0 false
    refine QK 2 ?_
    obtain ⟨x39, hx40, h⟩ := h
    refine H_valO (g := 35) (args := [.agg [.pd (.sl (p0.map elS)), .pd (.sl (p1.map elABLU32LU32Z)), .pd (.sl (p2.map elASLABLU32LU32ZI64BLU32LU32Z))], .agg [.pd (.sl (p0.map elS)), .own 3 ((([] : List (Bool × (List Int) × (List Int))) ++ p1).length) 0, .pd (.sl (p2.map elASLABLU32LU32ZI64BLU32LU32Z))]]) (M := [o1, o2, o4, o5]) (.pd (.bool x39)) (.inr (by kernel_rfl)) (pl_cons rfl (pl_cons (un_agg (pl_cons rfl (pl_cons (un_own1 (own_pd okABLU32LU32Z (by decide) lgABLU32LU32Z (o := .cells (rowC lvABLU32LU32Z ((([] : List (Bool × (List Int) × (List Int))) ++ p1).set (Int.toNat p3) (x31, x32, x33))) 3 0 false) (by kernel_rfl) (rowIs_c (lv := lvABLU32LU32Z) (s := 3) (e := ((([] : List (Bool × (List Int) × (List Int))) ++ p1).set (Int.toNat p3) (x31, x32, x33))) (ver := 0) (z := false)) (n := (([] : List (Bool × (List Int) × (List Int))) ++ p1).length) (ls_set rfl))) (pl_cons rfl pl_nil)))) pl_nil)) (model_Same_ok m _ _ _ _ _ _ hx40) (by kernel_rfl) rfl (hasT 35 (by kernel_rfl)) ?_
    cases x39
    · replace h := h.f rfl
      refine QK 1 ?_
      obtain ⟨x46, hx47, h⟩ := h
      refine QVd [o1, o2, o4, o5] (rat_Sign_ok m _ _ _ hx47) ?_
      refine QP (x46 == (0 : Int)) (fun hp48 => ?_) (fun hp48 => ?_)
      · replace h := h.t hp48
        refine QP false (fun hc => by cases hc) (fun _ => ?_)
        subst h; exact QE .ret
      replace h := h.f hp48
      refine QP true (fun _ => ?_) (fun hc => by cases hc)
      obtain ⟨x49, hx50, h⟩ := h
      refine QVd [o1, o2, o4, o5] (offcutlaw08_awake_ok m  hx50) ?_
      cases x49
      · replace h := h.f rfl
        subst h; exact QE .ret
      replace h := h.t rfl
      subst h; exact QE .ret
    replace h := h.t rfl
    refine QK 1 ?_
    obtain ⟨x41, hx42, h⟩ := h
    refine QVd [o1, o2, o4, o5] (rat_Sign_ok m _ _ _ hx42) ?_
    refine QP (x41 == (0 : Int)) (fun hp43 => ?_) (fun hp43 => ?_)
    · replace h := h.t hp43
      refine QP true (fun _ => ?_) (fun hc => by cases hc)
      obtain ⟨x44, hx45, h⟩ := h
      refine QVd [o1, o2, o4, o5] (offcutlaw08_awake_ok m  hx45) ?_
      cases x44
      · replace h := h.f rfl
        subst h; exact QE .ret
      replace h := h.t rfl
      subst h; exact QE .ret
    replace h := h.f hp43
    refine QP false (fun hc => by cases hc) (fun _ => ?_)
    subst h; exact QE .ret
  replace h := h.t hx13
  refine H_ask _ _ (by kernel_rfl) (ask_app0 (P := Tryz.prog) (M := [o1, o2, o1]) (lv := lvABLU32LU32Z) (s := 3) (e := ([] : List (Bool × (List Int) × (List Int)))) (e2 := p1) (sT := 23) (xT := 23) (by_ := 56) okABLU32LU32Z leABLU32LU32Z (by kernel_rfl) (src_pd (M := [o1, o2, o1]) okABLU32LU32Z leABLU32LU32Z) hx13) ?_
  let o6 : Ob := .cells [.pd (.sl (p0.map elS)), .fixed (([] : List (Bool × (List Int) × (List Int))).map elABLU32LU32Z), .pd (.sl (p2.map elASLABLU32LU32ZI64BLU32LU32Z))] 1 0 false
  refine QK 2 ?_
  refine QD ?_
  refine QK 4 ?_
  obtain ⟨x14, x15, x16, hx17, h⟩ := h
  refine QI [o1, o2, o6] 23 44 .i64 okABLU32LU32Z leABLU32LU32Z hx17 ?_
  refine QK 2 ?_
  obtain ⟨x18, x19, x20, hx21, h⟩ := h
  refine QVd [o1, o2, o6] (rat_Add_ok m _ _ _ _ _ _ hx21) ?_
  obtain ⟨x22, x23, x24, hx25, h⟩ := h
  refine H_ask _ _ (by kernel_rfl) (ask_idxF (P := Tryz.prog) (M := [o1, o2, o6]) (t := 23) (et := 44) (k := .i64) (lv := lvABLU32LU32Z) okABLU32LU32Z leABLU32LU32Z (by kernel_rfl) (by kernel_rfl) hx25) ?_
  exact h.elim

end Go.Abs
end
