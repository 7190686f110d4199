/- Part of a proof, in few files: G13pW. -/
import Derived.Test.YtdbfgnpobfbfmaaGreatDoorMPaK29
import Derived.Test.YtdbfgnpobfbfmaaGreatDoorMPaK31
import Derived.Test.YtdbfgnpobfbfmaaGreatDoorMPaK32
import Derived.Test.YtdbfgnpobfbfmaaGreatDoorMPaK37
import Derived.Test.YtdbfgnpobfbfmaaGreatDoorMPaK43
import Derived.Test.YtdbfgnpobfbfmaaGreatDoorMPaK38

section
namespace Go.Abs
open Go.Proofs
set_option maxHeartbeats 4000000
set_option maxRecDepth 20000
set_option linter.unusedVariables false
set_option linter.unusedSimpArgs false
set_option linter.unnecessarySimpa false
def lvQ4 (x : Bool × (List Int) × (List Int)) : List PD := [.bool x.1, .sl (x.2.1.map elU32), .sl (x.2.2.map elU32)]
def elQ4 (x : Bool × (List Int) × (List Int)) : PD := .agg [.bool x.1, .sl (x.2.1.map elU32), .sl (x.2.2.map elU32)]
theorem okQ4 : LVok lvQ4 3 := fun _ => ⟨rfl, rfl⟩
theorem leQ4 : ELok elQ4 lvQ4 := fun _ => rfl
theorem lgQ4 : ELg elQ4 lvQ4 3 := fun _ => rfl
theorem lines_Number_ok (m : Tp) (p0 : List UInt8) {r : Bool × (List Int) × (List Int) × Bool} (h : lines_Number p0 r) : ASpec Tryz.prog (gtT m) 109 [.pd (.str p0)] (· = .tup [.agg [.pd (.bool r.1), .pd (.sl (r.2.1.map elU32)), .pd (.sl (r.2.2.1.map elU32))], .pd (.bool r.2.2.2)]) := by
 refine ASpec_tree Tryz.f109 mixedT (askG [9, 10, 11] false) (by kernel_rfl) ?_
 unfold lines_Number at h
 obtain ⟨x1, x2, x3, x4, hx5, h⟩ := h
 refine QV (rat_Parse_ok m _ hx5) ?_
 refine QK 1 ?_
 refine QBp h (fun hp6 h => ?_) (fun hp6 h => ?_)
 ·obtain ⟨x7, x8, x9, hx10, h⟩ := h
  refine QV (rat_Int_ok m _ hx10) ?_
  refine QK 1 ?_
  subst r; exact QE .ret
 ·refine QK 2 ?_
  subst r; exact QE .ret
theorem vec_Same_1_ok (m : Tp) (p0 : Bool) (p1 : List Int) (p2 : List Int) (p3 : Bool) (p4 : List Int) (p5 : List Int) {r : Bool} (h : vec_Same_1 p0 p1 p2 p3 p4 p5 r) : ASpec Tryz.prog (gtT m) 77 [.agg [.pd (.bool p0), .pd (.sl (p1.map elU32)), .pd (.sl (p2.map elU32))], .agg [.pd (.bool p3), .pd (.sl (p4.map elU32)), .pd (.sl (p5.map elU32))]] (· = .pd (.bool r)) := by
 refine ASpec_tree Tryz.f77 mixedT (askG [9, 10, 11] false) (by kernel_rfl) ?_
 unfold vec_Same_1 at h
 refine QK 4 ?_
 obtain ⟨x1, hx2, h⟩ := h
 refine QV (rat_Compare_ok m _ _ _ _ _ _ hx2) ?_
 refine QBp h (fun hp3 h => ?_) (fun hp3 h => ?_)
 ·subst r; exact QE .ret
 ·subst r; exact QE .ret
theorem vec_Same_ok (m : Tp) (p0 : List (Bool × (List Int) × (List Int))) (p1 : List (Bool × (List Int) × (List Int))) {r : Bool} (h : vec_Same p0 p1 r) : ASpec Tryz.prog (gtT m) 34 [.pd (.sl (p0.map elQ4)), .pd (.sl (p1.map elQ4))] (· = .pd (.bool r)) := by
 refine ASpec_tree Tryz.f34 mixedT (askG [9, 10, 11] false) (by kernel_rfl) ?_
 unfold vec_Same at h
 refine H_inl (g := 76) (args := [.pd (.sl (p0.map elQ4)), .pd (.sl (p1.map elQ4)), .fn (.func 77) [] []]) (M := []) Tryz.f76 mixedT (askG [9, 10, 11] false) (by kernel_rfl) (by kernel_rfl) (hasT 76 (by kernel_rfl)) ?_
 refine QL [] 23 44 elQ4 p0 ?_
 refine QL [] 23 44 elQ4 p1 ?_
 refine QBp h (fun hp1 h => ?_) (fun hp1 h => ?_)
 ·refine H_endM .ret (.pd (.bool false)) ([]) (by kernel_rfl) rfl (by kernel_rfl) (by kernel_rfl) (by kernel_rfl) ?_
  subst r; exact QE .ret
 ·refine QL [] 23 44 elQ4 p0 ?_
  refine H_loopP (F := vec_Same_L1 p0 p1 r) (s0 := (0 : Int)) h () 32 0
   (fun s100 () => [(1, .pd (.sl (p1.map elQ4))), (2, .fn (.func 77) [] []), (15, .pd (.sl (p0.map elQ4))), (16, .pd (.int .i64 (p0.length : Int))), (17, .pd (.int .i64 s100))])
   (fun s100 () => []) (fun s100 () => True) trivial [] mixedT (askG [9, 10, 11] false)
   (by kernel_rfl) (by kernel_rfl) (by kernel_rfl) (by kernel_rfl) (by kernel_rfl) (fun _ _ => rfl) ?_
  rintro X1 s100 ⟨⟩ - h
  dsimp only [vec_Same_L1] at h
  refine QBp h (fun hp2 h => ?_) (fun hp2 h => ?_)
  ·obtain ⟨x3, x4, x5, hx6, h⟩ := h
   refine QI [] 23 44 .i64 okQ4 leQ4 hx6 ?_
   refine QK 2 ?_
   obtain ⟨x7, x8, x9, hx10, h⟩ := h
   refine QI [.cells [.pd (.bool x3), .pd (.sl (x4.map elU32)), .pd (.sl (x5.map elU32))] 1 0 false] 23 44 .i64 okQ4 leQ4 hx10 ?_
   refine QK 4 ?_
   obtain ⟨x11, hx12, h⟩ := h
   refine QV (vec_Same_1_ok m _ _ _ _ _ _ hx12) ?_
   cases x11
   ·replace h := h.f rfl
    refine QR .ret ?_
    refine H_endM .ret (.pd (.bool false)) ([.cells [.pd (.bool x3), .pd (.sl (x4.map elU32)), .pd (.sl (x5.map elU32))] 1 0 false, .cells [.pd (.bool x7), .pd (.sl (x8.map elU32)), .pd (.sl (x9.map elU32))] 1 0 false]) (by kernel_rfl) rfl (by kernel_rfl) (by kernel_rfl) (by kernel_rfl) ?_
    subst r; exact QE .ret
   ·replace h := h.t rfl
    exact QGC () h trivial all_n
  ·refine QR (.exit 0) ?_
   refine H_endM .ret (.pd (.bool true)) ([]) (by kernel_rfl) rfl (by kernel_rfl) (by kernel_rfl) (by kernel_rfl) ?_
   subst r; exact QE .ret
theorem offcutref08_digits_ok (m : Tp) (p0 : List UInt8) {r : Bool} (h : offcutref08_digits p0 r) : ASpec Tryz.prog (gtT m) 110 [.pd (.str p0)] (· = .pd (.bool r)) := by
 refine ASpec_tree Tryz.f110 mixedT (askG [9, 10, 11] false) (by kernel_rfl) ?_
 unfold offcutref08_digits at h
 refine H_loopP (F := offcutref08_digits_L1 p0 r) (s0 := (0 : Int)) h () 28 0
  (fun s100 () => [(0, .pd (.str p0)), (3, .pd (.int .i64 s100))])
  (fun s100 () => []) (fun s100 () => True) trivial [] mixedT (askG [9, 10, 11] false)
  (by kernel_rfl) (by kernel_rfl) (by kernel_rfl) (by kernel_rfl) (by kernel_rfl) (fun _ _ => rfl) ?_
 rintro X1 s100 ⟨⟩ - h
 dsimp only [offcutref08_digits_L1] at h
 refine QK 1 ?_
 refine QBp h (fun hp1 h => ?_) (fun hp1 h => ?_)
 ·obtain ⟨c2, hx3, h⟩ := h
  refine QZ (ask_sidx (P := Tryz.prog) (M := []) (t := 9) (k := .i64) (by kernel_rfl) hx3) ?_
  refine QBp h (fun hp4 h => ?_) (fun hp4 h => ?_)
  ·refine QR .ret ?_
   subst r; exact QE .ret
  ·obtain ⟨c5, hx6, h⟩ := h
   refine QZ (ask_sidx (P := Tryz.prog) (M := []) (t := 9) (k := .i64) (by kernel_rfl) hx6) ?_
   refine QBp h (fun hp7 h => ?_) (fun hp7 h => ?_)
   ·refine QR .ret ?_
    subst r; exact QE .ret
   ·exact QG () h trivial
 ·refine QR (.exit 0) ?_
  refine QK 1 ?_
  refine QBp h (fun hp8 h => ?_) (fun hp8 h => ?_)
  ·refine QK 1 ?_
   refine QBp h (fun hp9 h => ?_) (fun hp9 h => ?_)
   ·subst r; exact QE .ret
   ·subst r; exact QE .ret
  ·subst r; exact QE .ret
theorem offcutref08_Number_ok (m : Tp) (p0 : List UInt8) (p1 : Bool) {r : Bool} (h : offcutref08_Number p0 p1 r) : ASpec Tryz.prog (gtT m) 64 [.pd (.str p0), .pd (.bool p1)] (· = .pd (.bool r)) := by
 refine ASpec_tree Tryz.f64 mixedT (askG [9, 10, 11] false) (by kernel_rfl) ?_
 unfold offcutref08_Number at h
 cases p1
 ·replace h := h.f rfl
  refine H_loopP (F := offcutref08_Number_L7 p0 r) (s0 := (0 : Int)) h () 60 0
   (fun s700 () => [(0, .pd (.str p0)), (5, .pd (.int .i64 s700))])
   (fun s700 () => []) (fun s700 () => True) trivial [] mixedT (askG [9, 10, 11] false)
   (by kernel_rfl) (by kernel_rfl) (by kernel_rfl) (by kernel_rfl) (by kernel_rfl) (fun _ _ => rfl) ?_
  rintro X7 s700 ⟨⟩ - h
  dsimp only [offcutref08_Number_L7] at h
  refine QK 1 ?_
  refine QBp h (fun hp81 h => ?_) (fun hp81 h => ?_)
  ·obtain ⟨c82, hx83, h⟩ := h
   refine QZ (ask_sidx (P := Tryz.prog) (M := []) (t := 9) (k := .i64) (by kernel_rfl) hx83) ?_
   refine QBp h (fun hp84 h => ?_) (fun hp84 h => ?_)
   ·obtain ⟨hx85, h⟩ := h
    refine QZ (ask_subS (P := Tryz.prog) (M := []) (t := 9) (lo := (some (IntKind.i64.wrap (s700 + 1)))) (hi := none) (by kernel_rfl) hx85) ?_
    refine H_loopP (F := offcutref08_Number_L8 p0 s700 r) (s0 := (true, (0 : Int))) h () 60 0
     (fun (s800, s801) () => [(0, .pd (.str p0)), (5, .pd (.int .i64 s700)), (6, .pd (.str (sub p0 (IntKind.i64.wrap (s700 + 1)) (p0.length : Int)))), (7, .pd (.bool s800)), (8, .pd (.int .i64 s801))])
     (fun (s800, s801) () => []) (fun (s800, s801) () => True) trivial [] mixedT (askG [9, 10, 11] false)
     (by kernel_rfl) (by kernel_rfl) (by kernel_rfl) (by kernel_rfl) (by kernel_rfl) (fun _ _ => rfl) ?_
    rintro X8 ⟨s800, s801⟩ ⟨⟩ - h
    dsimp only [offcutref08_Number_L8] at h
    cases s800
    ·replace h := h.f rfl
     refine QK 1 ?_
     refine QBp h (fun hp95 h => ?_) (fun hp95 h => ?_)
     ·obtain ⟨c96, hx97, h⟩ := h
      refine QZ (ask_sidx (P := Tryz.prog) (M := []) (t := 9) (k := .i64) (by kernel_rfl) hx97) ?_
      refine QBp h (fun hp98 h => ?_) (fun hp98 h => ?_)
      ·exact QG () h trivial
      exact QG () h trivial
     refine QR (.exit 2) ?_
     obtain ⟨hx99, h⟩ := h
     refine QZ (ask_subS (P := Tryz.prog) (M := []) (t := 9) (lo := none) (hi := (some s700)) (by kernel_rfl) hx99) ?_
     obtain ⟨x100, hx101, h⟩ := h
     refine QV (offcutref08_digits_ok m _ hx101) ?_
     cases x100
     ·replace h := h.f rfl
      refine QR .ret ?_
      subst r; exact QE .ret
     replace h := h.t rfl
     obtain ⟨x102, hx103, h⟩ := h
     refine QV (offcutref08_digits_ok m _ hx103) ?_
     cases x102
     ·replace h := h.f rfl
      refine QR .ret ?_
      subst r; exact QE .ret
     replace h := h.t rfl
     refine QR .ret ?_
     subst r; exact QE .ret
    replace h := h.t rfl
    refine QK 1 ?_
    refine QBp h (fun hp86 h => ?_) (fun hp86 h => ?_)
    ·obtain ⟨c87, hx88, h⟩ := h
     refine QZ (ask_sidx (P := Tryz.prog) (M := []) (t := 9) (k := .i64) (by kernel_rfl) hx88) ?_
     refine QBp h (fun hp89 h => ?_) (fun hp89 h => ?_)
     ·exact QG () h trivial
     exact QG () h trivial
    refine QR (.exit 2) ?_
    obtain ⟨hx90, h⟩ := h
    refine QZ (ask_subS (P := Tryz.prog) (M := []) (t := 9) (lo := none) (hi := (some s700)) (by kernel_rfl) hx90) ?_
    obtain ⟨x91, hx92, h⟩ := h
    refine QV (offcutref08_digits_ok m _ hx92) ?_
    cases x91
    ·replace h := h.f rfl
     refine QR .ret ?_
     subst r; exact QE .ret
    replace h := h.t rfl
    obtain ⟨x93, hx94, h⟩ := h
    refine QV (offcutref08_digits_ok m _ hx94) ?_
    cases x93
    ·replace h := h.f rfl
     refine QR .ret ?_
     subst r; exact QE .ret
    replace h := h.t rfl
    refine QR .ret ?_
    subst r; exact QE .ret
   exact QG () h trivial
  refine QR (.exit 0) ?_
  obtain ⟨x104, hx105, h⟩ := h
  refine QV (offcutref08_digits_ok m _ hx105) ?_
  cases x104
  ·replace h := h.f rfl
   subst r; exact QE .ret
  replace h := h.t rfl
  subst r; exact QE .ret
 replace h := h.t rfl
 refine QK 1 ?_
 refine QBp h (fun hp1 h => ?_) (fun hp1 h => ?_)
 ·obtain ⟨c2, hx3, h⟩ := h
  refine QZ (ask_sidx (P := Tryz.prog) (M := []) (t := 9) (k := .i64) (by kernel_rfl) hx3) ?_
  refine QBp h (fun hp4 h => ?_) (fun hp4 h => ?_)
  ·obtain ⟨hx5, h⟩ := h
   refine QZ (ask_subS (P := Tryz.prog) (M := []) (t := 9) (lo := (some (1 : Int))) (hi := none) (by kernel_rfl) hx5) ?_
   refine H_loopP (F := offcutref08_Number_L1 p0 r) (s0 := (0 : Int)) h () 60 0
    (fun s100 () => [(0, .pd (.str (sub p0 (1 : Int) (p0.length : Int)))), (5, .pd (.int .i64 s100))])
    (fun s100 () => []) (fun s100 () => True) trivial [] mixedT (askG [9, 10, 11] false)
    (by kernel_rfl) (by kernel_rfl) (by kernel_rfl) (by kernel_rfl) (by kernel_rfl) (fun _ _ => rfl) ?_
   rintro X1 s100 ⟨⟩ - h
   dsimp only [offcutref08_Number_L1] at h
   refine QK 1 ?_
   refine QBp h (fun hp6 h => ?_) (fun hp6 h => ?_)
   ·obtain ⟨c7, hx8, h⟩ := h
    refine QZ (ask_sidx (P := Tryz.prog) (M := []) (t := 9) (k := .i64) (by kernel_rfl) hx8) ?_
    refine QBp h (fun hp9 h => ?_) (fun hp9 h => ?_)
    ·obtain ⟨hx10, h⟩ := h
     refine QZ (ask_subS (P := Tryz.prog) (M := []) (t := 9) (lo := (some (IntKind.i64.wrap (s100 + 1)))) (hi := none) (by kernel_rfl) hx10) ?_
     refine H_loopP (F := offcutref08_Number_L2 p0 s100 r) (s0 := (true, (0 : Int))) h () 60 0
      (fun (s200, s201) () => [(0, .pd (.str (sub p0 (1 : Int) (p0.length : Int)))), (5, .pd (.int .i64 s100)), (6, .pd (.str (sub (sub p0 (1 : Int) (p0.length : Int)) (IntKind.i64.wrap (s100 + 1)) ((sub p0 (1 : Int) (p0.length : Int)).length : Int)))), (7, .pd (.bool s200)), (8, .pd (.int .i64 s201))])
      (fun (s200, s201) () => []) (fun (s200, s201) () => True) trivial [] mixedT (askG [9, 10, 11] false)
      (by kernel_rfl) (by kernel_rfl) (by kernel_rfl) (by kernel_rfl) (by kernel_rfl) (fun _ _ => rfl) ?_
     rintro X2 ⟨s200, s201⟩ ⟨⟩ - h
     dsimp only [offcutref08_Number_L2] at h
     cases s200
     ·replace h := h.f rfl
      refine QK 1 ?_
      refine QBp h (fun hp20 h => ?_) (fun hp20 h => ?_)
      ·obtain ⟨c21, hx22, h⟩ := h
       refine QZ (ask_sidx (P := Tryz.prog) (M := []) (t := 9) (k := .i64) (by kernel_rfl) hx22) ?_
       refine QBp h (fun hp23 h => ?_) (fun hp23 h => ?_)
       ·exact QG () h trivial
       exact QG () h trivial
      refine QR (.exit 2) ?_
      obtain ⟨hx24, h⟩ := h
      refine QZ (ask_subS (P := Tryz.prog) (M := []) (t := 9) (lo := none) (hi := (some s100)) (by kernel_rfl) hx24) ?_
      obtain ⟨x25, hx26, h⟩ := h
      refine QV (offcutref08_digits_ok m _ hx26) ?_
      cases x25
      ·replace h := h.f rfl
       refine QR .ret ?_
       subst r; exact QE .ret
      replace h := h.t rfl
      obtain ⟨x27, hx28, h⟩ := h
      refine QV (offcutref08_digits_ok m _ hx28) ?_
      cases x27
      ·replace h := h.f rfl
       refine QR .ret ?_
       subst r; exact QE .ret
      replace h := h.t rfl
      refine QR .ret ?_
      subst r; exact QE .ret
     replace h := h.t rfl
     refine QK 1 ?_
     refine QBp h (fun hp11 h => ?_) (fun hp11 h => ?_)
     ·obtain ⟨c12, hx13, h⟩ := h
      refine QZ (ask_sidx (P := Tryz.prog) (M := []) (t := 9) (k := .i64) (by kernel_rfl) hx13) ?_
      refine QBp h (fun hp14 h => ?_) (fun hp14 h => ?_)
      ·exact QG () h trivial
      exact QG () h trivial
     refine QR (.exit 2) ?_
     obtain ⟨hx15, h⟩ := h
     refine QZ (ask_subS (P := Tryz.prog) (M := []) (t := 9) (lo := none) (hi := (some s100)) (by kernel_rfl) hx15) ?_
     obtain ⟨x16, hx17, h⟩ := h
     refine QV (offcutref08_digits_ok m _ hx17) ?_
     cases x16
     ·replace h := h.f rfl
      refine QR .ret ?_
      subst r; exact QE .ret
     replace h := h.t rfl
     obtain ⟨x18, hx19, h⟩ := h
     refine QV (offcutref08_digits_ok m _ hx19) ?_
     cases x18
     ·replace h := h.f rfl
      refine QR .ret ?_
      subst r; exact QE .ret
     replace h := h.t rfl
     refine QR .ret ?_
     subst r; exact QE .ret
    exact QG () h trivial
   refine QR (.exit 0) ?_
   obtain ⟨x29, hx30, h⟩ := h
   refine QV (offcutref08_digits_ok m _ hx30) ?_
   cases x29
   ·replace h := h.f rfl
    subst r; exact QE .ret
   replace h := h.t rfl
   subst r; exact QE .ret
  refine H_loopP (F := offcutref08_Number_L3 p0 r) (s0 := (0 : Int)) h () 60 0
   (fun s300 () => [(0, .pd (.str p0)), (5, .pd (.int .i64 s300))])
   (fun s300 () => []) (fun s300 () => True) trivial [] mixedT (askG [9, 10, 11] false)
   (by kernel_rfl) (by kernel_rfl) (by kernel_rfl) (by kernel_rfl) (by kernel_rfl) (fun _ _ => rfl) ?_
  rintro X3 s300 ⟨⟩ - h
  dsimp only [offcutref08_Number_L3] at h
  refine QK 1 ?_
  refine QBp h (fun hp31 h => ?_) (fun hp31 h => ?_)
  ·obtain ⟨c32, hx33, h⟩ := h
   refine QZ (ask_sidx (P := Tryz.prog) (M := []) (t := 9) (k := .i64) (by kernel_rfl) hx33) ?_
   refine QBp h (fun hp34 h => ?_) (fun hp34 h => ?_)
   ·obtain ⟨hx35, h⟩ := h
    refine QZ (ask_subS (P := Tryz.prog) (M := []) (t := 9) (lo := (some (IntKind.i64.wrap (s300 + 1)))) (hi := none) (by kernel_rfl) hx35) ?_
    refine H_loopP (F := offcutref08_Number_L4 p0 s300 r) (s0 := (true, (0 : Int))) h () 60 0
     (fun (s400, s401) () => [(0, .pd (.str p0)), (5, .pd (.int .i64 s300)), (6, .pd (.str (sub p0 (IntKind.i64.wrap (s300 + 1)) (p0.length : Int)))), (7, .pd (.bool s400)), (8, .pd (.int .i64 s401))])
     (fun (s400, s401) () => []) (fun (s400, s401) () => True) trivial [] mixedT (askG [9, 10, 11] false)
     (by kernel_rfl) (by kernel_rfl) (by kernel_rfl) (by kernel_rfl) (by kernel_rfl) (fun _ _ => rfl) ?_
    rintro X4 ⟨s400, s401⟩ ⟨⟩ - h
    dsimp only [offcutref08_Number_L4] at h
    cases s400
    ·replace h := h.f rfl
     refine QK 1 ?_
     refine QBp h (fun hp45 h => ?_) (fun hp45 h => ?_)
     ·obtain ⟨c46, hx47, h⟩ := h
      refine QZ (ask_sidx (P := Tryz.prog) (M := []) (t := 9) (k := .i64) (by kernel_rfl) hx47) ?_
      refine QBp h (fun hp48 h => ?_) (fun hp48 h => ?_)
      ·exact QG () h trivial
      exact QG () h trivial
     refine QR (.exit 2) ?_
     obtain ⟨hx49, h⟩ := h
     refine QZ (ask_subS (P := Tryz.prog) (M := []) (t := 9) (lo := none) (hi := (some s300)) (by kernel_rfl) hx49) ?_
     obtain ⟨x50, hx51, h⟩ := h
     refine QV (offcutref08_digits_ok m _ hx51) ?_
     cases x50
     ·replace h := h.f rfl
      refine QR .ret ?_
      subst r; exact QE .ret
     replace h := h.t rfl
     obtain ⟨x52, hx53, h⟩ := h
     refine QV (offcutref08_digits_ok m _ hx53) ?_
     cases x52
     ·replace h := h.f rfl
      refine QR .ret ?_
      subst r; exact QE .ret
     replace h := h.t rfl
     refine QR .ret ?_
     subst r; exact QE .ret
    replace h := h.t rfl
    refine QK 1 ?_
    refine QBp h (fun hp36 h => ?_) (fun hp36 h => ?_)
    ·obtain ⟨c37, hx38, h⟩ := h
     refine QZ (ask_sidx (P := Tryz.prog) (M := []) (t := 9) (k := .i64) (by kernel_rfl) hx38) ?_
     refine QBp h (fun hp39 h => ?_) (fun hp39 h => ?_)
     ·exact QG () h trivial
     exact QG () h trivial
    refine QR (.exit 2) ?_
    obtain ⟨hx40, h⟩ := h
    refine QZ (ask_subS (P := Tryz.prog) (M := []) (t := 9) (lo := none) (hi := (some s300)) (by kernel_rfl) hx40) ?_
    obtain ⟨x41, hx42, h⟩ := h
    refine QV (offcutref08_digits_ok m _ hx42) ?_
    cases x41
    ·replace h := h.f rfl
     refine QR .ret ?_
     subst r; exact QE .ret
    replace h := h.t rfl
    obtain ⟨x43, hx44, h⟩ := h
    refine QV (offcutref08_digits_ok m _ hx44) ?_
    cases x43
    ·replace h := h.f rfl
     refine QR .ret ?_
     subst r; exact QE .ret
    replace h := h.t rfl
    refine QR .ret ?_
    subst r; exact QE .ret
   exact QG () h trivial
  refine QR (.exit 0) ?_
  obtain ⟨x54, hx55, h⟩ := h
  refine QV (offcutref08_digits_ok m _ hx55) ?_
  cases x54
  ·replace h := h.f rfl
   subst r; exact QE .ret
  replace h := h.t rfl
  subst r; exact QE .ret
 refine H_loopP (F := offcutref08_Number_L5 p0 r) (s0 := (0 : Int)) h () 60 0
  (fun s500 () => [(0, .pd (.str p0)), (5, .pd (.int .i64 s500))])
  (fun s500 () => []) (fun s500 () => True) trivial [] mixedT (askG [9, 10, 11] false)
  (by kernel_rfl) (by kernel_rfl) (by kernel_rfl) (by kernel_rfl) (by kernel_rfl) (fun _ _ => rfl) ?_
 rintro X5 s500 ⟨⟩ - h
 dsimp only [offcutref08_Number_L5] at h
 refine QK 1 ?_
 refine QBp h (fun hp56 h => ?_) (fun hp56 h => ?_)
 ·obtain ⟨c57, hx58, h⟩ := h
  refine QZ (ask_sidx (P := Tryz.prog) (M := []) (t := 9) (k := .i64) (by kernel_rfl) hx58) ?_
  refine QBp h (fun hp59 h => ?_) (fun hp59 h => ?_)
  ·obtain ⟨hx60, h⟩ := h
   refine QZ (ask_subS (P := Tryz.prog) (M := []) (t := 9) (lo := (some (IntKind.i64.wrap (s500 + 1)))) (hi := none) (by kernel_rfl) hx60) ?_
   refine H_loopP (F := offcutref08_Number_L6 p0 s500 r) (s0 := (true, (0 : Int))) h () 60 0
    (fun (s600, s601) () => [(0, .pd (.str p0)), (5, .pd (.int .i64 s500)), (6, .pd (.str (sub p0 (IntKind.i64.wrap (s500 + 1)) (p0.length : Int)))), (7, .pd (.bool s600)), (8, .pd (.int .i64 s601))])
    (fun (s600, s601) () => []) (fun (s600, s601) () => True) trivial [] mixedT (askG [9, 10, 11] false)
    (by kernel_rfl) (by kernel_rfl) (by kernel_rfl) (by kernel_rfl) (by kernel_rfl) (fun _ _ => rfl) ?_
   rintro X6 ⟨s600, s601⟩ ⟨⟩ - h
   dsimp only [offcutref08_Number_L6] at h
   cases s600
   ·replace h := h.f rfl
    refine QK 1 ?_
    refine QBp h (fun hp70 h => ?_) (fun hp70 h => ?_)
    ·obtain ⟨c71, hx72, h⟩ := h
     refine QZ (ask_sidx (P := Tryz.prog) (M := []) (t := 9) (k := .i64) (by kernel_rfl) hx72) ?_
     refine QBp h (fun hp73 h => ?_) (fun hp73 h => ?_)
     ·exact QG () h trivial
     exact QG () h trivial
    refine QR (.exit 2) ?_
    obtain ⟨hx74, h⟩ := h
    refine QZ (ask_subS (P := Tryz.prog) (M := []) (t := 9) (lo := none) (hi := (some s500)) (by kernel_rfl) hx74) ?_
    obtain ⟨x75, hx76, h⟩ := h
    refine QV (offcutref08_digits_ok m _ hx76) ?_
    cases x75
    ·replace h := h.f rfl
     refine QR .ret ?_
     subst r; exact QE .ret
    replace h := h.t rfl
    obtain ⟨x77, hx78, h⟩ := h
    refine QV (offcutref08_digits_ok m _ hx78) ?_
    cases x77
    ·replace h := h.f rfl
     refine QR .ret ?_
     subst r; exact QE .ret
    replace h := h.t rfl
    refine QR .ret ?_
    subst r; exact QE .ret
   replace h := h.t rfl
   refine QK 1 ?_
   refine QBp h (fun hp61 h => ?_) (fun hp61 h => ?_)
   ·obtain ⟨c62, hx63, h⟩ := h
    refine QZ (ask_sidx (P := Tryz.prog) (M := []) (t := 9) (k := .i64) (by kernel_rfl) hx63) ?_
    refine QBp h (fun hp64 h => ?_) (fun hp64 h => ?_)
    ·exact QG () h trivial
    exact QG () h trivial
   refine QR (.exit 2) ?_
   obtain ⟨hx65, h⟩ := h
   refine QZ (ask_subS (P := Tryz.prog) (M := []) (t := 9) (lo := none) (hi := (some s500)) (by kernel_rfl) hx65) ?_
   obtain ⟨x66, hx67, h⟩ := h
   refine QV (offcutref08_digits_ok m _ hx67) ?_
   cases x66
   ·replace h := h.f rfl
    refine QR .ret ?_
    subst r; exact QE .ret
   replace h := h.t rfl
   obtain ⟨x68, hx69, h⟩ := h
   refine QV (offcutref08_digits_ok m _ hx69) ?_
   cases x68
   ·replace h := h.f rfl
    refine QR .ret ?_
    subst r; exact QE .ret
   replace h := h.t rfl
   refine QR .ret ?_
   subst r; exact QE .ret
  exact QG () h trivial
 refine QR (.exit 0) ?_
 obtain ⟨x79, hx80, h⟩ := h
 refine QV (offcutref08_digits_ok m _ hx80) ?_
 cases x79
 ·replace h := h.f rfl
  subst r; exact QE .ret
 replace h := h.t rfl
 subst r; exact QE .ret
end Go.Abs
end
