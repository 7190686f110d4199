/- Part of a proof, in few files: G09W. -/
import Derived.Test.YtojdnnogpffhpaaGreatDoorNPaK14
import Derived.Test.YtojdnnogpffhpaaGreatDoorNPaK15
import Derived.Test.YtojdnnogpffhpaaGreatDoorNPaK18

section
namespace Go.Abs
open Go.Proofs
set_option maxHeartbeats 4000000
set_option maxRecDepth 20000
set_option linter.unusedVariables false
set_option linter.unusedSimpArgs false
set_option linter.unnecessarySimpa false
def lvI64 (x : Int) : List PD := [.int .i64 x]
def elI64 (x : Int) : PD := .int .i64 x
theorem okI64 : LVok lvI64 1 := fun _ => ⟨rfl, rfl⟩
theorem leI64 : ELok elI64 lvI64 := fun _ => rfl
theorem lgI64 : ELg elI64 lvI64 1 := fun _ => rfl
def lvQ3 (x : List Int) : List PD := [.sl (x.map elI64)]
def elQ3 (x : List Int) : PD := .sl (x.map elI64)
theorem okQ3 : LVok lvQ3 1 := fun _ => ⟨rfl, rfl⟩
theorem leQ3 : ELok elQ3 lvQ3 := fun _ => rfl
theorem lgQ3 : ELg elQ3 lvQ3 1 := fun _ => rfl
theorem cmp_isNaN_int_ok (m : Tp) (p0 : Int) {r : Bool} (h : cmp_isNaN_int p0 r) : ASpec Tryz.prog (gtT m) 77 [.pd (.int .i64 p0)] (· = .pd (.bool r)) := by
 refine ASpec_tree Tryz.f77 mixedT (askZ [9, 10, 11] false [29] [26]) (by kernel_rfl) ?_
 unfold cmp_isNaN_int at h
 refine QBp h (fun hp1 h => ?_) (fun hp1 h => ?_)
 ·subst r; exact QE .ret
 ·subst r; exact QE .ret
theorem cmp_Less_int_ok (m : Tp) (p0 : Int) (p1 : Int) {r : Bool} (h : cmp_Less_int p0 p1 r) : ASpec Tryz.prog (gtT m) 54 [.pd (.int .i64 p0), .pd (.int .i64 p1)] (· = .pd (.bool r)) := by
 refine ASpec_tree Tryz.f54 mixedT (askZ [9, 10, 11] false [29] [26]) (by kernel_rfl) ?_
 unfold cmp_Less_int at h
 obtain ⟨x1, hx2, h⟩ := h
 refine QV (cmp_isNaN_int_ok m _ hx2) ?_
 cases x1
 ·replace h := h.f rfl
  refine QBp h (fun hp6 h => ?_) (fun hp6 h => ?_)
  ·subst r; exact QE .ret
  ·subst r; exact QE .ret
 ·replace h := h.t rfl
  obtain ⟨x3, hx4, h⟩ := h
  refine QV (cmp_isNaN_int_ok m _ hx4) ?_
  cases x3
  ·replace h := h.f rfl
   subst r; exact QE .ret
  ·replace h := h.t rfl
   refine QBp h (fun hp5 h => ?_) (fun hp5 h => ?_)
   ·subst r; exact QE .ret
   ·subst r; exact QE .ret
theorem slices_IsSorted_int_int_ok (m : Tp) (p0 : List Int) {r : Bool} (h : slices_IsSorted_int_int p0 r) : ASpec Tryz.prog (gtT m) 37 [.pd (.sl (p0.map elI64))] (· = .pd (.bool r)) := by
 refine ASpec_tree Tryz.f37 mixedT (askZ [9, 10, 11] false [29] [26]) (by kernel_rfl) ?_
 unfold slices_IsSorted_int_int at h
 refine QL [] 42 3 elI64 p0 ?_
 refine H_loopP (F := slices_IsSorted_int_int_L1 p0 r) (s0 := (IntKind.i64.wrap ((p0.length : Int) - 1))) h () 21 0
  (fun s100 () => [(0, .pd (.sl (p0.map elI64))), (3, .pd (.int .i64 s100))])
  (fun s100 () => []) (fun s100 () => True) trivial [] mixedT (askZ [9, 10, 11] false [29] [26])
  (by kernel_rfl) (by kernel_rfl) (by kernel_rfl) (by kernel_rfl) (by kernel_rfl) (fun _ _ => rfl) ?_
 rintro X1 s100 ⟨⟩ - h
 dsimp only [slices_IsSorted_int_int_L1] at h
 refine QBp h (fun hp1 h => ?_) (fun hp1 h => ?_)
 ·refine QD ?_
  obtain ⟨x2, hx3, h⟩ := h
  refine QI [] 42 3 .i64 okI64 leI64 hx3 ?_
  refine QK 1 ?_
  obtain ⟨x4, hx5, h⟩ := h
  refine QI [] 42 3 .i64 okI64 leI64 hx5 ?_
  refine QK 1 ?_
  obtain ⟨x6, hx7, h⟩ := h
  refine QVd (cmp_Less_int_ok m _ _ hx7) ?_
  cases x6
  ·replace h := h.f rfl
   exact QG () h trivial
  ·replace h := h.t rfl
   refine QR .ret ?_
   subst r; exact QE .ret
 ·refine QR (.exit 0) ?_
  subst r; exact QE .ret
theorem notes_Right_ok (m : Tp) (p0 : List (List UInt8)) (p1 : List (Bool × (List Int) × (List Int))) (p2 : List ((List UInt8) × (List (Bool × (List Int) × (List Int))) × Int × Bool × (List Int) × (List Int))) (p3 : List (List Int)) {r : Bool} (h : notes_Right p0 p1 p2 p3 r) : ASpec Tryz.prog (gtT m) 15 [.agg [.pd (.sl (p0.map elS)), .pd (.sl (p1.map elQ1)), .pd (.sl (p2.map elQ0))], .agg [.pd (.sl (p3.map elQ3))]] (· = .pd (.bool r)) := by
 refine ASpec_tree Tryz.f15 mixedT (askZ [9, 10, 11] false [29] [26]) (by kernel_rfl) ?_
 unfold notes_Right at h
 let o1 : Ob := .cells [.pd (.sl (p0.map elS)), .pd (.sl (p1.map elQ1)), .pd (.sl (p2.map elQ0))] 1 0 false
 let o2 : Ob := .cells [.pd (.sl (p3.map elQ3))] 1 0 false
 refine QK 4 ?_
 refine H_inl (g := 36) (args := [.agg [.pd (.sl (p0.map elS)), .pd (.sl (p1.map elQ1)), .pd (.sl (p2.map elQ0))], .agg [.pd (.sl (p3.map elQ3))]]) (M := [o1, o2]) Tryz.f36 mixedT (askZ [9, 10, 11] false [29] [26]) (by kernel_rfl) (by kernel_rfl) (hasT 36 (by kernel_rfl)) ?_
 let o3 : Ob := .map false ([] : List (Int × Int))
 refine QK 4 ?_
 refine QL [o1, o2, o1, o2, o3] 29 42 elQ3 p3 ?_
 refine H_loopP (F := notes_Right_L1 p0 p1 p2 p3 r) (s0 := ((0 : Int), ([] : List (Int × Int)))) h () 52 5
  (fun (s100, s154) () => [(2, .ptr 2 0 0), (6, .mp 4), (15, .pd (.sl (p3.map elQ3))), (16, .pd (.int .i64 (p3.length : Int))), (17, .pd (.int .i64 s100))])
  (fun (s100, s154) () => [o1, o2, o1, o2, .map false s154]) (fun (s100, s154) () => True) trivial [] mixedT (askZ [9, 10, 11] false [29] [26])
  (by kernel_rfl) (by kernel_rfl) (by kernel_rfl) (by kernel_rfl) (by kernel_rfl) (fun _ _ => rfl) ?_
 rintro X1 ⟨s100, s154⟩ ⟨⟩ - h
 dsimp only [notes_Right_L1] at h
 refine QBp h (fun hp1 h => ?_) (fun hp1 h => ?_)
 ·obtain ⟨x2, hx3, h⟩ := h
  let m4 : Mem := [o1, o2, o1, o2, .map false s154]
  refine QI m4 29 42 .i64 okQ3 leQ3 hx3 ?_
  refine QK 1 ?_
  refine QL m4 42 3 elI64 x2 ?_
  refine H_loopP (F := notes_Right_L2 p0 p3 s100 X1 x2 r) (s0 := ((0 : Int), s154)) h () 52 5
   (fun (s200, s254) () => [(2, .ptr 2 0 0), (6, .mp 4), (7, .pd (.int .i64 s100)), (15, .pd (.sl (p3.map elQ3))), (16, .pd (.int .i64 (p3.length : Int))), (17, .pd (.int .i64 s100)), (22, .pd (.sl (x2.map elI64))), (23, .pd (.int .i64 (x2.length : Int))), (24, .pd (.int .i64 s200))])
   (fun (s200, s254) () => [o1, o2, o1, o2, .map false s254]) (fun (s200, s254) () => True) trivial [] mixedT (askZ [9, 10, 11] false [29] [26])
   (by kernel_rfl) (by kernel_rfl) (by kernel_rfl) (by kernel_rfl) (by kernel_rfl) (fun _ _ => rfl) ?_
  rintro X2 ⟨s200, s254⟩ ⟨⟩ - h
  dsimp only [notes_Right_L2] at h
  refine QBp h (fun hp4 h => ?_) (fun hp4 h => ?_)
  ·obtain ⟨x5, hx6, h⟩ := h
   let m5 : Mem := [o1, o2, o1, o2, .map false s254]
   refine QI m5 42 3 .i64 okI64 leI64 hx6 ?_
   refine QK 1 ?_
   obtain ⟨x7, x8, hx9, h⟩ := h
   refine QZ (ask_lookI (P := Tryz.prog) (M := m5) (t := 78) (k := 3) (e := 3) (b := 4) (l := s254) (q := x5) (by kernel_rfl) (by kernel_rfl) (by kernel_rfl) (by kernel_rfl) hx9) ?_
   cases x8
   ·replace h := h.f rfl
    refine QBp h (fun hp45 h => ?_) (fun hp45 h => ?_)
    ·refine QR .ret ?_
     refine QR .ret ?_
     refine H_endM .ret (.tup [.junk, .pd (.bool false)]) (m5) (by kernel_rfl) rfl (by kernel_rfl) (by kernel_rfl) (by kernel_rfl) ?_
     refine QK 2 ?_
     refine QL m5 29 42 elQ3 p3 ?_
     refine H_loopP (F := notes_Right_L6 p3 r) (s0 := ((-1 : Int), (0 : Int))) h () 47 5
      (fun (s600, s601) () => [(2, .ptr 0 0 0), (6, .pd (.bool false)), (7, .pd (.int .i64 s600)), (17, .pd (.sl (p3.map elQ3))), (18, .pd (.int .i64 (p3.length : Int))), (19, .pd (.int .i64 s601))])
      (fun (s600, s601) () => [o1, o2, o1, o2, .map false s254]) (fun (s600, s601) () => True) trivial [] mixedT (askZ [9, 10, 11] false [29] [26])
      (by kernel_rfl) (by kernel_rfl) (by kernel_rfl) (by kernel_rfl) (by kernel_rfl) (fun _ _ => rfl) ?_
     rintro X6 ⟨s600, s601⟩ ⟨⟩ - h
     dsimp only [notes_Right_L6] at h
     refine QBp h (fun hp46 h => ?_) (fun hp46 h => ?_)
     ·obtain ⟨x47, hx48, h⟩ := h
      refine QI m5 29 42 .i64 okQ3 leQ3 hx48 ?_
      refine QK 1 ?_
      refine QL m5 42 3 elI64 x47 ?_
      refine QBp h (fun hp49 h => ?_) (fun hp49 h => ?_)
      ·refine QR .ret ?_
       subst r; exact QE .ret
      obtain ⟨x50, hx51, h⟩ := h
      refine QI m5 42 3 .i64 okI64 leI64 hx51 ?_
      refine QK 1 ?_
      refine QBp h (fun hp52 h => ?_) (fun hp52 h => ?_)
      ·refine QR .ret ?_
       subst r; exact QE .ret
      obtain ⟨x53, hx54, h⟩ := h
      refine QV (slices_IsSorted_int_int_ok m _ hx54) ?_
      cases x53
      ·replace h := h.f rfl
       refine QR .ret ?_
       subst r; exact QE .ret
      replace h := h.t rfl
      obtain ⟨x55, hx56, h⟩ := h
      refine QI m5 42 3 .i64 okI64 leI64 hx56 ?_
      refine QK 1 ?_
      exact QG () h trivial
     refine QR (.exit 0) ?_
     subst r; exact QE .ret
    refine QK 2 ?_
    refine QL m5 22 9 elS p0 ?_
    refine QBp h (fun hp57 h => ?_) (fun hp57 h => ?_)
    ·refine QR .ret ?_
     refine QR .ret ?_
     refine H_endM .ret (.tup [.junk, .pd (.bool false)]) (m5) (by kernel_rfl) rfl (by kernel_rfl) (by kernel_rfl) (by kernel_rfl) ?_
     refine QK 2 ?_
     refine QL m5 29 42 elQ3 p3 ?_
     refine H_loopP (F := notes_Right_L7 p3 r) (s0 := ((-1 : Int), (0 : Int))) h () 47 5
      (fun (s700, s701) () => [(2, .ptr 0 0 0), (6, .pd (.bool false)), (7, .pd (.int .i64 s700)), (17, .pd (.sl (p3.map elQ3))), (18, .pd (.int .i64 (p3.length : Int))), (19, .pd (.int .i64 s701))])
      (fun (s700, s701) () => [o1, o2, o1, o2, .map false s254]) (fun (s700, s701) () => True) trivial [] mixedT (askZ [9, 10, 11] false [29] [26])
      (by kernel_rfl) (by kernel_rfl) (by kernel_rfl) (by kernel_rfl) (by kernel_rfl) (fun _ _ => rfl) ?_
     rintro X7 ⟨s700, s701⟩ ⟨⟩ - h
     dsimp only [notes_Right_L7] at h
     refine QBp h (fun hp58 h => ?_) (fun hp58 h => ?_)
     ·obtain ⟨x59, hx60, h⟩ := h
      refine QI m5 29 42 .i64 okQ3 leQ3 hx60 ?_
      refine QK 1 ?_
      refine QL m5 42 3 elI64 x59 ?_
      refine QBp h (fun hp61 h => ?_) (fun hp61 h => ?_)
      ·refine QR .ret ?_
       subst r; exact QE .ret
      obtain ⟨x62, hx63, h⟩ := h
      refine QI m5 42 3 .i64 okI64 leI64 hx63 ?_
      refine QK 1 ?_
      refine QBp h (fun hp64 h => ?_) (fun hp64 h => ?_)
      ·refine QR .ret ?_
       subst r; exact QE .ret
      obtain ⟨x65, hx66, h⟩ := h
      refine QV (slices_IsSorted_int_int_ok m _ hx66) ?_
      cases x65
      ·replace h := h.f rfl
       refine QR .ret ?_
       subst r; exact QE .ret
      replace h := h.t rfl
      obtain ⟨x67, hx68, h⟩ := h
      refine QI m5 42 3 .i64 okI64 leI64 hx68 ?_
      refine QK 1 ?_
      exact QG () h trivial
     refine QR (.exit 0) ?_
     subst r; exact QE .ret
    obtain ⟨hx69, h⟩ := h
    refine QZ (ask_insI (P := Tryz.prog) (M := m5) (M2 := [o1, o2, o1, o2, .map false (s254 ++ [(x5, s100)])]) (t := 78) (k := 3) (e := 3) (b := 4) (l := s254) (q := x5) (v := s100) (by kernel_rfl) (by kernel_rfl) (by kernel_rfl) hx69 (by kernel_rfl)) ?_
    exact QG () h trivial
   replace h := h.t rfl
   refine QBp h (fun hp10 h => ?_) (fun hp10 h => ?_)
   ·refine QR .ret ?_
    refine QR .ret ?_
    refine H_endM .ret (.tup [.junk, .pd (.bool false)]) (m5) (by kernel_rfl) rfl (by kernel_rfl) (by kernel_rfl) (by kernel_rfl) ?_
    refine QK 2 ?_
    refine QL m5 29 42 elQ3 p3 ?_
    refine H_loopP (F := notes_Right_L3 p3 r) (s0 := ((-1 : Int), (0 : Int))) h () 47 5
     (fun (s300, s301) () => [(2, .ptr 0 0 0), (6, .pd (.bool false)), (7, .pd (.int .i64 s300)), (17, .pd (.sl (p3.map elQ3))), (18, .pd (.int .i64 (p3.length : Int))), (19, .pd (.int .i64 s301))])
     (fun (s300, s301) () => [o1, o2, o1, o2, .map false s254]) (fun (s300, s301) () => True) trivial [] mixedT (askZ [9, 10, 11] false [29] [26])
     (by kernel_rfl) (by kernel_rfl) (by kernel_rfl) (by kernel_rfl) (by kernel_rfl) (fun _ _ => rfl) ?_
    rintro X3 ⟨s300, s301⟩ ⟨⟩ - h
    dsimp only [notes_Right_L3] at h
    refine QBp h (fun hp11 h => ?_) (fun hp11 h => ?_)
    ·obtain ⟨x12, hx13, h⟩ := h
     refine QI m5 29 42 .i64 okQ3 leQ3 hx13 ?_
     refine QK 1 ?_
     refine QL m5 42 3 elI64 x12 ?_
     refine QBp h (fun hp14 h => ?_) (fun hp14 h => ?_)
     ·refine QR .ret ?_
      subst r; exact QE .ret
     obtain ⟨x15, hx16, h⟩ := h
     refine QI m5 42 3 .i64 okI64 leI64 hx16 ?_
     refine QK 1 ?_
     refine QBp h (fun hp17 h => ?_) (fun hp17 h => ?_)
     ·refine QR .ret ?_
      subst r; exact QE .ret
     obtain ⟨x18, hx19, h⟩ := h
     refine QV (slices_IsSorted_int_int_ok m _ hx19) ?_
     cases x18
     ·replace h := h.f rfl
      refine QR .ret ?_
      subst r; exact QE .ret
     replace h := h.t rfl
     obtain ⟨x20, hx21, h⟩ := h
     refine QI m5 42 3 .i64 okI64 leI64 hx21 ?_
     refine QK 1 ?_
     exact QG () h trivial
    refine QR (.exit 0) ?_
    subst r; exact QE .ret
   refine QK 2 ?_
   refine QL m5 22 9 elS p0 ?_
   refine QBp h (fun hp22 h => ?_) (fun hp22 h => ?_)
   ·refine QR .ret ?_
    refine QR .ret ?_
    refine H_endM .ret (.tup [.junk, .pd (.bool false)]) (m5) (by kernel_rfl) rfl (by kernel_rfl) (by kernel_rfl) (by kernel_rfl) ?_
    refine QK 2 ?_
    refine QL m5 29 42 elQ3 p3 ?_
    refine H_loopP (F := notes_Right_L4 p3 r) (s0 := ((-1 : Int), (0 : Int))) h () 47 5
     (fun (s400, s401) () => [(2, .ptr 0 0 0), (6, .pd (.bool false)), (7, .pd (.int .i64 s400)), (17, .pd (.sl (p3.map elQ3))), (18, .pd (.int .i64 (p3.length : Int))), (19, .pd (.int .i64 s401))])
     (fun (s400, s401) () => [o1, o2, o1, o2, .map false s254]) (fun (s400, s401) () => True) trivial [] mixedT (askZ [9, 10, 11] false [29] [26])
     (by kernel_rfl) (by kernel_rfl) (by kernel_rfl) (by kernel_rfl) (by kernel_rfl) (fun _ _ => rfl) ?_
    rintro X4 ⟨s400, s401⟩ ⟨⟩ - h
    dsimp only [notes_Right_L4] at h
    refine QBp h (fun hp23 h => ?_) (fun hp23 h => ?_)
    ·obtain ⟨x24, hx25, h⟩ := h
     refine QI m5 29 42 .i64 okQ3 leQ3 hx25 ?_
     refine QK 1 ?_
     refine QL m5 42 3 elI64 x24 ?_
     refine QBp h (fun hp26 h => ?_) (fun hp26 h => ?_)
     ·refine QR .ret ?_
      subst r; exact QE .ret
     obtain ⟨x27, hx28, h⟩ := h
     refine QI m5 42 3 .i64 okI64 leI64 hx28 ?_
     refine QK 1 ?_
     refine QBp h (fun hp29 h => ?_) (fun hp29 h => ?_)
     ·refine QR .ret ?_
      subst r; exact QE .ret
     obtain ⟨x30, hx31, h⟩ := h
     refine QV (slices_IsSorted_int_int_ok m _ hx31) ?_
     cases x30
     ·replace h := h.f rfl
      refine QR .ret ?_
      subst r; exact QE .ret
     replace h := h.t rfl
     obtain ⟨x32, hx33, h⟩ := h
     refine QI m5 42 3 .i64 okI64 leI64 hx33 ?_
     refine QK 1 ?_
     exact QG () h trivial
    refine QR (.exit 0) ?_
    subst r; exact QE .ret
   refine QR .ret ?_
   refine QR .ret ?_
   refine H_endM .ret (.tup [.junk, .pd (.bool false)]) (m5) (by kernel_rfl) rfl (by kernel_rfl) (by kernel_rfl) (by kernel_rfl) ?_
   refine QK 2 ?_
   refine QL m5 29 42 elQ3 p3 ?_
   refine H_loopP (F := notes_Right_L5 p3 r) (s0 := ((-1 : Int), (0 : Int))) h () 47 5
    (fun (s500, s501) () => [(2, .ptr 0 0 0), (6, .pd (.bool false)), (7, .pd (.int .i64 s500)), (17, .pd (.sl (p3.map elQ3))), (18, .pd (.int .i64 (p3.length : Int))), (19, .pd (.int .i64 s501))])
    (fun (s500, s501) () => [o1, o2, o1, o2, .map false s254]) (fun (s500, s501) () => True) trivial [] mixedT (askZ [9, 10, 11] false [29] [26])
    (by kernel_rfl) (by kernel_rfl) (by kernel_rfl) (by kernel_rfl) (by kernel_rfl) (fun _ _ => rfl) ?_
   rintro X5 ⟨s500, s501⟩ ⟨⟩ - h
   dsimp only [notes_Right_L5] at h
   refine QBp h (fun hp34 h => ?_) (fun hp34 h => ?_)
   ·obtain ⟨x35, hx36, h⟩ := h
    refine QI m5 29 42 .i64 okQ3 leQ3 hx36 ?_
    refine QK 1 ?_
    refine QL m5 42 3 elI64 x35 ?_
    refine QBp h (fun hp37 h => ?_) (fun hp37 h => ?_)
    ·refine QR .ret ?_
     subst r; exact QE .ret
    obtain ⟨x38, hx39, h⟩ := h
    refine QI m5 42 3 .i64 okI64 leI64 hx39 ?_
    refine QK 1 ?_
    refine QBp h (fun hp40 h => ?_) (fun hp40 h => ?_)
    ·refine QR .ret ?_
     subst r; exact QE .ret
    obtain ⟨x41, hx42, h⟩ := h
    refine QV (slices_IsSorted_int_int_ok m _ hx42) ?_
    cases x41
    ·replace h := h.f rfl
     refine QR .ret ?_
     subst r; exact QE .ret
    replace h := h.t rfl
    obtain ⟨x43, hx44, h⟩ := h
    refine QI m5 42 3 .i64 okI64 leI64 hx44 ?_
    refine QK 1 ?_
    exact QG () h trivial
   refine QR (.exit 0) ?_
   subst r; exact QE .ret
  refine QR (.exit 2) ?_
  exact QG () h trivial
 refine QR (.exit 0) ?_
 let m6 : Mem := [o1, o2, o1, o2, .map false s154]
 refine H_endM .ret (.tup [.mp 4, .pd (.bool true)]) (m6) (by kernel_rfl) rfl (by kernel_rfl) (by kernel_rfl) (by kernel_rfl) ?_
 refine QK 2 ?_
 refine QL m6 29 42 elQ3 p3 ?_
 refine H_loopP (F := notes_Right_L8 p0 p1 p2 p3 r) (s0 := ((-1 : Int), (0 : Int))) h () 47 5
  (fun (s800, s801) () => [(2, .ptr 0 0 0), (6, .pd (.bool true)), (7, .pd (.int .i64 s800)), (17, .pd (.sl (p3.map elQ3))), (18, .pd (.int .i64 (p3.length : Int))), (19, .pd (.int .i64 s801))])
  (fun (s800, s801) () => [o1, o2, o1, o2, .map false s154]) (fun (s800, s801) () => True) trivial [] mixedT (askZ [9, 10, 11] false [29] [26])
  (by kernel_rfl) (by kernel_rfl) (by kernel_rfl) (by kernel_rfl) (by kernel_rfl) (fun _ _ => rfl) ?_
 rintro X8 ⟨s800, s801⟩ ⟨⟩ - h
 dsimp only [notes_Right_L8] at h
 refine QBp h (fun hp70 h => ?_) (fun hp70 h => ?_)
 ·obtain ⟨x71, hx72, h⟩ := h
  refine QI m6 29 42 .i64 okQ3 leQ3 hx72 ?_
  refine QK 1 ?_
  refine QL m6 42 3 elI64 x71 ?_
  refine QBp h (fun hp73 h => ?_) (fun hp73 h => ?_)
  ·refine QR .ret ?_
   subst r; exact QE .ret
  obtain ⟨x74, hx75, h⟩ := h
  refine QI m6 42 3 .i64 okI64 leI64 hx75 ?_
  refine QK 1 ?_
  refine QBp h (fun hp76 h => ?_) (fun hp76 h => ?_)
  ·refine QR .ret ?_
   subst r; exact QE .ret
  obtain ⟨x77, hx78, h⟩ := h
  refine QV (slices_IsSorted_int_int_ok m _ hx78) ?_
  cases x77
  ·replace h := h.f rfl
   refine QR .ret ?_
   subst r; exact QE .ret
  replace h := h.t rfl
  obtain ⟨x79, hx80, h⟩ := h
  refine QI m6 42 3 .i64 okI64 leI64 hx80 ?_
  refine QK 1 ?_
  exact QG () h trivial
 refine QR (.exit 0) ?_
 refine QK 1 ?_
 obtain ⟨x81, hx82, h⟩ := h
 refine QV (model_Right_ok m _ _ _ hx82) ?_
 cases x81
 ·replace h := h.f rfl
  subst r; exact QE .ret
 replace h := h.t rfl
 subst r; exact QE .ret
theorem math_bits_Mul64_ok (m : Tp) (p0 : Int) (p1 : Int) {r : Int × Int} (h : math_bits_Mul64 p0 p1 r) : ASpec Tryz.prog (gtT m) 79 [.pd (.int .u64 p0), .pd (.int .u64 p1)] (· = .tup [.pd (.int .u64 r.1), .pd (.int .u64 r.2)]) := by
 refine ASpec_tree Tryz.f79 mixedT (askZ [9, 10, 11] false [29] [26]) (by kernel_rfl) ?_
 unfold math_bits_Mul64 at h
 refine QZ (ask_shr (P := Tryz.prog) (M := []) (t := 108) (k := .u64) (k2 := .u64) (a := p0) (b := (32 : Int)) (by decide)) ?_
 refine QZ (ask_shr (P := Tryz.prog) (M := []) (t := 108) (k := .u64) (k2 := .u64) (a := p1) (b := (32 : Int)) (by decide)) ?_
 refine QZ (ask_shr (P := Tryz.prog) (M := []) (t := 108) (k := .u64) (k2 := .u64) (a := (IntKind.u64.wrap ((bitA .u64 p0 4294967295) * (bitA .u64 p1 4294967295)))) (b := (32 : Int)) (by decide)) ?_
 refine QZ (ask_shr (P := Tryz.prog) (M := []) (t := 108) (k := .u64) (k2 := .u64) (a := (IntKind.u64.wrap ((IntKind.u64.wrap ((Int.fdiv p0 (2 ^ (min (Int.toNat (32 : Int)) (IntKind.bits .u64)))) * (bitA .u64 p1 4294967295))) + (Int.fdiv (IntKind.u64.wrap ((bitA .u64 p0 4294967295) * (bitA .u64 p1 4294967295))) (2 ^ (min (Int.toNat (32 : Int)) (IntKind.bits .u64))))))) (b := (32 : Int)) (by decide)) ?_
 refine QZ (ask_shr (P := Tryz.prog) (M := []) (t := 108) (k := .u64) (k2 := .u64) (a := (IntKind.u64.wrap ((bitA .u64 (IntKind.u64.wrap ((IntKind.u64.wrap ((Int.fdiv p0 (2 ^ (min (Int.toNat (32 : Int)) (IntKind.bits .u64)))) * (bitA .u64 p1 4294967295))) + (Int.fdiv (IntKind.u64.wrap ((bitA .u64 p0 4294967295) * (bitA .u64 p1 4294967295))) (2 ^ (min (Int.toNat (32 : Int)) (IntKind.bits .u64)))))) 4294967295) + (IntKind.u64.wrap ((bitA .u64 p0 4294967295) * (Int.fdiv p1 (2 ^ (min (Int.toNat (32 : Int)) (IntKind.bits .u64))))))))) (b := (32 : Int)) (by decide)) ?_
 subst r; exact QE .ret
theorem math_bits_Mul_ok (m : Tp) (p0 : Int) (p1 : Int) {r : Int × Int} (h : math_bits_Mul p0 p1 r) : ASpec Tryz.prog (gtT m) 55 [.pd (.int .u64 p0), .pd (.int .u64 p1)] (· = .tup [.pd (.int .u64 r.1), .pd (.int .u64 r.2)]) := by
 refine ASpec_tree Tryz.f55 mixedT (askZ [9, 10, 11] false [29] [26]) (by kernel_rfl) ?_
 unfold math_bits_Mul at h
 obtain ⟨x1, x2, hx3, h⟩ := h
 refine QV (math_bits_Mul64_ok m _ _ hx3) ?_
 subst r; exact QE .ret
theorem notes_Home_ok (m : Tp) (p0 : List (List UInt8)) (p1 : List (Bool × (List Int) × (List Int))) (p2 : List ((List UInt8) × (List (Bool × (List Int) × (List Int))) × Int × Bool × (List Int) × (List Int))) (p3 : List (List Int)) {r : (List Int)} (h : notes_Home p0 p1 p2 p3 r) : ASpec Tryz.prog (gtT m) 19 [.agg [.pd (.sl (p0.map elS)), .pd (.sl (p1.map elQ1)), .pd (.sl (p2.map elQ0))], .agg [.pd (.sl (p3.map elQ3))]] (· = .pd (.sl (r.map elI64))) := by
 refine ASpec_tree Tryz.f19 mixedT (askZ [9, 10, 11] false [29] [26]) (by kernel_rfl) ?_
 unfold notes_Home at h
 let o1 : Ob := .cells [.pd (.sl (p0.map elS)), .pd (.sl (p1.map elQ1)), .pd (.sl (p2.map elQ0))] 1 0 false
 let o2 : Ob := .cells [.pd (.sl (p3.map elQ3))] 1 0 false
 refine QK 4 ?_
 obtain ⟨x1, hx2, h⟩ := h
 refine QV (notes_Right_ok m _ _ _ _ hx2) ?_
 cases x1
 ·replace h := h.f rfl
  subst r; exact QE .ret
 replace h := h.t rfl
 refine QK 2 ?_
 refine QL [o1, o2] 22 9 elS p0 ?_
 refine H_inl (g := 40) (args := [.fixed ([(-1 : Int)].map elI64), .pd (.int .i64 (p0.length : Int))]) (M := [o1, o2]) Tryz.f40 mixedT (askZ [9, 10, 11] false [29] [26]) (by kernel_rfl) (by kernel_rfl) (hasT 40 (by kernel_rfl)) ?_
 refine QBp h (fun hp3 h => ?_) (fun hp3 h => ?_)
 ·exact h.elim
 refine QZ (ask_lenF (P := Tryz.prog) (M := [o1, o2]) (t := 42) (et := 3) (el := elI64) (by kernel_rfl) (e := [(-1 : Int)])) ?_
 obtain ⟨x4, x5, hx6, h⟩ := h
 refine QV (math_bits_Mul_ok m _ _ hx6) ?_
 refine QBp h (fun hp7 h => ?_) (fun hp7 h => ?_)
 ·exact h.elim
 refine QBp h (fun hp8 h => ?_) (fun hp8 h => ?_)
 ·exact h.elim
 obtain ⟨hx9, h⟩ := h
 refine QZ (ask_make (P := Tryz.prog) (M := [o1, o2]) (t := 42) (k := .i64) (lv := lvI64) (by_ := 8) (n := (IntKind.i64.wrap x5)) (z := (0 : Int)) okI64 ⟨3, .int .i64 0, by kernel_rfl, by kernel_rfl, rfl, by kernel_rfl, by decide, rfl⟩ hx9.1 hx9.2.1 hx9.2.2) ?_
 let o3 : Ob := .cells (rowC lvI64 (List.replicate (Int.toNat (IntKind.i64.wrap x5)) (0 : Int))) 1 0 false
 refine QZ (ask_copyO (P := Tryz.prog) (M := [o1, o2, o3]) (dT := 42) (lv := lvI64) (s := 1) (b := 2) (e := (List.replicate (Int.toNat (IntKind.i64.wrap x5)) (0 : Int))) (e2 := [(-1 : Int)]) (ver := 0) okI64 (by kernel_rfl) (by kernel_rfl) (n := ((List.replicate (Int.toNat (IntKind.i64.wrap x5)) (0 : Int)).length)) rfl (src_fixed (M := [o1, o2, o3]) okI64 leI64)) ?_
 refine H_loopP (F := notes_Home_L1 p0 p3 r) (s0 := ((((Nat.min [(-1 : Int)].length (List.replicate (Int.toNat (IntKind.i64.wrap x5)) (0 : Int)).length) : Nat) : Int), ([(-1 : Int)].take (Nat.min [(-1 : Int)].length (List.replicate (Int.toNat (IntKind.i64.wrap x5)) (0 : Int)).length) ++ (List.replicate (Int.toNat (IntKind.i64.wrap x5)) (0 : Int)).drop (Nat.min [(-1 : Int)].length (List.replicate (Int.toNat (IntKind.i64.wrap x5)) (0 : Int)).length)))) h () 48 3
  (fun (s100, s152) () => [(7, .own 2 ((List.replicate (Int.toNat (IntKind.i64.wrap x5)) (0 : Int)).length) 0), (8, .pd (.int .i64 s100))])
  (fun (s100, s152) () => [o1, o2, .cells (rowC lvI64 s152) 1 0 false]) (fun (s100, s152) () => (List.replicate (Int.toNat (IntKind.i64.wrap x5)) (0 : Int)).length = s152.length) (ls_copyO rfl) [] mixedT (askZ [9, 10, 11] false [29] [26])
  (by kernel_rfl) (by kernel_rfl) (by kernel_rfl) (by kernel_rfl) (by kernel_rfl) (fun _ _ => rfl) ?_
 rintro X1 ⟨s100, s152⟩ ⟨⟩ hn102 h
 dsimp only [notes_Home_L1] at h
 let o4 : Ob := .cells (rowC lvI64 s152) 1 0 false
 refine QOc [o1, o2, o4] 42 3 lvI64 1 2 s152 0 hn102 ?_
 refine QBp h (fun hp12 h => ?_) (fun hp12 h => ?_)
 ·refine QD ?_
  obtain ⟨hx13, h⟩ := h
  refine QZ (ask_osub (k := .i64) (P := Tryz.prog) (M := [o1, o2, o4]) (t := 42) (et := 3) (b := 2) (lo := s100) (s := 1) (lv := lvI64) (e := s152) (ver := 0) (z := false) (by kernel_rfl) (by kernel_rfl) (by kernel_rfl) (n := (List.replicate (Int.toNat (IntKind.i64.wrap x5)) (0 : Int)).length) hn102 hx13) ?_
  obtain ⟨hx14, h⟩ := h
  refine QZ (ask_opart (k := .i64) (P := Tryz.prog) (M := [o1, o2, o4]) (t := 42) (et := 3) (b := 2) (hi := s100) (s := 1) (lv := lvI64) (e := s152) (ver := 0) (z := false) (by kernel_rfl) (by kernel_rfl) (by kernel_rfl) (n := (List.replicate (Int.toNat (IntKind.i64.wrap x5)) (0 : Int)).length) hn102 hx14) ?_
  refine QZ (ask_copyX (P := Tryz.prog) (M := [o1, o2, o4]) (lo := s100) (dT := 42) (lv := lvI64) (s := 1) (b := 2) (e := s152) (e2 := (s152.take (Int.toNat s100))) (ver := 0) okI64 (by kernel_rfl) (by kernel_rfl) (n := ((List.replicate (Int.toNat (IntKind.i64.wrap x5)) (0 : Int)).length)) hn102 (src_part okI64 (M := [o1, o2, o4]) (b := 2) (e := s152) (ver := 0) (z := false) (by kernel_rfl) hx14)) ?_
  exact QG () h (ls_copyX hn102 hx13)
 refine QR (.exit 0) ?_
 refine H_endM .ret (.own 2 ((List.replicate (Int.toNat (IntKind.i64.wrap x5)) (0 : Int)).length) 0) ([o1, o2, o4]) (by kernel_rfl) rfl (by kernel_rfl) (by kernel_rfl) (by kernel_rfl) ?_
 refine QK 2 ?_
 refine H_inl (g := 36) (args := [.agg [.pd (.sl (p0.map elS)), .pd (.sl (p1.map elQ1)), .pd (.sl (p2.map elQ0))], .agg [.pd (.sl (p3.map elQ3))]]) (M := [o1, o2, o4]) Tryz.f36 mixedT (askZ [9, 10, 11] false [29] [26]) (by kernel_rfl) (by kernel_rfl) (hasT 36 (by kernel_rfl)) ?_
 let o5 : Ob := .map false ([] : List (Int × Int))
 let m6 : Mem := [o1, o2, o4, o1, o2, o5]
 refine QK 4 ?_
 refine QL m6 29 42 elQ3 p3 ?_
 refine H_loopP (F := notes_Home_L2 p0 p3 s152 r) (s0 := ((0 : Int), ([] : List (Int × Int)))) h () 52 6
  (fun (s200, s255) () => [(2, .ptr 3 0 0), (6, .mp 5), (15, .pd (.sl (p3.map elQ3))), (16, .pd (.int .i64 (p3.length : Int))), (17, .pd (.int .i64 s200))])
  (fun (s200, s255) () => [o1, o2, o4, o1, o2, .map false s255]) (fun (s200, s255) () => True) trivial [] mixedT (askZ [9, 10, 11] false [29] [26])
  (by kernel_rfl) (by kernel_rfl) (by kernel_rfl) (by kernel_rfl) (by kernel_rfl) (fun _ _ => rfl) ?_
 rintro X2 ⟨s200, s255⟩ ⟨⟩ - h
 dsimp only [notes_Home_L2] at h
 refine QBp h (fun hp15 h => ?_) (fun hp15 h => ?_)
 ·obtain ⟨x16, hx17, h⟩ := h
  let m7 : Mem := [o1, o2, o4, o1, o2, .map false s255]
  refine QI m7 29 42 .i64 okQ3 leQ3 hx17 ?_
  refine QK 1 ?_
  refine QL m7 42 3 elI64 x16 ?_
  refine H_loopP (F := notes_Home_L3 p0 s200 X2 x16) (s0 := ((0 : Int), s255)) h () 52 6
   (fun (s300, s355) () => [(2, .ptr 3 0 0), (6, .mp 5), (7, .pd (.int .i64 s200)), (15, .pd (.sl (p3.map elQ3))), (16, .pd (.int .i64 (p3.length : Int))), (17, .pd (.int .i64 s200)), (22, .pd (.sl (x16.map elI64))), (23, .pd (.int .i64 (x16.length : Int))), (24, .pd (.int .i64 s300))])
   (fun (s300, s355) () => [o1, o2, o4, o1, o2, .map false s355]) (fun (s300, s355) () => True) trivial [] mixedT (askZ [9, 10, 11] false [29] [26])
   (by kernel_rfl) (by kernel_rfl) (by kernel_rfl) (by kernel_rfl) (by kernel_rfl) (fun _ _ => rfl) ?_
  rintro X3 ⟨s300, s355⟩ ⟨⟩ - h
  dsimp only [notes_Home_L3] at h
  refine QBp h (fun hp18 h => ?_) (fun hp18 h => ?_)
  ·obtain ⟨x19, hx20, h⟩ := h
   let m8 : Mem := [o1, o2, o4, o1, o2, .map false s355]
   refine QI m8 42 3 .i64 okI64 leI64 hx20 ?_
   refine QK 1 ?_
   obtain ⟨x21, x22, hx23, h⟩ := h
   refine QZ (ask_lookI (P := Tryz.prog) (M := m8) (t := 78) (k := 3) (e := 3) (b := 5) (l := s355) (q := x19) (by kernel_rfl) (by kernel_rfl) (by kernel_rfl) (by kernel_rfl) hx23) ?_
   cases x22
   ·replace h := h.f rfl
    refine QBp h (fun hp26 h => ?_) (fun hp26 h => ?_)
    ·refine QR .ret ?_
     refine QR .ret ?_
     refine H_endM .ret (.tup [.junk, .pd (.bool false)]) (m8) (by kernel_rfl) rfl (by kernel_rfl) (by kernel_rfl) (by kernel_rfl) ?_
     exact h.elim
    refine QK 2 ?_
    refine QL m8 22 9 elS p0 ?_
    refine QBp h (fun hp27 h => ?_) (fun hp27 h => ?_)
    ·refine QR .ret ?_
     refine QR .ret ?_
     refine H_endM .ret (.tup [.junk, .pd (.bool false)]) (m8) (by kernel_rfl) rfl (by kernel_rfl) (by kernel_rfl) (by kernel_rfl) ?_
     exact h.elim
    obtain ⟨hx28, h⟩ := h
    refine QZ (ask_insI (P := Tryz.prog) (M := m8) (M2 := [o1, o2, o4, o1, o2, .map false (s355 ++ [(x19, s200)])]) (t := 78) (k := 3) (e := 3) (b := 5) (l := s355) (q := x19) (v := s200) (by kernel_rfl) (by kernel_rfl) (by kernel_rfl) hx28 (by kernel_rfl)) ?_
    exact QG () h trivial
   replace h := h.t rfl
   refine QBp h (fun hp24 h => ?_) (fun hp24 h => ?_)
   ·refine QR .ret ?_
    refine QR .ret ?_
    refine H_endM .ret (.tup [.junk, .pd (.bool false)]) (m8) (by kernel_rfl) rfl (by kernel_rfl) (by kernel_rfl) (by kernel_rfl) ?_
    exact h.elim
   refine QK 2 ?_
   refine QL m8 22 9 elS p0 ?_
   refine QBp h (fun hp25 h => ?_) (fun hp25 h => ?_)
   ·refine QR .ret ?_
    refine QR .ret ?_
    refine H_endM .ret (.tup [.junk, .pd (.bool false)]) (m8) (by kernel_rfl) rfl (by kernel_rfl) (by kernel_rfl) (by kernel_rfl) ?_
    exact h.elim
   refine QR .ret ?_
   refine QR .ret ?_
   refine H_endM .ret (.tup [.junk, .pd (.bool false)]) (m8) (by kernel_rfl) rfl (by kernel_rfl) (by kernel_rfl) (by kernel_rfl) ?_
   exact h.elim
  refine QR (.exit 2) ?_
  exact QG () h trivial
 refine QR (.exit 0) ?_
 let m9 : Mem := [o1, o2, o4, o1, o2, .map false s255]
 refine H_endM .ret (.tup [.mp 5, .pd (.bool true)]) (m9) (by kernel_rfl) rfl (by kernel_rfl) (by kernel_rfl) (by kernel_rfl) ?_
 refine H_loopP (F := notes_Home_L4 s255 r) (s0 := (([] : List Nat), s152)) h () 37 7
  (fun (s456, s452) () => [(5, .own 2 ((List.replicate (Int.toNat (IntKind.i64.wrap x5)) (0 : Int)).length) 0), (26, .it 6)])
  (fun (s456, s452) () => [o1, o2, .cells (rowC lvI64 s452) 1 0 false, o1, o2, .map false s255, .mit 5 s255.length s456]) (fun (s456, s452) () => (List.replicate (Int.toNat (IntKind.i64.wrap x5)) (0 : Int)).length = s452.length) hn102 [] mixedT (askZ [9, 10, 11] false [29] [26])
  (by kernel_rfl) (by kernel_rfl) (by kernel_rfl) (by kernel_rfl) (by kernel_rfl) (fun _ _ => rfl) ?_
 rintro X4 ⟨s456, s452⟩ ⟨⟩ hn402 h
 dsimp only [notes_Home_L4] at h
 let o10 : Ob := .cells (rowC lvI64 s452) 1 0 false
 let m11 : Mem := [o1, o2, o10, o1, o2, .map false s255, .mit 5 s255.length s456]
 refine H_nxt (M := m11) 6 5 s255.length s456 false s255 (by kernel_rfl) (by kernel_rfl) (by kernel_rfl) (by kernel_rfl) (fun j29 x30 x31 hx32 hx33 => ?_) (fun hx34 => ?_)
 ·replace h := h.1 j29 x30 x31 hx32 hx33
  let o12 : Ob := .mit 5 s255.length (s456 ++ [j29])
  let m13 : Mem := [o1, o2, o10, o1, o2, .map false s255, o12]
  refine QZ (ask_entry (M := m13) (i := 6) (b := 5) (n := s255.length) (j := j29) (seen := s456) (bl := false) (l := s255) (q := x30) (v := x31) (by kernel_rfl) (by kernel_rfl) (by kernel_rfl) hx33) ?_
  obtain ⟨x35, hx36, h⟩ := h
  refine QJc m13 42 3 .i64 lvI64 1 2 s452 0 hn402 hx36 ?_
  refine QZ (ask_ostore (P := Tryz.prog) (M := m13) (t := 3) (lv := lvI64) (b := 2) (i := x30) (y := x31) (X := .pd (.int .i64 x31)) okI64 (by kernel_rfl) (by kernel_rfl) (rowIs_c (lv := lvI64) (s := 1) (e := s452) (ver := 0) (z := false)) hx36 (by kernel_rfl)) ?_
  exact QG () h (ls_set hn402)
 replace h := h.2 hx34
 refine QR (.exit 0) ?_
 subst r; exact QX .ret (.own 2 ((List.replicate (Int.toNat (IntKind.i64.wrap x5)) (0 : Int)).length) 0) m11 (pure_2to3 (pure_1to2 (pure1_own okI64 (by decide) lgI64 (M := m11) (b := 2) (o := o10) (by kernel_rfl) (rowIs_c (lv := lvI64) (s := 1) (e := s452) (ver := 0) (z := false)) (n := (List.replicate (Int.toNat (IntKind.i64.wrap x5)) (0 : Int)).length) hn402) rfl) rfl)
theorem notes_Parse_1_ok (m : Tp) (p0 : List Int) (p1 : List Int) {r : Int} (h : notes_Parse_1 p0 p1 r) : ASpec Tryz.prog (gtT m) 28 [.pd (.sl (p0.map elI64)), .pd (.sl (p1.map elI64))] (· = .pd (.int .i64 r)) := by
 refine ASpec_tree Tryz.f28 mixedT (askZ [9, 10, 11] false [29] [26]) (by kernel_rfl) ?_
 unfold notes_Parse_1 at h
 refine QD ?_
 obtain ⟨x1, hx2, h⟩ := h
 refine QI [] 42 3 .i64 okI64 leI64 hx2 ?_
 refine QK 1 ?_
 obtain ⟨x3, hx4, h⟩ := h
 refine QI [] 42 3 .i64 okI64 leI64 hx4 ?_
 refine QK 1 ?_
 subst r; exact QE .ret
theorem math_bits_Len64_ok (m : Tp) (p0 : Int) {r : Int} (h : math_bits_Len64 p0 r) : ASpec Tryz.prog (gtT m) 76 [.pd (.int .u64 p0)] (· = .pd (.int .i64 r)) := by
 refine ASpec_tree Tryz.f76 mixedT (askZ [9, 10, 11] false [29] [26]) (by kernel_rfl) ?_
 unfold math_bits_Len64 at h
 refine QBp h (fun hp1 h => ?_) (fun hp1 h => ?_)
 ·refine QZ (ask_shr (P := Tryz.prog) (M := []) (t := 108) (k := .u64) (k2 := .u64) (a := p0) (b := (32 : Int)) (by decide)) ?_
  refine QBp h (fun hp2 h => ?_) (fun hp2 h => ?_)
  ·refine QZ (ask_shr (P := Tryz.prog) (M := []) (t := 108) (k := .u64) (k2 := .u64) (a := (Int.fdiv p0 (2 ^ (min (Int.toNat (32 : Int)) (IntKind.bits .u64))))) (b := (16 : Int)) (by decide)) ?_
   refine QBp h (fun hp3 h => ?_) (fun hp3 h => ?_)
   ·refine QZ (ask_shr (P := Tryz.prog) (M := []) (t := 108) (k := .u64) (k2 := .u64) (a := (Int.fdiv (Int.fdiv p0 (2 ^ (min (Int.toNat (32 : Int)) (IntKind.bits .u64)))) (2 ^ (min (Int.toNat (16 : Int)) (IntKind.bits .u64))))) (b := (8 : Int)) (by decide)) ?_
    obtain ⟨c4, hx5, h⟩ := h
    refine QZ (ask_sidx (P := Tryz.prog) (M := []) (t := 9) (k := .u8) (by kernel_rfl) hx5) ?_
    subst r; exact QE .ret
   ·obtain ⟨c6, hx7, h⟩ := h
    refine QZ (ask_sidx (P := Tryz.prog) (M := []) (t := 9) (k := .u8) (by kernel_rfl) hx7) ?_
    subst r; exact QE .ret
  ·refine QBp h (fun hp8 h => ?_) (fun hp8 h => ?_)
   ·refine QZ (ask_shr (P := Tryz.prog) (M := []) (t := 108) (k := .u64) (k2 := .u64) (a := (Int.fdiv p0 (2 ^ (min (Int.toNat (32 : Int)) (IntKind.bits .u64))))) (b := (8 : Int)) (by decide)) ?_
    obtain ⟨c9, hx10, h⟩ := h
    refine QZ (ask_sidx (P := Tryz.prog) (M := []) (t := 9) (k := .u8) (by kernel_rfl) hx10) ?_
    subst r; exact QE .ret
   ·obtain ⟨c11, hx12, h⟩ := h
    refine QZ (ask_sidx (P := Tryz.prog) (M := []) (t := 9) (k := .u8) (by kernel_rfl) hx12) ?_
    subst r; exact QE .ret
 ·refine QBp h (fun hp13 h => ?_) (fun hp13 h => ?_)
  ·refine QZ (ask_shr (P := Tryz.prog) (M := []) (t := 108) (k := .u64) (k2 := .u64) (a := p0) (b := (16 : Int)) (by decide)) ?_
   refine QBp h (fun hp14 h => ?_) (fun hp14 h => ?_)
   ·refine QZ (ask_shr (P := Tryz.prog) (M := []) (t := 108) (k := .u64) (k2 := .u64) (a := (Int.fdiv p0 (2 ^ (min (Int.toNat (16 : Int)) (IntKind.bits .u64))))) (b := (8 : Int)) (by decide)) ?_
    obtain ⟨c15, hx16, h⟩ := h
    refine QZ (ask_sidx (P := Tryz.prog) (M := []) (t := 9) (k := .u8) (by kernel_rfl) hx16) ?_
    subst r; exact QE .ret
   ·obtain ⟨c17, hx18, h⟩ := h
    refine QZ (ask_sidx (P := Tryz.prog) (M := []) (t := 9) (k := .u8) (by kernel_rfl) hx18) ?_
    subst r; exact QE .ret
  ·refine QBp h (fun hp19 h => ?_) (fun hp19 h => ?_)
   ·refine QZ (ask_shr (P := Tryz.prog) (M := []) (t := 108) (k := .u64) (k2 := .u64) (a := p0) (b := (8 : Int)) (by decide)) ?_
    obtain ⟨c20, hx21, h⟩ := h
    refine QZ (ask_sidx (P := Tryz.prog) (M := []) (t := 9) (k := .u8) (by kernel_rfl) hx21) ?_
    subst r; exact QE .ret
   ·obtain ⟨c22, hx23, h⟩ := h
    refine QZ (ask_sidx (P := Tryz.prog) (M := []) (t := 9) (k := .u8) (by kernel_rfl) hx23) ?_
    subst r; exact QE .ret
theorem math_bits_Len_ok (m : Tp) (p0 : Int) {r : Int} (h : math_bits_Len p0 r) : ASpec Tryz.prog (gtT m) 51 [.pd (.int .u64 p0)] (· = .pd (.int .i64 r)) := by
 refine ASpec_tree Tryz.f51 mixedT (askZ [9, 10, 11] false [29] [26]) (by kernel_rfl) ?_
 unfold math_bits_Len at h
 obtain ⟨x1, hx2, h⟩ := h
 refine QV (math_bits_Len64_ok m _ hx2) ?_
 subst r; exact QE .ret
theorem notes_Parse_ok (m : Tp) (p0 : List (List UInt8)) (p1 : List (Bool × (List Int) × (List Int))) (p2 : List ((List UInt8) × (List (Bool × (List Int) × (List Int))) × Int × Bool × (List Int) × (List Int))) (p3 : List UInt8) {r : (List (List Int)) × Int × Int} (h : notes_Parse p0 p1 p2 p3 r) : ASpec Tryz.prog (gtT m) 10 [.agg [.pd (.sl (p0.map elS)), .pd (.sl (p1.map elQ1)), .pd (.sl (p2.map elQ0))], .pd (.str p3)] (· = .tup [.agg [.pd (.sl (r.1.map elQ3))], .pd (.int .i64 r.2.1), .pd (.int .i64 r.2.2)]) := by
 refine ASpec_tree Tryz.f10 mixedT (askZ [9, 10, 11] true [29, 31] [26]) (by kernel_rfl) ?_
 unfold notes_Parse at h
 let o1 : Ob := .cells [.pd (.sl (p0.map elS)), .pd (.sl (p1.map elQ1)), .pd (.sl (p2.map elQ0))] 1 0 false
 refine QK 1 ?_
 refine H_allocL (t := 31) (M0 := [o1]) (M1 := [o1]) (M2 := [o1, .cells [.fixed (([] : List (List Int)).map elQ3)] 1 0 false]) [] [.fixed (([] : List (List Int)).map elQ3)] (by kernel_rfl) (VStep.refl _) (by kernel_rfl) (by kernel_rfl) ?_
 let o2 : Ob := .cells [.fixed (([] : List (List Int)).map elQ3)] 1 0 false
 refine QK 1 ?_
 obtain ⟨x1, hx2, h⟩ := h
 refine QV (model_Right_ok m _ _ _ hx2) ?_
 cases x1
 ·replace h := h.f rfl
  refine H_bldL (t := 31) (parts := []) (M0 := [o1, o2]) (M1 := [o1, o2]) [] (.agg [.fixed (([] : List (List Int)).map elQ3)]) (by kernel_rfl) (VStep.refl _) (by kernel_rfl) ?_
  refine QK 1 ?_
  subst r; exact QE .ret
 replace h := h.t rfl
 obtain ⟨x3, x4, hx5, h⟩ := h
 refine QV (lines_All_ok m _ hx5) ?_
 refine QBp h (fun hp6 h => ?_) (fun hp6 h => ?_)
 ·refine H_bldL (t := 31) (parts := []) (M0 := [o1, o2]) (M1 := [o1, o2]) [] (.agg [.fixed (([] : List (List Int)).map elQ3)]) (by kernel_rfl) (VStep.refl _) (by kernel_rfl) ?_
  refine QK 1 ?_
  subst r; exact QE .ret
 let o3 : Ob := rowV lvQ3 1 ([] : List (List Int)) 0 false
 refine H_allocL (t := 31) (M0 := [o1, o2]) (M1 := [o1, o2, o3]) (M2 := [o1, o2, o3, .cells [.own 2 (([] : List (List Int)).length) 0] 1 0 false]) [(0, some 2)] [.own 2 (([] : List (List Int)).length) 0] (by kernel_rfl) (VStep.new [o1, o2] 1) (by kernel_rfl) (by kernel_rfl) ?_
 let o4 : Ob := .cells [.own 2 (([] : List (List Int)).length) 0] 1 0 false
 let o5 : Ob := .map true ([] : List (Int × Int))
 refine QL [o1, o2, o3, o4, o5] 59 64 elQ2 x3 ?_
 refine H_loopP (F := notes_Parse_L1 p0 x3 r) (s0 := ((0 : Int), ([] : List (Int × Int)), ([] : List (List Int)))) h (0, (([] : List (List Int)).length)) 74 5
  (fun (s100, s154, s152) (v102, n102) => [(2, .ptr 0 0 0), (4, .ptr 1 0 0), (9, .ptr 3 0 0), (10, .mp 4), (29, .pd (.sl (x3.map elQ2))), (30, .pd (.int .i64 (x3.length : Int))), (31, .pd (.int .i64 s100))])
  (fun (s100, s154, s152) (v102, n102) => [o1, o2, rowV lvQ3 1 s152 v102 false, .cells [.own 2 n102 v102] 1 0 false, .map true s154]) (fun (s100, s154, s152) (v102, n102) => n102 = s152.length) rfl [] mixedT (askZ [9, 10, 11] true [29, 31] [26])
  (by kernel_rfl) (by kernel_rfl) (by kernel_rfl) (by kernel_rfl) (by kernel_rfl) (fun _ _ => rfl) ?_
 rintro X1 ⟨s100, s154, s152⟩ ⟨v102, n102⟩ hn102 h
 dsimp only [notes_Parse_L1] at h
 refine QBp h (fun hp7 h => ?_) (fun hp7 h => ?_)
 ·obtain ⟨x8, x9, hx10, h⟩ := h
  let o6 : Ob := .cells [.own 2 n102 v102] 1 0 false
  let m7 : Mem := [o1, o2, rowV lvQ3 1 s152 v102 false, o6, .map true s154]
  refine QI m7 59 64 .i64 okQ2 leQ2 hx10 ?_
  let o8 : Ob := .cells [.pd (.int .i64 x8), .pd (.sl (x9.map elS))] 1 0 false
  let m9 : Mem := [o1, o2, rowV lvQ3 1 s152 v102 false, o6, .map true s154, o8]
  refine QK 4 ?_
  obtain ⟨x11, hx12, h⟩ := h
  refine QI m9 22 9 .i64 okS leS hx12 ?_
  refine QK 1 ?_
  refine QB h (fun h => ?_) (fun h => ?_)
  ·let q1 : Mem := [o1, o2, rowV lvQ3 1 s152 v102 false, o6, .map true s154, o8]
   refine H_drawM [1, 2] [(1, (Pre q1)), (2, (Pre q1))] (m9) (by kernel_rfl) (by kernel_rfl) ⟨⟨[], rfl⟩, ⟨[], rfl⟩, trivial⟩ ?_
   refine QK 1 ?_
   refine H_askM (Pre q1) (.ptr 5 0 0) (by kernel_rfl) (by kernel_rfl) (by rintro _ ⟨_, rfl⟩; kernel_rfl) ?_
   refine H_askM (Pre q1) (.pd (.int .i64 x8)) (by kernel_rfl) (by kernel_rfl) (by rintro _ ⟨_, rfl⟩; kernel_rfl) ?_
   refine QK 1 ?_
   refine H_chk (p := (Pre q1) [o1, o2, rowV lvQ3 1 s152 v102 false, o6, .map true s154, o8] ∧ (Pre q1) [o1, o2, rowV lvQ3 1 s152 v102 false, o6, .map true s154, o8] ∧ True) (by kernel_rfl) (by kernel_rfl) ⟨⟨[], rfl⟩, ⟨[], rfl⟩, trivial⟩ ?_
   refine QR .ret ?_
   subst r; exact QE .ret
  refine QK 2 ?_
  refine QL m9 22 9 elS x9 ?_
  refine QBp h (fun hp13 h => ?_) (fun hp13 h => ?_)
  ·let q2 : Mem := [o1, o2, rowV lvQ3 1 s152 v102 false, o6, .map true s154, o8]
   refine H_drawM [1, 2] [(1, (Pre q2)), (2, (Pre q2))] (m9) (by kernel_rfl) (by kernel_rfl) ⟨⟨[], rfl⟩, ⟨[], rfl⟩, trivial⟩ ?_
   refine QK 1 ?_
   refine H_askM (Pre q2) (.ptr 5 0 0) (by kernel_rfl) (by kernel_rfl) (by rintro _ ⟨_, rfl⟩; kernel_rfl) ?_
   refine H_askM (Pre q2) (.pd (.int .i64 x8)) (by kernel_rfl) (by kernel_rfl) (by rintro _ ⟨_, rfl⟩; kernel_rfl) ?_
   refine QK 1 ?_
   refine H_chk (p := (Pre q2) [o1, o2, rowV lvQ3 1 s152 v102 false, o6, .map true s154, o8] ∧ (Pre q2) [o1, o2, rowV lvQ3 1 s152 v102 false, o6, .map true s154, o8] ∧ True) (by kernel_rfl) (by kernel_rfl) ⟨⟨[], rfl⟩, ⟨[], rfl⟩, trivial⟩ ?_
   refine QR .ret ?_
   subst r; exact QE .ret
  refine QD ?_
  refine QK 3 ?_
  obtain ⟨hx14, h⟩ := h
  refine QS m9 22 9 (some (1 : Int)) none okS leS hx14 ?_
  refine H_inl (g := 26) (args := [.agg [.pd (.sl (p0.map elS)), .pd (.sl (p1.map elQ1)), .pd (.sl (p2.map elQ0))], .pd (.sl ((sub x9 (1 : Int) (x9.length : Int)).map elS)), .mp 4]) (M := m9) Tryz.f26 mixedT (askZ [9, 10, 11] true [29, 31] [26]) (by kernel_rfl) (by kernel_rfl) (hasT 26 (by kernel_rfl)) ?_
  refine QK 1 ?_
  let o11 : Ob := rowV lvI64 1 ([] : List Int) 0 false
  let m12 : Mem := [o1, o2, rowV lvQ3 1 s152 v102 false, o6, .map true s154, o8, o1, o11, o11]
  refine QL m12 22 9 elS (sub x9 (1 : Int) (x9.length : Int)) ?_
  refine H_loopP (F := notes_Parse_L2 p0 s100 s152 X1 x8 x9 r) (s0 := ((0 : Int), s154, ([] : List Int))) h (0, (([] : List Int).length)) 39 9
   (fun (s200, s254, s258) (v208, n208) => [(2, .mp 4), (3, .ptr 6 0 0), (8, .own 8 n208 v208), (12, .pd (.sl ((sub x9 (1 : Int) (x9.length : Int)).map elS))), (13, .pd (.int .i64 ((sub x9 (1 : Int) (x9.length : Int)).length : Int))), (14, .pd (.int .i64 s200))])
   (fun (s200, s254, s258) (v208, n208) => [o1, o2, rowV lvQ3 1 s152 v102 false, o6, .map true s254, o8, o1, o11, rowV lvI64 1 s258 v208 false]) (fun (s200, s254, s258) (v208, n208) => n208 = s258.length) rfl [] mixedT (askZ [9, 10, 11] true [29, 31] [26])
   (by kernel_rfl) (by kernel_rfl) (by kernel_rfl) (by kernel_rfl) (by kernel_rfl) (fun _ _ => rfl) ?_
  rintro X2 ⟨s200, s254, s258⟩ ⟨v208, n208⟩ hn208 h
  dsimp only [notes_Parse_L2] at h
  refine QBp h (fun hp15 h => ?_) (fun hp15 h => ?_)
  ·obtain ⟨x16, hx17, h⟩ := h
   let m13 : Mem := [o1, o2, rowV lvQ3 1 s152 v102 false, o6, .map true s254, o8, o1, o11, rowV lvI64 1 s258 v208 false]
   refine QI m13 22 9 .i64 okS leS hx17 ?_
   refine QK 3 ?_
   obtain ⟨x18, hx19, h⟩ := h
   refine QV (lines_Index_ok m _ _ hx19) ?_
   refine QBp h (fun hp20 h => ?_) (fun hp20 h => ?_)
   ·refine QR .ret ?_
    let m14 : Mem := [o1, o2, rowV lvQ3 1 s152 v102 false, o6, .map true s254, o8, o1, o11, rowV lvI64 1 s258 v208 false, o11]
    refine H_endM .ret (.tup [.own 9 (([] : List Int).length) 0, .pd (.bool false)]) (m14) (by kernel_rfl) rfl (by kernel_rfl) (by kernel_rfl) (by kernel_rfl) ?_
    let q3 : Mem := [o1, o2, rowV lvQ3 1 s152 v102 false, o6, .map true s254, o8, o1, o11, rowV lvI64 1 s258 v208 false, o11]
    refine H_drawM [1, 2] [(1, (Pre q3)), (2, (Pre q3))] (m14) (by kernel_rfl) (by kernel_rfl) ⟨⟨[], rfl⟩, ⟨[], rfl⟩, trivial⟩ ?_
    refine QK 1 ?_
    refine H_askM (Pre q3) (.ptr 5 0 0) (by kernel_rfl) (by kernel_rfl) (by rintro _ ⟨_, rfl⟩; kernel_rfl) ?_
    refine H_askM (Pre q3) (.pd (.int .i64 x8)) (by kernel_rfl) (by kernel_rfl) (by rintro _ ⟨_, rfl⟩; kernel_rfl) ?_
    refine QK 1 ?_
    refine H_chk (p := (Pre q3) [o1, o2, rowV lvQ3 1 s152 v102 false, o6, .map true s254, o8, o1, o11, rowV lvI64 1 s258 v208 false, o11] ∧ (Pre q3) [o1, o2, rowV lvQ3 1 s152 v102 false, o6, .map true s254, o8, o1, o11, rowV lvI64 1 s258 v208 false, o11] ∧ True) (by kernel_rfl) (by kernel_rfl) ⟨⟨[], rfl⟩, ⟨[], rfl⟩, trivial⟩ ?_
    refine QR .ret ?_
    subst r; exact QE .ret
   obtain ⟨x21, x22, b24, hx23, h⟩ := h
   obtain ⟨hx23, rfl⟩ := hx23
   refine QZ (ask_lookB (P := Tryz.prog) (M := m13) (t := 62) (k := 3) (e := 4) (b := 4) (l := s254) (q := x18) (by kernel_rfl) (by kernel_rfl) (by kernel_rfl) (by kernel_rfl) hx23) ?_
   generalize (x21 != 0) = b24 at h ⊢
   cases b24
   ·replace h := h.f rfl
    obtain ⟨hx25, h⟩ := h
    refine QZ (ask_insB (P := Tryz.prog) (M := m13) (M2 := [o1, o2, rowV lvQ3 1 s152 v102 false, o6, .map true (s254 ++ [(x18, 1)]), o8, o1, o11, rowV lvI64 1 s258 v208 false]) (t := 62) (k := 3) (e := 4) (b := 4) (l := s254) (q := x18) (v := true) (by kernel_rfl) (by kernel_rfl) (by kernel_rfl) hx25 (by kernel_rfl)) ?_
    obtain ⟨hx26, h⟩ := h
    let o15 : Ob := .map true (s254 ++ [(x18, 1)])
    let m16 : Mem := [o1, o2, rowV lvQ3 1 s152 v102 false, o6, o15, o8, o1, o11, rowV lvI64 1 s258 v208 false]
    refine QA m16 8 s258 [x18] v208 42 42 8 okI64 (src_fixed okI64 leI64) hn208 hx26 ?_
    exact QG ((vnext s258 [x18] v208), ((s258 ++ [x18]).length)) h rfl
   replace h := h.t rfl
   refine QR .ret ?_
   let m17 : Mem := [o1, o2, rowV lvQ3 1 s152 v102 false, o6, .map true s254, o8, o1, o11, rowV lvI64 1 s258 v208 false, o11]
   refine H_endM .ret (.tup [.own 9 (([] : List Int).length) 0, .pd (.bool false)]) (m17) (by kernel_rfl) rfl (by kernel_rfl) (by kernel_rfl) (by kernel_rfl) ?_
   let q4 : Mem := [o1, o2, rowV lvQ3 1 s152 v102 false, o6, .map true s254, o8, o1, o11, rowV lvI64 1 s258 v208 false, o11]
   refine H_drawM [1, 2] [(1, (Pre q4)), (2, (Pre q4))] (m17) (by kernel_rfl) (by kernel_rfl) ⟨⟨[], rfl⟩, ⟨[], rfl⟩, trivial⟩ ?_
   refine QK 1 ?_
   refine H_askM (Pre q4) (.ptr 5 0 0) (by kernel_rfl) (by kernel_rfl) (by rintro _ ⟨_, rfl⟩; kernel_rfl) ?_
   refine H_askM (Pre q4) (.pd (.int .i64 x8)) (by kernel_rfl) (by kernel_rfl) (by rintro _ ⟨_, rfl⟩; kernel_rfl) ?_
   refine QK 1 ?_
   refine H_chk (p := (Pre q4) [o1, o2, rowV lvQ3 1 s152 v102 false, o6, .map true s254, o8, o1, o11, rowV lvI64 1 s258 v208 false, o11] ∧ (Pre q4) [o1, o2, rowV lvQ3 1 s152 v102 false, o6, .map true s254, o8, o1, o11, rowV lvI64 1 s258 v208 false, o11] ∧ True) (by kernel_rfl) (by kernel_rfl) ⟨⟨[], rfl⟩, ⟨[], rfl⟩, trivial⟩ ?_
   refine QR .ret ?_
   subst r; exact QE .ret
  refine QR (.exit 0) ?_
  let m18 : Mem := [o1, o2, rowV lvQ3 1 s152 v102 false, o6, .map true s254, o8, o1, o11, rowV lvI64 1 s258 v208 false]
  refine H_inl (g := 49) (args := [.own 8 n208 v208]) (M := m18) Tryz.f49 mixedT (askZ [9, 10, 11] false [29, 31] [26]) (by kernel_rfl) (by kernel_rfl) (hasT 49 (by kernel_rfl)) ?_
  refine QO m18 42 3 lvI64 1 8 s258 v208 hn208 ?_
  obtain ⟨x27, hx28, h⟩ := h
  refine QV (math_bits_Len_ok m _ hx28) ?_
  refine H_inl (g := 66) (args := [.own 8 n208 v208, .pd (.int .i64 0), .pd (.int .i64 (s258.length : Int)), .pd (.int .i64 x27)]) (M := m18) Tryz.f66 mixedT (askZ [9, 10, 11] false [29, 31] [26]) (by kernel_rfl) (by kernel_rfl) (hasT 66 (by kernel_rfl)) ?_
  refine H_loopP (F := notes_Parse_L3 s100 s152 X1 s254 s258 x27) (s0 := ()) h () 134 9
   (fun () () => [(0, .own 8 n208 v208), (1, .pd (.int .i64 0)), (2, .pd (.int .i64 (s258.length : Int))), (3, .pd (.int .i64 x27)), (8, .pd (.bool true)), (9, .pd (.bool true))])
   (fun () () => [o1, o2, rowV lvQ3 1 s152 v102 false, o6, .map true s254, o8, o1, o11, rowV lvI64 1 s258 v208 false]) (fun () () => True) trivial [] mixedT (askZ [9, 10, 11] true [29, 31] [26])
   (by kernel_rfl) (by kernel_rfl) (by kernel_rfl) (by kernel_rfl) (by kernel_rfl) (fun _ _ => rfl) ?_
  rintro X3 ⟨⟩ ⟨⟩ - h
  dsimp only [notes_Parse_L3] at h
  refine QBp h (fun hp29 h => ?_) (fun hp29 h => ?_)
  ·refine H_inl (g := 93) (args := [.own 8 n208 v208, .pd (.int .i64 0), .pd (.int .i64 (s258.length : Int))]) (M := m18) Tryz.f93 mixedT (askZ [9, 10, 11] false [29, 31] [26]) (by kernel_rfl) (by kernel_rfl) (hasT 93 (by kernel_rfl)) ?_
   refine H_loopP (F := notes_Parse_L4 s100 s152 X1 s254 s258) (s0 := ((1 : Int), s258)) h () 49 9
    (fun (s400, s458) () => [(0, .own 8 n208 v208), (1, .pd (.int .i64 0)), (2, .pd (.int .i64 (s258.length : Int))), (6, .pd (.int .i64 s400))])
    (fun (s400, s458) () => [o1, o2, rowV lvQ3 1 s152 v102 false, o6, .map true s254, o8, o1, o11, rowV lvI64 1 s458 v208 false]) (fun (s400, s458) () => n208 = s458.length) hn208 [] mixedT (askZ [9, 10, 11] true [29, 31] [26])
    (by kernel_rfl) (by kernel_rfl) (by kernel_rfl) (by kernel_rfl) (by kernel_rfl) (fun _ _ => rfl) ?_
   rintro X4 ⟨s400, s458⟩ ⟨⟩ hn408 h
   dsimp only [notes_Parse_L4] at h
   refine QBp h (fun hp30 h => ?_) (fun hp30 h => ?_)
   ·refine H_loopP (F := notes_Parse_L5 s400 X4) (s0 := (s400, s458)) h () 49 9
     (fun (s500, s558) () => [(0, .own 8 n208 v208), (1, .pd (.int .i64 0)), (2, .pd (.int .i64 (s258.length : Int))), (6, .pd (.int .i64 s400)), (7, .pd (.int .i64 s500))])
     (fun (s500, s558) () => [o1, o2, rowV lvQ3 1 s152 v102 false, o6, .map true s254, o8, o1, o11, rowV lvI64 1 s558 v208 false]) (fun (s500, s558) () => n208 = s558.length) hn408 [] mixedT (askZ [9, 10, 11] true [29, 31] [26])
     (by kernel_rfl) (by kernel_rfl) (by kernel_rfl) (by kernel_rfl) (by kernel_rfl) (fun _ _ => rfl) ?_
    rintro X5 ⟨s500, s558⟩ ⟨⟩ hn508 h
    dsimp only [notes_Parse_L5] at h
    refine QD ?_
    refine QBp h (fun hp31 h => ?_) (fun hp31 h => ?_)
    ·obtain ⟨x32, hx33, h⟩ := h
     let m19 : Mem := [o1, o2, rowV lvQ3 1 s152 v102 false, o6, .map true s254, o8, o1, o11, rowV lvI64 1 s558 v208 false]
     refine QJ m19 42 3 .i64 lvI64 1 8 s558 v208 hn508 hx33 ?_
     refine QZ (ask_oload (P := Tryz.prog) (M := m19) (t := 3) (lv := lvI64) (b := 8) (i := s500) okI64 (by kernel_rfl) (by kernel_rfl) (by kernel_rfl) (rowIs_v' (lv := lvI64) (s := 1) (e := s558) (ver := v208) (z := false)) hx33 rfl) ?_
     obtain ⟨x34, hx35, h⟩ := h
     refine QJ m19 42 3 .i64 lvI64 1 8 s558 v208 hn508 hx35 ?_
     refine QZ (ask_oload (P := Tryz.prog) (M := m19) (t := 3) (lv := lvI64) (b := 8) (i := (IntKind.i64.wrap (s500 - 1))) okI64 (by kernel_rfl) (by kernel_rfl) (by kernel_rfl) (rowIs_v' (lv := lvI64) (s := 1) (e := s558) (ver := v208) (z := false)) hx35 rfl) ?_
     obtain ⟨x36, hx37, h⟩ := h
     refine QVd (cmp_Less_int_ok m _ _ hx37) ?_
     cases x36
     ·replace h := h.f rfl
      refine QR (.exit 2) ?_
      exact QG () h hn508
     replace h := h.t rfl
     refine QD ?_
     obtain ⟨x38, hx39, h⟩ := h
     refine QJ m19 42 3 .i64 lvI64 1 8 s558 v208 hn508 hx39 ?_
     refine QZ (ask_oload (P := Tryz.prog) (M := m19) (t := 3) (lv := lvI64) (b := 8) (i := (IntKind.i64.wrap (s500 - 1))) okI64 (by kernel_rfl) (by kernel_rfl) (by kernel_rfl) (rowIs_v' (lv := lvI64) (s := 1) (e := s558) (ver := v208) (z := false)) hx39 rfl) ?_
     obtain ⟨x40, hx41, h⟩ := h
     refine QJ m19 42 3 .i64 lvI64 1 8 s558 v208 hn508 hx41 ?_
     refine QZ (ask_oload (P := Tryz.prog) (M := m19) (t := 3) (lv := lvI64) (b := 8) (i := s500) okI64 (by kernel_rfl) (by kernel_rfl) (by kernel_rfl) (rowIs_v' (lv := lvI64) (s := 1) (e := s558) (ver := v208) (z := false)) hx41 rfl) ?_
     obtain ⟨x42, hx43, h⟩ := h
     refine QJ m19 42 3 .i64 lvI64 1 8 s558 v208 hn508 hx43 ?_
     refine QZ (ask_ostoreV (P := Tryz.prog) (M := m19) (t := 3) (lv := lvI64) (b := 8) (i := s500) (y := x38) (X := .pd (.int .i64 x38)) okI64 (by kernel_rfl) (by kernel_rfl) (rowIs_v (lv := lvI64) (s := 1) (e := s558) (ver := v208)) hx43 (by kernel_rfl)) ?_
     obtain ⟨x44, hx45, h⟩ := h
     let o20 : Ob := rowV lvI64 1 (s558.set (Int.toNat s500) x38) v208 false
     let m21 : Mem := [o1, o2, rowV lvQ3 1 s152 v102 false, o6, .map true s254, o8, o1, o11, o20]
     refine QJ m21 42 3 .i64 lvI64 1 8 (s558.set (Int.toNat s500) x38) v208 (ls_set hn508) hx45 ?_
     refine QZ (ask_ostoreV (P := Tryz.prog) (M := m21) (t := 3) (lv := lvI64) (b := 8) (i := (IntKind.i64.wrap (s500 - 1))) (y := x40) (X := .pd (.int .i64 x40)) okI64 (by kernel_rfl) (by kernel_rfl) (rowIs_v (lv := lvI64) (s := 1) (e := (s558.set (Int.toNat s500) x38)) (ver := v208)) hx45 (by kernel_rfl)) ?_
     exact QG () h (ls_set (ls_set hn508))
    refine QR (.exit 2) ?_
    exact QG () h hn508
   refine QR (.exit 0) ?_
   let m22 : Mem := [o1, o2, rowV lvQ3 1 s152 v102 false, o6, .map true s254, o8, o1, o11, rowV lvI64 1 s458 v208 false]
   refine H_endM .normal (.tup []) (m22) (by kernel_rfl) rfl (by kernel_rfl) (by kernel_rfl) (by kernel_rfl) ?_
   refine QR .ret ?_
   refine H_endM .ret (.tup []) (m22) (by kernel_rfl) rfl (by kernel_rfl) (by kernel_rfl) (by kernel_rfl) ?_
   refine H_endM .normal (.tup []) (m22) (by kernel_rfl) rfl (by kernel_rfl) (by kernel_rfl) (by kernel_rfl) ?_
   refine H_endM .ret (.tup [.own 8 n208 v208, .pd (.bool true)]) (m22) (by kernel_rfl) rfl (by kernel_rfl) (by kernel_rfl) (by kernel_rfl) ?_
   refine QK 2 ?_
   refine H_bldF (t := 29) (n := 1) (parts := [(0, .own 8 n208 v208)]) (M0 := m22) 8 n208 v208 (.fixed ([s458].map elQ3)) (by kernel_rfl) (own_pd okI64 (by decide) lgI64 (o := rowV lvI64 1 s458 v208 false) (by kernel_rfl) (rowIs_v' (lv := lvI64) (s := 1) (e := s458) (ver := v208) (z := false)) (n := n208) hn408) (frz_v (lv := lvI64) (s := 1) (e := s458) (ver := v208) (z := false) (by kernel_rfl)) (.cons (.one .cut) .nil) (by kernel_rfl) ?_
   obtain ⟨hx46, h⟩ := h
   let m23 : Mem := [o1, o2, rowV lvQ3 1 s152 v102 false, o6, .map true s254, o8, o1, o11, rowV lvI64 1 s458 v208 true]
   refine QA m23 2 s152 [s458] v102 29 29 24 okQ3 (src_fixed okQ3 leQ3) hn102 hx46 ?_
   let o24 : Ob := rowV lvQ3 1 (s152 ++ [s458]) (vnext s152 [s458] v102) false
   let m25 : Mem := [o1, o2, o24, o6, .map true s254, o8, o1, o11, rowV lvI64 1 s458 v208 true]
   refine QK 1 ?_
   refine QC m25 29 3 0 0 1 1 [.own 2 ((s152 ++ [s458]).length) (vnext s152 [s458] v102)] (.own 2 ((s152 ++ [s458]).length) (vnext s152 [s458] v102)) (all_c (ok_own (o := o24) (by kernel_rfl) (rowIs_v' (lv := lvQ3) (s := 1) (e := (s152 ++ [s458])) (ver := (vnext s152 [s458] v102)) (z := false))) all_n) ?_
   exact QGC ((vnext s152 [s458] v102), ((s152 ++ [s458]).length)) h rfl (all_c (by kernel_rfl) (all_c (by kernel_rfl) (all_c (bel_rowV _) (all_c (by kernel_rfl) (all_c (by kernel_rfl) all_n)))))
  refine QBp h (fun hp47 h => ?_) (fun hp47 h => ?_)
  ·exact h.elim
  exact h.elim
 refine QR (.exit 0) ?_
 let o26 : Ob := .cells [.own 2 n102 v102] 1 0 false
 let m27 : Mem := [o1, o2, rowV lvQ3 1 s152 v102 false, o26, .map true s154]
 refine QK 2 ?_
 refine H_inl (g := 27) (args := [.own 2 n102 v102, .fn (.func 28) [] []]) (M := m27) Tryz.f27 mixedT (askZ [9, 10, 11] false [29, 31] [26]) (by kernel_rfl) (by kernel_rfl) (hasT 27 (by kernel_rfl)) ?_
 refine QO m27 29 42 lvQ3 1 2 s152 v102 hn102 ?_
 obtain ⟨x48, hx49, h⟩ := h
 refine QV (math_bits_Len_ok m _ hx49) ?_
 refine H_inl (g := 50) (args := [.own 2 n102 v102, .pd (.int .i64 0), .pd (.int .i64 (s152.length : Int)), .pd (.int .i64 x48), .fn (.func 28) [] []]) (M := m27) Tryz.f50 mixedT (askZ [9, 10, 11] false [29, 31] [26]) (by kernel_rfl) (by kernel_rfl) (hasT 50 (by kernel_rfl)) ?_
 refine H_loopP (F := notes_Parse_L6 s152 x48 r) (s0 := ()) h () 148 5
  (fun () () => [(0, .own 2 n102 v102), (1, .pd (.int .i64 0)), (2, .pd (.int .i64 (s152.length : Int))), (3, .pd (.int .i64 x48)), (4, .fn (.func 28) [] []), (10, .pd (.bool true)), (11, .pd (.bool true))])
  (fun () () => [o1, o2, rowV lvQ3 1 s152 v102 false, o26, .map true s154]) (fun () () => True) trivial [] mixedT (askZ [9, 10, 11] true [29, 31] [26])
  (by kernel_rfl) (by kernel_rfl) (by kernel_rfl) (by kernel_rfl) (by kernel_rfl) (fun _ _ => rfl) ?_
 rintro X6 ⟨⟩ ⟨⟩ - h
 dsimp only [notes_Parse_L6] at h
 refine QBp h (fun hp50 h => ?_) (fun hp50 h => ?_)
 ·refine H_inl (g := 67) (args := [.own 2 n102 v102, .pd (.int .i64 0), .pd (.int .i64 (s152.length : Int)), .fn (.func 28) [] []]) (M := m27) Tryz.f67 mixedT (askZ [9, 10, 11] false [29, 31] [26]) (by kernel_rfl) (by kernel_rfl) (hasT 67 (by kernel_rfl)) ?_
  refine H_loopP (F := notes_Parse_L7 s152 r) (s0 := ((1 : Int), s152)) h () 53 5
   (fun (s700, s752) () => [(0, .own 2 n102 v102), (1, .pd (.int .i64 0)), (2, .pd (.int .i64 (s152.length : Int))), (3, .fn (.func 28) [] []), (8, .pd (.int .i64 s700))])
   (fun (s700, s752) () => [o1, o2, rowV lvQ3 1 s752 v102 false, o26, .map true s154]) (fun (s700, s752) () => n102 = s752.length) hn102 [] mixedT (askZ [9, 10, 11] true [29, 31] [26])
   (by kernel_rfl) (by kernel_rfl) (by kernel_rfl) (by kernel_rfl) (by kernel_rfl) (fun _ _ => rfl) ?_
  rintro X7 ⟨s700, s752⟩ ⟨⟩ hn702 h
  dsimp only [notes_Parse_L7] at h
  refine QBp h (fun hp51 h => ?_) (fun hp51 h => ?_)
  ·refine H_loopP (F := notes_Parse_L8 s700 X7) (s0 := (s700, s752)) h () 53 5
    (fun (s800, s852) () => [(0, .own 2 n102 v102), (1, .pd (.int .i64 0)), (2, .pd (.int .i64 (s152.length : Int))), (3, .fn (.func 28) [] []), (8, .pd (.int .i64 s700)), (9, .pd (.int .i64 s800))])
    (fun (s800, s852) () => [o1, o2, rowV lvQ3 1 s852 v102 false, o26, .map true s154]) (fun (s800, s852) () => n102 = s852.length) hn702 [] mixedT (askZ [9, 10, 11] true [29, 31] [26])
    (by kernel_rfl) (by kernel_rfl) (by kernel_rfl) (by kernel_rfl) (by kernel_rfl) (fun _ _ => rfl) ?_
   rintro X8 ⟨s800, s852⟩ ⟨⟩ hn802 h
   dsimp only [notes_Parse_L8] at h
   refine QD ?_
   refine QBp h (fun hp52 h => ?_) (fun hp52 h => ?_)
   ·obtain ⟨x53, hx54, h⟩ := h
    let m28 : Mem := [o1, o2, rowV lvQ3 1 s852 v102 false, o26, .map true s154]
    refine QJ m28 29 42 .i64 lvQ3 1 2 s852 v102 hn802 hx54 ?_
    refine QZ (ask_oload (P := Tryz.prog) (M := m28) (t := 42) (lv := lvQ3) (b := 2) (i := s800) okQ3 (by kernel_rfl) (by kernel_rfl) (by kernel_rfl) (rowIs_v' (lv := lvQ3) (s := 1) (e := s852) (ver := v102) (z := false)) hx54 rfl) ?_
    obtain ⟨x55, hx56, h⟩ := h
    refine QJ m28 29 42 .i64 lvQ3 1 2 s852 v102 hn802 hx56 ?_
    refine QZ (ask_oload (P := Tryz.prog) (M := m28) (t := 42) (lv := lvQ3) (b := 2) (i := (IntKind.i64.wrap (s800 - 1))) okQ3 (by kernel_rfl) (by kernel_rfl) (by kernel_rfl) (rowIs_v' (lv := lvQ3) (s := 1) (e := s852) (ver := v102) (z := false)) hx56 rfl) ?_
    obtain ⟨x57, hx58, h⟩ := h
    refine QVd (notes_Parse_1_ok m _ _ hx58) ?_
    refine QBp h (fun hp59 h => ?_) (fun hp59 h => ?_)
    ·refine QD ?_
     obtain ⟨x60, hx61, h⟩ := h
     refine QJ m28 29 42 .i64 lvQ3 1 2 s852 v102 hn802 hx61 ?_
     refine QZ (ask_oload (P := Tryz.prog) (M := m28) (t := 42) (lv := lvQ3) (b := 2) (i := (IntKind.i64.wrap (s800 - 1))) okQ3 (by kernel_rfl) (by kernel_rfl) (by kernel_rfl) (rowIs_v' (lv := lvQ3) (s := 1) (e := s852) (ver := v102) (z := false)) hx61 rfl) ?_
     obtain ⟨x62, hx63, h⟩ := h
     refine QJ m28 29 42 .i64 lvQ3 1 2 s852 v102 hn802 hx63 ?_
     refine QZ (ask_oload (P := Tryz.prog) (M := m28) (t := 42) (lv := lvQ3) (b := 2) (i := s800) okQ3 (by kernel_rfl) (by kernel_rfl) (by kernel_rfl) (rowIs_v' (lv := lvQ3) (s := 1) (e := s852) (ver := v102) (z := false)) hx63 rfl) ?_
     obtain ⟨x64, hx65, h⟩ := h
     refine QJ m28 29 42 .i64 lvQ3 1 2 s852 v102 hn802 hx65 ?_
     refine QZ (ask_ostoreV (P := Tryz.prog) (M := m28) (t := 42) (lv := lvQ3) (b := 2) (i := s800) (y := x60) (X := .pd (.sl (x60.map elI64))) okQ3 (by kernel_rfl) (by kernel_rfl) (rowIs_v (lv := lvQ3) (s := 1) (e := s852) (ver := v102)) hx65 (by kernel_rfl)) ?_
     obtain ⟨x66, hx67, h⟩ := h
     let o29 : Ob := rowV lvQ3 1 (s852.set (Int.toNat s800) x60) v102 false
     let m30 : Mem := [o1, o2, o29, o26, .map true s154]
     refine QJ m30 29 42 .i64 lvQ3 1 2 (s852.set (Int.toNat s800) x60) v102 (ls_set hn802) hx67 ?_
     refine QZ (ask_ostoreV (P := Tryz.prog) (M := m30) (t := 42) (lv := lvQ3) (b := 2) (i := (IntKind.i64.wrap (s800 - 1))) (y := x62) (X := .pd (.sl (x62.map elI64))) okQ3 (by kernel_rfl) (by kernel_rfl) (rowIs_v (lv := lvQ3) (s := 1) (e := (s852.set (Int.toNat s800) x60)) (ver := v102)) hx67 (by kernel_rfl)) ?_
     exact QG () h (ls_set (ls_set hn802))
    refine QR (.exit 2) ?_
    exact QG () h hn802
   refine QR (.exit 2) ?_
   exact QG () h hn802
  refine QR (.exit 0) ?_
  let m31 : Mem := [o1, o2, rowV lvQ3 1 s752 v102 false, o26, .map true s154]
  refine H_endM .normal (.tup []) (m31) (by kernel_rfl) rfl (by kernel_rfl) (by kernel_rfl) (by kernel_rfl) ?_
  refine QR .ret ?_
  refine H_endM .ret (.tup []) (m31) (by kernel_rfl) rfl (by kernel_rfl) (by kernel_rfl) (by kernel_rfl) ?_
  refine H_endM .normal (.tup []) (m31) (by kernel_rfl) rfl (by kernel_rfl) (by kernel_rfl) (by kernel_rfl) ?_
  refine QK 1 ?_
  refine QC m31 31 1 0 0 1 1 [.own 2 n102 v102] (.agg [.own 2 n102 v102]) (all_c (ok_own (o := rowV lvQ3 1 s752 v102 false) (by kernel_rfl) (rowIs_v' (lv := lvQ3) (s := 1) (e := s752) (ver := v102) (z := false))) all_n) ?_
  let m32 : Mem := [o1, o26, rowV lvQ3 1 s752 v102 false, o26, .map true s154]
  subst r; exact QX .ret (.tup [.agg [.own 2 n102 v102], .pd (.int .i64 0), .pd (.int .i64 0)]) m32 (pure_tup (pl_cons (pure_agg (pl_cons (po okQ3 lgQ3 2 s752 v102 n102 hn702) pl_nil)) (pl_cons rfl (pl_cons rfl pl_nil))))
 refine QBp h (fun hp68 h => ?_) (fun hp68 h => ?_)
 ·exact h.elim
 exact h.elim
theorem notes_Print_ok (m : Tp) (p0 : List (List UInt8)) (p1 : List (Bool × (List Int) × (List Int))) (p2 : List ((List UInt8) × (List (Bool × (List Int) × (List Int))) × Int × Bool × (List Int) × (List Int))) (p3 : List (List Int)) {r : (List UInt8) × Int} (h : notes_Print p0 p1 p2 p3 r) : ASpec Tryz.prog (gtT m) 22 [.agg [.pd (.sl (p0.map elS)), .pd (.sl (p1.map elQ1)), .pd (.sl (p2.map elQ0))], .agg [.pd (.sl (p3.map elQ3))]] (· = .tup [.pd (.str r.1), .pd (.int .i64 r.2)]) := by
 refine ASpec_tree Tryz.f22 mixedT (askZ [9, 10, 11] false [22, 29] [26]) (by kernel_rfl) ?_
 unfold notes_Print at h
 let o1 : Ob := .cells [.pd (.sl (p0.map elS)), .pd (.sl (p1.map elQ1)), .pd (.sl (p2.map elQ0))] 1 0 false
 let o2 : Ob := .cells [.pd (.sl (p3.map elQ3))] 1 0 false
 refine QK 4 ?_
 obtain ⟨x1, hx2, h⟩ := h
 refine QV (notes_Right_ok m _ _ _ _ hx2) ?_
 cases x1
 ·replace h := h.f rfl
  subst r; exact QE .ret
 replace h := h.t rfl
 refine QK 2 ?_
 refine QL [o1, o2] 29 42 elQ3 p3 ?_
 refine H_loopP (F := notes_Print_L1 p0 p3 r) (s0 := (([] : List UInt8), (0 : Int))) h () 46 2
  (fun (s100, s101) () => [(2, .ptr 0 0 0), (6, .pd (.str s100)), (17, .pd (.sl (p3.map elQ3))), (18, .pd (.int .i64 (p3.length : Int))), (19, .pd (.int .i64 s101))])
  (fun (s100, s101) () => [o1, o2]) (fun (s100, s101) () => True) trivial [] mixedT (askZ [9, 10, 11] false [22, 29] [26])
  (by kernel_rfl) (by kernel_rfl) (by kernel_rfl) (by kernel_rfl) (by kernel_rfl) (fun _ _ => rfl) ?_
 rintro X1 ⟨s100, s101⟩ ⟨⟩ - h
 dsimp only [notes_Print_L1] at h
 refine QBp h (fun hp3 h => ?_) (fun hp3 h => ?_)
 ·obtain ⟨x4, hx5, h⟩ := h
  refine QI [o1, o2] 29 42 .i64 okQ3 leQ3 hx5 ?_
  refine QK 1 ?_
  let o3 : Ob := .cells (rowC lvS ([([98, 108, 111, 99, 107] : List UInt8)] : List (List UInt8))) 1 0 false
  refine H_bldRow (t := 22) (n := 1) (parts := [(0, .pd (.str ([98, 108, 111, 99, 107] : List UInt8)))]) (M0 := [o1, o2]) (.own 2 1 0) ([o1, o2, o3]) (by kernel_rfl) (by kernel_rfl) ?_
  refine QL [o1, o2, o3] 42 3 elI64 x4 ?_
  refine H_loopP (F := notes_Print_L2 p0 s100 s101 X1 x4) (s0 := ((0 : Int), ([([98, 108, 111, 99, 107] : List UInt8)] : List (List UInt8)))) h (0, 1) 46 3
   (fun (s200, s252) (v202, n202) => [(2, .ptr 0 0 0), (6, .pd (.str s100)), (9, .own 2 n202 v202), (17, .pd (.sl (p3.map elQ3))), (18, .pd (.int .i64 (p3.length : Int))), (19, .pd (.int .i64 s101)), (24, .pd (.sl (x4.map elI64))), (25, .pd (.int .i64 (x4.length : Int))), (26, .pd (.int .i64 s200))])
   (fun (s200, s252) (v202, n202) => [o1, o2, .cells (rowC lvS s252) 1 v202 false]) (fun (s200, s252) (v202, n202) => n202 = s252.length) rfl [] mixedT (askZ [9, 10, 11] false [22, 29] [26])
   (by kernel_rfl) (by kernel_rfl) (by kernel_rfl) (by kernel_rfl) (by kernel_rfl) (fun _ _ => rfl) ?_
  rintro X2 ⟨s200, s252⟩ ⟨v202, n202⟩ hn202 h
  dsimp only [notes_Print_L2] at h
  refine QBp h (fun hp6 h => ?_) (fun hp6 h => ?_)
  ·obtain ⟨x7, hx8, h⟩ := h
   let o4 : Ob := .cells (rowC lvS s252) 1 v202 false
   refine QI [o1, o2, o4] 42 3 .i64 okI64 leI64 hx8 ?_
   refine QK 3 ?_
   obtain ⟨x9, hx10, h⟩ := h
   refine QI [o1, o2, o4] 22 9 .i64 okS leS hx10 ?_
   refine QK 1 ?_
   let o5 : Ob := .cells (rowC lvS ([x9] : List (List UInt8))) 1 0 false
   refine H_bldRow (t := 22) (n := 1) (parts := [(0, .pd (.str x9))]) (M0 := [o1, o2, o4]) (.own 3 1 0) ([o1, o2, o4, o5]) (by kernel_rfl) (by kernel_rfl) ?_
   obtain ⟨hx11, h⟩ := h
   refine QZ (ask_app (P := Tryz.prog) (M := [o1, o2, o4, o5]) (lv := lvS) (s := 1) (b := 2) (e := s252) (e2 := ([x9] : List (List UInt8))) (ver := v202) (sT := 22) (xT := 22) (by_ := 16) okS (by kernel_rfl) (src_own okS (M := [o1, o2, o4, o5]) (b := 3) (by kernel_rfl) (rowIs_c (lv := lvS) (s := 1) (e := ([x9] : List (List UInt8))) (ver := 0) (z := false)) (n := 1) rfl) (by kernel_rfl) (n := n202) hn202 hx11) ?_
   exact QGC ((v202 + 1), ((s252 ++ ([x9] : List (List UInt8))).length)) h rfl (all_c (by kernel_rfl) (all_c (by kernel_rfl) (all_c (bel_rowO _) all_n)))
  refine QR (.exit 2) ?_
  obtain ⟨x12, hx13, h⟩ := h
  let o6 : Ob := .cells (rowC lvS s252) 1 v202 false
  refine H_valO (g := 42) (args := [.own 2 n202 v202]) (M := [o1, o2, o6]) (.pd (.str x12)) (.inl (by kernel_rfl)) (pl_cons (un_own (own_pd okS (by decide) lgS (o := o6) (by kernel_rfl) (rowIs_c (lv := lvS) (s := 1) (e := s252) (ver := v202) (z := false)) (n := n202) hn202)) pl_nil) (lines_Join_ok m _ hx13) (by kernel_rfl) rfl (hasT 42 (by kernel_rfl)) ?_
  obtain ⟨hx14, h⟩ := h
  refine QZ (ask_cat (P := Tryz.prog) (M := [o1, o2, o6]) (t := 9) hx14) ?_
  obtain ⟨hx15, h⟩ := h
  refine QZ (ask_cat (P := Tryz.prog) (M := [o1, o2, o6]) (t := 9) hx15) ?_
  exact QGC () h trivial (all_c (by kernel_rfl) (all_c (by kernel_rfl) all_n))
 refine QR (.exit 0) ?_
 subst r; exact QE .ret
theorem offcutlaw09_same_ok (m : Tp) (p0 : List (List Int)) (p1 : List (List Int)) {r : Bool} (h : offcutlaw09_same p0 p1 r) : ASpec Tryz.prog (gtT m) 14 [.pd (.sl (p0.map elQ3)), .pd (.sl (p1.map elQ3))] (· = .pd (.bool r)) := by
 refine ASpec_tree Tryz.f14 mixedT (askZ [9, 10, 11] false [29] [26]) (by kernel_rfl) ?_
 unfold offcutlaw09_same at h
 refine QL [] 29 42 elQ3 p0 ?_
 refine QL [] 29 42 elQ3 p1 ?_
 refine QBp h (fun hp1 h => ?_) (fun hp1 h => ?_)
 ·subst r; exact QE .ret
 refine QL [] 29 42 elQ3 p0 ?_
 refine H_loopP (F := offcutlaw09_same_L1 p0 p1 r) (s0 := (0 : Int)) h () 53 0
  (fun s100 () => [(0, .pd (.sl (p0.map elQ3))), (1, .pd (.sl (p1.map elQ3))), (13, .pd (.int .i64 (p0.length : Int))), (14, .pd (.int .i64 s100))])
  (fun s100 () => []) (fun s100 () => True) trivial [] mixedT (askZ [9, 10, 11] false [29] [26])
  (by kernel_rfl) (by kernel_rfl) (by kernel_rfl) (by kernel_rfl) (by kernel_rfl) (fun _ _ => rfl) ?_
 rintro X1 s100 ⟨⟩ - h
 dsimp only [offcutlaw09_same_L1] at h
 refine QBp h (fun hp2 h => ?_) (fun hp2 h => ?_)
 ·refine QD ?_
  obtain ⟨x3, hx4, h⟩ := h
  refine QI [] 29 42 .i64 okQ3 leQ3 hx4 ?_
  refine QK 1 ?_
  refine QL [] 42 3 elI64 x3 ?_
  obtain ⟨x5, hx6, h⟩ := h
  refine QI [] 29 42 .i64 okQ3 leQ3 hx6 ?_
  refine QK 1 ?_
  refine QL [] 42 3 elI64 x5 ?_
  refine QBp h (fun hp7 h => ?_) (fun hp7 h => ?_)
  ·refine QR .ret ?_
   subst r; exact QE .ret
  obtain ⟨x8, hx9, h⟩ := h
  refine QI [] 29 42 .i64 okQ3 leQ3 hx9 ?_
  refine QK 1 ?_
  refine QL [] 42 3 elI64 x8 ?_
  refine H_loopP (F := offcutlaw09_same_L2 p0 p1 s100 X1 x8 r) (s0 := (0 : Int)) h () 53 0
   (fun s200 () => [(0, .pd (.sl (p0.map elQ3))), (1, .pd (.sl (p1.map elQ3))), (5, .pd (.int .i64 s100)), (13, .pd (.int .i64 (p0.length : Int))), (14, .pd (.int .i64 s100)), (32, .pd (.int .i64 (x8.length : Int))), (33, .pd (.int .i64 s200))])
   (fun s200 () => []) (fun s200 () => True) trivial [] mixedT (askZ [9, 10, 11] false [29] [26])
   (by kernel_rfl) (by kernel_rfl) (by kernel_rfl) (by kernel_rfl) (by kernel_rfl) (fun _ _ => rfl) ?_
  rintro X2 s200 ⟨⟩ - h
  dsimp only [offcutlaw09_same_L2] at h
  refine QBp h (fun hp10 h => ?_) (fun hp10 h => ?_)
  ·refine QD ?_
   obtain ⟨x11, hx12, h⟩ := h
   refine QI [] 29 42 .i64 okQ3 leQ3 hx12 ?_
   refine QK 1 ?_
   obtain ⟨x13, hx14, h⟩ := h
   refine QI [] 42 3 .i64 okI64 leI64 hx14 ?_
   refine QK 1 ?_
   obtain ⟨x15, hx16, h⟩ := h
   refine QI [] 29 42 .i64 okQ3 leQ3 hx16 ?_
   refine QK 1 ?_
   obtain ⟨x17, hx18, h⟩ := h
   refine QI [] 42 3 .i64 okI64 leI64 hx18 ?_
   refine QK 1 ?_
   refine QBp h (fun hp19 h => ?_) (fun hp19 h => ?_)
   ·refine QR .ret ?_
    refine QR .ret ?_
    subst r; exact QE .ret
   exact QG () h trivial
  refine QR (.exit 2) ?_
  exact QG () h trivial
 refine QR (.exit 0) ?_
 subst r; exact QE .ret
end Go.Abs
end
