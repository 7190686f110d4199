/- Part of a proof, in few files: G21kW BIw GLiW MSw M08w. -/
import Derived.Test.YthkcibhfbcfhlaaGreatDoorDChK15
import Derived.Test.YthkcibhfbcfhlaaGreatDoorDChK16
import Derived.Test.YthkcibhfbcfhlaaGreatDoorDChK17
import Derived.Test.YthkcibhfbcfhlaaGreatDoorDChK21
import Derived.Test.YthkcibhfbcfhlaaGreatDoorDChK19
import Derived.Test.YthkcibhfbcfhlaaGreatDoorDChK10

set_option linter.unusedVariables false
set_option linter.unusedSimpArgs false
set_option linter.unnecessarySimpa false
section
namespace Go.Abs
open Go.Proofs
set_option maxHeartbeats 4000000
set_option maxRecDepth 20000
def lvQ3 (x : List Fq) : List PD := [.sl (x.map elQ4)]
def elQ3 (x : List Fq) : PD := .sl (x.map elQ4)
theorem okQ3 : LVok lvQ3 1 := fun _ => ⟨rfl, rfl⟩
theorem leQ3 : ELok elQ3 lvQ3 := fun _ => rfl
theorem lgQ3 : ELg elQ3 lvQ3 1 := fun _ => rfl
def lvI64 (x : Int) : List PD := [.int .i64 x]
def elI64 (x : Int) : PD := .int .i64 x
theorem okI64 : LVok lvI64 1 := fun _ => ⟨rfl, rfl⟩
theorem leI64 : ELok elI64 lvI64 := fun _ => rfl
theorem lgI64 : ELg elI64 lvI64 1 := fun _ => rfl
theorem shape_Right_ok (m : Tp) (p0 : List (List Fq)) (p1 : List Fq) (p2 : List Fq) {r : Bool} (h : shape_Right p0 p1 p2 r) : ASpec Tryz.prog (gtT m) 27 [.agg [.pd (.sl (p0.map elQ3)), .pd (.sl (p1.map elQ4)), .pd (.sl (p2.map elQ4))]] (· = .pd (.bool r)) := by
 refine ASpec_tree Tryz.f27 mixedT (askG [9, 10, 11] false) (by kernel_rfl) ?_
 unfold shape_Right at h
 let o1 : Ob := .cells [.pd (.sl (p0.map elQ3)), .pd (.sl (p1.map elQ4)), .pd (.sl (p2.map elQ4))] 1 0 false
 refine QK 3 ?_
 refine QL [o1] 26 67 elQ4 p2 ?_
 refine QBp h (fun hp1 h => ?_) (fun hp1 h => ?_)
 ·refine QK 2 ?_
  refine QL [o1] 36 26 elQ3 p0 ?_
  refine QBp h (fun hp2 h => ?_) (fun hp2 h => ?_)
  ·refine QK 2 ?_
   refine QL [o1] 26 67 elQ4 p1 ?_
   refine QK 2 ?_
   refine QL [o1] 36 26 elQ3 p0 ?_
   refine QBp h (fun hp3 h => ?_) (fun hp3 h => ?_)
   ·refine QK 2 ?_
    refine QIN (g := 61) (args := [.pd (.sl (p0.map elQ3)), .fn (.func 60) [] [.ptr 0 0 0]]) (M := [o1]) Tryz.f61 mixedT (askG [9, 10, 11] false) (hasT 61 (by kernel_rfl)) ?_
    refine QIN (g := 105) (args := [.pd (.sl (p0.map elQ3)), .fn (.func 60) [] [.ptr 0 0 0]]) (M := [o1]) Tryz.f105 mixedT (askG [9, 10, 11] false) (hasT 105 (by kernel_rfl)) ?_
    refine QL [o1] 36 26 elQ3 p0 ?_
    refine QLP (F := shape_Right_L1 p0 p2 r) (s0 := (0 : Int)) h () 19 1
     (fun s100 () => [(0, .pd (.sl (p0.map elQ3))), (1, .fn (.func 60) [] [.ptr 0 0 0]), (7, .pd (.int .i64 (p0.length : Int))), (8, .pd (.int .i64 s100))])
     (fun s100 () => [o1]) (fun s100 () => True) trivial [] mixedT (askG [9, 10, 11] false) ?_
    rintro X1 s100 ⟨⟩ - h
    dsimp only [shape_Right_L1] at h
    refine QBp h (fun hp4 h => ?_) (fun hp4 h => ?_)
    ·obtain ⟨x5, hx6, h⟩ := h
     refine QI [o1] 36 26 .i64 okQ3 leQ3 hx6 ?_
     refine QK 1 ?_
     refine QIN (g := 60) (args := [.pd (.sl (x5.map elQ4)), .ptr 0 0 0]) (M := [o1]) Tryz.f60 mixedT (askG [9, 10, 11] false) (hasT 60 (by kernel_rfl)) ?_
     refine QL [o1] 26 67 elQ4 x5 ?_
     refine QK 2 ?_
     refine QL [o1] 26 67 elQ4 p2 ?_
     refine QBp h (fun hp7 h => ?_) (fun hp7 h => ?_)
     ·refine QEM .ret (.pd (.bool true)) ([o1]) ?_
      refine QR .ret ?_
      refine QEM .ret (.pd (.int .i64 s100)) ([o1]) ?_
      refine QBp h (fun hp8 h => ?_) (fun hp8 h => ?_)
      ·refine QEM .ret (.pd (.bool true)) ([o1]) ?_
       subst r; exact QE .ret
      refine QEM .ret (.pd (.bool false)) ([o1]) ?_
      subst r; exact QE .ret
     refine QEM .ret (.pd (.bool false)) ([o1]) ?_
     exact QG () h trivial
    refine QR (.exit 0) ?_
    refine QEM .ret (.pd (.int .i64 (-1))) ([o1]) ?_
    refine QP false (fun hc => by cases hc) (fun _ => ?_)
    refine QEM .ret (.pd (.bool false)) ([o1]) ?_
    subst r; exact QE .ret
   subst r; exact QE .ret
  subst r; exact QE .ret
 subst r; exact QE .ret
theorem vec_Ints_ok (m : Tp) (p0 : List Int) {r : (List Fq)} (h : vec_Ints p0 r) : ASpec Tryz.prog (gtT m) 23 [.pd (.sl (p0.map elI64))] (· = .pd (.sl (r.map elQ4))) := by
 refine ASpec_tree Tryz.f23 mixedT (askG [9, 10, 11] true) (by kernel_rfl) ?_
 unfold vec_Ints at h
 refine QL [rowV lvQ4 3 ([] : List Fq) 0 false, rowV lvQ4 3 ([] : List Fq) 0 false] 49 3 elI64 p0 ?_
 refine QLP (F := vec_Ints_L1 p0 r) (s0 := ((0 : Int), ([] : List Fq))) h (0, (([] : List Fq).length)) 19 2
  (fun (s100, s151) (v101, n101) => [(3, .own 1 n101 v101), (6, .pd (.sl (p0.map elI64))), (7, .pd (.int .i64 (p0.length : Int))), (8, .pd (.int .i64 s100))])
  (fun (s100, s151) (v101, n101) => [rowV lvQ4 3 ([] : List Fq) 0 false, rowV lvQ4 3 s151 v101 false]) (fun (s100, s151) (v101, n101) => n101 = s151.length) rfl [] mixedT (askG [9, 10, 11] true) ?_
 rintro X1 ⟨s100, s151⟩ ⟨v101, n101⟩ hn101 h
 dsimp only [vec_Ints_L1] at h
 refine QBp h (fun hp1 h => ?_) (fun hp1 h => ?_)
 ·obtain ⟨x2, hx3, h⟩ := h
  refine QI [rowV lvQ4 3 ([] : List Fq) 0 false, rowV lvQ4 3 s151 v101 false] 49 3 .i64 okI64 leI64 hx3 ?_
  refine QK 1 ?_
  obtain ⟨x4, x5, x6, hx7, h⟩ := h
  refine QV (rat_Int_ok m _ hx7) ?_
  obtain ⟨hx8, h⟩ := h
  refine QA [rowV lvQ4 3 ([] : List Fq) 0 false, rowV lvQ4 3 s151 v101 false] 1 s151 [(x4, x5, x6)] v101 26 26 56 okQ4 (src_fixed okQ4 leQ4) hn101 hx8 ?_
  exact QG ((vnext s151 [(x4, x5, x6)] v101), ((s151 ++ [(x4, x5, x6)]).length)) h rfl
 ·refine QR (.exit 0) ?_
  subst r; exact QX .ret (.own 1 n101 v101) [rowV lvQ4 3 ([] : List Fq) 0 false, rowV lvQ4 3 s151 v101 false] (pure_2to3 (pure_1to2 (po okQ4 lgQ4 1 s151 v101 n101 hn101) rfl) rfl)
theorem vec_Dot_ok (m : Tp) (p0 : List Fq) (p1 : List Fq) {r : Fq} (h : vec_Dot p0 p1 r) : ASpec Tryz.prog (gtT m) 65 [.pd (.sl (p0.map elQ4)), .pd (.sl (p1.map elQ4))] (· = .agg [.pd (.bool r.1), .pd (.sl (r.2.1.map elU32)), .pd (.sl (r.2.2.map elU32))]) := by
 refine ASpec_tree Tryz.f65 mixedT (askG [9, 10, 11] false) (by kernel_rfl) ?_
 unfold vec_Dot at h
 obtain ⟨x1, x2, x3, hx4, h⟩ := h
 let o1 : Ob := .cells [.pd (.bool false), .fixed (([] : List Int).map elU32), .fixed (([] : List Int).map elU32)] 1 0 false
 refine QV (rat_Int_ok m _ hx4) ?_
 let o2 : Ob := .cells [.pd (.bool x1), .pd (.sl (x2.map elU32)), .pd (.sl (x3.map elU32))] 1 0 false
 refine QK 1 ?_
 refine QIN (g := 111) (args := [.pd (.sl (p0.map elQ4)), .pd (.sl (p1.map elQ4))]) (M := [o1, o2]) Tryz.f111 mixedT (askG [9, 10, 11] false) (hasT 111 (by kernel_rfl)) ?_
 let o3 : Ob := .cells [.pd (.sl (p0.map elQ4))] 1 0 false
 let o4 : Ob := .cells [.pd (.sl (p1.map elQ4))] 1 0 false
 refine QK 2 ?_
 refine QEM .ret (.fn (.func 158) [] [.ptr 2 0 0, .ptr 3 0 0]) ([o1, o2, o3, o4]) ?_
 refine H_gen fun w1 hw1 => ?_
 let o5 : Ob := .loop .ready none w1.stS.T w1.rps w1.rasg w1.rbo 4
 let m6 : Mem := [o1, o2, o3, o4, .defers false, o5]
 refine H_range (gf := 158) (l1 := []) (l2 := [.ptr 2 0 0, .ptr 3 0 0]) (m6) 5 (by subst hw1; kernel_rfl) (by subst hw1; kernel_rfl) (hasT 158 (by kernel_rfl)) (by subst hw1; kernel_rfl) (by subst hw1; kernel_rfl) ?_
 refine ACall_tree Tryz.f158 mixedT (askG [9, 10, 11] false) (by kernel_rfl) ?_
 refine H_askK (.pd (.sl (p0.map elQ4))) (m6) (by subst hw1; kernel_rfl) ?_
 refine H_ask _ _ (by subst hw1; kernel_rfl) (ask_len (P := Tryz.prog) (M := m6) (t := 26) (et := 67) (el := elQ4) (by kernel_rfl) (e := p0)) ?_
 refine H_askK (.pd (.sl (p1.map elQ4))) (m6) (by subst hw1; kernel_rfl) ?_
 refine H_ask _ _ (by subst hw1; kernel_rfl) (ask_len (P := Tryz.prog) (M := m6) (t := 26) (et := 67) (el := elQ4) (by kernel_rfl) (e := p1)) ?_
 refine H_loopP (F := vec_Dot_L1 p0 p1 r) (s0 := ((0 : Int), x1, x2, x3)) h () 27 6
  (fun (s100, s101, s102, s103) () => [(0, .yld 5), (1, .ptr 2 0 0), (2, .ptr 3 0 0), (9, .pd (.int .i64 (if (p1.length : Int) < (p0.length : Int) then (p1.length : Int) else (p0.length : Int)))), (10, .pd (.int .i64 s100))])
  (fun (s100, s101, s102, s103) () => [o1, .cells [.pd (.bool s101), .pd (.sl (s102.map elU32)), .pd (.sl (s103.map elU32))] 1 0 false, o3, o4, .defers false, o5]) (fun (s100, s101, s102, s103) () => True) trivial [] mixedT (askG [9, 10, 11] false)
  (by subst hw1; kernel_rfl) (by subst hw1; kernel_rfl) (by subst hw1; kernel_rfl) (by subst hw1; kernel_rfl) (by subst hw1; kernel_rfl) (fun _ _ => rfl) ?_
 rintro X1 ⟨s100, s101, s102, s103⟩ ⟨⟩ - h
 dsimp only [vec_Dot_L1] at h
 refine H_split (decide (s100 < (if (p1.length : Int) < (p0.length : Int) then (p1.length : Int) else (p0.length : Int)))) (by subst hw1; kernel_rfl) (fun hp5 => ?_) (fun hp5 => ?_)
 ·replace h := h.t hp5
  refine H_draw (by subst hw1; kernel_rfl) ?_
  let o7 : Ob := .cells [.pd (.bool s101), .pd (.sl (s102.map elU32)), .pd (.sl (s103.map elU32))] 1 0 false
  let m8 : Mem := [o1, o7, o3, o4, .defers false, o5]
  refine H_askK (.pd (.sl (p0.map elQ4))) (m8) (by subst hw1; kernel_rfl) ?_
  obtain ⟨x6, x7, x8, hx9, h⟩ := h
  refine H_ask _ _ (by subst hw1; kernel_rfl) (ask_idx (P := Tryz.prog) (M := m8) (t := 26) (et := 67) (k := .i64) (lv := lvQ4) okQ4 leQ4 (by kernel_rfl) (by kernel_rfl) hx9) ?_
  refine H_askK (.agg [.pd (.bool x6), .pd (.sl (x7.map elU32)), .pd (.sl (x8.map elU32))]) (m8) (by subst hw1; kernel_rfl) ?_
  refine H_askK (.pd (.sl (p1.map elQ4))) (m8) (by subst hw1; kernel_rfl) ?_
  obtain ⟨x10, x11, x12, hx13, h⟩ := h
  refine H_ask _ _ (by subst hw1; kernel_rfl) (ask_idx (P := Tryz.prog) (M := m8) (t := 26) (et := 67) (k := .i64) (lv := lvQ4) okQ4 leQ4 (by kernel_rfl) (by kernel_rfl) hx13) ?_
  refine H_askK (.agg [.pd (.bool x10), .pd (.sl (x11.map elU32)), .pd (.sl (x12.map elU32))]) (m8) (by subst hw1; kernel_rfl) ?_
  refine H_askK (.agg [.pd (.bool x6), .pd (.sl (x7.map elU32)), .pd (.sl (x8.map elU32)), .pd (.bool x10), .pd (.sl (x11.map elU32)), .pd (.sl (x12.map elU32))]) (m8) (by subst hw1; kernel_rfl) ?_
  refine H_yld (l := 5) (args := [.pd (.int .i64 s100), .agg [.pd (.bool x6), .pd (.sl (x7.map elU32)), .pd (.sl (x8.map elU32)), .pd (.bool x10), .pd (.sl (x11.map elU32)), .pd (.sl (x12.map elU32))]]) (M := m8) (by subst hw1; kernel_rfl) ?_
  refine H_roundA mixedT (askG [9, 10, 11] false) ?_
  let o9 : Ob := .cells [.pd (.bool x6), .pd (.sl (x7.map elU32)), .pd (.sl (x8.map elU32)), .pd (.bool x10), .pd (.sl (x11.map elU32)), .pd (.sl (x12.map elU32))] 1 0 false
  let m10 : Mem := [o1, o7, o3, o4, .defers false, o5, o9]
  refine H_askK (.junk) (m10) (by subst hw1; kernel_rfl) ?_
  let o11 : Ob := .loop .busy none w1.stS.T w1.rps w1.rasg w1.rbo 4
  let m12 : Mem := [o1, o7, o3, o4, .defers false, o11, o9]
  refine H_askK (.ptr 6 0 0) (m12) (by subst hw1; kernel_rfl) ?_
  refine H_askK (.agg [.pd (.bool x6), .pd (.sl (x7.map elU32)), .pd (.sl (x8.map elU32))]) (m12) (by subst hw1; kernel_rfl) ?_
  obtain ⟨x14, hx15, h⟩ := h
  refine H_valW (g := 68) (args := [.agg [.pd (.bool x6), .pd (.sl (x7.map elU32)), .pd (.sl (x8.map elU32))]]) (M := m12) (.pd (.int .i64 x14)) (.inl (by subst hw1; kernel_rfl)) (by subst hw1; kernel_rfl) (rat_Sign_ok m _ _ _ hx15) (by kernel_rfl) (hasT 68 (by kernel_rfl)) ?_
  refine H_split (x14 != (0 : Int)) (by subst hw1; kernel_rfl) (fun hp16 => ?_) (fun hp16 => ?_)
  ·replace h := h.t hp16
   refine H_askK (.ptr 6 3 0) (m12) (by subst hw1; kernel_rfl) ?_
   refine H_askK (.agg [.pd (.bool x10), .pd (.sl (x11.map elU32)), .pd (.sl (x12.map elU32))]) (m12) (by subst hw1; kernel_rfl) ?_
   obtain ⟨x17, hx18, h⟩ := h
   refine H_valW (g := 68) (args := [.agg [.pd (.bool x10), .pd (.sl (x11.map elU32)), .pd (.sl (x12.map elU32))]]) (M := m12) (.pd (.int .i64 x17)) (.inl (by subst hw1; kernel_rfl)) (by subst hw1; kernel_rfl) (rat_Sign_ok m _ _ _ hx18) (by kernel_rfl) (hasT 68 (by kernel_rfl)) ?_
   refine H_split (x17 != (0 : Int)) (by subst hw1; kernel_rfl) (fun hp19 => ?_) (fun hp19 => ?_)
   ·replace h := h.t hp19
    refine H_draw (by subst hw1; kernel_rfl) ?_
    refine H_askK (.agg [.pd (.bool s101), .pd (.sl (s102.map elU32)), .pd (.sl (s103.map elU32))]) (m12) (by subst hw1; kernel_rfl) ?_
    refine H_askK (.ptr 6 0 0) (m12) (by subst hw1; kernel_rfl) ?_
    refine H_askK (.agg [.pd (.bool x6), .pd (.sl (x7.map elU32)), .pd (.sl (x8.map elU32))]) (m12) (by subst hw1; kernel_rfl) ?_
    refine H_askK (.ptr 6 3 0) (m12) (by subst hw1; kernel_rfl) ?_
    refine H_askK (.agg [.pd (.bool x10), .pd (.sl (x11.map elU32)), .pd (.sl (x12.map elU32))]) (m12) (by subst hw1; kernel_rfl) ?_
    obtain ⟨x20, x21, x22, hx23, h⟩ := h
    refine H_valW (g := 53) (args := [.agg [.pd (.bool x6), .pd (.sl (x7.map elU32)), .pd (.sl (x8.map elU32))], .agg [.pd (.bool x10), .pd (.sl (x11.map elU32)), .pd (.sl (x12.map elU32))]]) (M := m12) (.agg [.pd (.bool x20), .pd (.sl (x21.map elU32)), .pd (.sl (x22.map elU32))]) (.inr (by subst hw1; kernel_rfl)) (by subst hw1; kernel_rfl) (rat_Mul_ok m _ _ _ _ _ _ hx23) (by kernel_rfl) (hasT 53 (by kernel_rfl)) ?_
    obtain ⟨x24, x25, x26, hx27, h⟩ := h
    refine H_valW (g := 112) (args := [.agg [.pd (.bool s101), .pd (.sl (s102.map elU32)), .pd (.sl (s103.map elU32))], .agg [.pd (.bool x20), .pd (.sl (x21.map elU32)), .pd (.sl (x22.map elU32))]]) (M := m12) (.agg [.pd (.bool x24), .pd (.sl (x25.map elU32)), .pd (.sl (x26.map elU32))]) (.inr (by subst hw1; kernel_rfl)) (by subst hw1; kernel_rfl) (rat_Add_ok m _ _ _ _ _ _ hx27) (by kernel_rfl) (hasT 112 (by kernel_rfl)) ?_
    let o13 : Ob := .cells [.pd (.bool x24), .pd (.sl (x25.map elU32)), .pd (.sl (x26.map elU32))] 1 0 false
    let m14 : Mem := [o1, o13, o3, o4, .defers false, o11, o9]
    refine H_askK (.junk) (m14) (by subst hw1; kernel_rfl) ?_
    let m15 : Mem := [o1, o13, o3, o4, .defers false, o5, o9]
    refine H_rnd .normal .ready none true (m15) (by subst hw1; kernel_rfl) rfl (by subst hw1; kernel_rfl) ?_
    exact H_againC (st := _) ((IntKind.i64.wrap (s100 + 1)), x24, x25, x26) () h trivial (by subst hw1; kernel_rfl) (by subst hw1; kernel_rfl) (by subst hw1; kernel_rfl) (by subst hw1; kernel_rfl) (by subst hw1; kernel_rfl) (by subst hw1; kernel_rfl) (all_c (by subst hw1; kernel_rfl) (all_c (by subst hw1; kernel_rfl) (all_c (by subst hw1; kernel_rfl) (all_c (by subst hw1; kernel_rfl) (all_c (by subst hw1; kernel_rfl) (all_c (by subst hw1; kernel_rfl) all_n)))))) (by subst hw1; kernel_rfl) (by kernel_rfl)
   replace h := h.f hp19
   refine H_rnd .normal .ready none true (m10) (by subst hw1; kernel_rfl) rfl (by subst hw1; kernel_rfl) ?_
   exact H_againC (st := _) ((IntKind.i64.wrap (s100 + 1)), s101, s102, s103) () h trivial (by subst hw1; kernel_rfl) (by subst hw1; kernel_rfl) (by subst hw1; kernel_rfl) (by subst hw1; kernel_rfl) (by subst hw1; kernel_rfl) (by subst hw1; kernel_rfl) (all_c (by subst hw1; kernel_rfl) (all_c (by subst hw1; kernel_rfl) (all_c (by subst hw1; kernel_rfl) (all_c (by subst hw1; kernel_rfl) (all_c (by subst hw1; kernel_rfl) (all_c (by subst hw1; kernel_rfl) all_n)))))) (by subst hw1; kernel_rfl) (by kernel_rfl)
  replace h := h.f hp16
  refine H_rnd .normal .ready none true (m10) (by subst hw1; kernel_rfl) rfl (by subst hw1; kernel_rfl) ?_
  exact H_againC (st := _) ((IntKind.i64.wrap (s100 + 1)), s101, s102, s103) () h trivial (by subst hw1; kernel_rfl) (by subst hw1; kernel_rfl) (by subst hw1; kernel_rfl) (by subst hw1; kernel_rfl) (by subst hw1; kernel_rfl) (by subst hw1; kernel_rfl) (all_c (by subst hw1; kernel_rfl) (all_c (by subst hw1; kernel_rfl) (all_c (by subst hw1; kernel_rfl) (all_c (by subst hw1; kernel_rfl) (all_c (by subst hw1; kernel_rfl) (all_c (by subst hw1; kernel_rfl) all_n)))))) (by subst hw1; kernel_rfl) (by kernel_rfl)
 replace h := h.f hp5
 refine H_leaveP (.exit 0) (by subst hw1; kernel_rfl) rfl ?_
 let o16 : Ob := .cells [.pd (.bool s101), .pd (.sl (s102.map elU32)), .pd (.sl (s103.map elU32))] 1 0 false
 let m17 : Mem := [o1, o16, o3, o4, .defers false, o5]
 refine H_endM .normal (.tup []) (m17) (by subst hw1; kernel_rfl) rfl (by subst hw1; kernel_rfl) (by subst hw1; kernel_rfl) (by subst hw1; kernel_rfl) ?_
 let o18 : Ob := .loop .exhausted none w1.stS.T w1.rps w1.rasg w1.rbo 4
 let m19 : Mem := [o1, o16, o3, o4, .defers false, o18]
 refine aft_done (st := .ready) (M' := m19) (by subst hw1; kernel_rfl) (by simp) (by subst hw1; kernel_rfl) ?_
 refine H_askK (.agg [.pd (.bool s101), .pd (.sl (s102.map elU32)), .pd (.sl (s103.map elU32))]) (m19) (by subst hw1; kernel_rfl) ?_
 let m20 : Mem := [o16, o16, o3, o4, .defers false, o18]
 refine H_askK (.junk) (m20) (by subst hw1; kernel_rfl) ?_
 exact H_end .ret (.agg [.pd (.bool s101), .pd (.sl (s102.map elU32)), .pd (.sl (s103.map elU32))]) (by subst hw1; kernel_rfl) rfl (by subst hw1; kernel_rfl) (by subst h; rfl)
theorem shape_Column_ok (m : Tp) (p0 : List (List Fq)) (p1 : List Fq) (p2 : List Fq) (p3 : Int) {r : (List Fq)} (h : shape_Column p0 p1 p2 p3 r) : ASpec Tryz.prog (gtT m) 113 [.agg [.pd (.sl (p0.map elQ3)), .pd (.sl (p1.map elQ4)), .pd (.sl (p2.map elQ4))], .pd (.int .i64 p3)] (· = .pd (.sl (r.map elQ4))) := by
 refine ASpec_tree Tryz.f113 mixedT (askG [9, 10, 11] true) (by kernel_rfl) ?_
 unfold shape_Column at h
 let o1 : Ob := .cells [.pd (.sl (p0.map elQ3)), .pd (.sl (p1.map elQ4)), .pd (.sl (p2.map elQ4))] 1 0 false
 let o2 : Ob := rowV lvQ4 3 ([] : List Fq) 0 false
 refine QK 2 ?_
 obtain ⟨x1, hx2, h⟩ := h
 refine QV (shape_Right_ok m _ _ _ hx2) ?_
 cases x1
 ·replace h := h.f rfl
  subst r; exact QX .ret (.own 2 (([] : List Fq).length) 0) [o1, o2, o2] (pure_2to3 (pure_1to2 (po okQ4 lgQ4 2 ([] : List Fq) 0 ([] : List Fq).length rfl) rfl) rfl)
 replace h := h.t rfl
 refine QBp h (fun hp3 h => ?_) (fun hp3 h => ?_)
 ·subst r; exact QX .ret (.own 2 (([] : List Fq).length) 0) [o1, o2, o2] (pure_2to3 (pure_1to2 (po okQ4 lgQ4 2 ([] : List Fq) 0 ([] : List Fq).length rfl) rfl) rfl)
 refine QK 2 ?_
 refine QL [o1, o2] 26 67 elQ4 p2 ?_
 refine QBp h (fun hp4 h => ?_) (fun hp4 h => ?_)
 ·subst r; exact QX .ret (.own 2 (([] : List Fq).length) 0) [o1, o2, o2] (pure_2to3 (pure_1to2 (po okQ4 lgQ4 2 ([] : List Fq) 0 ([] : List Fq).length rfl) rfl) rfl)
 refine QK 2 ?_
 refine QL [o1, o2, o2] 36 26 elQ3 p0 ?_
 refine QLP (F := shape_Column_L1 p0 p3 r) (s0 := ((0 : Int), ([] : List Fq))) h (0, (([] : List Fq).length)) 45 3
  (fun (s100, s152) (v102, n102) => [(1, .pd (.int .i64 p3)), (5, .own 2 n102 v102), (23, .pd (.sl (p0.map elQ3))), (24, .pd (.int .i64 (p0.length : Int))), (25, .pd (.int .i64 s100))])
  (fun (s100, s152) (v102, n102) => [o1, o2, rowV lvQ4 3 s152 v102 false]) (fun (s100, s152) (v102, n102) => n102 = s152.length) rfl [] mixedT (askG [9, 10, 11] true) ?_
 rintro X1 ⟨s100, s152⟩ ⟨v102, n102⟩ hn102 h
 dsimp only [shape_Column_L1] at h
 refine QBp h (fun hp5 h => ?_) (fun hp5 h => ?_)
 ·obtain ⟨x6, hx7, h⟩ := h
  let o3 : Ob := rowV lvQ4 3 s152 v102 false
  refine QI [o1, o2, o3] 36 26 .i64 okQ3 leQ3 hx7 ?_
  refine QK 1 ?_
  refine QD ?_
  obtain ⟨x8, x9, x10, hx11, h⟩ := h
  refine QI [o1, o2, o3] 26 67 .i64 okQ4 leQ4 hx11 ?_
  refine QK 2 ?_
  obtain ⟨x12, x13, x14, hx15, h⟩ := h
  refine QI [o1, o2, o3] 26 67 .i64 okQ4 leQ4 hx15 ?_
  refine QK 2 ?_
  obtain ⟨x16, x17, x18, hx19, h⟩ := h
  refine QVd (rat_Make_ok m _ _ _ hx19) ?_
  obtain ⟨hx20, h⟩ := h
  refine QA [o1, o2, o3] 2 s152 [(x16, x17, x18)] v102 26 26 56 okQ4 (src_fixed okQ4 leQ4) hn102 hx20 ?_
  exact QG ((vnext s152 [(x16, x17, x18)] v102), ((s152 ++ [(x16, x17, x18)]).length)) h rfl
 refine QR (.exit 0) ?_
 let o4 : Ob := rowV lvQ4 3 s152 v102 false
 subst r; exact QX .ret (.own 2 n102 v102) [o1, o2, o4] (pure_2to3 (pure_1to2 (po okQ4 lgQ4 2 s152 v102 n102 hn102) rfl) rfl)
theorem proof_Lower_ok (m : Tp) (p0 : List (List Fq)) (p1 : List Fq) (p2 : List Fq) (p3 : List Fq) {r : Bool × (List Int) × (List Int) × Bool} (h : proof_Lower p0 p1 p2 p3 r) : ASpec Tryz.prog (gtT m) 62 [.agg [.pd (.sl (p0.map elQ3)), .pd (.sl (p1.map elQ4)), .pd (.sl (p2.map elQ4))], .pd (.sl (p3.map elQ4))] (· = .tup [.agg [.pd (.bool r.1), .pd (.sl (r.2.1.map elU32)), .pd (.sl (r.2.2.1.map elU32))], .pd (.bool r.2.2.2)]) := by
 refine ASpec_tree Tryz.f62 mixedT (askG [9, 10, 11] false) (by kernel_rfl) ?_
 unfold proof_Lower at h
 let o1 : Ob := .cells [.pd (.sl (p0.map elQ3)), .pd (.sl (p1.map elQ4)), .pd (.sl (p2.map elQ4))] 1 0 false
 let o2 : Ob := .cells [.pd (.bool false), .fixed (([] : List Int).map elU32), .fixed (([] : List Int).map elU32)] 1 0 false
 refine QK 2 ?_
 obtain ⟨x1, hx2, h⟩ := h
 refine QV (shape_Right_ok m _ _ _ hx2) ?_
 cases x1
 ·replace h := h.f rfl
  obtain ⟨x30, x31, x32, hx33, h⟩ := h
  refine QV (rat_Int_ok m _ hx33) ?_
  refine QK 1 ?_
  subst r; exact QE .ret
 replace h := h.t rfl
 refine QK 1 ?_
 refine QIN (g := 66) (args := [.agg [.pd (.sl (p0.map elQ3)), .pd (.sl (p1.map elQ4)), .pd (.sl (p2.map elQ4))], .pd (.sl (p3.map elQ4)), .fn (.func 106) [] [.ptr 0 0 0]]) (M := [o1, o2]) Tryz.f66 mixedT (askG [9, 10, 11] false) (hasT 66 (by kernel_rfl)) ?_
 refine QK 1 ?_
 refine QL [o1, o2, o1] 26 67 elQ4 p3 ?_
 refine QK 2 ?_
 refine QL [o1, o2, o1] 36 26 elQ3 p0 ?_
 refine QBp h (fun hp3 h => ?_) (fun hp3 h => ?_)
 ·refine QEM .ret (.pd (.bool false)) ([o1, o2, o1]) ?_
  obtain ⟨x4, x5, x6, hx7, h⟩ := h
  refine QV (rat_Int_ok m _ hx7) ?_
  refine QK 1 ?_
  subst r; exact QE .ret
 refine QK 2 ?_
 refine QL [o1, o2, o1] 26 67 elQ4 p2 ?_
 refine QLP (F := proof_Lower_L1 p0 p1 p2 p3 r) (s0 := (0 : Int)) h () 31 3
  (fun s100 () => [(1, .pd (.sl (p3.map elQ4))), (2, .fn (.func 106) [] [.ptr 0 0 0]), (3, .ptr 2 0 0), (16, .pd (.int .i64 (p2.length : Int))), (17, .pd (.int .i64 s100))])
  (fun s100 () => [o1, o2, o1]) (fun s100 () => True) trivial [] mixedT (askG [9, 10, 11] false) ?_
 rintro X1 s100 ⟨⟩ - h
 dsimp only [proof_Lower_L1] at h
 refine QBp h (fun hp8 h => ?_) (fun hp8 h => ?_)
 ·refine QK 1 ?_
  obtain ⟨x9, hx10, h⟩ := h
  refine QV (shape_Column_ok m _ _ _ _ hx10) ?_
  obtain ⟨x11, x12, x13, hx14, h⟩ := h
  refine QV (vec_Dot_ok m _ _ hx14) ?_
  refine QIN (g := 106) (args := [.pd (.int .i64 s100), .ptr 0 0 0]) (M := [o1, o2, o1]) Tryz.f106 mixedT (askG [9, 10, 11] false) (hasT 106 (by kernel_rfl)) ?_
  refine QK 2 ?_
  obtain ⟨x15, x16, x17, hx18, h⟩ := h
  refine QI [o1, o2, o1, o2] 26 67 .i64 okQ4 leQ4 hx18 ?_
  let o5 : Ob := .cells [.pd (.bool x15), .pd (.sl (x16.map elU32)), .pd (.sl (x17.map elU32))] 1 0 false
  refine QK 2 ?_
  refine QEM .ret (.agg [.pd (.bool x15), .pd (.sl (x16.map elU32)), .pd (.sl (x17.map elU32))]) ([o1, o2, o1, o5]) ?_
  obtain ⟨x19, hx20, h⟩ := h
  refine QV (rat_Compare_ok m _ _ _ _ _ _ hx20) ?_
  refine QBp h (fun hp21 h => ?_) (fun hp21 h => ?_)
  ·refine QR .ret ?_
   refine QEM .ret (.pd (.bool false)) ([o1, o2, o1, o5]) ?_
   obtain ⟨x22, x23, x24, hx25, h⟩ := h
   refine QV (rat_Int_ok m _ hx25) ?_
   refine QK 1 ?_
   subst r; exact QE .ret
  exact QGC () h trivial (all_c (by kernel_rfl) (all_c (by kernel_rfl) (all_c (by kernel_rfl) all_n)))
 refine QR (.exit 0) ?_
 refine QEM .ret (.pd (.bool true)) ([o1, o2, o1]) ?_
 refine QK 2 ?_
 obtain ⟨x26, x27, x28, hx29, h⟩ := h
 refine QV (vec_Dot_ok m _ _ hx29) ?_
 refine QK 1 ?_
 subst r; exact QE .ret
theorem shape_Does_1_ok (m : Tp) (p0 : Bool) (p1 : List Int) (p2 : List Int) {r : Bool} (h : shape_Does_1 p0 p1 p2 r) : ASpec Tryz.prog (gtT m) 107 [.agg [.pd (.bool p0), .pd (.sl (p1.map elU32)), .pd (.sl (p2.map elU32))]] (· = .pd (.bool r)) := by
 refine ASpec_tree Tryz.f107 mixedT (askG [9, 10, 11] false) (by kernel_rfl) ?_
 unfold shape_Does_1 at h
 refine QK 2 ?_
 obtain ⟨x1, hx2, h⟩ := h
 refine QV (rat_Sign_ok m _ _ _ hx2) ?_
 refine QBp h (fun hp3 h => ?_) (fun hp3 h => ?_)
 ·subst r; exact QE .ret
 ·subst r; exact QE .ret
theorem shape_Does_ok (m : Tp) (p0 : List (List Fq)) (p1 : List Fq) (p2 : List Fq) (p3 : List Fq) {r : Bool} (h : shape_Does p0 p1 p2 p3 r) : ASpec Tryz.prog (gtT m) 63 [.agg [.pd (.sl (p0.map elQ3)), .pd (.sl (p1.map elQ4)), .pd (.sl (p2.map elQ4))], .pd (.sl (p3.map elQ4))] (· = .pd (.bool r)) := by
 refine ASpec_tree Tryz.f63 mixedT (askG [9, 10, 11] false) (by kernel_rfl) ?_
 unfold shape_Does at h
 let o1 : Ob := .cells [.pd (.sl (p0.map elQ3)), .pd (.sl (p1.map elQ4)), .pd (.sl (p2.map elQ4))] 1 0 false
 refine QK 2 ?_
 obtain ⟨x1, hx2, h⟩ := h
 refine QV (shape_Right_ok m _ _ _ hx2) ?_
 cases x1
 ·replace h := h.f rfl
  subst r; exact QE .ret
 replace h := h.t rfl
 refine QL [o1] 26 67 elQ4 p3 ?_
 refine QK 2 ?_
 refine QL [o1] 26 67 elQ4 p2 ?_
 refine QBp h (fun hp3 h => ?_) (fun hp3 h => ?_)
 ·subst r; exact QE .ret
 refine QIN (g := 108) (args := [.pd (.sl (p3.map elQ4)), .fn (.func 107) [] []]) (M := [o1]) Tryz.f108 mixedT (askG [9, 10, 11] false) (hasT 108 (by kernel_rfl)) ?_
 refine QIN (g := 157) (args := [.pd (.sl (p3.map elQ4)), .fn (.func 107) [] []]) (M := [o1]) Tryz.f157 mixedT (askG [9, 10, 11] false) (hasT 157 (by kernel_rfl)) ?_
 refine QL [o1] 26 67 elQ4 p3 ?_
 refine QLP (F := shape_Does_L1 p0 p1 p3 r) (s0 := (0 : Int)) h () 19 1
  (fun s100 () => [(0, .pd (.sl (p3.map elQ4))), (1, .fn (.func 107) [] []), (7, .pd (.int .i64 (p3.length : Int))), (8, .pd (.int .i64 s100))])
  (fun s100 () => [o1]) (fun s100 () => True) trivial [] mixedT (askG [9, 10, 11] false) ?_
 rintro X1 s100 ⟨⟩ - h
 dsimp only [shape_Does_L1] at h
 refine QBp h (fun hp4 h => ?_) (fun hp4 h => ?_)
 ·obtain ⟨x5, x6, x7, hx8, h⟩ := h
  refine QI [o1] 26 67 .i64 okQ4 leQ4 hx8 ?_
  refine QK 1 ?_
  obtain ⟨x9, hx10, h⟩ := h
  refine QV (shape_Does_1_ok m _ _ _ hx10) ?_
  cases x9
  ·replace h := h.f rfl
   exact QG () h trivial
  replace h := h.t rfl
  refine QR .ret ?_
  refine QEM .ret (.pd (.int .i64 s100)) ([o1]) ?_
  refine QBp h (fun hp11 h => ?_) (fun hp11 h => ?_)
  ·refine QEM .ret (.pd (.bool true)) ([o1]) ?_
   subst r; exact QE .ret
  refine QEM .ret (.pd (.bool false)) ([o1]) ?_
  refine QK 2 ?_
  refine QL [o1] 36 26 elQ3 p0 ?_
  refine QLP (F := shape_Does_L2 p0 p1 p3 r) (s0 := (0 : Int)) h () 43 1
   (fun s200 () => [(1, .pd (.sl (p3.map elQ4))), (2, .ptr 0 0 0), (25, .pd (.sl (p0.map elQ3))), (26, .pd (.int .i64 (p0.length : Int))), (27, .pd (.int .i64 s200))])
   (fun s200 () => [o1]) (fun s200 () => True) trivial [] mixedT (askG [9, 10, 11] false) ?_
  rintro X2 s200 ⟨⟩ - h
  dsimp only [shape_Does_L2] at h
  refine QBp h (fun hp12 h => ?_) (fun hp12 h => ?_)
  ·obtain ⟨x13, hx14, h⟩ := h
   refine QI [o1] 36 26 .i64 okQ3 leQ3 hx14 ?_
   refine QK 1 ?_
   refine QD ?_
   obtain ⟨x15, x16, x17, hx18, h⟩ := h
   refine QVd (vec_Dot_ok m _ _ hx18) ?_
   refine QK 2 ?_
   obtain ⟨x19, x20, x21, hx22, h⟩ := h
   refine QI [o1] 26 67 .i64 okQ4 leQ4 hx22 ?_
   refine QK 1 ?_
   obtain ⟨x23, hx24, h⟩ := h
   refine QVd (rat_Compare_ok m _ _ _ _ _ _ hx24) ?_
   refine QBp h (fun hp25 h => ?_) (fun hp25 h => ?_)
   ·refine QR .ret ?_
    subst r; exact QE .ret
   exact QG () h trivial
  refine QR (.exit 0) ?_
  subst r; exact QE .ret
 refine QR (.exit 0) ?_
 refine QEM .ret (.pd (.int .i64 (-1))) ([o1]) ?_
 refine QP false (fun hc => by cases hc) (fun _ => ?_)
 refine QEM .ret (.pd (.bool false)) ([o1]) ?_
 refine QK 2 ?_
 refine QL [o1] 36 26 elQ3 p0 ?_
 refine QLP (F := shape_Does_L3 p0 p1 p3 r) (s0 := (0 : Int)) h () 43 1
  (fun s300 () => [(1, .pd (.sl (p3.map elQ4))), (2, .ptr 0 0 0), (25, .pd (.sl (p0.map elQ3))), (26, .pd (.int .i64 (p0.length : Int))), (27, .pd (.int .i64 s300))])
  (fun s300 () => [o1]) (fun s300 () => True) trivial [] mixedT (askG [9, 10, 11] false) ?_
 rintro X3 s300 ⟨⟩ - h
 dsimp only [shape_Does_L3] at h
 refine QBp h (fun hp26 h => ?_) (fun hp26 h => ?_)
 ·obtain ⟨x27, hx28, h⟩ := h
  refine QI [o1] 36 26 .i64 okQ3 leQ3 hx28 ?_
  refine QK 1 ?_
  refine QD ?_
  obtain ⟨x29, x30, x31, hx32, h⟩ := h
  refine QVd (vec_Dot_ok m _ _ hx32) ?_
  refine QK 2 ?_
  obtain ⟨x33, x34, x35, hx36, h⟩ := h
  refine QI [o1] 26 67 .i64 okQ4 leQ4 hx36 ?_
  refine QK 1 ?_
  obtain ⟨x37, hx38, h⟩ := h
  refine QVd (rat_Compare_ok m _ _ _ _ _ _ hx38) ?_
  refine QBp h (fun hp39 h => ?_) (fun hp39 h => ?_)
  ·refine QR .ret ?_
   subst r; exact QE .ret
  exact QG () h trivial
 refine QR (.exit 0) ?_
 subst r; exact QE .ret
theorem proof_holds_1_ok (m : Tp) (p0 : Int) {r : Fq} (h : proof_holds_1 p0 r) : ASpec Tryz.prog (gtT m) 67 [.pd (.int .i64 p0)] (· = .agg [.pd (.bool r.1), .pd (.sl (r.2.1.map elU32)), .pd (.sl (r.2.2.map elU32))]) := by
 refine ASpec_tree Tryz.f67 mixedT (askG [9, 10, 11] false) (by kernel_rfl) ?_
 unfold proof_holds_1 at h
 obtain ⟨x1, x2, x3, hx4, h⟩ := h
 refine QV (rat_Int_ok m _ hx4) ?_
 refine QK 1 ?_
 subst r; exact QE .ret
theorem proof_holds_ok (m : Tp) (p0 : List (List Fq)) (p1 : List Fq) (p2 : List Fq) (p3 : Int) (p4 : List Fq) (p5 : List Fq) (p6 : List Fq) {r : Bool} (h : proof_holds p0 p1 p2 p3 p4 p5 p6 r) : ASpec Tryz.prog (gtT m) 29 [.agg [.pd (.sl (p0.map elQ3)), .pd (.sl (p1.map elQ4)), .pd (.sl (p2.map elQ4))], .agg [.pd (.int .i64 p3), .pd (.sl (p4.map elQ4)), .pd (.sl (p5.map elQ4)), .pd (.sl (p6.map elQ4))]] (· = .pd (.bool r)) := by
 refine ASpec_tree Tryz.f29 mixedT (askO [9, 10, 11] false [49]) (by kernel_rfl) ?_
 unfold proof_holds at h
 let o1 : Ob := .cells [.pd (.sl (p0.map elQ3)), .pd (.sl (p1.map elQ4)), .pd (.sl (p2.map elQ4))] 1 0 false
 let o2 : Ob := .cells [.pd (.int .i64 p3), .pd (.sl (p4.map elQ4)), .pd (.sl (p5.map elQ4)), .pd (.sl (p6.map elQ4))] 1 0 false
 refine QK 4 ?_
 refine QBp h (fun hp1 h => ?_) (fun hp1 h => ?_)
 ·refine QK 3 ?_
  obtain ⟨x2, x3, x4, x5, hx6, h⟩ := h
  refine QV (proof_Lower_ok m _ _ _ _ hx6) ?_
  cases x5
  ·replace h := h.f rfl
   refine QK 1 ?_
   refine QD ?_
   subst r; exact QE .ret
  replace h := h.t rfl
  refine QK 1 ?_
  refine QD ?_
  refine QK 3 ?_
  obtain ⟨x7, hx8, h⟩ := h
  refine QVd (shape_Does_ok m _ _ _ _ hx8) ?_
  cases x7
  ·replace h := h.f rfl
   subst r; exact QE .ret
  replace h := h.t rfl
  refine QK 5 ?_
  obtain ⟨x9, x10, x11, hx12, h⟩ := h
  refine QVd (vec_Dot_ok m _ _ hx12) ?_
  obtain ⟨x13, hx14, h⟩ := h
  refine QVd (rat_Compare_ok m _ _ _ _ _ _ hx14) ?_
  refine QBp h (fun hp15 h => ?_) (fun hp15 h => ?_)
  ·subst r; exact QE .ret
  subst r; exact QE .ret
 refine QBp h (fun hp16 h => ?_) (fun hp16 h => ?_)
 ·refine QK 3 ?_
  refine QIN (g := 66) (args := [.agg [.pd (.sl (p0.map elQ3)), .pd (.sl (p1.map elQ4)), .pd (.sl (p2.map elQ4))], .pd (.sl (p5.map elQ4)), .fn (.func 67) [] []]) (M := [o1, o2]) Tryz.f66 mixedT (askO [9, 10, 11] false [49]) (hasT 66 (by kernel_rfl)) ?_
  refine QK 1 ?_
  refine QL [o1, o2, o1] 26 67 elQ4 p5 ?_
  refine QK 2 ?_
  refine QL [o1, o2, o1] 36 26 elQ3 p0 ?_
  refine QBp h (fun hp17 h => ?_) (fun hp17 h => ?_)
  ·refine QEM .ret (.pd (.bool false)) ([o1, o2, o1]) ?_
   subst r; exact QE .ret
  refine QK 2 ?_
  refine QL [o1, o2, o1] 26 67 elQ4 p2 ?_
  refine QLP (F := proof_holds_L1 p0 p1 p2 p5 r) (s0 := (0 : Int)) h () 31 3
   (fun s100 () => [(1, .pd (.sl (p5.map elQ4))), (2, .fn (.func 67) [] []), (3, .ptr 2 0 0), (16, .pd (.int .i64 (p2.length : Int))), (17, .pd (.int .i64 s100))])
   (fun s100 () => [o1, o2, o1]) (fun s100 () => True) trivial [] mixedT (askO [9, 10, 11] false [49]) ?_
  rintro X1 s100 ⟨⟩ - h
  dsimp only [proof_holds_L1] at h
  refine QBp h (fun hp18 h => ?_) (fun hp18 h => ?_)
  ·refine QK 1 ?_
   obtain ⟨x19, hx20, h⟩ := h
   refine QV (shape_Column_ok m _ _ _ _ hx20) ?_
   obtain ⟨x21, x22, x23, hx24, h⟩ := h
   refine QV (vec_Dot_ok m _ _ hx24) ?_
   obtain ⟨x25, x26, x27, hx28, h⟩ := h
   refine QV (proof_holds_1_ok m _ hx28) ?_
   obtain ⟨x29, hx30, h⟩ := h
   refine QV (rat_Compare_ok m _ _ _ _ _ _ hx30) ?_
   refine QBp h (fun hp31 h => ?_) (fun hp31 h => ?_)
   ·refine QR .ret ?_
    refine QEM .ret (.pd (.bool false)) ([o1, o2, o1]) ?_
    subst r; exact QE .ret
   exact QG () h trivial
  refine QR (.exit 0) ?_
  refine QEM .ret (.pd (.bool true)) ([o1, o2, o1]) ?_
  refine QK 4 ?_
  obtain ⟨x32, x33, x34, hx35, h⟩ := h
  refine QV (vec_Dot_ok m _ _ hx35) ?_
  obtain ⟨x36, hx37, h⟩ := h
  refine QV (rat_Sign_ok m _ _ _ hx37) ?_
  refine QBp h (fun hp38 h => ?_) (fun hp38 h => ?_)
  ·subst r; exact QE .ret
  subst r; exact QE .ret
 let q1 : Mem := [o1, o2]
 refine H_drawM [0, 1, 2, 3, 4, 5, 6, 7, 8, 9] [(0, (Pre q1)), (1, (Pre q1)), (2, (Pre q1)), (3, (Pre q1)), (7, (Pre q1)), (8, (Pre q1))] ([o1, o2]) (by kernel_rfl) (by kernel_rfl) ⟨⟨[], rfl⟩, ⟨[], rfl⟩, ⟨[], rfl⟩, ⟨[], rfl⟩, ⟨[], rfl⟩, ⟨[], rfl⟩, trivial⟩ ?_
 refine H_askM (Pre q1) (.ptr 0 0 0) (by kernel_rfl) (by kernel_rfl) (by rintro _ ⟨_, rfl⟩; kernel_rfl) ?_
 refine H_askM (Pre q1) (.pd (.sl (p0.map elQ3))) (by kernel_rfl) (by kernel_rfl) (by rintro _ ⟨_, rfl⟩; kernel_rfl) ?_
 refine H_askM (Pre q1) (.ptr 0 1 0) (by kernel_rfl) (by kernel_rfl) (by rintro _ ⟨_, rfl⟩; kernel_rfl) ?_
 refine H_askM (Pre q1) (.pd (.sl (p1.map elQ4))) (by kernel_rfl) (by kernel_rfl) (by rintro _ ⟨_, rfl⟩; kernel_rfl) ?_
 refine H_askall _ (by kernel_rfl) (fun M' => ask_len (P := Tryz.prog) (M := M') (t := 26) (et := 67) (el := elQ4) (by kernel_rfl) (e := p1)) ?_
 obtain ⟨hx39, h⟩ := h
 let o5 : Ob := .cells (rowC lvI64 (List.replicate (Int.toNat (p1.length : Int)) (0 : Int))) 1 0 false
 refine H_mkf (x := .sl ((List.replicate (Int.toNat (p1.length : Int)) (0 : Int)).map elI64)) (by kernel_rfl) (ask_make (P := Tryz.prog) (M := []) (t := 49) (k := .i64) (lv := lvI64) (by_ := 8) (n := (p1.length : Int)) (z := (0 : Int)) okI64 ⟨3, .int .i64 0, by kernel_rfl, by kernel_rfl, rfl, by kernel_rfl, by decide, rfl⟩ hx39.1 hx39.2.1 hx39.2.2) (own_pd (b := 0) okI64 (by decide) lgI64 (M := [o5]) (o := o5) rfl (rowIs_c (lv := lvI64) (s := 1) (e := (List.replicate (Int.toNat (p1.length : Int)) (0 : Int))) (ver := 0) (z := false)) (n := (List.replicate (Int.toNat (p1.length : Int)) (0 : Int)).length) rfl) ?_
 obtain ⟨x40, hx41, h⟩ := h
 refine H_valWF (g := 23) (args := [.pd (.sl ((List.replicate (Int.toNat (p1.length : Int)) (0 : Int)).map elI64))]) (.pd (.sl (x40.map elQ4))) (by kernel_rfl) (by kernel_rfl) (vec_Ints_ok m _ hx41) (by kernel_rfl) (hasT 23 (by kernel_rfl)) ?_
 refine H_askM (Pre q1) (.ptr 0 2 0) (by kernel_rfl) (by kernel_rfl) (by rintro _ ⟨_, rfl⟩; kernel_rfl) ?_
 refine H_askM (Pre q1) (.pd (.sl (p2.map elQ4))) (by kernel_rfl) (by kernel_rfl) (by rintro _ ⟨_, rfl⟩; kernel_rfl) ?_
 refine QAA (.agg [.pd (.sl (p0.map elQ3)), .pd (.sl (x40.map elQ4)), .pd (.sl (p2.map elQ4))]) ?_
 refine H_chk (p := (Pre q1) [o1, o2, .cells [.fixed (([] : List (List Fq)).map elQ3), .fixed (([] : List Fq).map elQ4), .fixed (([] : List Fq).map elQ4)] 1 0 false] ∧ (Pre q1) [o1, o2, .cells [.fixed (([] : List (List Fq)).map elQ3), .fixed (([] : List Fq).map elQ4), .fixed (([] : List Fq).map elQ4)] 1 0 false] ∧ (Pre q1) [o1, o2, .cells [.fixed (([] : List (List Fq)).map elQ3), .fixed (([] : List Fq).map elQ4), .fixed (([] : List Fq).map elQ4)] 1 0 false] ∧ (Pre q1) [o1, o2, .cells [.fixed (([] : List (List Fq)).map elQ3), .fixed (([] : List Fq).map elQ4), .fixed (([] : List Fq).map elQ4)] 1 0 false] ∧ (Pre q1) [o1, o2, .cells [.fixed (([] : List (List Fq)).map elQ3), .fixed (([] : List Fq).map elQ4), .fixed (([] : List Fq).map elQ4)] 1 0 false] ∧ (Pre q1) [o1, o2, .cells [.fixed (([] : List (List Fq)).map elQ3), .fixed (([] : List Fq).map elQ4), .fixed (([] : List Fq).map elQ4)] 1 0 false] ∧ True) (by kernel_rfl) (by kernel_rfl) ⟨⟨[.cells [.fixed (([] : List (List Fq)).map elQ3), .fixed (([] : List Fq).map elQ4), .fixed (([] : List Fq).map elQ4)] 1 0 false], rfl⟩, ⟨[.cells [.fixed (([] : List (List Fq)).map elQ3), .fixed (([] : List Fq).map elQ4), .fixed (([] : List Fq).map elQ4)] 1 0 false], rfl⟩, ⟨[.cells [.fixed (([] : List (List Fq)).map elQ3), .fixed (([] : List Fq).map elQ4), .fixed (([] : List Fq).map elQ4)] 1 0 false], rfl⟩, ⟨[.cells [.fixed (([] : List (List Fq)).map elQ3), .fixed (([] : List Fq).map elQ4), .fixed (([] : List Fq).map elQ4)] 1 0 false], rfl⟩, ⟨[.cells [.fixed (([] : List (List Fq)).map elQ3), .fixed (([] : List Fq).map elQ4), .fixed (([] : List Fq).map elQ4)] 1 0 false], rfl⟩, ⟨[.cells [.fixed (([] : List (List Fq)).map elQ3), .fixed (([] : List Fq).map elQ4), .fixed (([] : List Fq).map elQ4)] 1 0 false], rfl⟩, trivial⟩ ?_
 refine QK 1 ?_
 refine H_chk (p := True) (by kernel_rfl) (by kernel_rfl) trivial ?_
 refine QK 3 ?_
 obtain ⟨x42, hx43, h⟩ := h
 refine QV (shape_Does_ok m _ _ _ _ hx43) ?_
 cases x42
 ·replace h := h.f rfl
  subst r; exact QE .ret
 replace h := h.t rfl
 refine QK 3 ?_
 obtain ⟨x44, hx45, h⟩ := h
 refine QV (shape_Does_ok m _ _ _ _ hx45) ?_
 cases x44
 ·replace h := h.f rfl
  subst r; exact QE .ret
 replace h := h.t rfl
 refine QK 4 ?_
 obtain ⟨x46, x47, x48, hx49, h⟩ := h
 refine QV (vec_Dot_ok m _ _ hx49) ?_
 obtain ⟨x50, hx51, h⟩ := h
 refine QV (rat_Sign_ok m _ _ _ hx51) ?_
 refine QBp h (fun hp52 h => ?_) (fun hp52 h => ?_)
 ·subst r; exact QE .ret
 subst r; exact QE .ret
theorem proof_Check_ok (m : Tp) (p0 : List (List Fq)) (p1 : List Fq) (p2 : List Fq) (p3 : Int) (p4 : List Fq) (p5 : List Fq) (p6 : List Fq) {r : Int} (h : proof_Check p0 p1 p2 p3 p4 p5 p6 r) : ASpec Tryz.prog (gtT m) 10 [.agg [.pd (.sl (p0.map elQ3)), .pd (.sl (p1.map elQ4)), .pd (.sl (p2.map elQ4))], .agg [.pd (.int .i64 p3), .pd (.sl (p4.map elQ4)), .pd (.sl (p5.map elQ4)), .pd (.sl (p6.map elQ4))]] (· = .pd (.int .i64 r)) := by
 refine ASpec_tree Tryz.f10 mixedT (askG [9, 10, 11] false) (by kernel_rfl) ?_
 unfold proof_Check at h
 refine QK 3 ?_
 obtain ⟨x1, hx2, h⟩ := h
 refine QV (shape_Right_ok m _ _ _ hx2) ?_
 cases x1
 ·replace h := h.f rfl
  subst r; exact QE .ret
 ·replace h := h.t rfl
  refine QK 1 ?_
  obtain ⟨x3, hx4, h⟩ := h
  refine QV (proof_Right_ok m _ _ _ _ hx4) ?_
  cases x3
  ·replace h := h.f rfl
   subst r; exact QE .ret
  ·replace h := h.t rfl
   refine QK 2 ?_
   obtain ⟨x5, hx6, h⟩ := h
   refine QV (proof_holds_ok m _ _ _ _ _ _ _ hx6) ?_
   cases x5
   ·replace h := h.f rfl
    subst r; exact QE .ret
   ·replace h := h.t rfl
    subst r; exact QE .ret
theorem vec_Scale_ok (m : Tp) (p0 : List Fq) (p1 : Bool) (p2 : List Int) (p3 : List Int) {r : (List Fq)} (h : vec_Scale p0 p1 p2 p3 r) : ASpec Tryz.prog (gtT m) 24 [.pd (.sl (p0.map elQ4)), .agg [.pd (.bool p1), .pd (.sl (p2.map elU32)), .pd (.sl (p3.map elU32))]] (· = .pd (.sl (r.map elQ4))) := by
 refine ASpec_tree Tryz.f24 mixedT (askG [9, 10, 11] true) (by kernel_rfl) ?_
 unfold vec_Scale at h
 let o1 : Ob := .cells [.pd (.bool p1), .pd (.sl (p2.map elU32)), .pd (.sl (p3.map elU32))] 1 0 false
 refine QK 1 ?_
 let o2 : Ob := rowV lvQ4 3 ([] : List Fq) 0 false
 refine QL [o1, o2, o2] 26 67 elQ4 p0 ?_
 refine QLP (F := vec_Scale_L1 p0 p1 p2 p3 r) (s0 := ((0 : Int), ([] : List Fq))) h (0, (([] : List Fq).length)) 22 3
  (fun (s100, s152) (v102, n102) => [(3, .ptr 0 0 0), (5, .own 2 n102 v102), (8, .pd (.sl (p0.map elQ4))), (9, .pd (.int .i64 (p0.length : Int))), (10, .pd (.int .i64 s100))])
  (fun (s100, s152) (v102, n102) => [o1, o2, rowV lvQ4 3 s152 v102 false]) (fun (s100, s152) (v102, n102) => n102 = s152.length) rfl [] mixedT (askG [9, 10, 11] true) ?_
 rintro X1 ⟨s100, s152⟩ ⟨v102, n102⟩ hn102 h
 dsimp only [vec_Scale_L1] at h
 refine QBp h (fun hp1 h => ?_) (fun hp1 h => ?_)
 ·obtain ⟨x2, x3, x4, hx5, h⟩ := h
  let o3 : Ob := rowV lvQ4 3 s152 v102 false
  refine QI [o1, o2, o3] 26 67 .i64 okQ4 leQ4 hx5 ?_
  let o4 : Ob := .cells [.pd (.bool x2), .pd (.sl (x3.map elU32)), .pd (.sl (x4.map elU32))] 1 0 false
  refine QK 4 ?_
  obtain ⟨x6, x7, x8, hx9, h⟩ := h
  refine QV (rat_Mul_ok m _ _ _ _ _ _ hx9) ?_
  obtain ⟨hx10, h⟩ := h
  refine QA [o1, o2, o3, o4] 2 s152 [(x6, x7, x8)] v102 26 26 56 okQ4 (src_fixed okQ4 leQ4) hn102 hx10 ?_
  exact QGC ((vnext s152 [(x6, x7, x8)] v102), ((s152 ++ [(x6, x7, x8)]).length)) h rfl (all_c (by kernel_rfl) (all_c (bel_rowV _) (all_c (bel_rowV _) all_n)))
 refine QR (.exit 0) ?_
 let o5 : Ob := rowV lvQ4 3 s152 v102 false
 subst r; exact QX .ret (.own 2 n102 v102) [o1, o2, o5] (pure_2to3 (pure_1to2 (po okQ4 lgQ4 2 s152 v102 n102 hn102) rfl) rfl)
end Go.Abs
end

section
namespace Go.Abs
open Go.RowKit Go.Proofs
set_option maxRecDepth 20000
theorem slices_Index_string_string_ok (m : Tp) (l : List Bz) (x : List UInt8) {r : Int} (h : slices_Index_string_string l x r) : ASpec Tryz.prog (gtT m) 95 [.pd (.sl (l.map PD.str)), .pd (.str x)] (· = .pd (.int .i64 r)) := by
 obtain ⟨hn, rfl⟩ := h
 refine ASpec.of_calls _ (by simp [AV.pure]) fun cx w vs hA hG hlt => ?_
 obtain ⟨v0, h0, r0⟩ := args_at hA 0 rfl
 obtain ⟨v1, h1, r1⟩ := args_at hA 1 rfl
 rw [str_inv r1] at h1
 have hp : PRep cx.imm w v0 (.sl (l.map PD.str)) := by cases r0 with | pd v x h => exact h
 rcases strs_inv hp with ⟨rfl, rfl⟩ | ⟨a, cap, rfl, hcap, hI, hc⟩
 ·rw [vs2 hA.1 h0 h1]
  refine (Tryz.slices_Index_string_empty none 0 ⟨x.toArray⟩ w).mono ?_
  rintro e w' ⟨rfl, rfl⟩
  exact ⟨_, rfl, Below.refl _ _, .pd _ _ (.int _ _)⟩
 ·rw [vs2 hA.1 h0 h1]
  cases l with
  | nil =>
   refine (Tryz.slices_Index_string_empty (some a) cap ⟨x.toArray⟩ w).mono ?_
   rintro e w' ⟨rfl, rfl⟩
   exact ⟨_, rfl, Below.refl _ _, .pd _ _ (.int _ _)⟩
  | cons y t =>
   obtain ⟨hsp, hIa⟩ := hI (by simp)
   have ea : a = ⟨a.block, a.off, none⟩ := by cases a; simp at hsp; subst hsp; rfl
   have := Tryz.slices_Index_string a.block a.off (y :: t).length cap ((y :: t).map fun s => ⟨s.toArray⟩) ⟨x.toArray⟩ w (by simp) (by omega) (fun j hj => ?_)
   ·rw [ea]
    refine this.mono ?_
    rintro e w' ⟨rfl, rfl⟩
    rw [List.take_of_length_le (by simp)]
    exact ⟨_, rfl, Below.refl _ _, .pd _ _ (.int _ _)⟩
   ·have hj' : j < (y :: t).length := by simpa using hj
    have := hc j _ (List.getElem?_eq_getElem hj')
    rw [this]
    simp only [List.getD_eq_getElem?_getD, List.getElem?_map, List.getElem?_eq_getElem hj', Option.map_some, Option.getD_some]
end Go.Abs
end

section
namespace Go.Abs
open Go.Proofs
set_option maxRecDepth 20000
theorem lines_Index_ok (m : Tp) (p0 : List Bz) (p1 : List UInt8) {r : Int} (h : lines_Index p0 p1 r) : ASpec Tryz.prog (gtT m) 48 [.pd (.sl (p0.map elS)), .pd (.str p1)] (· = .pd (.int .i64 r)) := by
 refine ASpec_tree Tryz.f48 mixedT (askG [9, 10, 11] false) (by kernel_rfl) ?_
 unfold lines_Index at h
 obtain ⟨x1, hx2, h⟩ := h
 refine QV (slices_Index_string_string_ok m _ _ hx2) ?_
 subst r; exact QE .ret
end Go.Abs
end

section
namespace Go.Abs
open Go.RowKit Go.Proofs
set_option maxRecDepth 100000
def strsOf : List PD → Option (List Bz)
 | [] => some []
 | .str s :: l => match strsOf l with | some r => some (s :: r) | none => none
 | _ => none
theorem strsOf_ok : ∀ {l : List PD} {r : List Bz}, strsOf l = some r → l = r.map PD.str
 | [], r, h => by cases h; rfl
 | .str s :: l, r, h => by
  unfold strsOf at h
  split at h
  ·rename_i r' hr
   cases h
   rw [strsOf_ok hr]; rfl
  ·cases h
 | .int .. :: _, _, h => by cases h
 | .bool .. :: _, _, h => by cases h
 | .flt .. :: _, _, h => by cases h
 | .err .. :: _, _, h => by cases h
 | .agg .. :: _, _, h => by cases h
 | .sl .. :: _, _, h => by cases h
def orcSplit (s sep : List UInt8) (M : Mem) : Option (AV × Mem × Bool) :=
 match Nat.blt s.length 1000, sep with
 | true, [c] => some (.pd (.sl ((splitC c s).map PD.str)), M, false)
 | _, _ => none
def orcCut (s sep : List UInt8) (M : Mem) : Option (AV × Mem × Bool) :=
 match Nat.blt s.length 1000, sep with
 | true, [c] => some (.tup [.pd (.str (Lib.cut s [c]).1), .pd (.str (Lib.cut s [c]).2.1), .pd (.bool (Lib.cut s [c]).2.2)], M, false)
 | _, _ => none
def orcJ (l : List PD) (sep : List UInt8) (M : Mem) : Option (AV × Mem × Bool) :=
 match strsOf l with
 | some r => if Nat.blt r.length 1000 && Nat.blt (Lib.join r sep).length 1000 then some (.pd (.str (Lib.join r sep)), M, false) else none
 | none => none
def orcS (g : FuncId) (args : List AV) (M : Mem) : Option (AV × Mem × Bool) :=
 match g, args with
 | 39, [.pd (.str s), .pd (.str sep)] => orcSplit s sep M
 | 40, [.pd (.str s), .pd (.str sep)] => orcCut s sep M
 | 41, [.pd (.str s)] => if Nat.blt s.length 1000 && s.all (fun b => Nat.blt b.toNat 128) then some (.pd (.sl ((Lib.fields s).map PD.str)), M, false) else none
 | 85, [.pd (.sl l), .pd (.str sep)] => orcJ l sep M
 | 85, [.fixed l, .pd (.str sep)] => orcJ l sep M
 | _, _ => none
theorem told_ok {GT : Tabs} {f : FuncId} {args : List AV} {x : AV} {M : Mem} (he : Enters Tryz.prog f) (h : ASpec Tryz.prog GT f (args.map wk) (· = x)) (hp : (args.map wk).all pur2 = true) : CallOK Tryz.prog GT f args M (x, M, false) :=
 ⟨he, ACall.wk (h.atM (fun x hx => pur2_pure (List.all_eq_true.1 hp x hx)) M) rfl, fun _ => ⟨rfl, fun M2 => ACall.wk (h.atM (fun x hx => pur2_pure (List.all_eq_true.1 hp x hx)) M2) rfl⟩⟩
theorem orcS_ok (m : Tp) (f : FuncId) (args : List AV) (M : Mem) (z : AV × Mem × Bool) (h : orcS f args M = some z) : CallOK Tryz.prog (gtT m) f args M z := by
 unfold orcS at h
 split at h
 ·rename_i s sep
  unfold orcSplit at h
  split at h
  ·rename_i c hl
   cases h
   refine told_ok (hasT 39 (by kernel_rfl)) (strings_Split_ok m s [c] ⟨?_, c, rfl, rfl⟩) rfl
   simp at hl; unfold Short; omega
  ·cases h
 ·rename_i s sep
  unfold orcCut at h
  split at h
  ·rename_i c hl
   cases h
   refine told_ok (hasT 40 (by kernel_rfl)) (strings_Cut_ok m s [c] ⟨?_, c, rfl, rfl⟩) rfl
   simp at hl; unfold Short; omega
  ·cases h
 ·rename_i s
  split at h
  ·rename_i hl
   cases h
   simp only [Bool.and_eq_true, Nat.blt_eq, List.all_eq_true] at hl
   refine told_ok (hasT 41 (by kernel_rfl)) (strings_Fields_ok m s ⟨?_, hl.2, rfl⟩) rfl
   unfold Short; omega
  ·cases h
 ·rename_i l sep
  unfold orcJ at h
  split at h
  ·rename_i r hr
   split at h
   ·rename_i hl
    cases h
    simp only [Bool.and_eq_true, Nat.blt_eq] at hl
    obtain rfl := strsOf_ok hr
    exact told_ok (hasT 85 (by kernel_rfl)) (strings_Join_ok m r sep ⟨by omega, by omega, rfl⟩) rfl
   ·cases h
  ·cases h
 ·rename_i l sep
  unfold orcJ at h
  split at h
  ·rename_i r hr
   split at h
   ·rename_i hl
    cases h
    simp only [Bool.and_eq_true, Nat.blt_eq] at hl
    obtain rfl := strsOf_ok hr
    exact told_ok (hasT 85 (by kernel_rfl)) (strings_Join_ok m r sep ⟨by omega, by omega, rfl⟩) rfl
   ·cases h
  ·cases h
 ·cases h
end Go.Abs
end

section
namespace Go.Abs
open Go.RowKit Go.Proofs
set_option maxRecDepth 100000
def orcX (l : List PD) (x : List UInt8) (M : Mem) : Option (AV × Mem × Bool) :=
 match strsOf l with
 | some r => if Nat.blt r.length 1000 then some (.pd (.int .i64 (Lib.idxOfS (r.map fun s => (⟨s.toArray⟩ : ByteArray)) ⟨x.toArray⟩)), M, false) else none
 | none => none
def orcN (g : FuncId) (args : List AV) (M : Mem) : Option (AV × Mem × Bool) :=
 match orcS g args M with
 | some z => some z
 | none =>
  match g, args with
  | 202, [.pd (.str s), .pd (.str sep)] => some (.tup [.pd (.str (Lib.trimPrefix s sep)), .pd (.bool (Lib.hasPrefix s sep))], M, false)
  | 42, [.pd (.str s), .pd (.str sep)] => if Nat.blt s.length 1000 then some (.tup [.pd (.str (Lib.trimSuffix s sep)), .pd (.bool (Lib.hasSuffix s sep))], M, false) else none
  | 92, [.pd (.str s), .pd (.str sep)] => if Nat.blt s.length 1000 then some (.pd (.bool (Lib.contains s sep)), M, false) else none
  | 153, [.pd (.sl [])] => some (.pd (.sl []), M, false)
  | 153, [.fixed []] => some (.pd (.sl []), M, false)
  | 95, [.pd (.sl l), .pd (.str x)] => orcX l x M
  | 95, [.fixed l, .pd (.str x)] => orcX l x M
  | _, _ => none
theorem orcX_ok (m : Tp) (l : List PD) (x : List UInt8) (a : AV) (M : Mem) (z : AV × Mem × Bool) (ha : a = .pd (.sl l) ∨ a = .fixed l) (h : orcX l x M = some z) : CallOK Tryz.prog (gtT m) 95 [a, .pd (.str x)] M z := by
 unfold orcX at h
 split at h
 ·rename_i r hr
  split at h
  ·rename_i hl
   cases h
   simp only [Nat.blt_eq] at hl
   obtain rfl := strsOf_ok hr
   have := slices_Index_string_string_ok m r x ⟨by omega, rfl⟩
   rcases ha with rfl | rfl
   ·exact told_ok (hasT 95 (by kernel_rfl)) this rfl
   ·exact told_ok (hasT 95 (by kernel_rfl)) this rfl
  ·cases h
 ·cases h
theorem orcN_ok (m : Tp) (f : FuncId) (args : List AV) (M : Mem) (z : AV × Mem × Bool) (h : orcN f args M = some z) : CallOK Tryz.prog (gtT m) f args M z := by
 unfold orcN at h
 split at h
 ·rename_i z' hz
  cases h
  exact orcS_ok m f args M _ hz
 ·split at h
  ·rename_i s sep _
   cases h
   exact told_ok (hasT 202 (by kernel_rfl)) (strings_CutPrefix_ok m s sep rfl) rfl
  ·rename_i s sep _
   split at h
   ·rename_i hl
    cases h
    simp only [Nat.blt_eq] at hl
    exact told_ok (hasT 42 (by kernel_rfl)) (strings_CutSuffix_ok m s sep ⟨by omega, rfl⟩) rfl
   ·cases h
  ·rename_i s sep _
   split at h
   ·rename_i hl
    cases h
    simp only [Nat.blt_eq] at hl
    exact told_ok (hasT 92 (by kernel_rfl)) (strings_Contains_ok m s sep ⟨by unfold Short; omega, rfl⟩) rfl
   ·cases h
  ·cases h
   exact told_ok (hasT 153 (by kernel_rfl)) clone_spec rfl
  ·cases h
   exact told_ok (hasT 153 (by kernel_rfl)) clone_spec rfl
  ·rename_i l x _
   exact orcX_ok m l x _ M z (.inl rfl) h
  ·rename_i l x _
   exact orcX_ok m l x _ M z (.inr rfl) h
  ·cases h
end Go.Abs
end
