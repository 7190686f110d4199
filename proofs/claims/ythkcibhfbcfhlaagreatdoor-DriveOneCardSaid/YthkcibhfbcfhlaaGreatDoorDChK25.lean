/- Part of a proof, in few files: G21mW. -/
import Derived.Test.YthkcibhfbcfhlaaGreatDoorDChK15
import Derived.Test.YthkcibhfbcfhlaaGreatDoorDChK16
import Derived.Test.YthkcibhfbcfhlaaGreatDoorDChK18
import Derived.Test.YthkcibhfbcfhlaaGreatDoorDChK22
import Derived.Test.YthkcibhfbcfhlaaGreatDoorDChK24

set_option linter.unusedVariables false
set_option linter.unusedSimpArgs false
set_option linter.unnecessarySimpa false
section
namespace Go.Abs
open Go.Proofs
set_option maxHeartbeats 4000000
set_option maxRecDepth 20000
def lvQ0 (x : Bz × (List Fq) × Int × Fq) : List PD := [.str x.1, .sl (x.2.1.map elQ4), .int .i64 x.2.2.1, .bool x.2.2.2.1, .sl (x.2.2.2.2.1.map elU32), .sl (x.2.2.2.2.2.map elU32)]
def elQ0 (x : Bz × (List Fq) × Int × Fq) : PD := .agg [.str x.1, .sl (x.2.1.map elQ4), .int .i64 x.2.2.1, .bool x.2.2.2.1, .sl (x.2.2.2.2.1.map elU32), .sl (x.2.2.2.2.2.map elU32)]
theorem okQ0 : LVok lvQ0 6 := fun _ => ⟨rfl, rfl⟩
theorem leQ0 : ELok elQ0 lvQ0 := fun _ => rfl
theorem lgQ0 : ELg elQ0 lvQ0 6 := fun _ => rfl
def lvQ2 (x : Bz × Fq) : List PD := [.str x.1, .bool x.2.1, .sl (x.2.2.1.map elU32), .sl (x.2.2.2.map elU32)]
def elQ2 (x : Bz × Fq) : PD := .agg [.str x.1, .bool x.2.1, .sl (x.2.2.1.map elU32), .sl (x.2.2.2.map elU32)]
theorem okQ2 : LVok lvQ2 4 := fun _ => ⟨rfl, rfl⟩
theorem leQ2 : ELok elQ2 lvQ2 := fun _ => rfl
theorem lgQ2 : ELg elQ2 lvQ2 4 := fun _ => rfl
def lvQ1 (x : List (Bz × Fq)) : List PD := [.sl (x.map elQ2)]
def elQ1 (x : List (Bz × Fq)) : PD := .sl (x.map elQ2)
theorem okQ1 : LVok lvQ1 1 := fun _ => ⟨rfl, rfl⟩
theorem leQ1 : ELok elQ1 lvQ1 := fun _ => rfl
theorem model_sum_ok (m : Tp) (p0 : List Bz) {r : (List (Bz × Fq)) × Bool} (h : model_sum p0 r) : ASpec Tryz.prog (gtT m) 45 [.pd (.sl (p0.map elS))] (· = .tup [.pd (.sl (r.1.map elQ2)), .pd (.bool r.2)]) := by
 refine ASpec_tree Tryz.f45 mixedT (askG [9, 10, 11] true) (by kernel_rfl) ?_
 unfold model_sum at h
 let o1 : Ob := rowV lvQ2 4 ([] : List (Bz × Fq)) 0 false
 refine QL [o1] 25 9 elS p0 ?_
 refine QBp h (fun hp1 h => ?_) (fun hp1 h => ?_)
 ·obtain ⟨x2, hx3, h⟩ := h
  refine QI [o1] 25 9 .i64 okS leS hx3 ?_
  refine QK 1 ?_
  refine QB h (fun h => ?_) (fun h => ?_)
  ·subst r; exact QT .ret okQ2 lgQ2 1 0 rfl
  refine QLP (F := model_sum_L1 r) (s0 := (p0, true, ([] : List (Bz × Fq)))) h (0, (([] : List (Bz × Fq)).length)) 103 2
   (fun (s100, s101, s151) (v101, n101) => [(0, .pd (.sl (s100.map elS))), (4, .own 1 n101 v101), (5, .pd (.bool s101))])
   (fun (s100, s101, s151) (v101, n101) => [o1, rowV lvQ2 4 s151 v101 false]) (fun (s100, s101, s151) (v101, n101) => n101 = s151.length) rfl [] mixedT (askG [9, 10, 11] true) ?_
  rintro X1 ⟨s100, s101, s151⟩ ⟨v101, n101⟩ hn101 h
  dsimp only [model_sum_L1] at h
  cases s101
  ·replace h := h.f rfl
   let o2 : Ob := rowV lvQ2 4 s151 v101 false
   refine QL [o1, o2] 25 9 elS s100 ?_
   refine QBp h (fun hp208 h => ?_) (fun hp208 h => ?_)
   ·obtain ⟨x209, x210, x211, hx212, h⟩ := h
    refine QV (rat_Int_ok m _ hx212) ?_
    let o3 : Ob := .cells [.pd (.bool x209), .pd (.sl (x210.map elU32)), .pd (.sl (x211.map elU32))] 1 0 false
    refine QK 1 ?_
    refine QL [o1, o2, o3] 25 9 elS s100 ?_
    refine QP (decide ((s100.length : Int) > (0 : Int))) (fun _ => ?_) (fun hc => by simp only [Dq] at hp208 hc; omega)
    obtain ⟨x213, hx214, h⟩ := h
    refine QI [o1, o2, o3] 25 9 .i64 okS leS hx214 ?_
    refine QK 1 ?_
    refine QB h (fun h => ?_) (fun h => ?_)
    ·refine H_drawF [2] (by kernel_rfl) ?_
     obtain ⟨x215, x216, x217, hx218, h⟩ := h
     refine QVd (rat_Int_ok m _ hx218) ?_
     obtain ⟨hx219, h⟩ := h
     refine H_askall _ (by kernel_rfl) (fun M' => ask_sub (P := Tryz.prog) (M := M') (t := 25) (et := 9) (lv := lvS) (lo := (some (1 : Int))) (hi := none) okS leS (by kernel_rfl) (by kernel_rfl) hx219) ?_
     let o4 : Ob := .cells [.pd (.bool x215), .pd (.sl (x216.map elU32)), .pd (.sl (x217.map elU32))] 1 0 false
     refine QK 1 ?_
     obtain ⟨x220, x221, x222, hx223, h⟩ := h
     refine QV (rat_Int_ok m _ hx223) ?_
     let o5 : Ob := .cells [.pd (.bool x220), .pd (.sl (x221.map elU32)), .pd (.sl (x222.map elU32))] 1 0 false
     refine QK 1 ?_
     refine QL [o1, o2, o4, o5] 25 9 elS (sub s100 (1 : Int) (s100.length : Int)) ?_
     refine QBp h (fun hp224 h => ?_) (fun hp224 h => ?_)
     ·obtain ⟨x225, hx226, h⟩ := h
      refine QI [o1, o2, o4, o5] 25 9 .i64 okS leS hx226 ?_
      refine QK 1 ?_
      obtain ⟨x227, hx228, h⟩ := h
      refine QV (strings_Contains_ok m _ _ hx228) ?_
      cases x227
      ·replace h := h.f rfl
       obtain ⟨x241, hx242, h⟩ := h
       refine QI [o1, o2, o4, o5] 25 9 .i64 okS leS hx242 ?_
       refine QK 1 ?_
       obtain ⟨x243, x244, x245, x246, hx247, h⟩ := h
       refine QV (lines_Number_ok m _ hx247) ?_
       cases x246
       ·replace h := h.f rfl
        let o6 : Ob := .cells [.pd (.bool x243), .pd (.sl (x244.map elU32)), .pd (.sl (x245.map elU32))] 1 0 false
        refine QK 1 ?_
        refine QL [o1, o2, o4, o5, o6] 25 9 elS (sub s100 (1 : Int) (s100.length : Int)) ?_
        refine QP (((sub s100 (1 : Int) (s100.length : Int)).length : Int) == (0 : Int)) (fun hc => by simp only [Dq] at hp224 hc; omega) (fun _ => ?_)
        obtain ⟨x262, hx263, h⟩ := h
        refine QI [o1, o2, o4, o5, o6] 25 9 .i64 okS leS hx263 ?_
        refine QK 1 ?_
        obtain ⟨x264, hx265, h⟩ := h
        refine QV (lines_Name_ok m _ hx265) ?_
        cases x264
        ·replace h := h.f rfl
         refine QR .ret ?_
         subst r; exact QT .ret okQ2 lgQ2 5 0 rfl
        replace h := h.t rfl
        refine QD ?_
        obtain ⟨x266, hx267, h⟩ := h
        refine QI [o1, o2, o4, o5, o6] 25 9 .i64 okS leS hx267 ?_
        refine QK 3 ?_
        obtain ⟨x268, x269, x270, hx271, h⟩ := h
        refine QVd (rat_Mul_ok m _ _ _ _ _ _ hx271) ?_
        refine QK 1 ?_
        obtain ⟨hx272, h⟩ := h
        refine QA [o1, o2, o4, o5, o6] 1 s151 [(x266, x268, x269, x270)] v101 61 61 72 okQ2 (src_fixed okQ2 leQ2) hn101 hx272 ?_
        obtain ⟨hx273, h⟩ := h
        let o8 : Ob := rowV lvQ2 4 (s151 ++ [(x266, x268, x269, x270)]) (vnext s151 [(x266, x268, x269, x270)] v101) false
        refine QS [o1, o8, o4, o5, o6] 25 9 (some (1 : Int)) none okS leS hx273 ?_
        exact QGC ((vnext s151 [(x266, x268, x269, x270)] v101), ((s151 ++ [(x266, x268, x269, x270)]).length)) h rfl (all_c (bel_rowV _) (all_c (bel_rowV _) all_n))
       replace h := h.t rfl
       let o9 : Ob := .cells [.pd (.bool x243), .pd (.sl (x244.map elU32)), .pd (.sl (x245.map elU32))] 1 0 false
       refine QK 1 ?_
       refine H_drawF [2] (by kernel_rfl) ?_
       refine QK 1 ?_
       obtain ⟨hx248, h⟩ := h
       refine H_askall _ (by kernel_rfl) (fun M' => ask_sub (P := Tryz.prog) (M := M') (t := 25) (et := 9) (lv := lvS) (lo := (some (1 : Int))) (hi := none) okS leS (by kernel_rfl) (by kernel_rfl) hx248) ?_
       refine QK 1 ?_
       refine QL [o1, o2, o4, o9, o9] 25 9 elS (sub (sub s100 (1 : Int) (s100.length : Int)) (1 : Int) ((sub s100 (1 : Int) (s100.length : Int)).length : Int)) ?_
       refine QBp h (fun hp249 h => ?_) (fun hp249 h => ?_)
       ·refine QR .ret ?_
        subst r; exact QT .ret okQ2 lgQ2 5 0 rfl
       obtain ⟨x250, hx251, h⟩ := h
       refine QI [o1, o2, o4, o9, o9] 25 9 .i64 okS leS hx251 ?_
       refine QK 1 ?_
       obtain ⟨x252, hx253, h⟩ := h
       refine QV (lines_Name_ok m _ hx253) ?_
       cases x252
       ·replace h := h.f rfl
        refine QR .ret ?_
        subst r; exact QT .ret okQ2 lgQ2 5 0 rfl
       replace h := h.t rfl
       refine QD ?_
       obtain ⟨x254, hx255, h⟩ := h
       refine QI [o1, o2, o4, o9, o9] 25 9 .i64 okS leS hx255 ?_
       refine QK 3 ?_
       obtain ⟨x256, x257, x258, hx259, h⟩ := h
       refine QVd (rat_Mul_ok m _ _ _ _ _ _ hx259) ?_
       refine QK 1 ?_
       obtain ⟨hx260, h⟩ := h
       refine QA [o1, o2, o4, o9, o9] 1 s151 [(x254, x256, x257, x258)] v101 61 61 72 okQ2 (src_fixed okQ2 leQ2) hn101 hx260 ?_
       obtain ⟨hx261, h⟩ := h
       let o12 : Ob := rowV lvQ2 4 (s151 ++ [(x254, x256, x257, x258)]) (vnext s151 [(x254, x256, x257, x258)] v101) false
       refine QS [o1, o12, o4, o9, o9] 25 9 (some (1 : Int)) none okS leS hx261 ?_
       exact QGC ((vnext s151 [(x254, x256, x257, x258)] v101), ((s151 ++ [(x254, x256, x257, x258)]).length)) h rfl (all_c (bel_rowV _) (all_c (bel_rowV _) all_n))
      replace h := h.t rfl
      refine QL [o1, o2, o4, o5] 25 9 elS (sub s100 (1 : Int) (s100.length : Int)) ?_
      refine QP (((sub s100 (1 : Int) (s100.length : Int)).length : Int) == (0 : Int)) (fun hc => by simp only [Dq] at hp224 hc; omega) (fun _ => ?_)
      obtain ⟨x229, hx230, h⟩ := h
      refine QI [o1, o2, o4, o5] 25 9 .i64 okS leS hx230 ?_
      refine QK 1 ?_
      obtain ⟨x231, hx232, h⟩ := h
      refine QV (lines_Name_ok m _ hx232) ?_
      cases x231
      ·replace h := h.f rfl
       refine QR .ret ?_
       subst r; exact QT .ret okQ2 lgQ2 4 0 rfl
      replace h := h.t rfl
      refine QD ?_
      obtain ⟨x233, hx234, h⟩ := h
      refine QI [o1, o2, o4, o5] 25 9 .i64 okS leS hx234 ?_
      refine QK 3 ?_
      obtain ⟨x235, x236, x237, hx238, h⟩ := h
      refine QVd (rat_Mul_ok m _ _ _ _ _ _ hx238) ?_
      refine QK 1 ?_
      obtain ⟨hx239, h⟩ := h
      refine QA [o1, o2, o4, o5] 1 s151 [(x233, x235, x236, x237)] v101 61 61 72 okQ2 (src_fixed okQ2 leQ2) hn101 hx239 ?_
      obtain ⟨hx240, h⟩ := h
      let o13 : Ob := rowV lvQ2 4 (s151 ++ [(x233, x235, x236, x237)]) (vnext s151 [(x233, x235, x236, x237)] v101) false
      refine QS [o1, o13, o4, o5] 25 9 (some (1 : Int)) none okS leS hx240 ?_
      exact QGC ((vnext s151 [(x233, x235, x236, x237)] v101), ((s151 ++ [(x233, x235, x236, x237)]).length)) h rfl (all_c (bel_rowV _) (all_c (bel_rowV _) all_n))
     refine QL [o1, o2, o4, o5] 25 9 elS (sub s100 (1 : Int) (s100.length : Int)) ?_
     refine QBp h (fun hp274 h => ?_) (fun hp274 h => ?_)
     ·refine QR .ret ?_
      subst r; exact QT .ret okQ2 lgQ2 4 0 rfl
     obtain ⟨x275, hx276, h⟩ := h
     refine QI [o1, o2, o4, o5] 25 9 .i64 okS leS hx276 ?_
     refine QK 1 ?_
     obtain ⟨x277, hx278, h⟩ := h
     refine QV (lines_Name_ok m _ hx278) ?_
     cases x277
     ·replace h := h.f rfl
      refine QR .ret ?_
      subst r; exact QT .ret okQ2 lgQ2 4 0 rfl
     replace h := h.t rfl
     refine QD ?_
     obtain ⟨x279, hx280, h⟩ := h
     refine QI [o1, o2, o4, o5] 25 9 .i64 okS leS hx280 ?_
     refine QK 3 ?_
     obtain ⟨x281, x282, x283, hx284, h⟩ := h
     refine QVd (rat_Mul_ok m _ _ _ _ _ _ hx284) ?_
     refine QK 1 ?_
     obtain ⟨hx285, h⟩ := h
     refine QA [o1, o2, o4, o5] 1 s151 [(x279, x281, x282, x283)] v101 61 61 72 okQ2 (src_fixed okQ2 leQ2) hn101 hx285 ?_
     obtain ⟨hx286, h⟩ := h
     let o14 : Ob := rowV lvQ2 4 (s151 ++ [(x279, x281, x282, x283)]) (vnext s151 [(x279, x281, x282, x283)] v101) false
     refine QS [o1, o14, o4, o5] 25 9 (some (1 : Int)) none okS leS hx286 ?_
     exact QGC ((vnext s151 [(x279, x281, x282, x283)] v101), ((s151 ++ [(x279, x281, x282, x283)]).length)) h rfl (all_c (bel_rowV _) (all_c (bel_rowV _) all_n))
    refine QL [o1, o2, o3] 25 9 elS s100 ?_
    refine QP (decide ((s100.length : Int) > (0 : Int))) (fun _ => ?_) (fun hc => by simp only [Dq] at hp208 hc; omega)
    obtain ⟨x287, hx288, h⟩ := h
    refine QI [o1, o2, o3] 25 9 .i64 okS leS hx288 ?_
    refine QK 1 ?_
    refine QB h (fun h => ?_) (fun h => ?_)
    ·obtain ⟨hx289, h⟩ := h
     refine QS [o1, o2, o3] 25 9 (some (1 : Int)) none okS leS hx289 ?_
     obtain ⟨x290, x291, x292, hx293, h⟩ := h
     refine QV (rat_Int_ok m _ hx293) ?_
     let o15 : Ob := .cells [.pd (.bool x290), .pd (.sl (x291.map elU32)), .pd (.sl (x292.map elU32))] 1 0 false
     refine QK 1 ?_
     refine QL [o1, o2, o3, o15] 25 9 elS (sub s100 (1 : Int) (s100.length : Int)) ?_
     refine QBp h (fun hp294 h => ?_) (fun hp294 h => ?_)
     ·obtain ⟨x295, hx296, h⟩ := h
      refine QI [o1, o2, o3, o15] 25 9 .i64 okS leS hx296 ?_
      refine QK 1 ?_
      obtain ⟨x297, hx298, h⟩ := h
      refine QV (strings_Contains_ok m _ _ hx298) ?_
      cases x297
      ·replace h := h.f rfl
       obtain ⟨x311, hx312, h⟩ := h
       refine QI [o1, o2, o3, o15] 25 9 .i64 okS leS hx312 ?_
       refine QK 1 ?_
       obtain ⟨x313, x314, x315, x316, hx317, h⟩ := h
       refine QV (lines_Number_ok m _ hx317) ?_
       cases x316
       ·replace h := h.f rfl
        let o16 : Ob := .cells [.pd (.bool x313), .pd (.sl (x314.map elU32)), .pd (.sl (x315.map elU32))] 1 0 false
        refine QK 1 ?_
        refine QL [o1, o2, o3, o15, o16] 25 9 elS (sub s100 (1 : Int) (s100.length : Int)) ?_
        refine QP (((sub s100 (1 : Int) (s100.length : Int)).length : Int) == (0 : Int)) (fun hc => by simp only [Dq] at hp294 hc; omega) (fun _ => ?_)
        obtain ⟨x332, hx333, h⟩ := h
        refine QI [o1, o2, o3, o15, o16] 25 9 .i64 okS leS hx333 ?_
        refine QK 1 ?_
        obtain ⟨x334, hx335, h⟩ := h
        refine QV (lines_Name_ok m _ hx335) ?_
        cases x334
        ·replace h := h.f rfl
         refine QR .ret ?_
         subst r; exact QT .ret okQ2 lgQ2 5 0 rfl
        replace h := h.t rfl
        refine QD ?_
        obtain ⟨x336, hx337, h⟩ := h
        refine QI [o1, o2, o3, o15, o16] 25 9 .i64 okS leS hx337 ?_
        refine QK 3 ?_
        obtain ⟨x338, x339, x340, hx341, h⟩ := h
        refine QVd (rat_Mul_ok m _ _ _ _ _ _ hx341) ?_
        refine QK 1 ?_
        obtain ⟨hx342, h⟩ := h
        refine QA [o1, o2, o3, o15, o16] 1 s151 [(x336, x338, x339, x340)] v101 61 61 72 okQ2 (src_fixed okQ2 leQ2) hn101 hx342 ?_
        obtain ⟨hx343, h⟩ := h
        let o18 : Ob := rowV lvQ2 4 (s151 ++ [(x336, x338, x339, x340)]) (vnext s151 [(x336, x338, x339, x340)] v101) false
        refine QS [o1, o18, o3, o15, o16] 25 9 (some (1 : Int)) none okS leS hx343 ?_
        exact QGC ((vnext s151 [(x336, x338, x339, x340)] v101), ((s151 ++ [(x336, x338, x339, x340)]).length)) h rfl (all_c (bel_rowV _) (all_c (bel_rowV _) all_n))
       replace h := h.t rfl
       let o19 : Ob := .cells [.pd (.bool x313), .pd (.sl (x314.map elU32)), .pd (.sl (x315.map elU32))] 1 0 false
       refine QK 1 ?_
       refine H_drawF [2] (by kernel_rfl) ?_
       refine QK 1 ?_
       obtain ⟨hx318, h⟩ := h
       refine H_askall _ (by kernel_rfl) (fun M' => ask_sub (P := Tryz.prog) (M := M') (t := 25) (et := 9) (lv := lvS) (lo := (some (1 : Int))) (hi := none) okS leS (by kernel_rfl) (by kernel_rfl) hx318) ?_
       refine QK 1 ?_
       refine QL [o1, o2, o3, o19, o19] 25 9 elS (sub (sub s100 (1 : Int) (s100.length : Int)) (1 : Int) ((sub s100 (1 : Int) (s100.length : Int)).length : Int)) ?_
       refine QBp h (fun hp319 h => ?_) (fun hp319 h => ?_)
       ·refine QR .ret ?_
        subst r; exact QT .ret okQ2 lgQ2 5 0 rfl
       obtain ⟨x320, hx321, h⟩ := h
       refine QI [o1, o2, o3, o19, o19] 25 9 .i64 okS leS hx321 ?_
       refine QK 1 ?_
       obtain ⟨x322, hx323, h⟩ := h
       refine QV (lines_Name_ok m _ hx323) ?_
       cases x322
       ·replace h := h.f rfl
        refine QR .ret ?_
        subst r; exact QT .ret okQ2 lgQ2 5 0 rfl
       replace h := h.t rfl
       refine QD ?_
       obtain ⟨x324, hx325, h⟩ := h
       refine QI [o1, o2, o3, o19, o19] 25 9 .i64 okS leS hx325 ?_
       refine QK 3 ?_
       obtain ⟨x326, x327, x328, hx329, h⟩ := h
       refine QVd (rat_Mul_ok m _ _ _ _ _ _ hx329) ?_
       refine QK 1 ?_
       obtain ⟨hx330, h⟩ := h
       refine QA [o1, o2, o3, o19, o19] 1 s151 [(x324, x326, x327, x328)] v101 61 61 72 okQ2 (src_fixed okQ2 leQ2) hn101 hx330 ?_
       obtain ⟨hx331, h⟩ := h
       let o22 : Ob := rowV lvQ2 4 (s151 ++ [(x324, x326, x327, x328)]) (vnext s151 [(x324, x326, x327, x328)] v101) false
       refine QS [o1, o22, o3, o19, o19] 25 9 (some (1 : Int)) none okS leS hx331 ?_
       exact QGC ((vnext s151 [(x324, x326, x327, x328)] v101), ((s151 ++ [(x324, x326, x327, x328)]).length)) h rfl (all_c (bel_rowV _) (all_c (bel_rowV _) all_n))
      replace h := h.t rfl
      refine QL [o1, o2, o3, o15] 25 9 elS (sub s100 (1 : Int) (s100.length : Int)) ?_
      refine QP (((sub s100 (1 : Int) (s100.length : Int)).length : Int) == (0 : Int)) (fun hc => by simp only [Dq] at hp294 hc; omega) (fun _ => ?_)
      obtain ⟨x299, hx300, h⟩ := h
      refine QI [o1, o2, o3, o15] 25 9 .i64 okS leS hx300 ?_
      refine QK 1 ?_
      obtain ⟨x301, hx302, h⟩ := h
      refine QV (lines_Name_ok m _ hx302) ?_
      cases x301
      ·replace h := h.f rfl
       refine QR .ret ?_
       subst r; exact QT .ret okQ2 lgQ2 4 0 rfl
      replace h := h.t rfl
      refine QD ?_
      obtain ⟨x303, hx304, h⟩ := h
      refine QI [o1, o2, o3, o15] 25 9 .i64 okS leS hx304 ?_
      refine QK 3 ?_
      obtain ⟨x305, x306, x307, hx308, h⟩ := h
      refine QVd (rat_Mul_ok m _ _ _ _ _ _ hx308) ?_
      refine QK 1 ?_
      obtain ⟨hx309, h⟩ := h
      refine QA [o1, o2, o3, o15] 1 s151 [(x303, x305, x306, x307)] v101 61 61 72 okQ2 (src_fixed okQ2 leQ2) hn101 hx309 ?_
      obtain ⟨hx310, h⟩ := h
      let o23 : Ob := rowV lvQ2 4 (s151 ++ [(x303, x305, x306, x307)]) (vnext s151 [(x303, x305, x306, x307)] v101) false
      refine QS [o1, o23, o3, o15] 25 9 (some (1 : Int)) none okS leS hx310 ?_
      exact QGC ((vnext s151 [(x303, x305, x306, x307)] v101), ((s151 ++ [(x303, x305, x306, x307)]).length)) h rfl (all_c (bel_rowV _) (all_c (bel_rowV _) all_n))
     refine QL [o1, o2, o3, o15] 25 9 elS (sub s100 (1 : Int) (s100.length : Int)) ?_
     refine QBp h (fun hp344 h => ?_) (fun hp344 h => ?_)
     ·refine QR .ret ?_
      subst r; exact QT .ret okQ2 lgQ2 4 0 rfl
     obtain ⟨x345, hx346, h⟩ := h
     refine QI [o1, o2, o3, o15] 25 9 .i64 okS leS hx346 ?_
     refine QK 1 ?_
     obtain ⟨x347, hx348, h⟩ := h
     refine QV (lines_Name_ok m _ hx348) ?_
     cases x347
     ·replace h := h.f rfl
      refine QR .ret ?_
      subst r; exact QT .ret okQ2 lgQ2 4 0 rfl
     replace h := h.t rfl
     refine QD ?_
     obtain ⟨x349, hx350, h⟩ := h
     refine QI [o1, o2, o3, o15] 25 9 .i64 okS leS hx350 ?_
     refine QK 3 ?_
     obtain ⟨x351, x352, x353, hx354, h⟩ := h
     refine QVd (rat_Mul_ok m _ _ _ _ _ _ hx354) ?_
     refine QK 1 ?_
     obtain ⟨hx355, h⟩ := h
     refine QA [o1, o2, o3, o15] 1 s151 [(x349, x351, x352, x353)] v101 61 61 72 okQ2 (src_fixed okQ2 leQ2) hn101 hx355 ?_
     obtain ⟨hx356, h⟩ := h
     let o24 : Ob := rowV lvQ2 4 (s151 ++ [(x349, x351, x352, x353)]) (vnext s151 [(x349, x351, x352, x353)] v101) false
     refine QS [o1, o24, o3, o15] 25 9 (some (1 : Int)) none okS leS hx356 ?_
     exact QGC ((vnext s151 [(x349, x351, x352, x353)] v101), ((s151 ++ [(x349, x351, x352, x353)]).length)) h rfl (all_c (bel_rowV _) (all_c (bel_rowV _) all_n))
    refine QR .ret ?_
    subst r; exact QT .ret okQ2 lgQ2 3 0 rfl
   refine QR (.exit 0) ?_
   subst r; exact QT .ret okQ2 lgQ2 1 v101 hn101
  replace h := h.t rfl
  obtain ⟨x4, x5, x6, hx7, h⟩ := h
  let o25 : Ob := rowV lvQ2 4 s151 v101 false
  refine QV (rat_Int_ok m _ hx7) ?_
  let o26 : Ob := .cells [.pd (.bool x4), .pd (.sl (x5.map elU32)), .pd (.sl (x6.map elU32))] 1 0 false
  refine QK 1 ?_
  refine QL [o1, o25, o26] 25 9 elS s100 ?_
  refine QBp h (fun hp8 h => ?_) (fun hp8 h => ?_)
  ·obtain ⟨x9, hx10, h⟩ := h
   refine QI [o1, o25, o26] 25 9 .i64 okS leS hx10 ?_
   refine QK 1 ?_
   refine QB h (fun h => ?_) (fun h => ?_)
   ·refine H_drawF [2] (by kernel_rfl) ?_
    obtain ⟨x11, x12, x13, hx14, h⟩ := h
    refine QVd (rat_Int_ok m _ hx14) ?_
    obtain ⟨hx15, h⟩ := h
    refine H_askall _ (by kernel_rfl) (fun M' => ask_sub (P := Tryz.prog) (M := M') (t := 25) (et := 9) (lv := lvS) (lo := (some (1 : Int))) (hi := none) okS leS (by kernel_rfl) (by kernel_rfl) hx15) ?_
    let o27 : Ob := .cells [.pd (.bool x11), .pd (.sl (x12.map elU32)), .pd (.sl (x13.map elU32))] 1 0 false
    refine QK 1 ?_
    obtain ⟨x16, x17, x18, hx19, h⟩ := h
    refine QV (rat_Int_ok m _ hx19) ?_
    let o28 : Ob := .cells [.pd (.bool x16), .pd (.sl (x17.map elU32)), .pd (.sl (x18.map elU32))] 1 0 false
    refine QK 1 ?_
    refine QL [o1, o25, o27, o28] 25 9 elS (sub s100 (1 : Int) (s100.length : Int)) ?_
    refine QBp h (fun hp20 h => ?_) (fun hp20 h => ?_)
    ·obtain ⟨x21, hx22, h⟩ := h
     refine QI [o1, o25, o27, o28] 25 9 .i64 okS leS hx22 ?_
     refine QK 1 ?_
     obtain ⟨x23, hx24, h⟩ := h
     refine QV (strings_Contains_ok m _ _ hx24) ?_
     cases x23
     ·replace h := h.f rfl
      obtain ⟨x37, hx38, h⟩ := h
      refine QI [o1, o25, o27, o28] 25 9 .i64 okS leS hx38 ?_
      refine QK 1 ?_
      obtain ⟨x39, x40, x41, x42, hx43, h⟩ := h
      refine QV (lines_Number_ok m _ hx43) ?_
      cases x42
      ·replace h := h.f rfl
       let o29 : Ob := .cells [.pd (.bool x39), .pd (.sl (x40.map elU32)), .pd (.sl (x41.map elU32))] 1 0 false
       let m30 : Mem := [o1, o25, o27, o28, o29]
       refine QK 1 ?_
       refine QL m30 25 9 elS (sub s100 (1 : Int) (s100.length : Int)) ?_
       refine QP (((sub s100 (1 : Int) (s100.length : Int)).length : Int) == (0 : Int)) (fun hc => by simp only [Dq] at hp20 hc; omega) (fun _ => ?_)
       obtain ⟨x58, hx59, h⟩ := h
       refine QI m30 25 9 .i64 okS leS hx59 ?_
       refine QK 1 ?_
       obtain ⟨x60, hx61, h⟩ := h
       refine QV (lines_Name_ok m _ hx61) ?_
       cases x60
       ·replace h := h.f rfl
        refine QR .ret ?_
        subst r; exact QT .ret okQ2 lgQ2 5 0 rfl
       replace h := h.t rfl
       refine QD ?_
       obtain ⟨x62, hx63, h⟩ := h
       refine QI m30 25 9 .i64 okS leS hx63 ?_
       refine QK 3 ?_
       obtain ⟨x64, x65, x66, hx67, h⟩ := h
       refine QVd (rat_Mul_ok m _ _ _ _ _ _ hx67) ?_
       refine QK 1 ?_
       obtain ⟨hx68, h⟩ := h
       refine QA m30 1 s151 [(x62, x64, x65, x66)] v101 61 61 72 okQ2 (src_fixed okQ2 leQ2) hn101 hx68 ?_
       obtain ⟨hx69, h⟩ := h
       let o32 : Ob := rowV lvQ2 4 (s151 ++ [(x62, x64, x65, x66)]) (vnext s151 [(x62, x64, x65, x66)] v101) false
       let m33 : Mem := [o1, o32, o27, o28, o29]
       refine QS m33 25 9 (some (1 : Int)) none okS leS hx69 ?_
       exact QGC ((vnext s151 [(x62, x64, x65, x66)] v101), ((s151 ++ [(x62, x64, x65, x66)]).length)) h rfl (all_c (bel_rowV _) (all_c (bel_rowV _) all_n))
      replace h := h.t rfl
      let o34 : Ob := .cells [.pd (.bool x39), .pd (.sl (x40.map elU32)), .pd (.sl (x41.map elU32))] 1 0 false
      refine QK 1 ?_
      refine H_drawF [2] (by kernel_rfl) ?_
      refine QK 1 ?_
      obtain ⟨hx44, h⟩ := h
      refine H_askall _ (by kernel_rfl) (fun M' => ask_sub (P := Tryz.prog) (M := M') (t := 25) (et := 9) (lv := lvS) (lo := (some (1 : Int))) (hi := none) okS leS (by kernel_rfl) (by kernel_rfl) hx44) ?_
      let m36 : Mem := [o1, o25, o27, o34, o34]
      refine QK 1 ?_
      refine QL m36 25 9 elS (sub (sub s100 (1 : Int) (s100.length : Int)) (1 : Int) ((sub s100 (1 : Int) (s100.length : Int)).length : Int)) ?_
      refine QBp h (fun hp45 h => ?_) (fun hp45 h => ?_)
      ·refine QR .ret ?_
       subst r; exact QT .ret okQ2 lgQ2 5 0 rfl
      obtain ⟨x46, hx47, h⟩ := h
      refine QI m36 25 9 .i64 okS leS hx47 ?_
      refine QK 1 ?_
      obtain ⟨x48, hx49, h⟩ := h
      refine QV (lines_Name_ok m _ hx49) ?_
      cases x48
      ·replace h := h.f rfl
       refine QR .ret ?_
       subst r; exact QT .ret okQ2 lgQ2 5 0 rfl
      replace h := h.t rfl
      refine QD ?_
      obtain ⟨x50, hx51, h⟩ := h
      refine QI m36 25 9 .i64 okS leS hx51 ?_
      refine QK 3 ?_
      obtain ⟨x52, x53, x54, hx55, h⟩ := h
      refine QVd (rat_Mul_ok m _ _ _ _ _ _ hx55) ?_
      refine QK 1 ?_
      obtain ⟨hx56, h⟩ := h
      refine QA m36 1 s151 [(x50, x52, x53, x54)] v101 61 61 72 okQ2 (src_fixed okQ2 leQ2) hn101 hx56 ?_
      obtain ⟨hx57, h⟩ := h
      let o39 : Ob := rowV lvQ2 4 (s151 ++ [(x50, x52, x53, x54)]) (vnext s151 [(x50, x52, x53, x54)] v101) false
      let m40 : Mem := [o1, o39, o27, o34, o34]
      refine QS m40 25 9 (some (1 : Int)) none okS leS hx57 ?_
      exact QGC ((vnext s151 [(x50, x52, x53, x54)] v101), ((s151 ++ [(x50, x52, x53, x54)]).length)) h rfl (all_c (bel_rowV _) (all_c (bel_rowV _) all_n))
     replace h := h.t rfl
     refine QL [o1, o25, o27, o28] 25 9 elS (sub s100 (1 : Int) (s100.length : Int)) ?_
     refine QP (((sub s100 (1 : Int) (s100.length : Int)).length : Int) == (0 : Int)) (fun hc => by simp only [Dq] at hp20 hc; omega) (fun _ => ?_)
     obtain ⟨x25, hx26, h⟩ := h
     refine QI [o1, o25, o27, o28] 25 9 .i64 okS leS hx26 ?_
     refine QK 1 ?_
     obtain ⟨x27, hx28, h⟩ := h
     refine QV (lines_Name_ok m _ hx28) ?_
     cases x27
     ·replace h := h.f rfl
      refine QR .ret ?_
      subst r; exact QT .ret okQ2 lgQ2 4 0 rfl
     replace h := h.t rfl
     refine QD ?_
     obtain ⟨x29, hx30, h⟩ := h
     refine QI [o1, o25, o27, o28] 25 9 .i64 okS leS hx30 ?_
     refine QK 3 ?_
     obtain ⟨x31, x32, x33, hx34, h⟩ := h
     refine QVd (rat_Mul_ok m _ _ _ _ _ _ hx34) ?_
     refine QK 1 ?_
     obtain ⟨hx35, h⟩ := h
     refine QA [o1, o25, o27, o28] 1 s151 [(x29, x31, x32, x33)] v101 61 61 72 okQ2 (src_fixed okQ2 leQ2) hn101 hx35 ?_
     obtain ⟨hx36, h⟩ := h
     let o41 : Ob := rowV lvQ2 4 (s151 ++ [(x29, x31, x32, x33)]) (vnext s151 [(x29, x31, x32, x33)] v101) false
     refine QS [o1, o41, o27, o28] 25 9 (some (1 : Int)) none okS leS hx36 ?_
     exact QGC ((vnext s151 [(x29, x31, x32, x33)] v101), ((s151 ++ [(x29, x31, x32, x33)]).length)) h rfl (all_c (bel_rowV _) (all_c (bel_rowV _) all_n))
    refine QL [o1, o25, o27, o28] 25 9 elS (sub s100 (1 : Int) (s100.length : Int)) ?_
    refine QBp h (fun hp70 h => ?_) (fun hp70 h => ?_)
    ·refine QR .ret ?_
     subst r; exact QT .ret okQ2 lgQ2 4 0 rfl
    obtain ⟨x71, hx72, h⟩ := h
    refine QI [o1, o25, o27, o28] 25 9 .i64 okS leS hx72 ?_
    refine QK 1 ?_
    obtain ⟨x73, hx74, h⟩ := h
    refine QV (lines_Name_ok m _ hx74) ?_
    cases x73
    ·replace h := h.f rfl
     refine QR .ret ?_
     subst r; exact QT .ret okQ2 lgQ2 4 0 rfl
    replace h := h.t rfl
    refine QD ?_
    obtain ⟨x75, hx76, h⟩ := h
    refine QI [o1, o25, o27, o28] 25 9 .i64 okS leS hx76 ?_
    refine QK 3 ?_
    obtain ⟨x77, x78, x79, hx80, h⟩ := h
    refine QVd (rat_Mul_ok m _ _ _ _ _ _ hx80) ?_
    refine QK 1 ?_
    obtain ⟨hx81, h⟩ := h
    refine QA [o1, o25, o27, o28] 1 s151 [(x75, x77, x78, x79)] v101 61 61 72 okQ2 (src_fixed okQ2 leQ2) hn101 hx81 ?_
    obtain ⟨hx82, h⟩ := h
    let o42 : Ob := rowV lvQ2 4 (s151 ++ [(x75, x77, x78, x79)]) (vnext s151 [(x75, x77, x78, x79)] v101) false
    refine QS [o1, o42, o27, o28] 25 9 (some (1 : Int)) none okS leS hx82 ?_
    exact QGC ((vnext s151 [(x75, x77, x78, x79)] v101), ((s151 ++ [(x75, x77, x78, x79)]).length)) h rfl (all_c (bel_rowV _) (all_c (bel_rowV _) all_n))
   refine QL [o1, o25, o26] 25 9 elS s100 ?_
   refine QP (decide ((s100.length : Int) > (0 : Int))) (fun _ => ?_) (fun hc => by simp only [Dq] at hp8 hc; omega)
   obtain ⟨x83, hx84, h⟩ := h
   refine QI [o1, o25, o26] 25 9 .i64 okS leS hx84 ?_
   refine QK 1 ?_
   refine QB h (fun h => ?_) (fun h => ?_)
   ·obtain ⟨x85, x86, x87, hx88, h⟩ := h
    refine QV (rat_Int_ok m _ hx88) ?_
    let o43 : Ob := .cells [.pd (.bool x85), .pd (.sl (x86.map elU32)), .pd (.sl (x87.map elU32))] 1 0 false
    refine QK 1 ?_
    refine QL [o1, o25, o26, o43] 25 9 elS s100 ?_
    refine QP (decide ((s100.length : Int) > (0 : Int))) (fun _ => ?_) (fun hc => by simp only [Dq] at hp8 hc; omega)
    obtain ⟨x89, hx90, h⟩ := h
    refine QI [o1, o25, o26, o43] 25 9 .i64 okS leS hx90 ?_
    refine QK 1 ?_
    obtain ⟨x91, hx92, h⟩ := h
    refine QV (strings_Contains_ok m _ _ hx92) ?_
    cases x91
    ·replace h := h.f rfl
     obtain ⟨x105, hx106, h⟩ := h
     refine QI [o1, o25, o26, o43] 25 9 .i64 okS leS hx106 ?_
     refine QK 1 ?_
     obtain ⟨x107, x108, x109, x110, hx111, h⟩ := h
     refine QV (lines_Number_ok m _ hx111) ?_
     cases x110
     ·replace h := h.f rfl
      let o44 : Ob := .cells [.pd (.bool x107), .pd (.sl (x108.map elU32)), .pd (.sl (x109.map elU32))] 1 0 false
      let m45 : Mem := [o1, o25, o26, o43, o44]
      refine QK 1 ?_
      refine QL m45 25 9 elS s100 ?_
      refine QP ((s100.length : Int) == (0 : Int)) (fun hc => by simp only [Dq] at hp8 hc; omega) (fun _ => ?_)
      obtain ⟨x126, hx127, h⟩ := h
      refine QI m45 25 9 .i64 okS leS hx127 ?_
      refine QK 1 ?_
      obtain ⟨x128, hx129, h⟩ := h
      refine QV (lines_Name_ok m _ hx129) ?_
      cases x128
      ·replace h := h.f rfl
       refine QR .ret ?_
       subst r; exact QT .ret okQ2 lgQ2 5 0 rfl
      replace h := h.t rfl
      refine QD ?_
      obtain ⟨x130, hx131, h⟩ := h
      refine QI m45 25 9 .i64 okS leS hx131 ?_
      refine QK 3 ?_
      obtain ⟨x132, x133, x134, hx135, h⟩ := h
      refine QVd (rat_Mul_ok m _ _ _ _ _ _ hx135) ?_
      refine QK 1 ?_
      obtain ⟨hx136, h⟩ := h
      refine QA m45 1 s151 [(x130, x132, x133, x134)] v101 61 61 72 okQ2 (src_fixed okQ2 leQ2) hn101 hx136 ?_
      obtain ⟨hx137, h⟩ := h
      let o47 : Ob := rowV lvQ2 4 (s151 ++ [(x130, x132, x133, x134)]) (vnext s151 [(x130, x132, x133, x134)] v101) false
      let m48 : Mem := [o1, o47, o26, o43, o44]
      refine QS m48 25 9 (some (1 : Int)) none okS leS hx137 ?_
      exact QGC ((vnext s151 [(x130, x132, x133, x134)] v101), ((s151 ++ [(x130, x132, x133, x134)]).length)) h rfl (all_c (bel_rowV _) (all_c (bel_rowV _) all_n))
     replace h := h.t rfl
     let o49 : Ob := .cells [.pd (.bool x107), .pd (.sl (x108.map elU32)), .pd (.sl (x109.map elU32))] 1 0 false
     refine QK 1 ?_
     refine H_drawF [2] (by kernel_rfl) ?_
     refine QK 1 ?_
     obtain ⟨hx112, h⟩ := h
     refine H_askall _ (by kernel_rfl) (fun M' => ask_sub (P := Tryz.prog) (M := M') (t := 25) (et := 9) (lv := lvS) (lo := (some (1 : Int))) (hi := none) okS leS (by kernel_rfl) (by kernel_rfl) hx112) ?_
     let m51 : Mem := [o1, o25, o26, o49, o49]
     refine QK 1 ?_
     refine QL m51 25 9 elS (sub s100 (1 : Int) (s100.length : Int)) ?_
     refine QBp h (fun hp113 h => ?_) (fun hp113 h => ?_)
     ·refine QR .ret ?_
      subst r; exact QT .ret okQ2 lgQ2 5 0 rfl
     obtain ⟨x114, hx115, h⟩ := h
     refine QI m51 25 9 .i64 okS leS hx115 ?_
     refine QK 1 ?_
     obtain ⟨x116, hx117, h⟩ := h
     refine QV (lines_Name_ok m _ hx117) ?_
     cases x116
     ·replace h := h.f rfl
      refine QR .ret ?_
      subst r; exact QT .ret okQ2 lgQ2 5 0 rfl
     replace h := h.t rfl
     refine QD ?_
     obtain ⟨x118, hx119, h⟩ := h
     refine QI m51 25 9 .i64 okS leS hx119 ?_
     refine QK 3 ?_
     obtain ⟨x120, x121, x122, hx123, h⟩ := h
     refine QVd (rat_Mul_ok m _ _ _ _ _ _ hx123) ?_
     refine QK 1 ?_
     obtain ⟨hx124, h⟩ := h
     refine QA m51 1 s151 [(x118, x120, x121, x122)] v101 61 61 72 okQ2 (src_fixed okQ2 leQ2) hn101 hx124 ?_
     obtain ⟨hx125, h⟩ := h
     let o54 : Ob := rowV lvQ2 4 (s151 ++ [(x118, x120, x121, x122)]) (vnext s151 [(x118, x120, x121, x122)] v101) false
     let m55 : Mem := [o1, o54, o26, o49, o49]
     refine QS m55 25 9 (some (1 : Int)) none okS leS hx125 ?_
     exact QGC ((vnext s151 [(x118, x120, x121, x122)] v101), ((s151 ++ [(x118, x120, x121, x122)]).length)) h rfl (all_c (bel_rowV _) (all_c (bel_rowV _) all_n))
    replace h := h.t rfl
    refine QL [o1, o25, o26, o43] 25 9 elS s100 ?_
    refine QP ((s100.length : Int) == (0 : Int)) (fun hc => by simp only [Dq] at hp8 hc; omega) (fun _ => ?_)
    obtain ⟨x93, hx94, h⟩ := h
    refine QI [o1, o25, o26, o43] 25 9 .i64 okS leS hx94 ?_
    refine QK 1 ?_
    obtain ⟨x95, hx96, h⟩ := h
    refine QV (lines_Name_ok m _ hx96) ?_
    cases x95
    ·replace h := h.f rfl
     refine QR .ret ?_
     subst r; exact QT .ret okQ2 lgQ2 4 0 rfl
    replace h := h.t rfl
    refine QD ?_
    obtain ⟨x97, hx98, h⟩ := h
    refine QI [o1, o25, o26, o43] 25 9 .i64 okS leS hx98 ?_
    refine QK 3 ?_
    obtain ⟨x99, x100, x101, hx102, h⟩ := h
    refine QVd (rat_Mul_ok m _ _ _ _ _ _ hx102) ?_
    refine QK 1 ?_
    obtain ⟨hx103, h⟩ := h
    refine QA [o1, o25, o26, o43] 1 s151 [(x97, x99, x100, x101)] v101 61 61 72 okQ2 (src_fixed okQ2 leQ2) hn101 hx103 ?_
    obtain ⟨hx104, h⟩ := h
    let o56 : Ob := rowV lvQ2 4 (s151 ++ [(x97, x99, x100, x101)]) (vnext s151 [(x97, x99, x100, x101)] v101) false
    refine QS [o1, o56, o26, o43] 25 9 (some (1 : Int)) none okS leS hx104 ?_
    exact QGC ((vnext s151 [(x97, x99, x100, x101)] v101), ((s151 ++ [(x97, x99, x100, x101)]).length)) h rfl (all_c (bel_rowV _) (all_c (bel_rowV _) all_n))
   obtain ⟨x138, x139, x140, hx141, h⟩ := h
   refine QV (rat_Int_ok m _ hx141) ?_
   let o57 : Ob := .cells [.pd (.bool x138), .pd (.sl (x139.map elU32)), .pd (.sl (x140.map elU32))] 1 0 false
   refine QK 1 ?_
   refine QL [o1, o25, o26, o57] 25 9 elS s100 ?_
   refine QP (decide ((s100.length : Int) > (0 : Int))) (fun _ => ?_) (fun hc => by simp only [Dq] at hp8 hc; omega)
   obtain ⟨x142, hx143, h⟩ := h
   refine QI [o1, o25, o26, o57] 25 9 .i64 okS leS hx143 ?_
   refine QK 1 ?_
   obtain ⟨x144, hx145, h⟩ := h
   refine QV (strings_Contains_ok m _ _ hx145) ?_
   cases x144
   ·replace h := h.f rfl
    obtain ⟨x158, hx159, h⟩ := h
    refine QI [o1, o25, o26, o57] 25 9 .i64 okS leS hx159 ?_
    refine QK 1 ?_
    obtain ⟨x160, x161, x162, x163, hx164, h⟩ := h
    refine QV (lines_Number_ok m _ hx164) ?_
    cases x163
    ·replace h := h.f rfl
     let o58 : Ob := .cells [.pd (.bool x160), .pd (.sl (x161.map elU32)), .pd (.sl (x162.map elU32))] 1 0 false
     let m59 : Mem := [o1, o25, o26, o57, o58]
     refine QK 1 ?_
     refine QL m59 25 9 elS s100 ?_
     refine QP ((s100.length : Int) == (0 : Int)) (fun hc => by simp only [Dq] at hp8 hc; omega) (fun _ => ?_)
     obtain ⟨x179, hx180, h⟩ := h
     refine QI m59 25 9 .i64 okS leS hx180 ?_
     refine QK 1 ?_
     obtain ⟨x181, hx182, h⟩ := h
     refine QV (lines_Name_ok m _ hx182) ?_
     cases x181
     ·replace h := h.f rfl
      refine QR .ret ?_
      subst r; exact QT .ret okQ2 lgQ2 5 0 rfl
     replace h := h.t rfl
     refine QD ?_
     obtain ⟨x183, hx184, h⟩ := h
     refine QI m59 25 9 .i64 okS leS hx184 ?_
     refine QK 3 ?_
     obtain ⟨x185, x186, x187, hx188, h⟩ := h
     refine QVd (rat_Mul_ok m _ _ _ _ _ _ hx188) ?_
     refine QK 1 ?_
     obtain ⟨hx189, h⟩ := h
     refine QA m59 1 s151 [(x183, x185, x186, x187)] v101 61 61 72 okQ2 (src_fixed okQ2 leQ2) hn101 hx189 ?_
     obtain ⟨hx190, h⟩ := h
     let o61 : Ob := rowV lvQ2 4 (s151 ++ [(x183, x185, x186, x187)]) (vnext s151 [(x183, x185, x186, x187)] v101) false
     let m62 : Mem := [o1, o61, o26, o57, o58]
     refine QS m62 25 9 (some (1 : Int)) none okS leS hx190 ?_
     exact QGC ((vnext s151 [(x183, x185, x186, x187)] v101), ((s151 ++ [(x183, x185, x186, x187)]).length)) h rfl (all_c (bel_rowV _) (all_c (bel_rowV _) all_n))
    replace h := h.t rfl
    let o63 : Ob := .cells [.pd (.bool x160), .pd (.sl (x161.map elU32)), .pd (.sl (x162.map elU32))] 1 0 false
    refine QK 1 ?_
    refine H_drawF [2] (by kernel_rfl) ?_
    refine QK 1 ?_
    obtain ⟨hx165, h⟩ := h
    refine H_askall _ (by kernel_rfl) (fun M' => ask_sub (P := Tryz.prog) (M := M') (t := 25) (et := 9) (lv := lvS) (lo := (some (1 : Int))) (hi := none) okS leS (by kernel_rfl) (by kernel_rfl) hx165) ?_
    let m65 : Mem := [o1, o25, o26, o63, o63]
    refine QK 1 ?_
    refine QL m65 25 9 elS (sub s100 (1 : Int) (s100.length : Int)) ?_
    refine QBp h (fun hp166 h => ?_) (fun hp166 h => ?_)
    ·refine QR .ret ?_
     subst r; exact QT .ret okQ2 lgQ2 5 0 rfl
    obtain ⟨x167, hx168, h⟩ := h
    refine QI m65 25 9 .i64 okS leS hx168 ?_
    refine QK 1 ?_
    obtain ⟨x169, hx170, h⟩ := h
    refine QV (lines_Name_ok m _ hx170) ?_
    cases x169
    ·replace h := h.f rfl
     refine QR .ret ?_
     subst r; exact QT .ret okQ2 lgQ2 5 0 rfl
    replace h := h.t rfl
    refine QD ?_
    obtain ⟨x171, hx172, h⟩ := h
    refine QI m65 25 9 .i64 okS leS hx172 ?_
    refine QK 3 ?_
    obtain ⟨x173, x174, x175, hx176, h⟩ := h
    refine QVd (rat_Mul_ok m _ _ _ _ _ _ hx176) ?_
    refine QK 1 ?_
    obtain ⟨hx177, h⟩ := h
    refine QA m65 1 s151 [(x171, x173, x174, x175)] v101 61 61 72 okQ2 (src_fixed okQ2 leQ2) hn101 hx177 ?_
    obtain ⟨hx178, h⟩ := h
    let o68 : Ob := rowV lvQ2 4 (s151 ++ [(x171, x173, x174, x175)]) (vnext s151 [(x171, x173, x174, x175)] v101) false
    let m69 : Mem := [o1, o68, o26, o63, o63]
    refine QS m69 25 9 (some (1 : Int)) none okS leS hx178 ?_
    exact QGC ((vnext s151 [(x171, x173, x174, x175)] v101), ((s151 ++ [(x171, x173, x174, x175)]).length)) h rfl (all_c (bel_rowV _) (all_c (bel_rowV _) all_n))
   replace h := h.t rfl
   refine QL [o1, o25, o26, o57] 25 9 elS s100 ?_
   refine QP ((s100.length : Int) == (0 : Int)) (fun hc => by simp only [Dq] at hp8 hc; omega) (fun _ => ?_)
   obtain ⟨x146, hx147, h⟩ := h
   refine QI [o1, o25, o26, o57] 25 9 .i64 okS leS hx147 ?_
   refine QK 1 ?_
   obtain ⟨x148, hx149, h⟩ := h
   refine QV (lines_Name_ok m _ hx149) ?_
   cases x148
   ·replace h := h.f rfl
    refine QR .ret ?_
    subst r; exact QT .ret okQ2 lgQ2 4 0 rfl
   replace h := h.t rfl
   refine QD ?_
   obtain ⟨x150, hx151, h⟩ := h
   refine QI [o1, o25, o26, o57] 25 9 .i64 okS leS hx151 ?_
   refine QK 3 ?_
   obtain ⟨x152, x153, x154, hx155, h⟩ := h
   refine QVd (rat_Mul_ok m _ _ _ _ _ _ hx155) ?_
   refine QK 1 ?_
   obtain ⟨hx156, h⟩ := h
   refine QA [o1, o25, o26, o57] 1 s151 [(x150, x152, x153, x154)] v101 61 61 72 okQ2 (src_fixed okQ2 leQ2) hn101 hx156 ?_
   obtain ⟨hx157, h⟩ := h
   let o70 : Ob := rowV lvQ2 4 (s151 ++ [(x150, x152, x153, x154)]) (vnext s151 [(x150, x152, x153, x154)] v101) false
   refine QS [o1, o70, o26, o57] 25 9 (some (1 : Int)) none okS leS hx157 ?_
   exact QGC ((vnext s151 [(x150, x152, x153, x154)] v101), ((s151 ++ [(x150, x152, x153, x154)]).length)) h rfl (all_c (bel_rowV _) (all_c (bel_rowV _) all_n))
  refine QL [o1, o25, o26] 25 9 elS s100 ?_
  refine QP (decide ((s100.length : Int) > (0 : Int))) (fun hc => by simp only [Dq] at hp8 hc; omega) (fun _ => ?_)
  obtain ⟨x191, x192, x193, hx194, h⟩ := h
  refine QV (rat_Int_ok m _ hx194) ?_
  let o71 : Ob := .cells [.pd (.bool x191), .pd (.sl (x192.map elU32)), .pd (.sl (x193.map elU32))] 1 0 false
  refine QK 1 ?_
  refine QL [o1, o25, o26, o71] 25 9 elS s100 ?_
  refine QP (decide ((s100.length : Int) > (0 : Int))) (fun hc => by simp only [Dq] at hp8 hc; omega) (fun _ => ?_)
  refine QL [o1, o25, o26, o71] 25 9 elS s100 ?_
  refine QBp h (fun hp195 h => ?_) (fun hp195 h => ?_)
  ·refine QR .ret ?_
   subst r; exact QT .ret okQ2 lgQ2 4 0 rfl
  obtain ⟨x196, hx197, h⟩ := h
  refine QI [o1, o25, o26, o71] 25 9 .i64 okS leS hx197 ?_
  refine QK 1 ?_
  obtain ⟨x198, hx199, h⟩ := h
  refine QV (lines_Name_ok m _ hx199) ?_
  cases x198
  ·replace h := h.f rfl
   refine QR .ret ?_
   subst r; exact QT .ret okQ2 lgQ2 4 0 rfl
  replace h := h.t rfl
  refine QD ?_
  obtain ⟨x200, hx201, h⟩ := h
  refine QI [o1, o25, o26, o71] 25 9 .i64 okS leS hx201 ?_
  refine QK 3 ?_
  obtain ⟨x202, x203, x204, hx205, h⟩ := h
  refine QVd (rat_Mul_ok m _ _ _ _ _ _ hx205) ?_
  refine QK 1 ?_
  obtain ⟨hx206, h⟩ := h
  refine QA [o1, o25, o26, o71] 1 s151 [(x200, x202, x203, x204)] v101 61 61 72 okQ2 (src_fixed okQ2 leQ2) hn101 hx206 ?_
  obtain ⟨hx207, h⟩ := h
  let o72 : Ob := rowV lvQ2 4 (s151 ++ [(x200, x202, x203, x204)]) (vnext s151 [(x200, x202, x203, x204)] v101) false
  refine QS [o1, o72, o26, o71] 25 9 (some (1 : Int)) none okS leS hx207 ?_
  exact QGC ((vnext s151 [(x200, x202, x203, x204)] v101), ((s151 ++ [(x200, x202, x203, x204)]).length)) h rfl (all_c (bel_rowV _) (all_c (bel_rowV _) all_n))
 refine QLP (F := model_sum_L2 r) (s0 := (p0, true, ([] : List (Bz × Fq)))) h (0, (([] : List (Bz × Fq)).length)) 103 2
  (fun (s200, s201, s251) (v201, n201) => [(0, .pd (.sl (s200.map elS))), (4, .own 1 n201 v201), (5, .pd (.bool s201))])
  (fun (s200, s201, s251) (v201, n201) => [o1, rowV lvQ2 4 s251 v201 false]) (fun (s200, s201, s251) (v201, n201) => n201 = s251.length) rfl [] mixedT (askG [9, 10, 11] true) ?_
 rintro X2 ⟨s200, s201, s251⟩ ⟨v201, n201⟩ hn201 h
 dsimp only [model_sum_L2] at h
 cases s201
 ·replace h := h.f rfl
  let o73 : Ob := rowV lvQ2 4 s251 v201 false
  refine QL [o1, o73] 25 9 elS s200 ?_
  refine QBp h (fun hp561 h => ?_) (fun hp561 h => ?_)
  ·obtain ⟨x562, x563, x564, hx565, h⟩ := h
   refine QV (rat_Int_ok m _ hx565) ?_
   let o74 : Ob := .cells [.pd (.bool x562), .pd (.sl (x563.map elU32)), .pd (.sl (x564.map elU32))] 1 0 false
   refine QK 1 ?_
   refine QL [o1, o73, o74] 25 9 elS s200 ?_
   refine QP (decide ((s200.length : Int) > (0 : Int))) (fun _ => ?_) (fun hc => by simp only [Dq] at hp561 hc; omega)
   obtain ⟨x566, hx567, h⟩ := h
   refine QI [o1, o73, o74] 25 9 .i64 okS leS hx567 ?_
   refine QK 1 ?_
   refine QB h (fun h => ?_) (fun h => ?_)
   ·refine H_drawF [2] (by kernel_rfl) ?_
    obtain ⟨x568, x569, x570, hx571, h⟩ := h
    refine QVd (rat_Int_ok m _ hx571) ?_
    obtain ⟨hx572, h⟩ := h
    refine H_askall _ (by kernel_rfl) (fun M' => ask_sub (P := Tryz.prog) (M := M') (t := 25) (et := 9) (lv := lvS) (lo := (some (1 : Int))) (hi := none) okS leS (by kernel_rfl) (by kernel_rfl) hx572) ?_
    let o75 : Ob := .cells [.pd (.bool x568), .pd (.sl (x569.map elU32)), .pd (.sl (x570.map elU32))] 1 0 false
    refine QK 1 ?_
    obtain ⟨x573, x574, x575, hx576, h⟩ := h
    refine QV (rat_Int_ok m _ hx576) ?_
    let o76 : Ob := .cells [.pd (.bool x573), .pd (.sl (x574.map elU32)), .pd (.sl (x575.map elU32))] 1 0 false
    refine QK 1 ?_
    refine QL [o1, o73, o75, o76] 25 9 elS (sub s200 (1 : Int) (s200.length : Int)) ?_
    refine QBp h (fun hp577 h => ?_) (fun hp577 h => ?_)
    ·obtain ⟨x578, hx579, h⟩ := h
     refine QI [o1, o73, o75, o76] 25 9 .i64 okS leS hx579 ?_
     refine QK 1 ?_
     obtain ⟨x580, hx581, h⟩ := h
     refine QV (strings_Contains_ok m _ _ hx581) ?_
     cases x580
     ·replace h := h.f rfl
      obtain ⟨x594, hx595, h⟩ := h
      refine QI [o1, o73, o75, o76] 25 9 .i64 okS leS hx595 ?_
      refine QK 1 ?_
      obtain ⟨x596, x597, x598, x599, hx600, h⟩ := h
      refine QV (lines_Number_ok m _ hx600) ?_
      cases x599
      ·replace h := h.f rfl
       let o77 : Ob := .cells [.pd (.bool x596), .pd (.sl (x597.map elU32)), .pd (.sl (x598.map elU32))] 1 0 false
       let m78 : Mem := [o1, o73, o75, o76, o77]
       refine QK 1 ?_
       refine QL m78 25 9 elS (sub s200 (1 : Int) (s200.length : Int)) ?_
       refine QP (((sub s200 (1 : Int) (s200.length : Int)).length : Int) == (0 : Int)) (fun hc => by simp only [Dq] at hp577 hc; omega) (fun _ => ?_)
       obtain ⟨x615, hx616, h⟩ := h
       refine QI m78 25 9 .i64 okS leS hx616 ?_
       refine QK 1 ?_
       obtain ⟨x617, hx618, h⟩ := h
       refine QV (lines_Name_ok m _ hx618) ?_
       cases x617
       ·replace h := h.f rfl
        refine QR .ret ?_
        subst r; exact QT .ret okQ2 lgQ2 5 0 rfl
       replace h := h.t rfl
       refine QD ?_
       obtain ⟨x619, hx620, h⟩ := h
       refine QI m78 25 9 .i64 okS leS hx620 ?_
       refine QK 3 ?_
       obtain ⟨x621, x622, x623, hx624, h⟩ := h
       refine QVd (rat_Mul_ok m _ _ _ _ _ _ hx624) ?_
       refine QK 1 ?_
       obtain ⟨hx625, h⟩ := h
       refine QA m78 1 s251 [(x619, x621, x622, x623)] v201 61 61 72 okQ2 (src_fixed okQ2 leQ2) hn201 hx625 ?_
       obtain ⟨hx626, h⟩ := h
       let o80 : Ob := rowV lvQ2 4 (s251 ++ [(x619, x621, x622, x623)]) (vnext s251 [(x619, x621, x622, x623)] v201) false
       let m81 : Mem := [o1, o80, o75, o76, o77]
       refine QS m81 25 9 (some (1 : Int)) none okS leS hx626 ?_
       exact QGC ((vnext s251 [(x619, x621, x622, x623)] v201), ((s251 ++ [(x619, x621, x622, x623)]).length)) h rfl (all_c (bel_rowV _) (all_c (bel_rowV _) all_n))
      replace h := h.t rfl
      let o82 : Ob := .cells [.pd (.bool x596), .pd (.sl (x597.map elU32)), .pd (.sl (x598.map elU32))] 1 0 false
      refine QK 1 ?_
      refine H_drawF [2] (by kernel_rfl) ?_
      refine QK 1 ?_
      obtain ⟨hx601, h⟩ := h
      refine H_askall _ (by kernel_rfl) (fun M' => ask_sub (P := Tryz.prog) (M := M') (t := 25) (et := 9) (lv := lvS) (lo := (some (1 : Int))) (hi := none) okS leS (by kernel_rfl) (by kernel_rfl) hx601) ?_
      let m84 : Mem := [o1, o73, o75, o82, o82]
      refine QK 1 ?_
      refine QL m84 25 9 elS (sub (sub s200 (1 : Int) (s200.length : Int)) (1 : Int) ((sub s200 (1 : Int) (s200.length : Int)).length : Int)) ?_
      refine QBp h (fun hp602 h => ?_) (fun hp602 h => ?_)
      ·refine QR .ret ?_
       subst r; exact QT .ret okQ2 lgQ2 5 0 rfl
      obtain ⟨x603, hx604, h⟩ := h
      refine QI m84 25 9 .i64 okS leS hx604 ?_
      refine QK 1 ?_
      obtain ⟨x605, hx606, h⟩ := h
      refine QV (lines_Name_ok m _ hx606) ?_
      cases x605
      ·replace h := h.f rfl
       refine QR .ret ?_
       subst r; exact QT .ret okQ2 lgQ2 5 0 rfl
      replace h := h.t rfl
      refine QD ?_
      obtain ⟨x607, hx608, h⟩ := h
      refine QI m84 25 9 .i64 okS leS hx608 ?_
      refine QK 3 ?_
      obtain ⟨x609, x610, x611, hx612, h⟩ := h
      refine QVd (rat_Mul_ok m _ _ _ _ _ _ hx612) ?_
      refine QK 1 ?_
      obtain ⟨hx613, h⟩ := h
      refine QA m84 1 s251 [(x607, x609, x610, x611)] v201 61 61 72 okQ2 (src_fixed okQ2 leQ2) hn201 hx613 ?_
      obtain ⟨hx614, h⟩ := h
      let o87 : Ob := rowV lvQ2 4 (s251 ++ [(x607, x609, x610, x611)]) (vnext s251 [(x607, x609, x610, x611)] v201) false
      let m88 : Mem := [o1, o87, o75, o82, o82]
      refine QS m88 25 9 (some (1 : Int)) none okS leS hx614 ?_
      exact QGC ((vnext s251 [(x607, x609, x610, x611)] v201), ((s251 ++ [(x607, x609, x610, x611)]).length)) h rfl (all_c (bel_rowV _) (all_c (bel_rowV _) all_n))
     replace h := h.t rfl
     refine QL [o1, o73, o75, o76] 25 9 elS (sub s200 (1 : Int) (s200.length : Int)) ?_
     refine QP (((sub s200 (1 : Int) (s200.length : Int)).length : Int) == (0 : Int)) (fun hc => by simp only [Dq] at hp577 hc; omega) (fun _ => ?_)
     obtain ⟨x582, hx583, h⟩ := h
     refine QI [o1, o73, o75, o76] 25 9 .i64 okS leS hx583 ?_
     refine QK 1 ?_
     obtain ⟨x584, hx585, h⟩ := h
     refine QV (lines_Name_ok m _ hx585) ?_
     cases x584
     ·replace h := h.f rfl
      refine QR .ret ?_
      subst r; exact QT .ret okQ2 lgQ2 4 0 rfl
     replace h := h.t rfl
     refine QD ?_
     obtain ⟨x586, hx587, h⟩ := h
     refine QI [o1, o73, o75, o76] 25 9 .i64 okS leS hx587 ?_
     refine QK 3 ?_
     obtain ⟨x588, x589, x590, hx591, h⟩ := h
     refine QVd (rat_Mul_ok m _ _ _ _ _ _ hx591) ?_
     refine QK 1 ?_
     obtain ⟨hx592, h⟩ := h
     refine QA [o1, o73, o75, o76] 1 s251 [(x586, x588, x589, x590)] v201 61 61 72 okQ2 (src_fixed okQ2 leQ2) hn201 hx592 ?_
     obtain ⟨hx593, h⟩ := h
     let o89 : Ob := rowV lvQ2 4 (s251 ++ [(x586, x588, x589, x590)]) (vnext s251 [(x586, x588, x589, x590)] v201) false
     refine QS [o1, o89, o75, o76] 25 9 (some (1 : Int)) none okS leS hx593 ?_
     exact QGC ((vnext s251 [(x586, x588, x589, x590)] v201), ((s251 ++ [(x586, x588, x589, x590)]).length)) h rfl (all_c (bel_rowV _) (all_c (bel_rowV _) all_n))
    refine QL [o1, o73, o75, o76] 25 9 elS (sub s200 (1 : Int) (s200.length : Int)) ?_
    refine QBp h (fun hp627 h => ?_) (fun hp627 h => ?_)
    ·refine QR .ret ?_
     subst r; exact QT .ret okQ2 lgQ2 4 0 rfl
    obtain ⟨x628, hx629, h⟩ := h
    refine QI [o1, o73, o75, o76] 25 9 .i64 okS leS hx629 ?_
    refine QK 1 ?_
    obtain ⟨x630, hx631, h⟩ := h
    refine QV (lines_Name_ok m _ hx631) ?_
    cases x630
    ·replace h := h.f rfl
     refine QR .ret ?_
     subst r; exact QT .ret okQ2 lgQ2 4 0 rfl
    replace h := h.t rfl
    refine QD ?_
    obtain ⟨x632, hx633, h⟩ := h
    refine QI [o1, o73, o75, o76] 25 9 .i64 okS leS hx633 ?_
    refine QK 3 ?_
    obtain ⟨x634, x635, x636, hx637, h⟩ := h
    refine QVd (rat_Mul_ok m _ _ _ _ _ _ hx637) ?_
    refine QK 1 ?_
    obtain ⟨hx638, h⟩ := h
    refine QA [o1, o73, o75, o76] 1 s251 [(x632, x634, x635, x636)] v201 61 61 72 okQ2 (src_fixed okQ2 leQ2) hn201 hx638 ?_
    obtain ⟨hx639, h⟩ := h
    let o90 : Ob := rowV lvQ2 4 (s251 ++ [(x632, x634, x635, x636)]) (vnext s251 [(x632, x634, x635, x636)] v201) false
    refine QS [o1, o90, o75, o76] 25 9 (some (1 : Int)) none okS leS hx639 ?_
    exact QGC ((vnext s251 [(x632, x634, x635, x636)] v201), ((s251 ++ [(x632, x634, x635, x636)]).length)) h rfl (all_c (bel_rowV _) (all_c (bel_rowV _) all_n))
   refine QL [o1, o73, o74] 25 9 elS s200 ?_
   refine QP (decide ((s200.length : Int) > (0 : Int))) (fun _ => ?_) (fun hc => by simp only [Dq] at hp561 hc; omega)
   obtain ⟨x640, hx641, h⟩ := h
   refine QI [o1, o73, o74] 25 9 .i64 okS leS hx641 ?_
   refine QK 1 ?_
   refine QB h (fun h => ?_) (fun h => ?_)
   ·obtain ⟨hx642, h⟩ := h
    refine QS [o1, o73, o74] 25 9 (some (1 : Int)) none okS leS hx642 ?_
    obtain ⟨x643, x644, x645, hx646, h⟩ := h
    refine QV (rat_Int_ok m _ hx646) ?_
    let o91 : Ob := .cells [.pd (.bool x643), .pd (.sl (x644.map elU32)), .pd (.sl (x645.map elU32))] 1 0 false
    refine QK 1 ?_
    refine QL [o1, o73, o74, o91] 25 9 elS (sub s200 (1 : Int) (s200.length : Int)) ?_
    refine QBp h (fun hp647 h => ?_) (fun hp647 h => ?_)
    ·obtain ⟨x648, hx649, h⟩ := h
     refine QI [o1, o73, o74, o91] 25 9 .i64 okS leS hx649 ?_
     refine QK 1 ?_
     obtain ⟨x650, hx651, h⟩ := h
     refine QV (strings_Contains_ok m _ _ hx651) ?_
     cases x650
     ·replace h := h.f rfl
      obtain ⟨x664, hx665, h⟩ := h
      refine QI [o1, o73, o74, o91] 25 9 .i64 okS leS hx665 ?_
      refine QK 1 ?_
      obtain ⟨x666, x667, x668, x669, hx670, h⟩ := h
      refine QV (lines_Number_ok m _ hx670) ?_
      cases x669
      ·replace h := h.f rfl
       let o92 : Ob := .cells [.pd (.bool x666), .pd (.sl (x667.map elU32)), .pd (.sl (x668.map elU32))] 1 0 false
       let m93 : Mem := [o1, o73, o74, o91, o92]
       refine QK 1 ?_
       refine QL m93 25 9 elS (sub s200 (1 : Int) (s200.length : Int)) ?_
       refine QP (((sub s200 (1 : Int) (s200.length : Int)).length : Int) == (0 : Int)) (fun hc => by simp only [Dq] at hp647 hc; omega) (fun _ => ?_)
       obtain ⟨x685, hx686, h⟩ := h
       refine QI m93 25 9 .i64 okS leS hx686 ?_
       refine QK 1 ?_
       obtain ⟨x687, hx688, h⟩ := h
       refine QV (lines_Name_ok m _ hx688) ?_
       cases x687
       ·replace h := h.f rfl
        refine QR .ret ?_
        subst r; exact QT .ret okQ2 lgQ2 5 0 rfl
       replace h := h.t rfl
       refine QD ?_
       obtain ⟨x689, hx690, h⟩ := h
       refine QI m93 25 9 .i64 okS leS hx690 ?_
       refine QK 3 ?_
       obtain ⟨x691, x692, x693, hx694, h⟩ := h
       refine QVd (rat_Mul_ok m _ _ _ _ _ _ hx694) ?_
       refine QK 1 ?_
       obtain ⟨hx695, h⟩ := h
       refine QA m93 1 s251 [(x689, x691, x692, x693)] v201 61 61 72 okQ2 (src_fixed okQ2 leQ2) hn201 hx695 ?_
       obtain ⟨hx696, h⟩ := h
       let o95 : Ob := rowV lvQ2 4 (s251 ++ [(x689, x691, x692, x693)]) (vnext s251 [(x689, x691, x692, x693)] v201) false
       let m96 : Mem := [o1, o95, o74, o91, o92]
       refine QS m96 25 9 (some (1 : Int)) none okS leS hx696 ?_
       exact QGC ((vnext s251 [(x689, x691, x692, x693)] v201), ((s251 ++ [(x689, x691, x692, x693)]).length)) h rfl (all_c (bel_rowV _) (all_c (bel_rowV _) all_n))
      replace h := h.t rfl
      let o97 : Ob := .cells [.pd (.bool x666), .pd (.sl (x667.map elU32)), .pd (.sl (x668.map elU32))] 1 0 false
      refine QK 1 ?_
      refine H_drawF [2] (by kernel_rfl) ?_
      refine QK 1 ?_
      obtain ⟨hx671, h⟩ := h
      refine H_askall _ (by kernel_rfl) (fun M' => ask_sub (P := Tryz.prog) (M := M') (t := 25) (et := 9) (lv := lvS) (lo := (some (1 : Int))) (hi := none) okS leS (by kernel_rfl) (by kernel_rfl) hx671) ?_
      let m99 : Mem := [o1, o73, o74, o97, o97]
      refine QK 1 ?_
      refine QL m99 25 9 elS (sub (sub s200 (1 : Int) (s200.length : Int)) (1 : Int) ((sub s200 (1 : Int) (s200.length : Int)).length : Int)) ?_
      refine QBp h (fun hp672 h => ?_) (fun hp672 h => ?_)
      ·refine QR .ret ?_
       subst r; exact QT .ret okQ2 lgQ2 5 0 rfl
      obtain ⟨x673, hx674, h⟩ := h
      refine QI m99 25 9 .i64 okS leS hx674 ?_
      refine QK 1 ?_
      obtain ⟨x675, hx676, h⟩ := h
      refine QV (lines_Name_ok m _ hx676) ?_
      cases x675
      ·replace h := h.f rfl
       refine QR .ret ?_
       subst r; exact QT .ret okQ2 lgQ2 5 0 rfl
      replace h := h.t rfl
      refine QD ?_
      obtain ⟨x677, hx678, h⟩ := h
      refine QI m99 25 9 .i64 okS leS hx678 ?_
      refine QK 3 ?_
      obtain ⟨x679, x680, x681, hx682, h⟩ := h
      refine QVd (rat_Mul_ok m _ _ _ _ _ _ hx682) ?_
      refine QK 1 ?_
      obtain ⟨hx683, h⟩ := h
      refine QA m99 1 s251 [(x677, x679, x680, x681)] v201 61 61 72 okQ2 (src_fixed okQ2 leQ2) hn201 hx683 ?_
      obtain ⟨hx684, h⟩ := h
      let o102 : Ob := rowV lvQ2 4 (s251 ++ [(x677, x679, x680, x681)]) (vnext s251 [(x677, x679, x680, x681)] v201) false
      let m103 : Mem := [o1, o102, o74, o97, o97]
      refine QS m103 25 9 (some (1 : Int)) none okS leS hx684 ?_
      exact QGC ((vnext s251 [(x677, x679, x680, x681)] v201), ((s251 ++ [(x677, x679, x680, x681)]).length)) h rfl (all_c (bel_rowV _) (all_c (bel_rowV _) all_n))
     replace h := h.t rfl
     refine QL [o1, o73, o74, o91] 25 9 elS (sub s200 (1 : Int) (s200.length : Int)) ?_
     refine QP (((sub s200 (1 : Int) (s200.length : Int)).length : Int) == (0 : Int)) (fun hc => by simp only [Dq] at hp647 hc; omega) (fun _ => ?_)
     obtain ⟨x652, hx653, h⟩ := h
     refine QI [o1, o73, o74, o91] 25 9 .i64 okS leS hx653 ?_
     refine QK 1 ?_
     obtain ⟨x654, hx655, h⟩ := h
     refine QV (lines_Name_ok m _ hx655) ?_
     cases x654
     ·replace h := h.f rfl
      refine QR .ret ?_
      subst r; exact QT .ret okQ2 lgQ2 4 0 rfl
     replace h := h.t rfl
     refine QD ?_
     obtain ⟨x656, hx657, h⟩ := h
     refine QI [o1, o73, o74, o91] 25 9 .i64 okS leS hx657 ?_
     refine QK 3 ?_
     obtain ⟨x658, x659, x660, hx661, h⟩ := h
     refine QVd (rat_Mul_ok m _ _ _ _ _ _ hx661) ?_
     refine QK 1 ?_
     obtain ⟨hx662, h⟩ := h
     refine QA [o1, o73, o74, o91] 1 s251 [(x656, x658, x659, x660)] v201 61 61 72 okQ2 (src_fixed okQ2 leQ2) hn201 hx662 ?_
     obtain ⟨hx663, h⟩ := h
     let o104 : Ob := rowV lvQ2 4 (s251 ++ [(x656, x658, x659, x660)]) (vnext s251 [(x656, x658, x659, x660)] v201) false
     refine QS [o1, o104, o74, o91] 25 9 (some (1 : Int)) none okS leS hx663 ?_
     exact QGC ((vnext s251 [(x656, x658, x659, x660)] v201), ((s251 ++ [(x656, x658, x659, x660)]).length)) h rfl (all_c (bel_rowV _) (all_c (bel_rowV _) all_n))
    refine QL [o1, o73, o74, o91] 25 9 elS (sub s200 (1 : Int) (s200.length : Int)) ?_
    refine QBp h (fun hp697 h => ?_) (fun hp697 h => ?_)
    ·refine QR .ret ?_
     subst r; exact QT .ret okQ2 lgQ2 4 0 rfl
    obtain ⟨x698, hx699, h⟩ := h
    refine QI [o1, o73, o74, o91] 25 9 .i64 okS leS hx699 ?_
    refine QK 1 ?_
    obtain ⟨x700, hx701, h⟩ := h
    refine QV (lines_Name_ok m _ hx701) ?_
    cases x700
    ·replace h := h.f rfl
     refine QR .ret ?_
     subst r; exact QT .ret okQ2 lgQ2 4 0 rfl
    replace h := h.t rfl
    refine QD ?_
    obtain ⟨x702, hx703, h⟩ := h
    refine QI [o1, o73, o74, o91] 25 9 .i64 okS leS hx703 ?_
    refine QK 3 ?_
    obtain ⟨x704, x705, x706, hx707, h⟩ := h
    refine QVd (rat_Mul_ok m _ _ _ _ _ _ hx707) ?_
    refine QK 1 ?_
    obtain ⟨hx708, h⟩ := h
    refine QA [o1, o73, o74, o91] 1 s251 [(x702, x704, x705, x706)] v201 61 61 72 okQ2 (src_fixed okQ2 leQ2) hn201 hx708 ?_
    obtain ⟨hx709, h⟩ := h
    let o105 : Ob := rowV lvQ2 4 (s251 ++ [(x702, x704, x705, x706)]) (vnext s251 [(x702, x704, x705, x706)] v201) false
    refine QS [o1, o105, o74, o91] 25 9 (some (1 : Int)) none okS leS hx709 ?_
    exact QGC ((vnext s251 [(x702, x704, x705, x706)] v201), ((s251 ++ [(x702, x704, x705, x706)]).length)) h rfl (all_c (bel_rowV _) (all_c (bel_rowV _) all_n))
   refine QR .ret ?_
   subst r; exact QT .ret okQ2 lgQ2 3 0 rfl
  refine QR (.exit 0) ?_
  subst r; exact QT .ret okQ2 lgQ2 1 v201 hn201
 replace h := h.t rfl
 obtain ⟨x357, x358, x359, hx360, h⟩ := h
 let o106 : Ob := rowV lvQ2 4 s251 v201 false
 refine QV (rat_Int_ok m _ hx360) ?_
 let o107 : Ob := .cells [.pd (.bool x357), .pd (.sl (x358.map elU32)), .pd (.sl (x359.map elU32))] 1 0 false
 refine QK 1 ?_
 refine QL [o1, o106, o107] 25 9 elS s200 ?_
 refine QBp h (fun hp361 h => ?_) (fun hp361 h => ?_)
 ·obtain ⟨x362, hx363, h⟩ := h
  refine QI [o1, o106, o107] 25 9 .i64 okS leS hx363 ?_
  refine QK 1 ?_
  refine QB h (fun h => ?_) (fun h => ?_)
  ·refine H_drawF [2] (by kernel_rfl) ?_
   obtain ⟨x364, x365, x366, hx367, h⟩ := h
   refine QVd (rat_Int_ok m _ hx367) ?_
   obtain ⟨hx368, h⟩ := h
   refine H_askall _ (by kernel_rfl) (fun M' => ask_sub (P := Tryz.prog) (M := M') (t := 25) (et := 9) (lv := lvS) (lo := (some (1 : Int))) (hi := none) okS leS (by kernel_rfl) (by kernel_rfl) hx368) ?_
   let o108 : Ob := .cells [.pd (.bool x364), .pd (.sl (x365.map elU32)), .pd (.sl (x366.map elU32))] 1 0 false
   refine QK 1 ?_
   obtain ⟨x369, x370, x371, hx372, h⟩ := h
   refine QV (rat_Int_ok m _ hx372) ?_
   let o109 : Ob := .cells [.pd (.bool x369), .pd (.sl (x370.map elU32)), .pd (.sl (x371.map elU32))] 1 0 false
   refine QK 1 ?_
   refine QL [o1, o106, o108, o109] 25 9 elS (sub s200 (1 : Int) (s200.length : Int)) ?_
   refine QBp h (fun hp373 h => ?_) (fun hp373 h => ?_)
   ·obtain ⟨x374, hx375, h⟩ := h
    refine QI [o1, o106, o108, o109] 25 9 .i64 okS leS hx375 ?_
    refine QK 1 ?_
    obtain ⟨x376, hx377, h⟩ := h
    refine QV (strings_Contains_ok m _ _ hx377) ?_
    cases x376
    ·replace h := h.f rfl
     obtain ⟨x390, hx391, h⟩ := h
     refine QI [o1, o106, o108, o109] 25 9 .i64 okS leS hx391 ?_
     refine QK 1 ?_
     obtain ⟨x392, x393, x394, x395, hx396, h⟩ := h
     refine QV (lines_Number_ok m _ hx396) ?_
     cases x395
     ·replace h := h.f rfl
      let o110 : Ob := .cells [.pd (.bool x392), .pd (.sl (x393.map elU32)), .pd (.sl (x394.map elU32))] 1 0 false
      let m111 : Mem := [o1, o106, o108, o109, o110]
      refine QK 1 ?_
      refine QL m111 25 9 elS (sub s200 (1 : Int) (s200.length : Int)) ?_
      refine QP (((sub s200 (1 : Int) (s200.length : Int)).length : Int) == (0 : Int)) (fun hc => by simp only [Dq] at hp373 hc; omega) (fun _ => ?_)
      obtain ⟨x411, hx412, h⟩ := h
      refine QI m111 25 9 .i64 okS leS hx412 ?_
      refine QK 1 ?_
      obtain ⟨x413, hx414, h⟩ := h
      refine QV (lines_Name_ok m _ hx414) ?_
      cases x413
      ·replace h := h.f rfl
       refine QR .ret ?_
       subst r; exact QT .ret okQ2 lgQ2 5 0 rfl
      replace h := h.t rfl
      refine QD ?_
      obtain ⟨x415, hx416, h⟩ := h
      refine QI m111 25 9 .i64 okS leS hx416 ?_
      refine QK 3 ?_
      obtain ⟨x417, x418, x419, hx420, h⟩ := h
      refine QVd (rat_Mul_ok m _ _ _ _ _ _ hx420) ?_
      refine QK 1 ?_
      obtain ⟨hx421, h⟩ := h
      refine QA m111 1 s251 [(x415, x417, x418, x419)] v201 61 61 72 okQ2 (src_fixed okQ2 leQ2) hn201 hx421 ?_
      obtain ⟨hx422, h⟩ := h
      let o113 : Ob := rowV lvQ2 4 (s251 ++ [(x415, x417, x418, x419)]) (vnext s251 [(x415, x417, x418, x419)] v201) false
      let m114 : Mem := [o1, o113, o108, o109, o110]
      refine QS m114 25 9 (some (1 : Int)) none okS leS hx422 ?_
      exact QGC ((vnext s251 [(x415, x417, x418, x419)] v201), ((s251 ++ [(x415, x417, x418, x419)]).length)) h rfl (all_c (bel_rowV _) (all_c (bel_rowV _) all_n))
     replace h := h.t rfl
     let o115 : Ob := .cells [.pd (.bool x392), .pd (.sl (x393.map elU32)), .pd (.sl (x394.map elU32))] 1 0 false
     refine QK 1 ?_
     refine H_drawF [2] (by kernel_rfl) ?_
     refine QK 1 ?_
     obtain ⟨hx397, h⟩ := h
     refine H_askall _ (by kernel_rfl) (fun M' => ask_sub (P := Tryz.prog) (M := M') (t := 25) (et := 9) (lv := lvS) (lo := (some (1 : Int))) (hi := none) okS leS (by kernel_rfl) (by kernel_rfl) hx397) ?_
     let m117 : Mem := [o1, o106, o108, o115, o115]
     refine QK 1 ?_
     refine QL m117 25 9 elS (sub (sub s200 (1 : Int) (s200.length : Int)) (1 : Int) ((sub s200 (1 : Int) (s200.length : Int)).length : Int)) ?_
     refine QBp h (fun hp398 h => ?_) (fun hp398 h => ?_)
     ·refine QR .ret ?_
      subst r; exact QT .ret okQ2 lgQ2 5 0 rfl
     obtain ⟨x399, hx400, h⟩ := h
     refine QI m117 25 9 .i64 okS leS hx400 ?_
     refine QK 1 ?_
     obtain ⟨x401, hx402, h⟩ := h
     refine QV (lines_Name_ok m _ hx402) ?_
     cases x401
     ·replace h := h.f rfl
      refine QR .ret ?_
      subst r; exact QT .ret okQ2 lgQ2 5 0 rfl
     replace h := h.t rfl
     refine QD ?_
     obtain ⟨x403, hx404, h⟩ := h
     refine QI m117 25 9 .i64 okS leS hx404 ?_
     refine QK 3 ?_
     obtain ⟨x405, x406, x407, hx408, h⟩ := h
     refine QVd (rat_Mul_ok m _ _ _ _ _ _ hx408) ?_
     refine QK 1 ?_
     obtain ⟨hx409, h⟩ := h
     refine QA m117 1 s251 [(x403, x405, x406, x407)] v201 61 61 72 okQ2 (src_fixed okQ2 leQ2) hn201 hx409 ?_
     obtain ⟨hx410, h⟩ := h
     let o120 : Ob := rowV lvQ2 4 (s251 ++ [(x403, x405, x406, x407)]) (vnext s251 [(x403, x405, x406, x407)] v201) false
     let m121 : Mem := [o1, o120, o108, o115, o115]
     refine QS m121 25 9 (some (1 : Int)) none okS leS hx410 ?_
     exact QGC ((vnext s251 [(x403, x405, x406, x407)] v201), ((s251 ++ [(x403, x405, x406, x407)]).length)) h rfl (all_c (bel_rowV _) (all_c (bel_rowV _) all_n))
    replace h := h.t rfl
    refine QL [o1, o106, o108, o109] 25 9 elS (sub s200 (1 : Int) (s200.length : Int)) ?_
    refine QP (((sub s200 (1 : Int) (s200.length : Int)).length : Int) == (0 : Int)) (fun hc => by simp only [Dq] at hp373 hc; omega) (fun _ => ?_)
    obtain ⟨x378, hx379, h⟩ := h
    refine QI [o1, o106, o108, o109] 25 9 .i64 okS leS hx379 ?_
    refine QK 1 ?_
    obtain ⟨x380, hx381, h⟩ := h
    refine QV (lines_Name_ok m _ hx381) ?_
    cases x380
    ·replace h := h.f rfl
     refine QR .ret ?_
     subst r; exact QT .ret okQ2 lgQ2 4 0 rfl
    replace h := h.t rfl
    refine QD ?_
    obtain ⟨x382, hx383, h⟩ := h
    refine QI [o1, o106, o108, o109] 25 9 .i64 okS leS hx383 ?_
    refine QK 3 ?_
    obtain ⟨x384, x385, x386, hx387, h⟩ := h
    refine QVd (rat_Mul_ok m _ _ _ _ _ _ hx387) ?_
    refine QK 1 ?_
    obtain ⟨hx388, h⟩ := h
    refine QA [o1, o106, o108, o109] 1 s251 [(x382, x384, x385, x386)] v201 61 61 72 okQ2 (src_fixed okQ2 leQ2) hn201 hx388 ?_
    obtain ⟨hx389, h⟩ := h
    let o123 : Ob := rowV lvQ2 4 (s251 ++ [(x382, x384, x385, x386)]) (vnext s251 [(x382, x384, x385, x386)] v201) false
    refine QS [o1, o123, o108, o109] 25 9 (some (1 : Int)) none okS leS hx389 ?_
    exact QGC ((vnext s251 [(x382, x384, x385, x386)] v201), ((s251 ++ [(x382, x384, x385, x386)]).length)) h rfl (all_c (bel_rowV _) (all_c (bel_rowV _) all_n))
   refine QL [o1, o106, o108, o109] 25 9 elS (sub s200 (1 : Int) (s200.length : Int)) ?_
   refine QBp h (fun hp423 h => ?_) (fun hp423 h => ?_)
   ·refine QR .ret ?_
    subst r; exact QT .ret okQ2 lgQ2 4 0 rfl
   obtain ⟨x424, hx425, h⟩ := h
   refine QI [o1, o106, o108, o109] 25 9 .i64 okS leS hx425 ?_
   refine QK 1 ?_
   obtain ⟨x426, hx427, h⟩ := h
   refine QV (lines_Name_ok m _ hx427) ?_
   cases x426
   ·replace h := h.f rfl
    refine QR .ret ?_
    subst r; exact QT .ret okQ2 lgQ2 4 0 rfl
   replace h := h.t rfl
   refine QD ?_
   obtain ⟨x428, hx429, h⟩ := h
   refine QI [o1, o106, o108, o109] 25 9 .i64 okS leS hx429 ?_
   refine QK 3 ?_
   obtain ⟨x430, x431, x432, hx433, h⟩ := h
   refine QVd (rat_Mul_ok m _ _ _ _ _ _ hx433) ?_
   refine QK 1 ?_
   obtain ⟨hx434, h⟩ := h
   refine QA [o1, o106, o108, o109] 1 s251 [(x428, x430, x431, x432)] v201 61 61 72 okQ2 (src_fixed okQ2 leQ2) hn201 hx434 ?_
   obtain ⟨hx435, h⟩ := h
   let o126 : Ob := rowV lvQ2 4 (s251 ++ [(x428, x430, x431, x432)]) (vnext s251 [(x428, x430, x431, x432)] v201) false
   refine QS [o1, o126, o108, o109] 25 9 (some (1 : Int)) none okS leS hx435 ?_
   exact QGC ((vnext s251 [(x428, x430, x431, x432)] v201), ((s251 ++ [(x428, x430, x431, x432)]).length)) h rfl (all_c (bel_rowV _) (all_c (bel_rowV _) all_n))
  refine QL [o1, o106, o107] 25 9 elS s200 ?_
  refine QP (decide ((s200.length : Int) > (0 : Int))) (fun _ => ?_) (fun hc => by simp only [Dq] at hp361 hc; omega)
  obtain ⟨x436, hx437, h⟩ := h
  refine QI [o1, o106, o107] 25 9 .i64 okS leS hx437 ?_
  refine QK 1 ?_
  refine QB h (fun h => ?_) (fun h => ?_)
  ·obtain ⟨x438, x439, x440, hx441, h⟩ := h
   refine QV (rat_Int_ok m _ hx441) ?_
   let o127 : Ob := .cells [.pd (.bool x438), .pd (.sl (x439.map elU32)), .pd (.sl (x440.map elU32))] 1 0 false
   refine QK 1 ?_
   refine QL [o1, o106, o107, o127] 25 9 elS s200 ?_
   refine QP (decide ((s200.length : Int) > (0 : Int))) (fun _ => ?_) (fun hc => by simp only [Dq] at hp361 hc; omega)
   obtain ⟨x442, hx443, h⟩ := h
   refine QI [o1, o106, o107, o127] 25 9 .i64 okS leS hx443 ?_
   refine QK 1 ?_
   obtain ⟨x444, hx445, h⟩ := h
   refine QV (strings_Contains_ok m _ _ hx445) ?_
   cases x444
   ·replace h := h.f rfl
    obtain ⟨x458, hx459, h⟩ := h
    refine QI [o1, o106, o107, o127] 25 9 .i64 okS leS hx459 ?_
    refine QK 1 ?_
    obtain ⟨x460, x461, x462, x463, hx464, h⟩ := h
    refine QV (lines_Number_ok m _ hx464) ?_
    cases x463
    ·replace h := h.f rfl
     let o128 : Ob := .cells [.pd (.bool x460), .pd (.sl (x461.map elU32)), .pd (.sl (x462.map elU32))] 1 0 false
     let m129 : Mem := [o1, o106, o107, o127, o128]
     refine QK 1 ?_
     refine QL m129 25 9 elS s200 ?_
     refine QP ((s200.length : Int) == (0 : Int)) (fun hc => by simp only [Dq] at hp361 hc; omega) (fun _ => ?_)
     obtain ⟨x479, hx480, h⟩ := h
     refine QI m129 25 9 .i64 okS leS hx480 ?_
     refine QK 1 ?_
     obtain ⟨x481, hx482, h⟩ := h
     refine QV (lines_Name_ok m _ hx482) ?_
     cases x481
     ·replace h := h.f rfl
      refine QR .ret ?_
      subst r; exact QT .ret okQ2 lgQ2 5 0 rfl
     replace h := h.t rfl
     refine QD ?_
     obtain ⟨x483, hx484, h⟩ := h
     refine QI m129 25 9 .i64 okS leS hx484 ?_
     refine QK 3 ?_
     obtain ⟨x485, x486, x487, hx488, h⟩ := h
     refine QVd (rat_Mul_ok m _ _ _ _ _ _ hx488) ?_
     refine QK 1 ?_
     obtain ⟨hx489, h⟩ := h
     refine QA m129 1 s251 [(x483, x485, x486, x487)] v201 61 61 72 okQ2 (src_fixed okQ2 leQ2) hn201 hx489 ?_
     obtain ⟨hx490, h⟩ := h
     let o131 : Ob := rowV lvQ2 4 (s251 ++ [(x483, x485, x486, x487)]) (vnext s251 [(x483, x485, x486, x487)] v201) false
     let m132 : Mem := [o1, o131, o107, o127, o128]
     refine QS m132 25 9 (some (1 : Int)) none okS leS hx490 ?_
     exact QGC ((vnext s251 [(x483, x485, x486, x487)] v201), ((s251 ++ [(x483, x485, x486, x487)]).length)) h rfl (all_c (bel_rowV _) (all_c (bel_rowV _) all_n))
    replace h := h.t rfl
    let o133 : Ob := .cells [.pd (.bool x460), .pd (.sl (x461.map elU32)), .pd (.sl (x462.map elU32))] 1 0 false
    refine QK 1 ?_
    refine H_drawF [2] (by kernel_rfl) ?_
    refine QK 1 ?_
    obtain ⟨hx465, h⟩ := h
    refine H_askall _ (by kernel_rfl) (fun M' => ask_sub (P := Tryz.prog) (M := M') (t := 25) (et := 9) (lv := lvS) (lo := (some (1 : Int))) (hi := none) okS leS (by kernel_rfl) (by kernel_rfl) hx465) ?_
    let m135 : Mem := [o1, o106, o107, o133, o133]
    refine QK 1 ?_
    refine QL m135 25 9 elS (sub s200 (1 : Int) (s200.length : Int)) ?_
    refine QBp h (fun hp466 h => ?_) (fun hp466 h => ?_)
    ·refine QR .ret ?_
     subst r; exact QT .ret okQ2 lgQ2 5 0 rfl
    obtain ⟨x467, hx468, h⟩ := h
    refine QI m135 25 9 .i64 okS leS hx468 ?_
    refine QK 1 ?_
    obtain ⟨x469, hx470, h⟩ := h
    refine QV (lines_Name_ok m _ hx470) ?_
    cases x469
    ·replace h := h.f rfl
     refine QR .ret ?_
     subst r; exact QT .ret okQ2 lgQ2 5 0 rfl
    replace h := h.t rfl
    refine QD ?_
    obtain ⟨x471, hx472, h⟩ := h
    refine QI m135 25 9 .i64 okS leS hx472 ?_
    refine QK 3 ?_
    obtain ⟨x473, x474, x475, hx476, h⟩ := h
    refine QVd (rat_Mul_ok m _ _ _ _ _ _ hx476) ?_
    refine QK 1 ?_
    obtain ⟨hx477, h⟩ := h
    refine QA m135 1 s251 [(x471, x473, x474, x475)] v201 61 61 72 okQ2 (src_fixed okQ2 leQ2) hn201 hx477 ?_
    obtain ⟨hx478, h⟩ := h
    let o138 : Ob := rowV lvQ2 4 (s251 ++ [(x471, x473, x474, x475)]) (vnext s251 [(x471, x473, x474, x475)] v201) false
    let m139 : Mem := [o1, o138, o107, o133, o133]
    refine QS m139 25 9 (some (1 : Int)) none okS leS hx478 ?_
    exact QGC ((vnext s251 [(x471, x473, x474, x475)] v201), ((s251 ++ [(x471, x473, x474, x475)]).length)) h rfl (all_c (bel_rowV _) (all_c (bel_rowV _) all_n))
   replace h := h.t rfl
   refine QL [o1, o106, o107, o127] 25 9 elS s200 ?_
   refine QP ((s200.length : Int) == (0 : Int)) (fun hc => by simp only [Dq] at hp361 hc; omega) (fun _ => ?_)
   obtain ⟨x446, hx447, h⟩ := h
   refine QI [o1, o106, o107, o127] 25 9 .i64 okS leS hx447 ?_
   refine QK 1 ?_
   obtain ⟨x448, hx449, h⟩ := h
   refine QV (lines_Name_ok m _ hx449) ?_
   cases x448
   ·replace h := h.f rfl
    refine QR .ret ?_
    subst r; exact QT .ret okQ2 lgQ2 4 0 rfl
   replace h := h.t rfl
   refine QD ?_
   obtain ⟨x450, hx451, h⟩ := h
   refine QI [o1, o106, o107, o127] 25 9 .i64 okS leS hx451 ?_
   refine QK 3 ?_
   obtain ⟨x452, x453, x454, hx455, h⟩ := h
   refine QVd (rat_Mul_ok m _ _ _ _ _ _ hx455) ?_
   refine QK 1 ?_
   obtain ⟨hx456, h⟩ := h
   refine QA [o1, o106, o107, o127] 1 s251 [(x450, x452, x453, x454)] v201 61 61 72 okQ2 (src_fixed okQ2 leQ2) hn201 hx456 ?_
   obtain ⟨hx457, h⟩ := h
   let o141 : Ob := rowV lvQ2 4 (s251 ++ [(x450, x452, x453, x454)]) (vnext s251 [(x450, x452, x453, x454)] v201) false
   refine QS [o1, o141, o107, o127] 25 9 (some (1 : Int)) none okS leS hx457 ?_
   exact QGC ((vnext s251 [(x450, x452, x453, x454)] v201), ((s251 ++ [(x450, x452, x453, x454)]).length)) h rfl (all_c (bel_rowV _) (all_c (bel_rowV _) all_n))
  obtain ⟨x491, x492, x493, hx494, h⟩ := h
  refine QV (rat_Int_ok m _ hx494) ?_
  let o142 : Ob := .cells [.pd (.bool x491), .pd (.sl (x492.map elU32)), .pd (.sl (x493.map elU32))] 1 0 false
  refine QK 1 ?_
  refine QL [o1, o106, o107, o142] 25 9 elS s200 ?_
  refine QP (decide ((s200.length : Int) > (0 : Int))) (fun _ => ?_) (fun hc => by simp only [Dq] at hp361 hc; omega)
  obtain ⟨x495, hx496, h⟩ := h
  refine QI [o1, o106, o107, o142] 25 9 .i64 okS leS hx496 ?_
  refine QK 1 ?_
  obtain ⟨x497, hx498, h⟩ := h
  refine QV (strings_Contains_ok m _ _ hx498) ?_
  cases x497
  ·replace h := h.f rfl
   obtain ⟨x511, hx512, h⟩ := h
   refine QI [o1, o106, o107, o142] 25 9 .i64 okS leS hx512 ?_
   refine QK 1 ?_
   obtain ⟨x513, x514, x515, x516, hx517, h⟩ := h
   refine QV (lines_Number_ok m _ hx517) ?_
   cases x516
   ·replace h := h.f rfl
    let o143 : Ob := .cells [.pd (.bool x513), .pd (.sl (x514.map elU32)), .pd (.sl (x515.map elU32))] 1 0 false
    let m144 : Mem := [o1, o106, o107, o142, o143]
    refine QK 1 ?_
    refine QL m144 25 9 elS s200 ?_
    refine QP ((s200.length : Int) == (0 : Int)) (fun hc => by simp only [Dq] at hp361 hc; omega) (fun _ => ?_)
    obtain ⟨x532, hx533, h⟩ := h
    refine QI m144 25 9 .i64 okS leS hx533 ?_
    refine QK 1 ?_
    obtain ⟨x534, hx535, h⟩ := h
    refine QV (lines_Name_ok m _ hx535) ?_
    cases x534
    ·replace h := h.f rfl
     refine QR .ret ?_
     subst r; exact QT .ret okQ2 lgQ2 5 0 rfl
    replace h := h.t rfl
    refine QD ?_
    obtain ⟨x536, hx537, h⟩ := h
    refine QI m144 25 9 .i64 okS leS hx537 ?_
    refine QK 3 ?_
    obtain ⟨x538, x539, x540, hx541, h⟩ := h
    refine QVd (rat_Mul_ok m _ _ _ _ _ _ hx541) ?_
    refine QK 1 ?_
    obtain ⟨hx542, h⟩ := h
    refine QA m144 1 s251 [(x536, x538, x539, x540)] v201 61 61 72 okQ2 (src_fixed okQ2 leQ2) hn201 hx542 ?_
    obtain ⟨hx543, h⟩ := h
    let o146 : Ob := rowV lvQ2 4 (s251 ++ [(x536, x538, x539, x540)]) (vnext s251 [(x536, x538, x539, x540)] v201) false
    let m147 : Mem := [o1, o146, o107, o142, o143]
    refine QS m147 25 9 (some (1 : Int)) none okS leS hx543 ?_
    exact QGC ((vnext s251 [(x536, x538, x539, x540)] v201), ((s251 ++ [(x536, x538, x539, x540)]).length)) h rfl (all_c (bel_rowV _) (all_c (bel_rowV _) all_n))
   replace h := h.t rfl
   let o148 : Ob := .cells [.pd (.bool x513), .pd (.sl (x514.map elU32)), .pd (.sl (x515.map elU32))] 1 0 false
   refine QK 1 ?_
   refine H_drawF [2] (by kernel_rfl) ?_
   refine QK 1 ?_
   obtain ⟨hx518, h⟩ := h
   refine H_askall _ (by kernel_rfl) (fun M' => ask_sub (P := Tryz.prog) (M := M') (t := 25) (et := 9) (lv := lvS) (lo := (some (1 : Int))) (hi := none) okS leS (by kernel_rfl) (by kernel_rfl) hx518) ?_
   let m150 : Mem := [o1, o106, o107, o148, o148]
   refine QK 1 ?_
   refine QL m150 25 9 elS (sub s200 (1 : Int) (s200.length : Int)) ?_
   refine QBp h (fun hp519 h => ?_) (fun hp519 h => ?_)
   ·refine QR .ret ?_
    subst r; exact QT .ret okQ2 lgQ2 5 0 rfl
   obtain ⟨x520, hx521, h⟩ := h
   refine QI m150 25 9 .i64 okS leS hx521 ?_
   refine QK 1 ?_
   obtain ⟨x522, hx523, h⟩ := h
   refine QV (lines_Name_ok m _ hx523) ?_
   cases x522
   ·replace h := h.f rfl
    refine QR .ret ?_
    subst r; exact QT .ret okQ2 lgQ2 5 0 rfl
   replace h := h.t rfl
   refine QD ?_
   obtain ⟨x524, hx525, h⟩ := h
   refine QI m150 25 9 .i64 okS leS hx525 ?_
   refine QK 3 ?_
   obtain ⟨x526, x527, x528, hx529, h⟩ := h
   refine QVd (rat_Mul_ok m _ _ _ _ _ _ hx529) ?_
   refine QK 1 ?_
   obtain ⟨hx530, h⟩ := h
   refine QA m150 1 s251 [(x524, x526, x527, x528)] v201 61 61 72 okQ2 (src_fixed okQ2 leQ2) hn201 hx530 ?_
   obtain ⟨hx531, h⟩ := h
   let o153 : Ob := rowV lvQ2 4 (s251 ++ [(x524, x526, x527, x528)]) (vnext s251 [(x524, x526, x527, x528)] v201) false
   let m154 : Mem := [o1, o153, o107, o148, o148]
   refine QS m154 25 9 (some (1 : Int)) none okS leS hx531 ?_
   exact QGC ((vnext s251 [(x524, x526, x527, x528)] v201), ((s251 ++ [(x524, x526, x527, x528)]).length)) h rfl (all_c (bel_rowV _) (all_c (bel_rowV _) all_n))
  replace h := h.t rfl
  refine QL [o1, o106, o107, o142] 25 9 elS s200 ?_
  refine QP ((s200.length : Int) == (0 : Int)) (fun hc => by simp only [Dq] at hp361 hc; omega) (fun _ => ?_)
  obtain ⟨x499, hx500, h⟩ := h
  refine QI [o1, o106, o107, o142] 25 9 .i64 okS leS hx500 ?_
  refine QK 1 ?_
  obtain ⟨x501, hx502, h⟩ := h
  refine QV (lines_Name_ok m _ hx502) ?_
  cases x501
  ·replace h := h.f rfl
   refine QR .ret ?_
   subst r; exact QT .ret okQ2 lgQ2 4 0 rfl
  replace h := h.t rfl
  refine QD ?_
  obtain ⟨x503, hx504, h⟩ := h
  refine QI [o1, o106, o107, o142] 25 9 .i64 okS leS hx504 ?_
  refine QK 3 ?_
  obtain ⟨x505, x506, x507, hx508, h⟩ := h
  refine QVd (rat_Mul_ok m _ _ _ _ _ _ hx508) ?_
  refine QK 1 ?_
  obtain ⟨hx509, h⟩ := h
  refine QA [o1, o106, o107, o142] 1 s251 [(x503, x505, x506, x507)] v201 61 61 72 okQ2 (src_fixed okQ2 leQ2) hn201 hx509 ?_
  obtain ⟨hx510, h⟩ := h
  let o156 : Ob := rowV lvQ2 4 (s251 ++ [(x503, x505, x506, x507)]) (vnext s251 [(x503, x505, x506, x507)] v201) false
  refine QS [o1, o156, o107, o142] 25 9 (some (1 : Int)) none okS leS hx510 ?_
  exact QGC ((vnext s251 [(x503, x505, x506, x507)] v201), ((s251 ++ [(x503, x505, x506, x507)]).length)) h rfl (all_c (bel_rowV _) (all_c (bel_rowV _) all_n))
 refine QL [o1, o106, o107] 25 9 elS s200 ?_
 refine QP (decide ((s200.length : Int) > (0 : Int))) (fun hc => by simp only [Dq] at hp361 hc; omega) (fun _ => ?_)
 obtain ⟨x544, x545, x546, hx547, h⟩ := h
 refine QV (rat_Int_ok m _ hx547) ?_
 let o157 : Ob := .cells [.pd (.bool x544), .pd (.sl (x545.map elU32)), .pd (.sl (x546.map elU32))] 1 0 false
 refine QK 1 ?_
 refine QL [o1, o106, o107, o157] 25 9 elS s200 ?_
 refine QP (decide ((s200.length : Int) > (0 : Int))) (fun hc => by simp only [Dq] at hp361 hc; omega) (fun _ => ?_)
 refine QL [o1, o106, o107, o157] 25 9 elS s200 ?_
 refine QBp h (fun hp548 h => ?_) (fun hp548 h => ?_)
 ·refine QR .ret ?_
  subst r; exact QT .ret okQ2 lgQ2 4 0 rfl
 obtain ⟨x549, hx550, h⟩ := h
 refine QI [o1, o106, o107, o157] 25 9 .i64 okS leS hx550 ?_
 refine QK 1 ?_
 obtain ⟨x551, hx552, h⟩ := h
 refine QV (lines_Name_ok m _ hx552) ?_
 cases x551
 ·replace h := h.f rfl
  refine QR .ret ?_
  subst r; exact QT .ret okQ2 lgQ2 4 0 rfl
 replace h := h.t rfl
 refine QD ?_
 obtain ⟨x553, hx554, h⟩ := h
 refine QI [o1, o106, o107, o157] 25 9 .i64 okS leS hx554 ?_
 refine QK 3 ?_
 obtain ⟨x555, x556, x557, hx558, h⟩ := h
 refine QVd (rat_Mul_ok m _ _ _ _ _ _ hx558) ?_
 refine QK 1 ?_
 obtain ⟨hx559, h⟩ := h
 refine QA [o1, o106, o107, o157] 1 s251 [(x553, x555, x556, x557)] v201 61 61 72 okQ2 (src_fixed okQ2 leQ2) hn201 hx559 ?_
 obtain ⟨hx560, h⟩ := h
 let o160 : Ob := rowV lvQ2 4 (s251 ++ [(x553, x555, x556, x557)]) (vnext s251 [(x553, x555, x556, x557)] v201) false
 refine QS [o1, o160, o107, o157] 25 9 (some (1 : Int)) none okS leS hx560 ?_
 exact QGC ((vnext s251 [(x553, x555, x556, x557)] v201), ((s251 ++ [(x553, x555, x556, x557)]).length)) h rfl (all_c (bel_rowV _) (all_c (bel_rowV _) all_n))
theorem model_row_ok (m : Tp) (p0 : List Bz) {r : Bz × (List (Bz × Fq)) × Int × Bool × (List Int) × (List Int) × Bool} (h : model_row p0 r) : ASpec Tryz.prog (gtT m) 14 [.pd (.sl (p0.map elS))] (· = .tup [.agg [.pd (.str r.1), .pd (.sl (r.2.1.map elQ2)), .pd (.int .i64 r.2.2.1), .pd (.bool r.2.2.2.1), .pd (.sl (r.2.2.2.2.1.map elU32)), .pd (.sl (r.2.2.2.2.2.1.map elU32))], .pd (.bool r.2.2.2.2.2.2)]) := by
 refine ASpec_tree Tryz.f14 mixedT (askG [9, 10, 11] false) (by kernel_rfl) ?_
 unfold model_row at h
 let o1 : Ob := .cells [.pd (.str ([] : List UInt8)), .fixed (([] : List (Bz × Fq)).map elQ2), .pd (.int .i64 0), .pd (.bool false), .fixed (([] : List Int).map elU32), .fixed (([] : List Int).map elU32)] 1 0 false
 refine QL [o1] 25 9 elS p0 ?_
 refine QBp h (fun hp1 h => ?_) (fun hp1 h => ?_)
 ·refine QK 2 ?_
  subst r; exact QE .ret
 obtain ⟨x2, hx3, h⟩ := h
 refine QI [o1] 25 9 .i64 okS leS hx3 ?_
 refine QK 1 ?_
 obtain ⟨x4, x5, hx6, h⟩ := h
 refine QV (strings_CutSuffix_ok m _ _ hx6) ?_
 cases x5
 ·replace h := h.f rfl
  refine QD ?_
  obtain ⟨x60, hx61, h⟩ := h
  refine QVd (model_rels_ok m  hx61) ?_
  obtain ⟨x62, hx63, h⟩ := h
  refine QI [o1] 25 9 .i64 okS leS hx63 ?_
  refine QK 1 ?_
  obtain ⟨x64, x65, hx66, h⟩ := h
  refine QZ (ask_lookup (P := Tryz.prog) (M := [o1]) (t := 117) (k := 9) (e := 3) (l := x60) (s := x62) (by kernel_rfl) (by kernel_rfl) (by kernel_rfl) hx66) ?_
  cases x65
  ·replace h := h.f rfl
   obtain ⟨x82, hx83, h⟩ := h
   refine QI [o1] 25 9 .i64 okS leS hx83 ?_
   refine QK 1 ?_
   obtain ⟨x84, x85, x86, x87, hx88, h⟩ := h
   refine QV (lines_Number_ok m _ hx88) ?_
   cases x87
   ·replace h := h.f rfl
    let o2 : Ob := .cells [.pd (.bool x84), .pd (.sl (x85.map elU32)), .pd (.sl (x86.map elU32))] 1 0 false
    refine QK 1 ?_
    obtain ⟨hx93, h⟩ := h
    refine QS [o1, o2] 25 9 (some (1 : Int)) (some (IntKind.i64.wrap ((p0.length : Int) - 2))) okS leS hx93 ?_
    obtain ⟨x94, x95, hx96, h⟩ := h
    refine QV (model_sum_ok m _ hx96) ?_
    cases x95
    ·replace h := h.f rfl
     refine QD ?_
     refine QK 3 ?_
     subst r; exact QE .ret
    replace h := h.t rfl
    refine QD ?_
    refine QK 3 ?_
    subst r; exact QE .ret
   replace h := h.t rfl
   let o5 : Ob := .cells [.pd (.bool x84), .pd (.sl (x85.map elU32)), .pd (.sl (x86.map elU32))] 1 0 false
   refine QK 1 ?_
   obtain ⟨hx89, h⟩ := h
   refine QS [o1, o5] 25 9 (some (1 : Int)) (some (IntKind.i64.wrap ((p0.length : Int) - 2))) okS leS hx89 ?_
   obtain ⟨x90, x91, hx92, h⟩ := h
   refine QV (model_sum_ok m _ hx92) ?_
   cases x91
   ·replace h := h.f rfl
    refine QD ?_
    refine QK 3 ?_
    subst r; exact QE .ret
   replace h := h.t rfl
   refine QD ?_
   refine QK 3 ?_
   subst r; exact QE .ret
  replace h := h.t rfl
  obtain ⟨x67, hx68, h⟩ := h
  refine QI [o1] 25 9 .i64 okS leS hx68 ?_
  refine QK 1 ?_
  obtain ⟨x69, x70, x71, x72, hx73, h⟩ := h
  refine QV (lines_Number_ok m _ hx73) ?_
  cases x72
  ·replace h := h.f rfl
   let o8 : Ob := .cells [.pd (.bool x69), .pd (.sl (x70.map elU32)), .pd (.sl (x71.map elU32))] 1 0 false
   refine QK 1 ?_
   obtain ⟨hx78, h⟩ := h
   refine QS [o1, o8] 25 9 (some (1 : Int)) (some (IntKind.i64.wrap ((p0.length : Int) - 2))) okS leS hx78 ?_
   obtain ⟨x79, x80, hx81, h⟩ := h
   refine QV (model_sum_ok m _ hx81) ?_
   cases x80
   ·replace h := h.f rfl
    refine QD ?_
    refine QK 3 ?_
    subst r; exact QE .ret
   replace h := h.t rfl
   refine QD ?_
   refine QK 3 ?_
   subst r; exact QE .ret
  replace h := h.t rfl
  let o11 : Ob := .cells [.pd (.bool x69), .pd (.sl (x70.map elU32)), .pd (.sl (x71.map elU32))] 1 0 false
  refine QK 1 ?_
  obtain ⟨hx74, h⟩ := h
  refine QS [o1, o11] 25 9 (some (1 : Int)) (some (IntKind.i64.wrap ((p0.length : Int) - 2))) okS leS hx74 ?_
  obtain ⟨x75, x76, hx77, h⟩ := h
  refine QV (model_sum_ok m _ hx77) ?_
  cases x76
  ·replace h := h.f rfl
   refine QD ?_
   refine QK 3 ?_
   subst r; exact QE .ret
  replace h := h.t rfl
  refine QD ?_
  refine QK 3 ?_
  subst r; exact QE .ret
 replace h := h.t rfl
 refine QD ?_
 obtain ⟨x7, hx8, h⟩ := h
 refine QVd (model_rels_ok m  hx8) ?_
 obtain ⟨x9, hx10, h⟩ := h
 refine QI [o1] 25 9 .i64 okS leS hx10 ?_
 refine QK 1 ?_
 obtain ⟨x11, x12, hx13, h⟩ := h
 refine QZ (ask_lookup (P := Tryz.prog) (M := [o1]) (t := 117) (k := 9) (e := 3) (l := x7) (s := x9) (by kernel_rfl) (by kernel_rfl) (by kernel_rfl) hx13) ?_
 cases x12
 ·replace h := h.f rfl
  obtain ⟨x37, hx38, h⟩ := h
  refine QI [o1] 25 9 .i64 okS leS hx38 ?_
  refine QK 1 ?_
  obtain ⟨x39, x40, x41, x42, hx43, h⟩ := h
  refine QV (lines_Number_ok m _ hx43) ?_
  cases x42
  ·replace h := h.f rfl
   let o14 : Ob := .cells [.pd (.bool x39), .pd (.sl (x40.map elU32)), .pd (.sl (x41.map elU32))] 1 0 false
   refine QK 1 ?_
   obtain ⟨hx52, h⟩ := h
   refine QS [o1, o14] 25 9 (some (1 : Int)) (some (IntKind.i64.wrap ((p0.length : Int) - 2))) okS leS hx52 ?_
   obtain ⟨x53, x54, hx55, h⟩ := h
   refine QV (model_sum_ok m _ hx55) ?_
   cases x54
   ·replace h := h.f rfl
    refine QD ?_
    refine QK 2 ?_
    obtain ⟨x58, hx59, h⟩ := h
    refine QVd (lines_Name_ok m _ hx59) ?_
    cases x58
    ·replace h := h.f rfl
     refine QK 1 ?_
     subst r; exact QE .ret
    replace h := h.t rfl
    refine QK 1 ?_
    subst r; exact QE .ret
   replace h := h.t rfl
   refine QD ?_
   refine QK 2 ?_
   obtain ⟨x56, hx57, h⟩ := h
   refine QVd (lines_Name_ok m _ hx57) ?_
   cases x56
   ·replace h := h.f rfl
    refine QK 1 ?_
    subst r; exact QE .ret
   replace h := h.t rfl
   refine QK 1 ?_
   subst r; exact QE .ret
  replace h := h.t rfl
  let o19 : Ob := .cells [.pd (.bool x39), .pd (.sl (x40.map elU32)), .pd (.sl (x41.map elU32))] 1 0 false
  refine QK 1 ?_
  obtain ⟨hx44, h⟩ := h
  refine QS [o1, o19] 25 9 (some (1 : Int)) (some (IntKind.i64.wrap ((p0.length : Int) - 2))) okS leS hx44 ?_
  obtain ⟨x45, x46, hx47, h⟩ := h
  refine QV (model_sum_ok m _ hx47) ?_
  cases x46
  ·replace h := h.f rfl
   refine QD ?_
   refine QK 2 ?_
   obtain ⟨x50, hx51, h⟩ := h
   refine QVd (lines_Name_ok m _ hx51) ?_
   cases x50
   ·replace h := h.f rfl
    refine QK 1 ?_
    subst r; exact QE .ret
   replace h := h.t rfl
   refine QK 1 ?_
   subst r; exact QE .ret
  replace h := h.t rfl
  refine QD ?_
  refine QK 2 ?_
  obtain ⟨x48, hx49, h⟩ := h
  refine QVd (lines_Name_ok m _ hx49) ?_
  cases x48
  ·replace h := h.f rfl
   refine QK 1 ?_
   subst r; exact QE .ret
  replace h := h.t rfl
  refine QK 1 ?_
  subst r; exact QE .ret
 replace h := h.t rfl
 obtain ⟨x14, hx15, h⟩ := h
 refine QI [o1] 25 9 .i64 okS leS hx15 ?_
 refine QK 1 ?_
 obtain ⟨x16, x17, x18, x19, hx20, h⟩ := h
 refine QV (lines_Number_ok m _ hx20) ?_
 cases x19
 ·replace h := h.f rfl
  let o24 : Ob := .cells [.pd (.bool x16), .pd (.sl (x17.map elU32)), .pd (.sl (x18.map elU32))] 1 0 false
  refine QK 1 ?_
  obtain ⟨hx29, h⟩ := h
  refine QS [o1, o24] 25 9 (some (1 : Int)) (some (IntKind.i64.wrap ((p0.length : Int) - 2))) okS leS hx29 ?_
  obtain ⟨x30, x31, hx32, h⟩ := h
  refine QV (model_sum_ok m _ hx32) ?_
  cases x31
  ·replace h := h.f rfl
   refine QD ?_
   refine QK 2 ?_
   obtain ⟨x35, hx36, h⟩ := h
   refine QVd (lines_Name_ok m _ hx36) ?_
   cases x35
   ·replace h := h.f rfl
    refine QK 1 ?_
    subst r; exact QE .ret
   replace h := h.t rfl
   refine QK 1 ?_
   subst r; exact QE .ret
  replace h := h.t rfl
  refine QD ?_
  refine QK 2 ?_
  obtain ⟨x33, hx34, h⟩ := h
  refine QVd (lines_Name_ok m _ hx34) ?_
  cases x33
  ·replace h := h.f rfl
   refine QK 1 ?_
   subst r; exact QE .ret
  replace h := h.t rfl
  refine QK 1 ?_
  subst r; exact QE .ret
 replace h := h.t rfl
 let o29 : Ob := .cells [.pd (.bool x16), .pd (.sl (x17.map elU32)), .pd (.sl (x18.map elU32))] 1 0 false
 refine QK 1 ?_
 obtain ⟨hx21, h⟩ := h
 refine QS [o1, o29] 25 9 (some (1 : Int)) (some (IntKind.i64.wrap ((p0.length : Int) - 2))) okS leS hx21 ?_
 obtain ⟨x22, x23, hx24, h⟩ := h
 refine QV (model_sum_ok m _ hx24) ?_
 cases x23
 ·replace h := h.f rfl
  refine QD ?_
  refine QK 2 ?_
  obtain ⟨x27, hx28, h⟩ := h
  refine QVd (lines_Name_ok m _ hx28) ?_
  cases x27
  ·replace h := h.f rfl
   refine QK 1 ?_
   subst r; exact QE .ret
  replace h := h.t rfl
  refine QK 1 ?_
  subst r; exact QE .ret
 replace h := h.t rfl
 refine QD ?_
 refine QK 2 ?_
 obtain ⟨x25, hx26, h⟩ := h
 refine QVd (lines_Name_ok m _ hx26) ?_
 cases x25
 ·replace h := h.f rfl
  refine QK 1 ?_
  subst r; exact QE .ret
 replace h := h.t rfl
 refine QK 1 ?_
 subst r; exact QE .ret
theorem model_first_ok (m : Tp) (p0 : List Bz) {r : Bz × (List (Bz × Fq)) × Int × Bool × (List Int) × (List Int) × Bool} (h : model_first p0 r) : ASpec Tryz.prog (gtT m) 15 [.pd (.sl (p0.map elS))] (· = .tup [.agg [.pd (.str r.1), .pd (.sl (r.2.1.map elQ2)), .pd (.int .i64 r.2.2.1), .pd (.bool r.2.2.2.1), .pd (.sl (r.2.2.2.2.1.map elU32)), .pd (.sl (r.2.2.2.2.2.1.map elU32))], .pd (.bool r.2.2.2.2.2.2)]) := by
 refine ASpec_tree Tryz.f15 mixedT (askG [9, 10, 11] false) (by kernel_rfl) ?_
 unfold model_first at h
 obtain ⟨x1, hx2, h⟩ := h
 refine QI [.cells [.pd (.str ([] : List UInt8)), .fixed (([] : List (Bz × Fq)).map elQ2), .pd (.int .i64 0), .pd (.bool false), .fixed (([] : List Int).map elU32), .fixed (([] : List Int).map elU32)] 1 0 false] 25 9 .i64 okS leS hx2 ?_
 refine QK 1 ?_
 refine QB h (fun h => ?_) (fun h => ?_)
 ·refine QK 2 ?_
  subst r; exact QE .ret
 ·obtain ⟨hx3, h⟩ := h
  refine QS [.cells [.pd (.str ([] : List UInt8)), .fixed (([] : List (Bz × Fq)).map elQ2), .pd (.int .i64 0), .pd (.bool false), .fixed (([] : List Int).map elU32), .fixed (([] : List Int).map elU32)] 1 0 false] 25 9 (some (1 : Int)) none okS leS hx3 ?_
  obtain ⟨x4, x5, hx6, h⟩ := h
  refine QV (model_sum_ok m _ hx6) ?_
  cases x5
  ·replace h := h.f rfl
   refine QK 2 ?_
   subst r; exact QE .ret
  ·replace h := h.t rfl
   refine QK 2 ?_
   subst r; exact QE .ret
theorem model_twice_ok (m : Tp) (p0 : List (Bz × Fq)) {r : Bool} (h : model_twice p0 r) : ASpec Tryz.prog (gtT m) 47 [.pd (.sl (p0.map elQ2))] (· = .pd (.bool r)) := by
 refine ASpec_tree Tryz.f47 mixedT (askG [9, 10, 11] false) (by kernel_rfl) ?_
 unfold model_twice at h
 refine QL [] 61 128 elQ2 p0 ?_
 refine QLP (F := model_twice_L1 p0 r) (s0 := (0 : Int)) h () 18 0
  (fun s100 () => [(0, .pd (.sl (p0.map elQ2))), (5, .pd (.sl (p0.map elQ2))), (6, .pd (.int .i64 (p0.length : Int))), (7, .pd (.int .i64 s100))])
  (fun s100 () => []) (fun s100 () => True) trivial [] mixedT (askG [9, 10, 11] false) ?_
 rintro X1 s100 ⟨⟩ - h
 dsimp only [model_twice_L1] at h
 refine QBp h (fun hp1 h => ?_) (fun hp1 h => ?_)
 ·obtain ⟨x2, x3, x4, x5, hx6, h⟩ := h
  refine QI [] 61 128 .i64 okQ2 leQ2 hx6 ?_
  let o1 : Ob := .cells [.pd (.str x2), .pd (.bool x3), .pd (.sl (x4.map elU32)), .pd (.sl (x5.map elU32))] 1 0 false
  refine QK 2 ?_
  obtain ⟨hx7, h⟩ := h
  refine QS [o1] 61 128 none (some s100) okQ2 leQ2 hx7 ?_
  refine QIN (g := 93) (args := [.pd (.sl ((sub p0 0 s100).map elQ2)), .fn (.func 94) [] [.ptr 0 0 0]]) (M := [o1]) Tryz.f93 mixedT (askG [9, 10, 11] false) (hasT 93 (by kernel_rfl)) ?_
  refine QIN (g := 152) (args := [.pd (.sl ((sub p0 0 s100).map elQ2)), .fn (.func 94) [] [.ptr 0 0 0]]) (M := [o1]) Tryz.f152 mixedT (askG [9, 10, 11] false) (hasT 152 (by kernel_rfl)) ?_
  refine QL [o1] 61 128 elQ2 (sub p0 0 s100) ?_
  refine QLP (F := model_twice_L2 p0 s100 X1 x2 r) (s0 := (0 : Int)) h () 19 1
   (fun s200 () => [(0, .pd (.sl ((sub p0 0 s100).map elQ2))), (1, .fn (.func 94) [] [.ptr 0 0 0]), (7, .pd (.int .i64 ((sub p0 0 s100).length : Int))), (8, .pd (.int .i64 s200))])
   (fun s200 () => [o1]) (fun s200 () => True) trivial [] mixedT (askG [9, 10, 11] false) ?_
  rintro X2 s200 ⟨⟩ - h
  dsimp only [model_twice_L2] at h
  refine QBp h (fun hp8 h => ?_) (fun hp8 h => ?_)
  ·obtain ⟨x9, x10, x11, x12, hx13, h⟩ := h
   refine QI [o1] 61 128 .i64 okQ2 leQ2 hx13 ?_
   refine QK 1 ?_
   refine QIN (g := 94) (args := [.agg [.pd (.str x9), .pd (.bool x10), .pd (.sl (x11.map elU32)), .pd (.sl (x12.map elU32))], .ptr 0 0 0]) (M := [o1]) Tryz.f94 mixedT (askG [9, 10, 11] false) (hasT 94 (by kernel_rfl)) ?_
   let o2 : Ob := .cells [.pd (.str x9), .pd (.bool x10), .pd (.sl (x11.map elU32)), .pd (.sl (x12.map elU32))] 1 0 false
   refine QK 5 ?_
   refine QB h (fun h => ?_) (fun h => ?_)
   ·refine QEM .ret (.pd (.bool true)) ([o1, o2]) ?_
    refine QR .ret ?_
    refine QEM .ret (.pd (.int .i64 s200)) ([o1, o2]) ?_
    refine QBp h (fun hp14 h => ?_) (fun hp14 h => ?_)
    ·refine QEM .ret (.pd (.bool true)) ([o1, o2]) ?_
     refine QR .ret ?_
     subst r; exact QE .ret
    refine QEM .ret (.pd (.bool false)) ([o1, o2]) ?_
    exact QGC () h trivial all_n
   refine QEM .ret (.pd (.bool false)) ([o1, o2]) ?_
   exact QGC () h trivial (all_c (by kernel_rfl) all_n)
  refine QR (.exit 0) ?_
  refine QEM .ret (.pd (.int .i64 (-1))) ([o1]) ?_
  refine QP false (fun hc => by cases hc) (fun _ => ?_)
  refine QEM .ret (.pd (.bool false)) ([o1]) ?_
  exact QGC () h trivial all_n
 refine QR (.exit 0) ?_
 subst r; exact QE .ret
theorem model_Parse_ok (m : Tp) (p0 : List UInt8) {r : (List Bz) × (List Fq) × (List (Bz × (List Fq) × Int × Fq)) × Int × Int} (h : model_Parse p0 r) : ASpec Tryz.prog (gtT m) 7 [.pd (.str p0)] (· = .tup [.agg [.pd (.sl (r.1.map elS)), .pd (.sl (r.2.1.map elQ4)), .pd (.sl (r.2.2.1.map elQ0))], .pd (.int .i64 r.2.2.2.1), .pd (.int .i64 r.2.2.2.2)]) := by
 refine ASpec_tree Tryz.f7 mixedT (askO [9, 10, 11] false [57]) (by kernel_rfl) ?_
 unfold model_Parse at h
 obtain ⟨x1, x2, hx3, h⟩ := h
 let o1 : Ob := .cells [.fixed (([] : List Bz).map elS), .fixed (([] : List Fq).map elQ4), .fixed (([] : List (Bz × (List Fq) × Int × Fq)).map elQ0)] 1 0 false
 refine QV (lines_All_ok m _ hx3) ?_
 refine QBp h (fun hp4 h => ?_) (fun hp4 h => ?_)
 ·refine QK 2 ?_
  subst r; exact QE .ret
 refine QL [o1] 51 59 elQ5 x1 ?_
 refine QBp h (fun hp5 h => ?_) (fun hp5 h => ?_)
 ·refine QK 2 ?_
  subst r; exact QE .ret
 let o2 : Ob := rowV lvS 1 ([] : List Bz) 0 false
 let o3 : Ob := rowV lvQ0 6 ([] : List (Bz × (List Fq) × Int × Fq)) 0 false
 let o4 : Ob := rowV lvQ1 1 ([] : List (List (Bz × Fq))) 0 false
 refine H_bldL (t := 57) (parts := []) (M0 := [o1]) (M1 := [o1, o2, o3, o4]) [(0, some 1), (2, some 2), (3, some 3)] (.agg [.own 1 (([] : List Bz).length) 0, .fixed (([] : List Fq).map elQ4), .own 2 (([] : List (Bz × (List Fq) × Int × Fq)).length) 0, .own 3 (([] : List (List (Bz × Fq))).length) 0]) (by kernel_rfl) (VStep.trans (VStep.trans (VStep.new [o1] 1) (VStep.new [o1, o2] 6)) (VStep.new [o1, o2, o3] 1)) (by kernel_rfl) ?_
 refine QZ (ask_boxC (M := [o1, o2, o3, o4]) (M2 := [o1, o2, o3, o4, .cells [.own 1 (([] : List Bz).length) 0, .fixed (([] : List Fq).map elQ4), .own 2 (([] : List (Bz × (List Fq) × Int × Fq)).length) 0, .own 3 (([] : List (List (Bz × Fq))).length) 0] 1 0 false]) (x := .agg [.own 1 (([] : List Bz).length) 0, .fixed (([] : List Fq).map elQ4), .own 2 (([] : List (Bz × (List Fq) × Int × Fq)).length) 0, .own 3 (([] : List (List (Bz × Fq))).length) 0]) (xs := [.own 1 (([] : List Bz).length) 0, .fixed (([] : List Fq).map elQ4), .own 2 (([] : List (Bz × (List Fq) × Int × Fq)).length) 0, .own 3 (([] : List (List (Bz × Fq))).length) 0]) rfl (all_c (ok_own (o := o2) (by kernel_rfl) (rowIs_v' (lv := lvS) (s := 1) (e := ([] : List Bz)) (ver := 0) (z := false))) (all_c (by kernel_rfl) (all_c (ok_own (o := o3) (by kernel_rfl) (rowIs_v' (lv := lvQ0) (s := 6) (e := ([] : List (Bz × (List Fq) × Int × Fq))) (ver := 0) (z := false))) (all_c (ok_own (o := o4) (by kernel_rfl) (rowIs_v' (lv := lvQ1) (s := 1) (e := ([] : List (List (Bz × Fq)))) (ver := 0) (z := false))) all_n)))) rfl) ?_
 let o5 : Ob := .cells [.own 1 (([] : List Bz).length) 0, .fixed (([] : List Fq).map elQ4), .own 2 (([] : List (Bz × (List Fq) × Int × Fq)).length) 0, .own 3 (([] : List (List (Bz × Fq))).length) 0] 1 0 false
 refine QL [o1, o2, o3, o4, o5] 51 59 elQ5 x1 ?_
 refine QLP (F := model_Parse_L1 x1 r) (s0 := ((0 : Int), ([] : List Bz), ([] : List (Bz × (List Fq) × Int × Fq)), ([] : List (List (Bz × Fq))))) h (0, (([] : List Bz).length), 0, (([] : List (Bz × (List Fq) × Int × Fq)).length), 0, (([] : List (List (Bz × Fq))).length)) 109 5
  (fun (s100, s151, s152, s153) (v101, n101, v102, n102, v103, n103) => [(2, .ptr 0 0 0), (7, .ptr 4 0 0), (32, .pd (.sl (x1.map elQ5))), (33, .pd (.int .i64 (x1.length : Int))), (34, .pd (.int .i64 s100))])
  (fun (s100, s151, s152, s153) (v101, n101, v102, n102, v103, n103) => [o1, rowV lvS 1 s151 v101 false, rowV lvQ0 6 s152 v102 false, rowV lvQ1 1 s153 v103 false, .cells [.own 1 n101 v101, .fixed (([] : List Fq).map elQ4), .own 2 n102 v102, .own 3 n103 v103] 1 0 false]) (fun (s100, s151, s152, s153) (v101, n101, v102, n102, v103, n103) => n101 = s151.length ∧ n102 = s152.length ∧ n103 = s153.length) ⟨rfl, rfl, rfl⟩ [] mixedT (askO [9, 10, 11] false [57]) ?_
 rintro X1 ⟨s100, s151, s152, s153⟩ ⟨v101, n101, v102, n102, v103, n103⟩ ⟨hn101, hn102, hn103⟩ h
 dsimp only [model_Parse_L1] at h
 refine QBp h (fun hp6 h => ?_) (fun hp6 h => ?_)
 ·obtain ⟨x7, x8, hx9, h⟩ := h
  let o6 : Ob := rowV lvQ0 6 s152 v102 false
  let o7 : Ob := rowV lvQ1 1 s153 v103 false
  let o8 : Ob := .cells [.own 1 n101 v101, .fixed (([] : List Fq).map elQ4), .own 2 n102 v102, .own 3 n103 v103] 1 0 false
  let m9 : Mem := [o1, rowV lvS 1 s151 v101 false, o6, o7, o8]
  refine QI m9 51 59 .i64 okQ5 leQ5 hx9 ?_
  let o10 : Ob := .cells [.pd (.int .i64 x7), .pd (.sl (x8.map elS))] 1 0 false
  refine QK 2 ?_
  refine QBp h (fun hp10 h => ?_) (fun hp10 h => ?_)
  ·refine QK 2 ?_
   obtain ⟨x11, x12, x13, x14, x15, x16, x17, hx18, h⟩ := h
   refine QV (model_first_ok m _ hx18) ?_
   cases x17
   ·replace h := h.f rfl
    let o12 : Ob := .cells [.pd (.str x11), .pd (.sl (x12.map elQ2)), .pd (.int .i64 x13), .pd (.bool x14), .pd (.sl (x15.map elU32)), .pd (.sl (x16.map elU32))] 1 0 false
    let m13 : Mem := [o1, rowV lvS 1 s151 v101 false, o6, o7, o8, o10, o12]
    refine QK 1 ?_
    let q1 : Mem := [o1, rowV lvS 1 s151 v101 false, o6, o7, o8, o10, o12]
    refine H_drawM [1, 2] [(1, (Pre q1)), (2, (Pre q1))] (m13) (by kernel_rfl) (by kernel_rfl) ⟨⟨[], rfl⟩, ⟨[], rfl⟩, trivial⟩ ?_
    refine QK 1 ?_
    refine H_askM (Pre q1) (.ptr 5 0 0) (by kernel_rfl) (by kernel_rfl) (by rintro _ ⟨_, rfl⟩; kernel_rfl) ?_
    refine H_askM (Pre q1) (.pd (.int .i64 x7)) (by kernel_rfl) (by kernel_rfl) (by rintro _ ⟨_, rfl⟩; kernel_rfl) ?_
    refine QK 1 ?_
    refine H_chk (p := (Pre q1) [o1, rowV lvS 1 s151 v101 false, o6, o7, o8, o10, o12] ∧ (Pre q1) [o1, rowV lvS 1 s151 v101 false, o6, o7, o8, o10, o12] ∧ True) (by kernel_rfl) (by kernel_rfl) ⟨⟨[], rfl⟩, ⟨[], rfl⟩, trivial⟩ ?_
    refine QR .ret ?_
    subst r; exact QE .ret
   replace h := h.t rfl
   let o14 : Ob := .cells [.pd (.str x11), .pd (.sl (x12.map elQ2)), .pd (.int .i64 x13), .pd (.bool x14), .pd (.sl (x15.map elU32)), .pd (.sl (x16.map elU32))] 1 0 false
   let m15 : Mem := [o1, rowV lvS 1 s151 v101 false, o6, o7, o8, o10, o14]
   refine QK 2 ?_
   refine QP (decide (s100 > (0 : Int))) (fun hc => by simp only [Dq] at hp10 hc; omega) (fun _ => ?_)
   refine QIN (g := 16) (args := [.ptr 4 0 0, .agg [.pd (.str x11), .pd (.sl (x12.map elQ2)), .pd (.int .i64 x13), .pd (.bool x14), .pd (.sl (x15.map elU32)), .pd (.sl (x16.map elU32))], .pd (.bool false)]) (M := m15) Tryz.f16 mixedT (askO [9, 10, 11] false [57]) (hasT 16 (by kernel_rfl)) ?_
   let m16 : Mem := [o1, rowV lvS 1 s151 v101 false, o6, o7, o8, o10, o14, o14]
   refine QK 1 ?_
   refine QD ?_
   refine QK 2 ?_
   obtain ⟨x19, hx20, h⟩ := h
   refine QVd (model_twice_ok m _ hx20) ?_
   cases x19
   ·replace h := h.f rfl
    refine QK 6 ?_
    refine QL m16 61 128 elQ2 x12 ?_
    refine QLP (F := model_Parse_L2 s100 s152 s153 X1 x7 x12 r) (s0 := ((0 : Int), s151)) h (v101, n101) 101 8
     (fun (s200, s251) (v201, n201) => [(0, .ptr 4 0 0), (2, .pd (.bool false)), (4, .ptr 7 0 0), (7, .own 1 n201 v201), (34, .pd (.sl (x12.map elQ2))), (35, .pd (.int .i64 (x12.length : Int))), (36, .pd (.int .i64 s200))])
     (fun (s200, s251) (v201, n201) => [o1, rowV lvS 1 s251 v201 false, o6, o7, o8, o10, o14, o14]) (fun (s200, s251) (v201, n201) => n201 = s251.length) hn101 [] mixedT (askO [9, 10, 11] false [57]) ?_
    rintro X2 ⟨s200, s251⟩ ⟨v201, n201⟩ hn201 h
    dsimp only [model_Parse_L2] at h
    refine QBp h (fun hp21 h => ?_) (fun hp21 h => ?_)
    ·obtain ⟨x22, x23, x24, x25, hx26, h⟩ := h
     let m17 : Mem := [o1, rowV lvS 1 s251 v201 false, o6, o7, o8, o10, o14, o14]
     refine QI m17 61 128 .i64 okQ2 leQ2 hx26 ?_
     let o18 : Ob := .cells [.pd (.str x22), .pd (.bool x23), .pd (.sl (x24.map elU32)), .pd (.sl (x25.map elU32))] 1 0 false
     let m19 : Mem := [o1, rowV lvS 1 s251 v201 false, o6, o7, o8, o10, o14, o14, o18]
     refine QK 4 ?_
     obtain ⟨x27, hx28, h⟩ := h
     refine H_valO (g := 48) (args := [.own 1 n201 v201, .pd (.str x22)]) (M := m19) (.pd (.int .i64 x27)) (.inl (by kernel_rfl)) (pl_cons (un_own (own_pd okS (by decide) lgS (o := rowV lvS 1 s251 v201 false) (by kernel_rfl) (rowIs_v' (lv := lvS) (s := 1) (e := s251) (ver := v201) (z := false)) (n := n201) hn201)) (pl_cons rfl pl_nil)) (lines_Index_ok m _ _ hx28) (by kernel_rfl) rfl (hasT 48 (by kernel_rfl)) ?_
     refine QBp h (fun hp29 h => ?_) (fun hp29 h => ?_)
     ·refine QK 2 ?_
      obtain ⟨hx30, h⟩ := h
      refine QA m19 1 s251 [x22] v201 25 25 16 okS (src_fixed okS leS) hn201 hx30 ?_
      exact QGC ((vnext s251 [x22] v201), ((s251 ++ [x22]).length)) h rfl (all_c (by kernel_rfl) (all_c (bel_rowV _) (all_c (bel_rowV _) (all_c (bel_rowV _) (all_c (by kernel_rfl) (all_c (by kernel_rfl) (all_c (by kernel_rfl) (all_c (by kernel_rfl) all_n))))))))
     exact QGC (v201, n201) h hn201 (all_c (by kernel_rfl) (all_c (bel_rowV _) (all_c (bel_rowV _) (all_c (bel_rowV _) (all_c (by kernel_rfl) (all_c (by kernel_rfl) (all_c (by kernel_rfl) (all_c (by kernel_rfl) all_n))))))))
    refine QR (.exit 0) ?_
    let m20 : Mem := [o1, rowV lvS 1 s251 v201 false, o6, o7, o8, o10, o14, o14]
    refine QO m20 25 9 lvS 1 1 s251 v201 hn201 ?_
    refine QBp h (fun hp31 h => ?_) (fun hp31 h => ?_)
    ·refine QEM .ret (.pd (.int .i64 4)) (m20) ?_
     refine QP true (fun _ => ?_) (fun hc => by cases hc)
     let q2 : Mem := [o1, rowV lvS 1 s251 v201 false, o6, o7, o8, o10, o14, o14]
     refine H_drawM [1, 2] [(1, (Pre q2)), (2, (Pre q2))] (m20) (by kernel_rfl) (by kernel_rfl) ⟨⟨[], rfl⟩, ⟨[], rfl⟩, trivial⟩ ?_
     refine QK 1 ?_
     refine H_askM (Pre q2) (.ptr 5 0 0) (by kernel_rfl) (by kernel_rfl) (by rintro _ ⟨_, rfl⟩; kernel_rfl) ?_
     refine H_askM (Pre q2) (.pd (.int .i64 x7)) (by kernel_rfl) (by kernel_rfl) (by rintro _ ⟨_, rfl⟩; kernel_rfl) ?_
     refine QK 1 ?_
     refine H_chk (p := (Pre q2) [o1, rowV lvS 1 s251 v201 false, o6, o7, o8, o10, o14, o14] ∧ (Pre q2) [o1, rowV lvS 1 s251 v201 false, o6, o7, o8, o10, o14, o14] ∧ True) (by kernel_rfl) (by kernel_rfl) ⟨⟨[], rfl⟩, ⟨[], rfl⟩, trivial⟩ ?_
     refine QR .ret ?_
     subst r; exact QE .ret
    refine QK 3 ?_
    refine QC m20 25 4 0 0 1 1 [.own 1 n201 v201] (.own 1 n201 v201) (all_c (ok_own (o := rowV lvS 1 s251 v201 false) (by kernel_rfl) (rowIs_v' (lv := lvS) (s := 1) (e := s251) (ver := v201) (z := false))) all_n) ?_
    refine QD ?_
    let o21 : Ob := .cells [.own 1 n201 v201, .fixed (([] : List Fq).map elQ4), .own 2 n102 v102, .own 3 n103 v103] 1 0 false
    let m22 : Mem := [o1, rowV lvS 1 s251 v201 false, o6, o7, o21, o10, o14, o14]
    refine QK 5 ?_
    obtain ⟨hx32, h⟩ := h
    refine QA m22 3 s153 [x12] v103 55 55 24 okQ1 (src_fixed okQ1 leQ1) hn103 hx32 ?_
    let o23 : Ob := rowV lvQ1 1 (s153 ++ [x12]) (vnext s153 [x12] v103) false
    let m24 : Mem := [o1, rowV lvS 1 s251 v201 false, o6, o23, o21, o10, o14, o14]
    refine QK 2 ?_
    refine QC m24 55 4 3 0 1 1 [.own 3 ((s153 ++ [x12]).length) (vnext s153 [x12] v103)] (.own 3 ((s153 ++ [x12]).length) (vnext s153 [x12] v103)) (all_c (ok_own (o := o23) (by kernel_rfl) (rowIs_v' (lv := lvQ1) (s := 1) (e := (s153 ++ [x12])) (ver := (vnext s153 [x12] v103)) (z := false))) all_n) ?_
    let o25 : Ob := .cells [.own 1 n201 v201, .fixed (([] : List Fq).map elQ4), .own 2 n102 v102, .own 3 ((s153 ++ [x12]).length) (vnext s153 [x12] v103)] 1 0 false
    let m26 : Mem := [o1, rowV lvS 1 s251 v201 false, o6, o23, o25, o10, o14, o14]
    refine QEM .ret (.pd (.int .i64 0)) (m26) ?_
    refine QP false (fun hc => by cases hc) (fun _ => ?_)
    exact QGC (v201, n201, v102, n102, (vnext s153 [x12] v103), ((s153 ++ [x12]).length)) h ⟨hn201, hn102, rfl⟩ (all_c (by kernel_rfl) (all_c (bel_rowV _) (all_c (bel_rowV _) (all_c (bel_rowV _) (all_c (by kernel_rfl) all_n)))))
   replace h := h.t rfl
   refine QEM .ret (.pd (.int .i64 3)) (m16) ?_
   refine QP true (fun _ => ?_) (fun hc => by cases hc)
   let q3 : Mem := [o1, rowV lvS 1 s151 v101 false, o6, o7, o8, o10, o14, o14]
   refine H_drawM [1, 2] [(1, (Pre q3)), (2, (Pre q3))] (m16) (by kernel_rfl) (by kernel_rfl) ⟨⟨[], rfl⟩, ⟨[], rfl⟩, trivial⟩ ?_
   refine QK 1 ?_
   refine H_askM (Pre q3) (.ptr 5 0 0) (by kernel_rfl) (by kernel_rfl) (by rintro _ ⟨_, rfl⟩; kernel_rfl) ?_
   refine H_askM (Pre q3) (.pd (.int .i64 x7)) (by kernel_rfl) (by kernel_rfl) (by rintro _ ⟨_, rfl⟩; kernel_rfl) ?_
   refine QK 1 ?_
   refine H_chk (p := (Pre q3) [o1, rowV lvS 1 s151 v101 false, o6, o7, o8, o10, o14, o14] ∧ (Pre q3) [o1, rowV lvS 1 s151 v101 false, o6, o7, o8, o10, o14, o14] ∧ True) (by kernel_rfl) (by kernel_rfl) ⟨⟨[], rfl⟩, ⟨[], rfl⟩, trivial⟩ ?_
   refine QR .ret ?_
   subst r; exact QE .ret
  refine QK 2 ?_
  obtain ⟨x33, x34, x35, x36, x37, x38, x39, hx40, h⟩ := h
  refine QV (model_row_ok m _ hx40) ?_
  cases x39
  ·replace h := h.f rfl
   let o27 : Ob := .cells [.pd (.str x33), .pd (.sl (x34.map elQ2)), .pd (.int .i64 x35), .pd (.bool x36), .pd (.sl (x37.map elU32)), .pd (.sl (x38.map elU32))] 1 0 false
   let m28 : Mem := [o1, rowV lvS 1 s151 v101 false, o6, o7, o8, o10, o27]
   refine QK 1 ?_
   let q4 : Mem := [o1, rowV lvS 1 s151 v101 false, o6, o7, o8, o10, o27]
   refine H_drawM [1, 2] [(1, (Pre q4)), (2, (Pre q4))] (m28) (by kernel_rfl) (by kernel_rfl) ⟨⟨[], rfl⟩, ⟨[], rfl⟩, trivial⟩ ?_
   refine QK 1 ?_
   refine H_askM (Pre q4) (.ptr 5 0 0) (by kernel_rfl) (by kernel_rfl) (by rintro _ ⟨_, rfl⟩; kernel_rfl) ?_
   refine H_askM (Pre q4) (.pd (.int .i64 x7)) (by kernel_rfl) (by kernel_rfl) (by rintro _ ⟨_, rfl⟩; kernel_rfl) ?_
   refine QK 1 ?_
   refine H_chk (p := (Pre q4) [o1, rowV lvS 1 s151 v101 false, o6, o7, o8, o10, o27] ∧ (Pre q4) [o1, rowV lvS 1 s151 v101 false, o6, o7, o8, o10, o27] ∧ True) (by kernel_rfl) (by kernel_rfl) ⟨⟨[], rfl⟩, ⟨[], rfl⟩, trivial⟩ ?_
   refine QR .ret ?_
   subst r; exact QE .ret
  replace h := h.t rfl
  let o29 : Ob := .cells [.pd (.str x33), .pd (.sl (x34.map elQ2)), .pd (.int .i64 x35), .pd (.bool x36), .pd (.sl (x37.map elU32)), .pd (.sl (x38.map elU32))] 1 0 false
  let m30 : Mem := [o1, rowV lvS 1 s151 v101 false, o6, o7, o8, o10, o29]
  refine QK 2 ?_
  refine QBp h (fun hp41 h => ?_) (fun hp41 h => ?_)
  ·refine QIN (g := 16) (args := [.ptr 4 0 0, .agg [.pd (.str x33), .pd (.sl (x34.map elQ2)), .pd (.int .i64 x35), .pd (.bool x36), .pd (.sl (x37.map elU32)), .pd (.sl (x38.map elU32))], .pd (.bool true)]) (M := m30) Tryz.f16 mixedT (askO [9, 10, 11] false [57]) (hasT 16 (by kernel_rfl)) ?_
   let m31 : Mem := [o1, rowV lvS 1 s151 v101 false, o6, o7, o8, o10, o29, o29]
   refine QK 1 ?_
   refine QD ?_
   refine QK 2 ?_
   obtain ⟨x42, hx43, h⟩ := h
   refine QVd (model_twice_ok m _ hx43) ?_
   cases x42
   ·replace h := h.f rfl
    refine QK 4 ?_
    obtain ⟨y44, hx45, h⟩ := h
    refine H_dinlP (g := 49) (args := [.own 2 n102 v102]) (M := m31) Tryz.f49 (.sl (y44.map elS)) mixedT (askO [9, 10, 11] true [57]) (by kernel_rfl) (by kernel_rfl) (hasT 49 (by kernel_rfl)) (all_c (by kernel_rfl) (all_c (bel_rowV _) (all_c (bel_rowV _) (all_c (bel_rowV _) (all_c (by kernel_rfl) (all_c (by kernel_rfl) (all_c (by kernel_rfl) (all_c (by kernel_rfl) all_n)))))))) ?_ ?_
    ·replace h := hx45; clear hx45
     let m32 : Mem := [o1, rowV lvS 1 s151 v101 false, o6, o7, o8, o10, o29, o29, o2, o2]
     refine QO m32 27 74 lvQ0 6 2 s152 v102 hn102 ?_
     refine QLP (F := model_Parse_L3 s152 y44) (s0 := ((0 : Int), ([] : List Bz))) h (0, (([] : List Bz).length)) 19 10
      (fun (s300, s359) (v309, n309) => [(3, .own 9 n309 v309), (6, .own 2 n102 v102), (7, .pd (.int .i64 (s152.length : Int))), (8, .pd (.int .i64 s300))])
      (fun (s300, s359) (v309, n309) => [o1, rowV lvS 1 s151 v101 false, o6, o7, o8, o10, o29, o29, o2, rowV lvS 1 s359 v309 false]) (fun (s300, s359) (v309, n309) => n309 = s359.length) rfl [] mixedT (askO [9, 10, 11] false [57]) ?_
     rintro X3 ⟨s300, s359⟩ ⟨v309, n309⟩ hn309 h
     dsimp only [model_Parse_L3] at h
     refine QBp h (fun hp46 h => ?_) (fun hp46 h => ?_)
     ·obtain ⟨x47, x48, x49, x50, x51, x52, hx53, h⟩ := h
      let m33 : Mem := [o1, rowV lvS 1 s151 v101 false, o6, o7, o8, o10, o29, o29, o2, rowV lvS 1 s359 v309 false]
      refine QJ m33 27 74 .i64 lvQ0 6 2 s152 v102 hn102 hx53 ?_
      refine QZ (ask_oloadA (P := Tryz.prog) (M := m33) (t := 74) (lv := lvQ0) (b := 2) (i := s300) okQ0 (by kernel_rfl) (by kernel_rfl) (by kernel_rfl) (rowIs_v' (lv := lvQ0) (s := 6) (e := s152) (ver := v102) (z := false)) hx53) ?_
      let o34 : Ob := .cells [.pd (.str x47), .pd (.sl (x48.map elQ4)), .pd (.int .i64 x49), .pd (.bool x50), .pd (.sl (x51.map elU32)), .pd (.sl (x52.map elU32))] 1 0 false
      let m35 : Mem := [o1, rowV lvS 1 s151 v101 false, o6, o7, o8, o10, o29, o29, o2, rowV lvS 1 s359 v309 false, o34]
      refine QK 3 ?_
      obtain ⟨hx54, h⟩ := h
      refine QA m35 9 s359 [x47] v309 25 25 16 okS (src_fixed okS leS) hn309 hx54 ?_
      exact QGC ((vnext s359 [x47] v309), ((s359 ++ [x47]).length)) h rfl (all_c (by kernel_rfl) (all_c (bel_rowV _) (all_c (bel_rowV _) (all_c (bel_rowV _) (all_c (by kernel_rfl) (all_c (by kernel_rfl) (all_c (by kernel_rfl) (all_c (by kernel_rfl) (all_c (bel_rowV _) (all_c (bel_rowV _) all_n))))))))))
     refine QR (.exit 0) ?_
     let m36 : Mem := [o1, rowV lvS 1 s151 v101 false, o6, o7, o8, o10, o29, o29, o2, rowV lvS 1 s359 v309 false]
     refine QEM .ret (.own 9 n309 v309) (m36) ⟨9, _, _, rfl, Nat.le_of_ble_eq_true (by kernel_rfl), ?_, rfl⟩
     rw [h]
     exact own_pd okS (by decide) lgS (M := m36) (b := 9) (o := rowV lvS 1 s359 v309 false) (by kernel_rfl) (rowIs_v' (lv := lvS) (s := 1) (e := s359) (ver := v309) (z := false)) (n := n309) hn309
    refine QK 2 ?_
    obtain ⟨x55, hx56, h⟩ := h
    refine QVd (lines_Index_ok m _ _ hx56) ?_
    refine QBp h (fun hp57 h => ?_) (fun hp57 h => ?_)
    ·refine QEM .ret (.pd (.int .i64 3)) (m31) ?_
     refine QP true (fun _ => ?_) (fun hc => by cases hc)
     let q5 : Mem := [o1, rowV lvS 1 s151 v101 false, o6, o7, o8, o10, o29, o29]
     refine H_drawM [1, 2] [(1, (Pre q5)), (2, (Pre q5))] (m31) (by kernel_rfl) (by kernel_rfl) ⟨⟨[], rfl⟩, ⟨[], rfl⟩, trivial⟩ ?_
     refine QK 1 ?_
     refine H_askM (Pre q5) (.ptr 5 0 0) (by kernel_rfl) (by kernel_rfl) (by rintro _ ⟨_, rfl⟩; kernel_rfl) ?_
     refine H_askM (Pre q5) (.pd (.int .i64 x7)) (by kernel_rfl) (by kernel_rfl) (by rintro _ ⟨_, rfl⟩; kernel_rfl) ?_
     refine QK 1 ?_
     refine H_chk (p := (Pre q5) [o1, rowV lvS 1 s151 v101 false, o6, o7, o8, o10, o29, o29] ∧ (Pre q5) [o1, rowV lvS 1 s151 v101 false, o6, o7, o8, o10, o29, o29] ∧ True) (by kernel_rfl) (by kernel_rfl) ⟨⟨[], rfl⟩, ⟨[], rfl⟩, trivial⟩ ?_
     refine QR .ret ?_
     subst r; exact QE .ret
    refine QK 6 ?_
    refine QL m31 61 128 elQ2 x34 ?_
    refine QLP (F := model_Parse_L4 s100 s152 s153 X1 x7 x33 x34 x35 x36 x37 x38 r) (s0 := ((0 : Int), s151)) h (v101, n101) 101 8
     (fun (s400, s451) (v401, n401) => [(0, .ptr 4 0 0), (2, .pd (.bool true)), (4, .ptr 7 0 0), (7, .own 1 n401 v401), (34, .pd (.sl (x34.map elQ2))), (35, .pd (.int .i64 (x34.length : Int))), (36, .pd (.int .i64 s400))])
     (fun (s400, s451) (v401, n401) => [o1, rowV lvS 1 s451 v401 false, o6, o7, o8, o10, o29, o29]) (fun (s400, s451) (v401, n401) => n401 = s451.length) hn101 [] mixedT (askO [9, 10, 11] false [57]) ?_
    rintro X4 ⟨s400, s451⟩ ⟨v401, n401⟩ hn401 h
    dsimp only [model_Parse_L4] at h
    refine QBp h (fun hp58 h => ?_) (fun hp58 h => ?_)
    ·obtain ⟨x59, x60, x61, x62, hx63, h⟩ := h
     let m37 : Mem := [o1, rowV lvS 1 s451 v401 false, o6, o7, o8, o10, o29, o29]
     refine QI m37 61 128 .i64 okQ2 leQ2 hx63 ?_
     let o38 : Ob := .cells [.pd (.str x59), .pd (.bool x60), .pd (.sl (x61.map elU32)), .pd (.sl (x62.map elU32))] 1 0 false
     let m39 : Mem := [o1, rowV lvS 1 s451 v401 false, o6, o7, o8, o10, o29, o29, o38]
     refine QK 4 ?_
     obtain ⟨x64, hx65, h⟩ := h
     refine H_valO (g := 48) (args := [.own 1 n401 v401, .pd (.str x59)]) (M := m39) (.pd (.int .i64 x64)) (.inl (by kernel_rfl)) (pl_cons (un_own (own_pd okS (by decide) lgS (o := rowV lvS 1 s451 v401 false) (by kernel_rfl) (rowIs_v' (lv := lvS) (s := 1) (e := s451) (ver := v401) (z := false)) (n := n401) hn401)) (pl_cons rfl pl_nil)) (lines_Index_ok m _ _ hx65) (by kernel_rfl) rfl (hasT 48 (by kernel_rfl)) ?_
     refine QBp h (fun hp66 h => ?_) (fun hp66 h => ?_)
     ·refine QK 2 ?_
      obtain ⟨hx67, h⟩ := h
      refine QA m39 1 s451 [x59] v401 25 25 16 okS (src_fixed okS leS) hn401 hx67 ?_
      exact QGC ((vnext s451 [x59] v401), ((s451 ++ [x59]).length)) h rfl (all_c (by kernel_rfl) (all_c (bel_rowV _) (all_c (bel_rowV _) (all_c (bel_rowV _) (all_c (by kernel_rfl) (all_c (by kernel_rfl) (all_c (by kernel_rfl) (all_c (by kernel_rfl) all_n))))))))
     exact QGC (v401, n401) h hn401 (all_c (by kernel_rfl) (all_c (bel_rowV _) (all_c (bel_rowV _) (all_c (bel_rowV _) (all_c (by kernel_rfl) (all_c (by kernel_rfl) (all_c (by kernel_rfl) (all_c (by kernel_rfl) all_n))))))))
    refine QR (.exit 0) ?_
    let m40 : Mem := [o1, rowV lvS 1 s451 v401 false, o6, o7, o8, o10, o29, o29]
    refine QO m40 25 9 lvS 1 1 s451 v401 hn401 ?_
    refine QBp h (fun hp68 h => ?_) (fun hp68 h => ?_)
    ·refine QEM .ret (.pd (.int .i64 4)) (m40) ?_
     refine QP true (fun _ => ?_) (fun hc => by cases hc)
     let q6 : Mem := [o1, rowV lvS 1 s451 v401 false, o6, o7, o8, o10, o29, o29]
     refine H_drawM [1, 2] [(1, (Pre q6)), (2, (Pre q6))] (m40) (by kernel_rfl) (by kernel_rfl) ⟨⟨[], rfl⟩, ⟨[], rfl⟩, trivial⟩ ?_
     refine QK 1 ?_
     refine H_askM (Pre q6) (.ptr 5 0 0) (by kernel_rfl) (by kernel_rfl) (by rintro _ ⟨_, rfl⟩; kernel_rfl) ?_
     refine H_askM (Pre q6) (.pd (.int .i64 x7)) (by kernel_rfl) (by kernel_rfl) (by rintro _ ⟨_, rfl⟩; kernel_rfl) ?_
     refine QK 1 ?_
     refine H_chk (p := (Pre q6) [o1, rowV lvS 1 s451 v401 false, o6, o7, o8, o10, o29, o29] ∧ (Pre q6) [o1, rowV lvS 1 s451 v401 false, o6, o7, o8, o10, o29, o29] ∧ True) (by kernel_rfl) (by kernel_rfl) ⟨⟨[], rfl⟩, ⟨[], rfl⟩, trivial⟩ ?_
     refine QR .ret ?_
     subst r; exact QE .ret
    refine QK 4 ?_
    refine QO m40 27 74 lvQ0 6 2 s152 v102 hn102 ?_
    refine QBp h (fun hp69 h => ?_) (fun hp69 h => ?_)
    ·refine QEM .ret (.pd (.int .i64 4)) (m40) ?_
     refine QP true (fun _ => ?_) (fun hc => by cases hc)
     let q7 : Mem := [o1, rowV lvS 1 s451 v401 false, o6, o7, o8, o10, o29, o29]
     refine H_drawM [1, 2] [(1, (Pre q7)), (2, (Pre q7))] (m40) (by kernel_rfl) (by kernel_rfl) ⟨⟨[], rfl⟩, ⟨[], rfl⟩, trivial⟩ ?_
     refine QK 1 ?_
     refine H_askM (Pre q7) (.ptr 5 0 0) (by kernel_rfl) (by kernel_rfl) (by rintro _ ⟨_, rfl⟩; kernel_rfl) ?_
     refine H_askM (Pre q7) (.pd (.int .i64 x7)) (by kernel_rfl) (by kernel_rfl) (by rintro _ ⟨_, rfl⟩; kernel_rfl) ?_
     refine QK 1 ?_
     refine H_chk (p := (Pre q7) [o1, rowV lvS 1 s451 v401 false, o6, o7, o8, o10, o29, o29] ∧ (Pre q7) [o1, rowV lvS 1 s451 v401 false, o6, o7, o8, o10, o29, o29] ∧ True) (by kernel_rfl) (by kernel_rfl) ⟨⟨[], rfl⟩, ⟨[], rfl⟩, trivial⟩ ?_
     refine QR .ret ?_
     subst r; exact QE .ret
    refine QK 3 ?_
    refine QC m40 25 4 0 0 1 1 [.own 1 n401 v401] (.own 1 n401 v401) (all_c (ok_own (o := rowV lvS 1 s451 v401 false) (by kernel_rfl) (rowIs_v' (lv := lvS) (s := 1) (e := s451) (ver := v401) (z := false))) all_n) ?_
    refine QD ?_
    let o41 : Ob := .cells [.own 1 n401 v401, .fixed (([] : List Fq).map elQ4), .own 2 n102 v102, .own 3 n103 v103] 1 0 false
    let m42 : Mem := [o1, rowV lvS 1 s451 v401 false, o6, o7, o41, o10, o29, o29]
    refine QK 5 ?_
    obtain ⟨hx70, h⟩ := h
    refine QA m42 3 s153 [x34] v103 55 55 24 okQ1 (src_fixed okQ1 leQ1) hn103 hx70 ?_
    let o43 : Ob := rowV lvQ1 1 (s153 ++ [x34]) (vnext s153 [x34] v103) false
    let m44 : Mem := [o1, rowV lvS 1 s451 v401 false, o6, o43, o41, o10, o29, o29]
    refine QK 2 ?_
    refine QC m44 55 4 3 0 1 1 [.own 3 ((s153 ++ [x34]).length) (vnext s153 [x34] v103)] (.own 3 ((s153 ++ [x34]).length) (vnext s153 [x34] v103)) (all_c (ok_own (o := o43) (by kernel_rfl) (rowIs_v' (lv := lvQ1) (s := 1) (e := (s153 ++ [x34])) (ver := (vnext s153 [x34] v103)) (z := false))) all_n) ?_
    refine QD ?_
    let o45 : Ob := .cells [.own 1 n401 v401, .fixed (([] : List Fq).map elQ4), .own 2 n102 v102, .own 3 ((s153 ++ [x34]).length) (vnext s153 [x34] v103)] 1 0 false
    let m46 : Mem := [o1, rowV lvS 1 s451 v401 false, o6, o43, o45, o10, o29, o29]
    refine QK 11 ?_
    obtain ⟨hx71, h⟩ := h
    refine QA m46 2 s152 [(x33, ([] : List Fq), x35, x36, x37, x38)] v102 27 27 104 okQ0 (src_fixed okQ0 leQ0) hn102 hx71 ?_
    let o47 : Ob := rowV lvQ0 6 (s152 ++ [(x33, ([] : List Fq), x35, x36, x37, x38)]) (vnext s152 [(x33, ([] : List Fq), x35, x36, x37, x38)] v102) false
    let m48 : Mem := [o1, rowV lvS 1 s451 v401 false, o47, o43, o45, o10, o29, o29]
    refine QK 3 ?_
    refine QC m48 27 4 2 0 1 1 [.own 2 ((s152 ++ [(x33, ([] : List Fq), x35, x36, x37, x38)]).length) (vnext s152 [(x33, ([] : List Fq), x35, x36, x37, x38)] v102)] (.own 2 ((s152 ++ [(x33, ([] : List Fq), x35, x36, x37, x38)]).length) (vnext s152 [(x33, ([] : List Fq), x35, x36, x37, x38)] v102)) (all_c (ok_own (o := o47) (by kernel_rfl) (rowIs_v' (lv := lvQ0) (s := 6) (e := (s152 ++ [(x33, ([] : List Fq), x35, x36, x37, x38)])) (ver := (vnext s152 [(x33, ([] : List Fq), x35, x36, x37, x38)] v102)) (z := false))) all_n) ?_
    let o49 : Ob := .cells [.own 1 n401 v401, .fixed (([] : List Fq).map elQ4), .own 2 ((s152 ++ [(x33, ([] : List Fq), x35, x36, x37, x38)]).length) (vnext s152 [(x33, ([] : List Fq), x35, x36, x37, x38)] v102), .own 3 ((s153 ++ [x34]).length) (vnext s153 [x34] v103)] 1 0 false
    let m50 : Mem := [o1, rowV lvS 1 s451 v401 false, o47, o43, o49, o10, o29, o29]
    refine QEM .ret (.pd (.int .i64 0)) (m50) ?_
    refine QP false (fun hc => by cases hc) (fun _ => ?_)
    exact QGC (v401, n401, (vnext s152 [(x33, ([] : List Fq), x35, x36, x37, x38)] v102), ((s152 ++ [(x33, ([] : List Fq), x35, x36, x37, x38)]).length), (vnext s153 [x34] v103), ((s153 ++ [x34]).length)) h ⟨hn401, rfl, rfl⟩ (all_c (by kernel_rfl) (all_c (bel_rowV _) (all_c (bel_rowV _) (all_c (bel_rowV _) (all_c (by kernel_rfl) all_n)))))
   replace h := h.t rfl
   refine QEM .ret (.pd (.int .i64 3)) (m31) ?_
   refine QP true (fun _ => ?_) (fun hc => by cases hc)
   let q8 : Mem := [o1, rowV lvS 1 s151 v101 false, o6, o7, o8, o10, o29, o29]
   refine H_drawM [1, 2] [(1, (Pre q8)), (2, (Pre q8))] (m31) (by kernel_rfl) (by kernel_rfl) ⟨⟨[], rfl⟩, ⟨[], rfl⟩, trivial⟩ ?_
   refine QK 1 ?_
   refine H_askM (Pre q8) (.ptr 5 0 0) (by kernel_rfl) (by kernel_rfl) (by rintro _ ⟨_, rfl⟩; kernel_rfl) ?_
   refine H_askM (Pre q8) (.pd (.int .i64 x7)) (by kernel_rfl) (by kernel_rfl) (by rintro _ ⟨_, rfl⟩; kernel_rfl) ?_
   refine QK 1 ?_
   refine H_chk (p := (Pre q8) [o1, rowV lvS 1 s151 v101 false, o6, o7, o8, o10, o29, o29] ∧ (Pre q8) [o1, rowV lvS 1 s151 v101 false, o6, o7, o8, o10, o29, o29] ∧ True) (by kernel_rfl) (by kernel_rfl) ⟨⟨[], rfl⟩, ⟨[], rfl⟩, trivial⟩ ?_
   refine QR .ret ?_
   subst r; exact QE .ret
  exact h.elim
 refine QR (.exit 1) ?_
 let o51 : Ob := rowV lvQ0 6 s152 v102 false
 let o52 : Ob := rowV lvQ1 1 s153 v103 false
 let o53 : Ob := .cells [.own 1 n101 v101, .fixed (([] : List Fq).map elQ4), .own 2 n102 v102, .own 3 n103 v103] 1 0 false
 let m54 : Mem := [o1, rowV lvS 1 s151 v101 false, o51, o52, o53]
 refine QK 3 ?_
 obtain ⟨x72, hx73, h⟩ := h
 refine QJ m54 55 61 .i64 lvQ1 1 3 s153 v103 hn103 hx73 ?_
 refine QZ (ask_oload (P := Tryz.prog) (M := m54) (t := 61) (lv := lvQ1) (b := 3) (i := (0 : Int)) okQ1 (by kernel_rfl) (by kernel_rfl) (by kernel_rfl) (rowIs_v' (lv := lvQ1) (s := 1) (e := s153) (ver := v103) (z := false)) hx73 rfl) ?_
 refine QIN (g := 17) (args := [.ptr 4 0 0, .pd (.sl (x72.map elQ2))]) (M := m54) Tryz.f17 mixedT (askO [9, 10, 11] false [57]) (hasT 17 (by kernel_rfl)) ?_
 refine QK 4 ?_
 refine QO m54 25 9 lvS 1 1 s151 v101 hn101 ?_
 obtain ⟨hx74, h⟩ := h
 refine QZ (ask_make (P := Tryz.prog) (M := m54) (t := 49) (k := .i64) (lv := lvI64) (by_ := 8) (n := (s151.length : Int)) (z := (0 : Int)) okI64 ⟨3, .int .i64 0, by kernel_rfl, by kernel_rfl, rfl, by kernel_rfl, by decide, rfl⟩ hx74.1 hx74.2.1 hx74.2.2) ?_
 let o55 : Ob := .cells (rowC lvI64 (List.replicate (Int.toNat (s151.length : Int)) (0 : Int))) 1 0 false
 let m56 : Mem := [o1, rowV lvS 1 s151 v101 false, o51, o52, o53, o55]
 refine QIN (g := 23) (args := [.own 5 ((List.replicate (Int.toNat (s151.length : Int)) (0 : Int)).length) 0]) (M := m56) Tryz.f23 mixedT (askO [9, 10, 11] true [57]) (hasT 23 (by kernel_rfl)) ?_
 let o57 : Ob := rowV lvQ4 3 ([] : List Fq) 0 false
 let m58 : Mem := [o1, rowV lvS 1 s151 v101 false, o51, o52, o53, o55, o57, o57]
 refine QOc m58 49 3 lvI64 1 5 (List.replicate (Int.toNat (s151.length : Int)) (0 : Int)) 0 rfl ?_
 refine QLP (F := model_Parse_L5 s151 s152 s153 x72 r) (s0 := ((0 : Int), ([] : List Fq))) h (0, (([] : List Fq).length)) 19 8
  (fun (s500, s557) (v507, n507) => [(3, .own 7 n507 v507), (6, .own 5 ((List.replicate (Int.toNat (s151.length : Int)) (0 : Int)).length) 0), (7, .pd (.int .i64 ((List.replicate (Int.toNat (s151.length : Int)) (0 : Int)).length : Int))), (8, .pd (.int .i64 s500))])
  (fun (s500, s557) (v507, n507) => [o1, rowV lvS 1 s151 v101 false, o51, o52, o53, o55, o57, rowV lvQ4 3 s557 v507 false]) (fun (s500, s557) (v507, n507) => n507 = s557.length) rfl [] mixedT (askO [9, 10, 11] false [57]) ?_
 rintro X5 ⟨s500, s557⟩ ⟨v507, n507⟩ hn507 h
 dsimp only [model_Parse_L5] at h
 refine QBp h (fun hp77 h => ?_) (fun hp77 h => ?_)
 ·obtain ⟨x78, hx79, h⟩ := h
  let o59 : Ob := rowV lvQ4 3 s557 v507 false
  let m60 : Mem := [o1, rowV lvS 1 s151 v101 false, o51, o52, o53, o55, o57, o59]
  refine QJc m60 49 3 .i64 lvI64 1 5 (List.replicate (Int.toNat (s151.length : Int)) (0 : Int)) 0 rfl hx79 ?_
  refine QZ (ask_oload (P := Tryz.prog) (M := m60) (t := 3) (lv := lvI64) (b := 5) (i := s500) okI64 (by kernel_rfl) (by kernel_rfl) (by kernel_rfl) (rowIs_c (lv := lvI64) (s := 1) (e := (List.replicate (Int.toNat (s151.length : Int)) (0 : Int))) (ver := 0) (z := false)) hx79 rfl) ?_
  obtain ⟨x80, x81, x82, hx83, h⟩ := h
  refine QV (rat_Int_ok m _ hx83) ?_
  obtain ⟨hx84, h⟩ := h
  refine QA m60 7 s557 [(x80, x81, x82)] v507 26 26 56 okQ4 (src_fixed okQ4 leQ4) hn507 hx84 ?_
  exact QG ((vnext s557 [(x80, x81, x82)] v507), ((s557 ++ [(x80, x81, x82)]).length)) h rfl
 refine QR (.exit 0) ?_
 let o61 : Ob := rowV lvQ4 3 s557 v507 false
 let m62 : Mem := [o1, rowV lvS 1 s151 v101 false, o51, o52, o53, o55, o57, o61]
 refine QEM .ret (.own 7 n507 v507) (m62) ?_
 refine QL m62 61 128 elQ2 x72 ?_
 refine QLP (F := model_Parse_L6 s151 s152 s153 x72 r) (s0 := ((0 : Int), s557)) h () 36 8
  (fun (s600, s657) () => [(0, .ptr 4 0 0), (5, .own 7 n507 v507), (16, .pd (.sl (x72.map elQ2))), (17, .pd (.int .i64 (x72.length : Int))), (18, .pd (.int .i64 s600))])
  (fun (s600, s657) () => [o1, rowV lvS 1 s151 v101 false, o51, o52, o53, o55, o57, rowV lvQ4 3 s657 v507 false]) (fun (s600, s657) () => n507 = s657.length) hn507 [] mixedT (askO [9, 10, 11] false [57]) ?_
 rintro X6 ⟨s600, s657⟩ ⟨⟩ hn607 h
 dsimp only [model_Parse_L6] at h
 refine QBp h (fun hp85 h => ?_) (fun hp85 h => ?_)
 ·obtain ⟨x86, x87, x88, x89, hx90, h⟩ := h
  let o63 : Ob := rowV lvQ4 3 s657 v507 false
  let m64 : Mem := [o1, rowV lvS 1 s151 v101 false, o51, o52, o53, o55, o57, o63]
  refine QI m64 61 128 .i64 okQ2 leQ2 hx90 ?_
  let o65 : Ob := .cells [.pd (.str x86), .pd (.bool x87), .pd (.sl (x88.map elU32)), .pd (.sl (x89.map elU32))] 1 0 false
  let m66 : Mem := [o1, rowV lvS 1 s151 v101 false, o51, o52, o53, o55, o57, o63, o65]
  refine QK 2 ?_
  refine QD ?_
  refine QK 6 ?_
  obtain ⟨x91, hx92, h⟩ := h
  refine H_valO (g := 48) (args := [.own 1 n101 v101, .pd (.str x86)]) (M := m66) (.pd (.int .i64 x91)) (.inr (by kernel_rfl)) (pl_cons (un_own (own_pd okS (by decide) lgS (o := rowV lvS 1 s151 v101 false) (by kernel_rfl) (rowIs_v' (lv := lvS) (s := 1) (e := s151) (ver := v101) (z := false)) (n := n101) hn101)) (pl_cons rfl pl_nil)) (lines_Index_ok m _ _ hx92) (by kernel_rfl) rfl (hasT 48 (by kernel_rfl)) ?_
  refine QK 2 ?_
  obtain ⟨x93, x94, x95, hx96, h⟩ := h
  refine QJ m66 26 67 .i64 lvQ4 3 7 s657 v507 hn607 hx96 ?_
  refine QZ (ask_ostoreV (P := Tryz.prog) (M := m66) (t := 67) (lv := lvQ4) (b := 7) (i := x91) (y := (x87, x88, x89)) (X := .agg [.pd (.bool x87), .pd (.sl (x88.map elU32)), .pd (.sl (x89.map elU32))]) okQ4 (by kernel_rfl) (by kernel_rfl) (rowIs_v (lv := lvQ4) (s := 3) (e := s657) (ver := v507)) hx96 (by kernel_rfl)) ?_
  exact QGC () h (ls_set hn607) (all_c (by kernel_rfl) (all_c (bel_rowV _) (all_c (bel_rowV _) (all_c (bel_rowV _) (all_c (by kernel_rfl) (all_c (bel_rowO _) (all_c (bel_rowV _) (all_c (bel_rowV _) all_n))))))))
 refine QR (.exit 0) ?_
 let o67 : Ob := rowV lvQ4 3 s657 v507 false
 let m68 : Mem := [o1, rowV lvS 1 s151 v101 false, o51, o52, o53, o55, o57, o67]
 refine QEM .ret (.own 7 n507 v507) (m68) ?_
 refine QK 3 ?_
 refine QC m68 26 4 1 0 1 1 [.own 7 n507 v507] (.own 7 n507 v507) (all_c (ok_own (o := o67) (by kernel_rfl) (rowIs_v' (lv := lvQ4) (s := 3) (e := s657) (ver := v507) (z := false))) all_n) ?_
 let o69 : Ob := .cells [.own 1 n101 v101, .own 7 n507 v507, .own 2 n102 v102, .own 3 n103 v103] 1 0 false
 let m70 : Mem := [o1, rowV lvS 1 s151 v101 false, o51, o52, o69, o55, o57, o67]
 refine QK 4 ?_
 refine QO m70 27 74 lvQ0 6 2 s152 v102 hn102 ?_
 refine QLP (F := model_Parse_L7 s151 s152 s153 s657 r) (s0 := ((0 : Int), s152)) h () 109 8
  (fun (s700, s752) () => [(2, .ptr 0 0 0), (7, .ptr 4 0 0), (82, .pd (.int .i64 (s152.length : Int))), (83, .pd (.int .i64 s700))])
  (fun (s700, s752) () => [o1, rowV lvS 1 s151 v101 false, rowV lvQ0 6 s752 v102 false, o52, o69, o55, o57, o67]) (fun (s700, s752) () => n102 = s752.length) hn102 [] mixedT (askO [9, 10, 11] false [57]) ?_
 rintro X7 ⟨s700, s752⟩ ⟨⟩ hn702 h
 dsimp only [model_Parse_L7] at h
 refine QBp h (fun hp97 h => ?_) (fun hp97 h => ?_)
 ·refine QD ?_
  let o71 : Ob := rowV lvQ0 6 s752 v102 false
  let m72 : Mem := [o1, rowV lvS 1 s151 v101 false, o71, o52, o69, o55, o57, o67]
  refine QK 7 ?_
  obtain ⟨x98, hx99, h⟩ := h
  refine QJ m72 55 61 .i64 lvQ1 1 3 s153 v103 hn103 hx99 ?_
  refine QZ (ask_oload (P := Tryz.prog) (M := m72) (t := 61) (lv := lvQ1) (b := 3) (i := (IntKind.i64.wrap (s700 + 1))) okQ1 (by kernel_rfl) (by kernel_rfl) (by kernel_rfl) (rowIs_v' (lv := lvQ1) (s := 1) (e := s153) (ver := v103) (z := false)) hx99 rfl) ?_
  obtain ⟨y100, hx101, h⟩ := h
  refine H_dinlP (g := 17) (args := [.ptr 4 0 0, .pd (.sl (x98.map elQ2))]) (M := m72) Tryz.f17 (.sl (y100.map elQ4)) mixedT (askO [9, 10, 11] false [57]) (by kernel_rfl) (by kernel_rfl) (hasT 17 (by kernel_rfl)) (all_c (by kernel_rfl) (all_c (bel_rowV _) (all_c (bel_rowV _) (all_c (bel_rowV _) (all_c (by kernel_rfl) (all_c (bel_rowO _) (all_c (bel_rowV _) (all_c (bel_rowV _) all_n)))))))) ?_ ?_
  ·replace h := hx101; clear hx101
   refine QK 4 ?_
   refine QO m72 25 9 lvS 1 1 s151 v101 hn101 ?_
   obtain ⟨hx102, h⟩ := h
   refine QZ (ask_make (P := Tryz.prog) (M := m72) (t := 49) (k := .i64) (lv := lvI64) (by_ := 8) (n := (s151.length : Int)) (z := (0 : Int)) okI64 ⟨3, .int .i64 0, by kernel_rfl, by kernel_rfl, rfl, by kernel_rfl, by decide, rfl⟩ hx102.1 hx102.2.1 hx102.2.2) ?_
   let m73 : Mem := [o1, rowV lvS 1 s151 v101 false, o71, o52, o69, o55, o57, o67, o55]
   refine QIN (g := 23) (args := [.own 8 ((List.replicate (Int.toNat (s151.length : Int)) (0 : Int)).length) 0]) (M := m73) Tryz.f23 mixedT (askO [9, 10, 11] true [57]) (hasT 23 (by kernel_rfl)) ?_
   let m74 : Mem := [o1, rowV lvS 1 s151 v101 false, o71, o52, o69, o55, o57, o67, o55, o57, o57]
   refine QOc m74 49 3 lvI64 1 8 (List.replicate (Int.toNat (s151.length : Int)) (0 : Int)) 0 rfl ?_
   refine QLP (F := model_Parse_L8 s151 x98 y100) (s0 := ((0 : Int), ([] : List Fq))) h (0, (([] : List Fq).length)) 19 11
    (fun (s800, s860) (v810, n810) => [(3, .own 10 n810 v810), (6, .own 8 ((List.replicate (Int.toNat (s151.length : Int)) (0 : Int)).length) 0), (7, .pd (.int .i64 ((List.replicate (Int.toNat (s151.length : Int)) (0 : Int)).length : Int))), (8, .pd (.int .i64 s800))])
    (fun (s800, s860) (v810, n810) => [o1, rowV lvS 1 s151 v101 false, o71, o52, o69, o55, o57, o67, o55, o57, rowV lvQ4 3 s860 v810 false]) (fun (s800, s860) (v810, n810) => n810 = s860.length) rfl [] mixedT (askO [9, 10, 11] false [57]) ?_
   rintro X8 ⟨s800, s860⟩ ⟨v810, n810⟩ hn810 h
   dsimp only [model_Parse_L8] at h
   refine QBp h (fun hp105 h => ?_) (fun hp105 h => ?_)
   ·obtain ⟨x106, hx107, h⟩ := h
    let o75 : Ob := rowV lvQ4 3 s860 v810 false
    let m76 : Mem := [o1, rowV lvS 1 s151 v101 false, o71, o52, o69, o55, o57, o67, o55, o57, o75]
    refine QJc m76 49 3 .i64 lvI64 1 8 (List.replicate (Int.toNat (s151.length : Int)) (0 : Int)) 0 rfl hx107 ?_
    refine QZ (ask_oload (P := Tryz.prog) (M := m76) (t := 3) (lv := lvI64) (b := 8) (i := s800) okI64 (by kernel_rfl) (by kernel_rfl) (by kernel_rfl) (rowIs_c (lv := lvI64) (s := 1) (e := (List.replicate (Int.toNat (s151.length : Int)) (0 : Int))) (ver := 0) (z := false)) hx107 rfl) ?_
    obtain ⟨x108, x109, x110, hx111, h⟩ := h
    refine QV (rat_Int_ok m _ hx111) ?_
    obtain ⟨hx112, h⟩ := h
    refine QA m76 10 s860 [(x108, x109, x110)] v810 26 26 56 okQ4 (src_fixed okQ4 leQ4) hn810 hx112 ?_
    exact QG ((vnext s860 [(x108, x109, x110)] v810), ((s860 ++ [(x108, x109, x110)]).length)) h rfl
   refine QR (.exit 0) ?_
   let o77 : Ob := rowV lvQ4 3 s860 v810 false
   let m78 : Mem := [o1, rowV lvS 1 s151 v101 false, o71, o52, o69, o55, o57, o67, o55, o57, o77]
   refine QEM .ret (.own 10 n810 v810) (m78) ?_
   refine QL m78 61 128 elQ2 x98 ?_
   refine QLP (F := model_Parse_L9 s151 x98 y100) (s0 := ((0 : Int), s860)) h () 36 11
    (fun (s900, s960) () => [(0, .ptr 4 0 0), (5, .own 10 n810 v810), (16, .pd (.sl (x98.map elQ2))), (17, .pd (.int .i64 (x98.length : Int))), (18, .pd (.int .i64 s900))])
    (fun (s900, s960) () => [o1, rowV lvS 1 s151 v101 false, o71, o52, o69, o55, o57, o67, o55, o57, rowV lvQ4 3 s960 v810 false]) (fun (s900, s960) () => n810 = s960.length) hn810 [] mixedT (askO [9, 10, 11] false [57]) ?_
   rintro X9 ⟨s900, s960⟩ ⟨⟩ hn910 h
   dsimp only [model_Parse_L9] at h
   refine QBp h (fun hp113 h => ?_) (fun hp113 h => ?_)
   ·obtain ⟨x114, x115, x116, x117, hx118, h⟩ := h
    let o79 : Ob := rowV lvQ4 3 s960 v810 false
    let m80 : Mem := [o1, rowV lvS 1 s151 v101 false, o71, o52, o69, o55, o57, o67, o55, o57, o79]
    refine QI m80 61 128 .i64 okQ2 leQ2 hx118 ?_
    let o81 : Ob := .cells [.pd (.str x114), .pd (.bool x115), .pd (.sl (x116.map elU32)), .pd (.sl (x117.map elU32))] 1 0 false
    let m82 : Mem := [o1, rowV lvS 1 s151 v101 false, o71, o52, o69, o55, o57, o67, o55, o57, o79, o81]
    refine QK 2 ?_
    refine QD ?_
    refine QK 6 ?_
    obtain ⟨x119, hx120, h⟩ := h
    refine H_valO (g := 48) (args := [.own 1 n101 v101, .pd (.str x114)]) (M := m82) (.pd (.int .i64 x119)) (.inr (by kernel_rfl)) (pl_cons (un_own (own_pd okS (by decide) lgS (o := rowV lvS 1 s151 v101 false) (by kernel_rfl) (rowIs_v' (lv := lvS) (s := 1) (e := s151) (ver := v101) (z := false)) (n := n101) hn101)) (pl_cons rfl pl_nil)) (lines_Index_ok m _ _ hx120) (by kernel_rfl) rfl (hasT 48 (by kernel_rfl)) ?_
    refine QK 2 ?_
    obtain ⟨x121, x122, x123, hx124, h⟩ := h
    refine QJ m82 26 67 .i64 lvQ4 3 10 s960 v810 hn910 hx124 ?_
    refine QZ (ask_ostoreV (P := Tryz.prog) (M := m82) (t := 67) (lv := lvQ4) (b := 10) (i := x119) (y := (x115, x116, x117)) (X := .agg [.pd (.bool x115), .pd (.sl (x116.map elU32)), .pd (.sl (x117.map elU32))]) okQ4 (by kernel_rfl) (by kernel_rfl) (rowIs_v (lv := lvQ4) (s := 3) (e := s960) (ver := v810)) hx124 (by kernel_rfl)) ?_
    exact QGC () h (ls_set hn910) (all_c (by kernel_rfl) (all_c (bel_rowV _) (all_c (bel_rowV _) (all_c (bel_rowV _) (all_c (by kernel_rfl) (all_c (bel_rowO _) (all_c (bel_rowV _) (all_c (bel_rowV _) (all_c (bel_rowO _) (all_c (bel_rowV _) (all_c (bel_rowV _) all_n)))))))))))
   refine QR (.exit 0) ?_
   let o83 : Ob := rowV lvQ4 3 s960 v810 false
   let m84 : Mem := [o1, rowV lvS 1 s151 v101 false, o71, o52, o69, o55, o57, o67, o55, o57, o83]
   refine QEM .ret (.own 10 n810 v810) (m84) ⟨10, _, _, rfl, Nat.le_of_ble_eq_true (by kernel_rfl), ?_, rfl⟩
   rw [h]
   exact own_pd okQ4 (by decide) lgQ4 (M := m84) (b := 10) (o := o83) (by kernel_rfl) (rowIs_v' (lv := lvQ4) (s := 3) (e := s960) (ver := v810) (z := false)) (n := n810) hn910
  obtain ⟨x125, x126, x127, x128, x129, x130, hx131, h⟩ := h
  refine QJ m72 27 74 .i64 lvQ0 6 2 s752 v102 hn702 hx131 ?_
  refine QZ (ask_ofld (P := Tryz.prog) (M := m72) (st := 74) (f := 1) (b := 2) (off := (Int.toNat s700 * 6)) (fo := 1) (k := 0) (ver := v102) (by kernel_rfl) (by kernel_rfl) (rowIs_v' (lv := lvQ0) (s := 6) (e := s752) (ver := v102) (z := false))) ?_
  refine QZ (ask_ostoreFV (P := Tryz.prog) (M := m72) (t := 26) (lv := lvQ0) (b := 2) (i := s700) (x := (x125, x126, x127, x128, x129, x130)) (y := (x125, y100, x127, x128, x129, x130)) (X := .pd (.sl (y100.map elQ4))) (xs := [.pd (.sl (y100.map elQ4))]) (off := 1) (m := 1) okQ0 (by kernel_rfl) (by kernel_rfl) (rowIs_v (lv := lvQ0) (s := 6) (e := s752) (ver := v102)) hx131 (by kernel_rfl) (by kernel_rfl) (by kernel_rfl) (by kernel_rfl) (by kernel_rfl)) ?_
  exact QG () h (ls_set hn702)
 refine QR (.exit 3) ?_
 let o85 : Ob := rowV lvQ0 6 s752 v102 false
 let m86 : Mem := [o1, rowV lvS 1 s151 v101 false, o85, o52, o69, o55, o57, o67]
 refine QK 3 ?_
 refine QC m86 29 0 0 0 3 1 [.own 1 n101 v101, .own 7 n507 v507, .own 2 n102 v102] (.agg [.own 1 n101 v101, .own 7 n507 v507, .own 2 n102 v102]) (all_c (ok_own (o := rowV lvS 1 s151 v101 false) (by kernel_rfl) (rowIs_v' (lv := lvS) (s := 1) (e := s151) (ver := v101) (z := false))) (all_c (ok_own (o := o67) (by kernel_rfl) (rowIs_v' (lv := lvQ4) (s := 3) (e := s657) (ver := v507) (z := false))) (all_c (ok_own (o := o85) (by kernel_rfl) (rowIs_v' (lv := lvQ0) (s := 6) (e := s752) (ver := v102) (z := false))) all_n))) ?_
 let o87 : Ob := .cells [.own 1 n101 v101, .own 7 n507 v507, .own 2 n102 v102] 1 0 false
 let m88 : Mem := [o87, rowV lvS 1 s151 v101 false, o85, o52, o69, o55, o57, o67]
 subst r; exact QX .ret (.tup [.agg [.own 1 n101 v101, .own 7 n507 v507, .own 2 n102 v102], .pd (.int .i64 0), .pd (.int .i64 0)]) m88 (pure_tup (pl_cons (pure_agg (pl_cons (po okS lgS 1 s151 v101 n101 hn101) (pl_cons (po okQ4 lgQ4 7 s657 v507 n507 hn607) (pl_cons (po okQ0 lgQ0 2 s752 v102 n102 hn702) pl_nil)))) (pl_cons rfl (pl_cons rfl pl_nil))))
theorem model_names_ok (m : Tp) (p0 : List Bz) {r : Bool} (h : model_names p0 r) : ASpec Tryz.prog (gtT m) 51 [.pd (.sl (p0.map elS))] (· = .pd (.bool r)) := by
 refine ASpec_tree Tryz.f51 mixedT (askG [9, 10, 11] false) (by kernel_rfl) ?_
 unfold model_names at h
 refine QL [] 25 9 elS p0 ?_
 refine QLP (F := model_names_L1 p0 r) (s0 := (0 : Int)) h () 23 0
  (fun s100 () => [(0, .pd (.sl (p0.map elS))), (5, .pd (.sl (p0.map elS))), (6, .pd (.int .i64 (p0.length : Int))), (7, .pd (.int .i64 s100))])
  (fun s100 () => []) (fun s100 () => True) trivial [] mixedT (askG [9, 10, 11] false) ?_
 rintro X1 s100 ⟨⟩ - h
 dsimp only [model_names_L1] at h
 refine QBp h (fun hp1 h => ?_) (fun hp1 h => ?_)
 ·obtain ⟨x2, hx3, h⟩ := h
  refine QI [] 25 9 .i64 okS leS hx3 ?_
  refine QK 1 ?_
  obtain ⟨x4, hx5, h⟩ := h
  refine QV (lines_Name_ok m _ hx5) ?_
  cases x4
  ·replace h := h.f rfl
   refine QR .ret ?_
   subst r; exact QE .ret
  ·replace h := h.t rfl
   obtain ⟨x6, hx7, h⟩ := h
   refine QV (lines_Index_ok m _ _ hx7) ?_
   refine QBp h (fun hp8 h => ?_) (fun hp8 h => ?_)
   ·refine QR .ret ?_
    subst r; exact QE .ret
   ·exact QG () h trivial
 ·refine QR (.exit 0) ?_
  subst r; exact QE .ret
theorem model_Right_ok (m : Tp) (p0 : List Bz) (p1 : List Fq) (p2 : List (Bz × (List Fq) × Int × Fq)) {r : Bool} (h : model_Right p0 p1 p2 r) : ASpec Tryz.prog (gtT m) 21 [.agg [.pd (.sl (p0.map elS)), .pd (.sl (p1.map elQ4)), .pd (.sl (p2.map elQ0))]] (· = .pd (.bool r)) := by
 refine ASpec_tree Tryz.f21 mixedT (askG [9, 10, 11] false) (by kernel_rfl) ?_
 unfold model_Right at h
 let o1 : Ob := .cells [.pd (.sl (p0.map elS)), .pd (.sl (p1.map elQ4)), .pd (.sl (p2.map elQ0))] 1 0 false
 refine QK 3 ?_
 refine QL [o1] 25 9 elS p0 ?_
 let o2 : Ob := .cells [.pd (.int .i64 (p0.length : Int))] 1 0 false
 refine QK 2 ?_
 refine QBp h (fun hp1 h => ?_) (fun hp1 h => ?_)
 ·refine QK 2 ?_
  refine QL [o1, o2] 26 67 elQ4 p1 ?_
  refine QK 1 ?_
  refine QBp h (fun hp2 h => ?_) (fun hp2 h => ?_)
  ·refine QK 2 ?_
   refine QL [o1, o2] 27 74 elQ0 p2 ?_
   refine QBp h (fun hp3 h => ?_) (fun hp3 h => ?_)
   ·refine QK 2 ?_
    obtain ⟨x4, hx5, h⟩ := h
    refine QV (model_names_ok m _ hx5) ?_
    cases x4
    ·replace h := h.f rfl
     subst r; exact QE .ret
    replace h := h.t rfl
    refine QK 2 ?_
    refine QIN (g := 49) (args := [.pd (.sl (p2.map elQ0))]) (M := [o1, o2]) Tryz.f49 mixedT (askG [9, 10, 11] true) (hasT 49 (by kernel_rfl)) ?_
    let o3 : Ob := rowV lvS 1 ([] : List Bz) 0 false
    refine QL [o1, o2, o3, o3] 27 74 elQ0 p2 ?_
    refine QLP (F := model_Right_L1 p0 p2 r) (s0 := ((0 : Int), ([] : List Bz))) h (0, (([] : List Bz).length)) 19 4
     (fun (s100, s153) (v103, n103) => [(3, .own 3 n103 v103), (6, .pd (.sl (p2.map elQ0))), (7, .pd (.int .i64 (p2.length : Int))), (8, .pd (.int .i64 s100))])
     (fun (s100, s153) (v103, n103) => [o1, o2, o3, rowV lvS 1 s153 v103 false]) (fun (s100, s153) (v103, n103) => n103 = s153.length) rfl [] mixedT (askG [9, 10, 11] false) ?_
    rintro X1 ⟨s100, s153⟩ ⟨v103, n103⟩ hn103 h
    dsimp only [model_Right_L1] at h
    refine QBp h (fun hp6 h => ?_) (fun hp6 h => ?_)
    ·obtain ⟨x7, x8, x9, x10, x11, x12, hx13, h⟩ := h
     let m4 : Mem := [o1, o2, o3, rowV lvS 1 s153 v103 false]
     refine QI m4 27 74 .i64 okQ0 leQ0 hx13 ?_
     let o5 : Ob := .cells [.pd (.str x7), .pd (.sl (x8.map elQ4)), .pd (.int .i64 x9), .pd (.bool x10), .pd (.sl (x11.map elU32)), .pd (.sl (x12.map elU32))] 1 0 false
     let m6 : Mem := [o1, o2, o3, rowV lvS 1 s153 v103 false, o5]
     refine QK 4 ?_
     obtain ⟨hx14, h⟩ := h
     refine QA m6 3 s153 [x7] v103 25 25 16 okS (src_fixed okS leS) hn103 hx14 ?_
     exact QGC ((vnext s153 [x7] v103), ((s153 ++ [x7]).length)) h rfl (all_c (by kernel_rfl) (all_c (by kernel_rfl) (all_c (bel_rowV _) (all_c (bel_rowV _) all_n))))
    refine QR (.exit 0) ?_
    let m7 : Mem := [o1, o2, o3, rowV lvS 1 s153 v103 false]
    refine QEM .ret (.own 3 n103 v103) (m7) ?_
    obtain ⟨x15, hx16, h⟩ := h
    refine H_valO (g := 51) (args := [.own 3 n103 v103]) (M := m7) (.pd (.bool x15)) (.inl (by kernel_rfl)) (pl_cons (un_own (own_pd okS (by decide) lgS (o := rowV lvS 1 s153 v103 false) (by kernel_rfl) (rowIs_v' (lv := lvS) (s := 1) (e := s153) (ver := v103) (z := false)) (n := n103) hn103)) pl_nil) (model_names_ok m _ hx16) (by kernel_rfl) rfl (hasT 51 (by kernel_rfl)) ?_
    cases x15
    ·replace h := h.f rfl
     subst r; exact QE .ret
    replace h := h.t rfl
    refine QK 2 ?_
    refine QIN (g := 52) (args := [.pd (.sl (p2.map elQ0)), .fn (.func 50) [] [.ptr 1 0 0]]) (M := m7) Tryz.f52 mixedT (askG [9, 10, 11] false) (hasT 52 (by kernel_rfl)) ?_
    refine QIN (g := 96) (args := [.pd (.sl (p2.map elQ0)), .fn (.func 50) [] [.ptr 1 0 0]]) (M := m7) Tryz.f96 mixedT (askG [9, 10, 11] false) (hasT 96 (by kernel_rfl)) ?_
    refine QL m7 27 74 elQ0 p2 ?_
    refine QLP (F := model_Right_L2 p0 p2 r) (s0 := (0 : Int)) h () 19 4
     (fun s200 () => [(0, .pd (.sl (p2.map elQ0))), (1, .fn (.func 50) [] [.ptr 1 0 0]), (7, .pd (.int .i64 (p2.length : Int))), (8, .pd (.int .i64 s200))])
     (fun s200 () => [o1, o2, o3, rowV lvS 1 s153 v103 false]) (fun s200 () => True) trivial [] mixedT (askG [9, 10, 11] false) ?_
    rintro X2 s200 ⟨⟩ - h
    dsimp only [model_Right_L2] at h
    refine QBp h (fun hp17 h => ?_) (fun hp17 h => ?_)
    ·obtain ⟨x18, x19, x20, x21, x22, x23, hx24, h⟩ := h
     refine QI m7 27 74 .i64 okQ0 leQ0 hx24 ?_
     refine QK 1 ?_
     refine QIN (g := 50) (args := [.agg [.pd (.str x18), .pd (.sl (x19.map elQ4)), .pd (.int .i64 x20), .pd (.bool x21), .pd (.sl (x22.map elU32)), .pd (.sl (x23.map elU32))], .ptr 1 0 0]) (M := m7) Tryz.f50 mixedT (askG [9, 10, 11] false) (hasT 50 (by kernel_rfl)) ?_
     let o8 : Ob := .cells [.pd (.str x18), .pd (.sl (x19.map elQ4)), .pd (.int .i64 x20), .pd (.bool x21), .pd (.sl (x22.map elU32)), .pd (.sl (x23.map elU32))] 1 0 false
     let m9 : Mem := [o1, o2, o3, rowV lvS 1 s153 v103 false, o8]
     refine QK 3 ?_
     refine QL m9 26 67 elQ4 x19 ?_
     refine QK 1 ?_
     refine QBp h (fun hp25 h => ?_) (fun hp25 h => ?_)
     ·refine QEM .ret (.pd (.bool true)) (m9) ?_
      refine QR .ret ?_
      refine QEM .ret (.pd (.int .i64 s200)) (m9) ?_
      refine QBp h (fun hp26 h => ?_) (fun hp26 h => ?_)
      ·refine QEM .ret (.pd (.bool true)) (m9) ?_
       subst r; exact QE .ret
      refine QEM .ret (.pd (.bool false)) (m9) ?_
      subst r; exact QE .ret
     refine QK 2 ?_
     refine QBp h (fun hp27 h => ?_) (fun hp27 h => ?_)
     ·refine QEM .ret (.pd (.bool true)) (m9) ?_
      refine QR .ret ?_
      refine QEM .ret (.pd (.int .i64 s200)) (m9) ?_
      refine QBp h (fun hp28 h => ?_) (fun hp28 h => ?_)
      ·refine QEM .ret (.pd (.bool true)) (m9) ?_
       subst r; exact QE .ret
      refine QEM .ret (.pd (.bool false)) (m9) ?_
      subst r; exact QE .ret
     refine QK 2 ?_
     refine QBp h (fun hp29 h => ?_) (fun hp29 h => ?_)
     ·refine QEM .ret (.pd (.bool true)) (m9) ?_
      refine QR .ret ?_
      refine QEM .ret (.pd (.int .i64 s200)) (m9) ?_
      refine QBp h (fun hp30 h => ?_) (fun hp30 h => ?_)
      ·refine QEM .ret (.pd (.bool true)) (m9) ?_
       subst r; exact QE .ret
      refine QEM .ret (.pd (.bool false)) (m9) ?_
      subst r; exact QE .ret
     refine QEM .ret (.pd (.bool false)) (m9) ?_
     exact QGC () h trivial (all_c (by kernel_rfl) (all_c (by kernel_rfl) (all_c (bel_rowV _) (all_c (bel_rowV _) all_n))))
    refine QR (.exit 0) ?_
    refine QEM .ret (.pd (.int .i64 (-1))) (m7) ?_
    refine QP false (fun hc => by cases hc) (fun _ => ?_)
    refine QEM .ret (.pd (.bool false)) (m7) ?_
    subst r; exact QE .ret
   subst r; exact QE .ret
  subst r; exact QE .ret
 subst r; exact QE .ret
end Go.Abs
end
