/- Part of a proof, in few files: BDw G21pW. -/
import Derived.Test.YthkcibhfbcfhlaaGreatDoorDChK16
import Derived.Test.YthkcibhfbcfhlaaGreatDoorDChK15
import Derived.Test.YthkcibhfbcfhlaaGreatDoorDChK17
import Derived.Test.YthkcibhfbcfhlaaGreatDoorDChK20

set_option linter.unusedVariables false
set_option linter.unusedSimpArgs false
set_option linter.unnecessarySimpa false
section
namespace Go.Abs
open Go.RowKit Go.Proofs
set_option maxRecDepth 20000
theorem strings_CutSuffix_ok (m : Tp) (s p : List UInt8) {r : List UInt8 × Bool} (h : strings_CutSuffix s p r) : ASpec Tryz.prog (gtT m) 42 [.pd (.str s), .pd (.str p)] (· = .tup [.pd (.str r.1), .pd (.bool r.2)]) := by
 obtain ⟨hs, rfl⟩ := h
 refine ASpec.of_calls _ (by simp [AV.pure]) fun cx w vs hA hG hlt => ?_
 obtain ⟨v0, h0, r0⟩ := args_at hA 0 rfl
 obtain ⟨v1, h1, r1⟩ := args_at hA 1 rfl
 rw [str_inv r0] at h0; rw [str_inv r1] at h1
 rw [vs2 hA.1 h0 h1]
 refine (Tryz.strings_CutSuffix ⟨s.toArray⟩ ⟨p.toArray⟩ w hs).mono ?_
 rintro e w' ⟨rfl, rfl⟩
 refine ⟨_, rfl, Below.refl _ _, .tup _ _ rfl fun i v x q1 q2 => ?_⟩
 match i with
 | 0 => simp at q1 q2; subst q1; subst q2; exact .pd _ _ (.str _)
 | 1 => simp at q1 q2; subst q1; subst q2; exact .pd _ _ (.bool _)
 | i + 2 => simp at q1
theorem strings_Contains_ok (m : Tp) (s p : List UInt8) {r : Bool} (h : strings_Contains s p r) : ASpec Tryz.prog (gtT m) 92 [.pd (.str s), .pd (.str p)] (· = .pd (.bool r)) := by
 obtain ⟨hs, rfl⟩ := h
 refine ASpec.of_calls _ (by simp [AV.pure]) fun cx w vs hA hG hlt => ?_
 obtain ⟨v0, h0, r0⟩ := args_at hA 0 rfl
 obtain ⟨v1, h1, r1⟩ := args_at hA 1 rfl
 rw [str_inv r0] at h0; rw [str_inv r1] at h1
 rw [vs2 hA.1 h0 h1]
 have hm := glob_int (g := 2) (k := .i64) (m := m.1) hG rfl
 refine (Tryz.strings_Contains ⟨s.toArray⟩ ⟨p.toArray⟩ m.1 w hs hm).mono ?_
 rintro e w' ⟨rfl, rfl⟩
 exact ⟨_, rfl, Below.refl _ _, .pd _ _ (.bool _)⟩
end Go.Abs
end

section
namespace Go.Abs
open Go.Proofs
set_option maxHeartbeats 4000000
set_option maxRecDepth 20000
theorem proof_words_ok (m : Tp)  {r : Bz × Bz × Bz × Bz} (h : proof_words r) : ASpec Tryz.prog (gtT m) 18 [] (· = .agg [.pd (.str r.1), .pd (.str r.2.1), .pd (.str r.2.2.1), .pd (.str r.2.2.2)]) := by
 refine ASpec_tree Tryz.f18 mixedT (askG [9, 10, 11] false) (by kernel_rfl) ?_
 unfold proof_words at h
 refine QK 2 ?_
 subst r; exact QE .ret
theorem lines_Number_ok (m : Tp) (p0 : List UInt8) {r : Bool × (List Int) × (List Int) × Bool} (h : lines_Number p0 r) : ASpec Tryz.prog (gtT m) 44 [.pd (.str p0)] (· = .tup [.agg [.pd (.bool r.1), .pd (.sl (r.2.1.map elU32)), .pd (.sl (r.2.2.1.map elU32))], .pd (.bool r.2.2.2)]) := by
 refine ASpec_tree Tryz.f44 mixedT (askG [9, 10, 11] false) (by kernel_rfl) ?_
 unfold lines_Number at h
 obtain ⟨x1, x2, x3, x4, hx5, h⟩ := h
 refine QV (rat_Parse_ok m _ hx5) ?_
 refine QK 1 ?_
 refine QBp h (fun hp6 h => ?_) (fun hp6 h => ?_)
 ·obtain ⟨x7, x8, x9, hx10, h⟩ := h
  refine QV (rat_Int_ok m _ hx10) ?_
  refine QK 1 ?_
  subst r; exact QE .ret
 ·refine QK 2 ?_
  subst r; exact QE .ret
theorem proof_numbers_ok (m : Tp) (p0 : List Bz) {r : (List Fq) × Bool} (h : proof_numbers p0 r) : ASpec Tryz.prog (gtT m) 20 [.pd (.sl (p0.map elS))] (· = .tup [.pd (.sl (r.1.map elQ4)), .pd (.bool r.2)]) := by
 refine ASpec_tree Tryz.f20 mixedT (askG [9, 10, 11] true) (by kernel_rfl) ?_
 unfold proof_numbers at h
 let o1 : Ob := rowV lvQ4 3 ([] : List Fq) 0 false
 refine QL [o1, o1] 25 9 elS p0 ?_
 refine QLP (F := proof_numbers_L1 p0 r) (s0 := ((0 : Int), ([] : List Fq))) h (0, (([] : List Fq).length)) 31 2
  (fun (s100, s151) (v101, n101) => [(4, .own 1 n101 v101), (9, .pd (.sl (p0.map elS))), (10, .pd (.int .i64 (p0.length : Int))), (11, .pd (.int .i64 s100))])
  (fun (s100, s151) (v101, n101) => [o1, rowV lvQ4 3 s151 v101 false]) (fun (s100, s151) (v101, n101) => n101 = s151.length) rfl [] mixedT (askG [9, 10, 11] true) ?_
 rintro X1 ⟨s100, s151⟩ ⟨v101, n101⟩ hn101 h
 dsimp only [proof_numbers_L1] at h
 refine QBp h (fun hp1 h => ?_) (fun hp1 h => ?_)
 ·obtain ⟨x2, hx3, h⟩ := h
  let o2 : Ob := rowV lvQ4 3 s151 v101 false
  refine QI [o1, o2] 25 9 .i64 okS leS hx3 ?_
  refine QK 1 ?_
  obtain ⟨x4, x5, x6, x7, hx8, h⟩ := h
  refine QV (lines_Number_ok m _ hx8) ?_
  cases x7
  ·replace h := h.f rfl
   refine QK 1 ?_
   refine QR .ret ?_
   subst r; exact QT .ret okQ4 lgQ4 3 0 rfl
  replace h := h.t rfl
  let o4 : Ob := .cells [.pd (.bool x4), .pd (.sl (x5.map elU32)), .pd (.sl (x6.map elU32))] 1 0 false
  refine QK 2 ?_
  obtain ⟨hx9, h⟩ := h
  refine QA [o1, o2, o4] 1 s151 [(x4, x5, x6)] v101 26 26 56 okQ4 (src_fixed okQ4 leQ4) hn101 hx9 ?_
  exact QGC ((vnext s151 [(x4, x5, x6)] v101), ((s151 ++ [(x4, x5, x6)]).length)) h rfl (all_c (bel_rowV _) (all_c (bel_rowV _) all_n))
 refine QR (.exit 0) ?_
 let o5 : Ob := rowV lvQ4 3 s151 v101 false
 refine QO [o1, o5] 26 67 lvQ4 3 1 s151 v101 hn101 ?_
 refine QBp h (fun hp10 h => ?_) (fun hp10 h => ?_)
 ·subst r; exact QT .ret okQ4 lgQ4 1 v101 hn101
 subst r; exact QT .ret okQ4 lgQ4 1 v101 hn101
theorem proof_Parse_ok (m : Tp) (p0 : List UInt8) {r : Int × (List Fq) × (List Fq) × (List Fq) × Int × Int} (h : proof_Parse p0 r) : ASpec Tryz.prog (gtT m) 8 [.pd (.str p0)] (· = .tup [.agg [.pd (.int .i64 r.1), .pd (.sl (r.2.1.map elQ4)), .pd (.sl (r.2.2.1.map elQ4)), .pd (.sl (r.2.2.2.1.map elQ4))], .pd (.int .i64 r.2.2.2.2.1), .pd (.int .i64 r.2.2.2.2.2)]) := by
 refine ASpec_tree Tryz.f8 mixedT (askG [9, 10, 11] false) (by kernel_rfl) ?_
 unfold proof_Parse at h
 obtain ⟨x1, x2, hx3, h⟩ := h
 let o1 : Ob := .cells [.pd (.int .i64 0), .fixed (([] : List Fq).map elQ4), .fixed (([] : List Fq).map elQ4), .fixed (([] : List Fq).map elQ4)] 1 0 false
 refine QV (lines_All_ok m _ hx3) ?_
 refine QBp h (fun hp4 h => ?_) (fun hp4 h => ?_)
 ·refine QK 2 ?_
  subst r; exact QE .ret
 refine QL [o1] 51 59 elQ5 x1 ?_
 refine QBp h (fun hp5 h => ?_) (fun hp5 h => ?_)
 ·refine QK 2 ?_
  subst r; exact QE .ret
 obtain ⟨x6, x7, x8, x9, hx10, h⟩ := h
 refine QV (proof_words_ok m  hx10) ?_
 refine QLP (F := proof_Parse_L1 x1 x6 x7 x8 x9 r) (s0 := ((0 : Int), (0 : Int))) h () 132 2
  (fun (s100, s101) () => [(2, .ptr 0 0 0), (5, .pd (.sl (x1.map elQ5))), (7, .ptr 1 0 0), (31, .agg [.pd (.str x6), .pd (.str x7), .pd (.str x8), .pd (.str x9)]), (32, .pd (.int .i64 s100))])
  (fun (s100, s101) () => [o1, .cells [.pd (.int .i64 s101), .fixed (([] : List Fq).map elQ4), .fixed (([] : List Fq).map elQ4), .fixed (([] : List Fq).map elQ4)] 1 0 false]) (fun (s100, s101) () => True) trivial [] mixedT (askG [9, 10, 11] false) ?_
 rintro X1 ⟨s100, s101⟩ ⟨⟩ - h
 dsimp only [proof_Parse_L1] at h
 refine QBp h (fun hp11 h => ?_) (fun hp11 h => ?_)
 ·obtain ⟨x12, hx13, h⟩ := h
  let o2 : Ob := .cells [.pd (.int .i64 s101), .fixed (([] : List Fq).map elQ4), .fixed (([] : List Fq).map elQ4), .fixed (([] : List Fq).map elQ4)] 1 0 false
  refine QZ (ask_aidx (P := Tryz.prog) (t := 75) (e := 9) (n := 4) (M := [o1, o2]) (k := .i64) PD.str ([x6, x7, x8, x9] : List Bz) (by kernel_rfl) (by kernel_rfl) (by kernel_rfl) rfl hx13) ?_
  refine QBp h (fun hp14 h => ?_) (fun hp14 h => ?_)
  ·obtain ⟨x15, x16, hx17, h⟩ := h
   refine QI [o1, o2] 51 59 .i64 okQ5 leQ5 hx17 ?_
   refine QK 2 ?_
   refine QL [o1, o2] 25 9 elS x16 ?_
   refine QBp h (fun hp18 h => ?_) (fun hp18 h => ?_)
   ·obtain ⟨x19, x20, hx21, h⟩ := h
    refine QI [o1, o2] 51 59 .i64 okQ5 leQ5 hx21 ?_
    refine QK 2 ?_
    obtain ⟨x22, hx23, h⟩ := h
    refine QI [o1, o2] 25 9 .i64 okS leS hx23 ?_
    refine QK 1 ?_
    refine QB h (fun h => ?_) (fun h => ?_)
    ·let o3 : Ob := .cells [.pd (.int .i64 s100), .fixed (([] : List Fq).map elQ4), .fixed (([] : List Fq).map elQ4), .fixed (([] : List Fq).map elQ4)] 1 0 false
     refine QK 2 ?_
     exact QG () h trivial
    exact QG () h trivial
   exact QG () h trivial
  exact QG () h trivial
 refine QR (.exit 1) ?_
 let o4 : Ob := .cells [.pd (.int .i64 s101), .fixed (([] : List Fq).map elQ4), .fixed (([] : List Fq).map elQ4), .fixed (([] : List Fq).map elQ4)] 1 0 false
 refine QK 2 ?_
 refine QBp h (fun hp24 h => ?_) (fun hp24 h => ?_)
 ·refine H_drawF [2, 3, 4] (by kernel_rfl) ?_
  refine QK 1 ?_
  obtain ⟨x25, x26, hx27, h⟩ := h
  refine H_askall _ (by kernel_rfl) (fun M' => ask_idx (P := Tryz.prog) (M := M') (t := 51) (et := 59) (k := .i64) (lv := lvQ5) okQ5 leQ5 (by kernel_rfl) (by kernel_rfl) hx27) ?_
  refine QAA (.rd [.int .i64 x25, .sl (x26.map elS)]) ?_
  refine QAA (.pd (.int .i64 x25)) ?_
  refine QK 1 ?_
  subst r; exact QE .ret
 refine QD ?_
 obtain ⟨x28, x29, hx30, h⟩ := h
 refine QI [o1, o4] 51 59 .i64 okQ5 leQ5 hx30 ?_
 refine QK 2 ?_
 obtain ⟨hx31, h⟩ := h
 refine QS [o1, o4] 51 59 (some (1 : Int)) none okQ5 leQ5 hx31 ?_
 refine QIN (g := 19) (args := [.ptr 1 0 0]) (M := [o1, o4]) Tryz.f19 mixedT (askG [9, 10, 11] false) (hasT 19 (by kernel_rfl)) ?_
 refine QD ?_
 refine QK 3 ?_
 refine QBp h (fun hp32 h => ?_) (fun hp32 h => ?_)
 ·refine QK 6 ?_
  refine QBp h (fun hp33 h => ?_) (fun hp33 h => ?_)
  ·refine QK 6 ?_
   refine QP (s101 == (3 : Int)) (fun hc => by simp only [Dq] at hp33 hc; omega) (fun _ => ?_)
   let o6 : Ob := .cells [.pd (.str ([120] : List UInt8)), .pd (.bool true), .ptr 1 1 0, .pd (.str ([121] : List UInt8)), .pd (.bool true), .ptr 1 2 0, .pd (.str ([114, 97, 121] : List UInt8)), .pd (.bool false), .ptr 1 3 0] 1 0 false
   refine QK 5 ?_
   refine QEM .ret (.agg [.pd (.str ([120] : List UInt8)), .pd (.bool true), .ptr 1 1 0, .pd (.str ([121] : List UInt8)), .pd (.bool true), .ptr 1 2 0, .pd (.str ([114, 97, 121] : List UInt8)), .pd (.bool false), .ptr 1 3 0]) ([o1, o4, o6]) ?_
   refine H_unroll 4 mixedT (askG [9, 10, 11] false) (by kernel_rfl) ?_
   refine QP true (fun _ => ?_) (fun hc => by cases hc)
   let o7 : Ob := .cells [.pd (.str ([120] : List UInt8)), .pd (.bool true), .ptr 1 1 0] 1 0 false
   refine QK 4 ?_
   refine QL [o1, o4, o6, o7] 51 59 elQ5 (sub x1 (1 : Int) (x1.length : Int)) ?_
   refine QBp h (fun hp34 h => ?_) (fun hp34 h => ?_)
   ·refine QK 2 ?_
    subst r; exact QE .ret
   obtain ⟨x35, x36, hx37, h⟩ := h
   refine QI [o1, o4, o6, o7] 51 59 .i64 okQ5 leQ5 hx37 ?_
   refine QK 2 ?_
   obtain ⟨hx38, h⟩ := h
   refine QS [o1, o4, o6, o7] 25 9 (some (1 : Int)) none okS leS hx38 ?_
   obtain ⟨x39, x40, hx41, h⟩ := h
   refine QV (proof_numbers_ok m _ hx41) ?_
   cases x40
   ·replace h := h.f rfl
    refine QD ?_
    obtain ⟨x89, x90, hx91, h⟩ := h
    refine QI [o1, o4, o6, o7] 51 59 .i64 okQ5 leQ5 hx91 ?_
    refine QK 2 ?_
    obtain ⟨x92, hx93, h⟩ := h
    refine QI [o1, o4, o6, o7] 25 9 .i64 okS leS hx93 ?_
    refine QK 3 ?_
    refine QB h (fun h => ?_) (fun h => ?_)
    ·refine H_drawF [2, 3, 4] (by kernel_rfl) ?_
     refine QK 1 ?_
     obtain ⟨x94, x95, hx96, h⟩ := h
     refine H_askall _ (by kernel_rfl) (fun M' => ask_idx (P := Tryz.prog) (M := M') (t := 51) (et := 59) (k := .i64) (lv := lvQ5) okQ5 leQ5 (by kernel_rfl) (by kernel_rfl) hx96) ?_
     refine QAA (.rd [.int .i64 x94, .sl (x95.map elS)]) ?_
     refine QAA (.pd (.int .i64 x94)) ?_
     refine QK 1 ?_
     subst r; exact QE .ret
    refine H_drawF [2, 3, 4] (by kernel_rfl) ?_
    refine QK 1 ?_
    obtain ⟨x97, x98, hx99, h⟩ := h
    refine H_askall _ (by kernel_rfl) (fun M' => ask_idx (P := Tryz.prog) (M := M') (t := 51) (et := 59) (k := .i64) (lv := lvQ5) okQ5 leQ5 (by kernel_rfl) (by kernel_rfl) hx99) ?_
    refine QAA (.rd [.int .i64 x97, .sl (x98.map elS)]) ?_
    refine QAA (.pd (.int .i64 x97)) ?_
    refine QK 1 ?_
    subst r; exact QE .ret
   replace h := h.t rfl
   refine QD ?_
   obtain ⟨x42, x43, hx44, h⟩ := h
   refine QI [o1, o4, o6, o7] 51 59 .i64 okQ5 leQ5 hx44 ?_
   refine QK 2 ?_
   obtain ⟨x45, hx46, h⟩ := h
   refine QI [o1, o4, o6, o7] 25 9 .i64 okS leS hx46 ?_
   refine QK 3 ?_
   refine QB h (fun h => ?_) (fun h => ?_)
   ·refine H_drawF [2, 3, 4] (by kernel_rfl) ?_
    refine QK 1 ?_
    obtain ⟨x47, x48, hx49, h⟩ := h
    refine H_askall _ (by kernel_rfl) (fun M' => ask_idx (P := Tryz.prog) (M := M') (t := 51) (et := 59) (k := .i64) (lv := lvQ5) okQ5 leQ5 (by kernel_rfl) (by kernel_rfl) hx49) ?_
    refine QAA (.rd [.int .i64 x47, .sl (x48.map elS)]) ?_
    refine QAA (.pd (.int .i64 x47)) ?_
    refine QK 1 ?_
    subst r; exact QE .ret
   let o8 : Ob := .cells [.pd (.int .i64 s101), .pd (.sl (x39.map elQ4)), .fixed (([] : List Fq).map elQ4), .fixed (([] : List Fq).map elQ4)] 1 0 false
   refine QK 4 ?_
   refine QD ?_
   obtain ⟨x50, x51, hx52, h⟩ := h
   refine QI [o1, o8, o6, o7] 51 59 .i64 okQ5 leQ5 hx52 ?_
   refine QK 2 ?_
   obtain ⟨hx53, h⟩ := h
   refine QS [o1, o8, o6, o7] 51 59 (some (1 : Int)) none okQ5 leQ5 hx53 ?_
   refine QP true (fun _ => ?_) (fun hc => by cases hc)
   let o9 : Ob := .cells [.pd (.str ([121] : List UInt8)), .pd (.bool true), .ptr 1 2 0] 1 0 false
   refine QK 4 ?_
   refine QL [o1, o8, o6, o7, o9] 51 59 elQ5 (sub (sub x1 (1 : Int) (x1.length : Int)) (1 : Int) ((sub x1 (1 : Int) (x1.length : Int)).length : Int)) ?_
   refine QBp h (fun hp54 h => ?_) (fun hp54 h => ?_)
   ·refine QK 2 ?_
    subst r; exact QE .ret
   obtain ⟨x55, x56, hx57, h⟩ := h
   refine QI [o1, o8, o6, o7, o9] 51 59 .i64 okQ5 leQ5 hx57 ?_
   refine QK 2 ?_
   obtain ⟨hx58, h⟩ := h
   refine QS [o1, o8, o6, o7, o9] 25 9 (some (1 : Int)) none okS leS hx58 ?_
   obtain ⟨x59, x60, hx61, h⟩ := h
   refine QV (proof_numbers_ok m _ hx61) ?_
   cases x60
   ·replace h := h.f rfl
    refine QD ?_
    obtain ⟨x78, x79, hx80, h⟩ := h
    refine QI [o1, o8, o6, o7, o9] 51 59 .i64 okQ5 leQ5 hx80 ?_
    refine QK 2 ?_
    obtain ⟨x81, hx82, h⟩ := h
    refine QI [o1, o8, o6, o7, o9] 25 9 .i64 okS leS hx82 ?_
    refine QK 3 ?_
    refine QB h (fun h => ?_) (fun h => ?_)
    ·refine H_drawF [2, 3, 4] (by kernel_rfl) ?_
     refine QK 1 ?_
     obtain ⟨x83, x84, hx85, h⟩ := h
     refine H_askall _ (by kernel_rfl) (fun M' => ask_idx (P := Tryz.prog) (M := M') (t := 51) (et := 59) (k := .i64) (lv := lvQ5) okQ5 leQ5 (by kernel_rfl) (by kernel_rfl) hx85) ?_
     refine QAA (.rd [.int .i64 x83, .sl (x84.map elS)]) ?_
     refine QAA (.pd (.int .i64 x83)) ?_
     refine QK 1 ?_
     subst r; exact QE .ret
    refine H_drawF [2, 3, 4] (by kernel_rfl) ?_
    refine QK 1 ?_
    obtain ⟨x86, x87, hx88, h⟩ := h
    refine H_askall _ (by kernel_rfl) (fun M' => ask_idx (P := Tryz.prog) (M := M') (t := 51) (et := 59) (k := .i64) (lv := lvQ5) okQ5 leQ5 (by kernel_rfl) (by kernel_rfl) hx88) ?_
    refine QAA (.rd [.int .i64 x86, .sl (x87.map elS)]) ?_
    refine QAA (.pd (.int .i64 x86)) ?_
    refine QK 1 ?_
    subst r; exact QE .ret
   replace h := h.t rfl
   refine QD ?_
   obtain ⟨x62, x63, hx64, h⟩ := h
   refine QI [o1, o8, o6, o7, o9] 51 59 .i64 okQ5 leQ5 hx64 ?_
   refine QK 2 ?_
   obtain ⟨x65, hx66, h⟩ := h
   refine QI [o1, o8, o6, o7, o9] 25 9 .i64 okS leS hx66 ?_
   refine QK 3 ?_
   refine QB h (fun h => ?_) (fun h => ?_)
   ·refine H_drawF [2, 3, 4] (by kernel_rfl) ?_
    refine QK 1 ?_
    obtain ⟨x67, x68, hx69, h⟩ := h
    refine H_askall _ (by kernel_rfl) (fun M' => ask_idx (P := Tryz.prog) (M := M') (t := 51) (et := 59) (k := .i64) (lv := lvQ5) okQ5 leQ5 (by kernel_rfl) (by kernel_rfl) hx69) ?_
    refine QAA (.rd [.int .i64 x67, .sl (x68.map elS)]) ?_
    refine QAA (.pd (.int .i64 x67)) ?_
    refine QK 1 ?_
    subst r; exact QE .ret
   let o10 : Ob := .cells [.pd (.int .i64 s101), .pd (.sl (x39.map elQ4)), .pd (.sl (x59.map elQ4)), .fixed (([] : List Fq).map elQ4)] 1 0 false
   refine QK 4 ?_
   refine QD ?_
   obtain ⟨x70, x71, hx72, h⟩ := h
   refine QI [o1, o10, o6, o7, o9] 51 59 .i64 okQ5 leQ5 hx72 ?_
   refine QK 2 ?_
   obtain ⟨hx73, h⟩ := h
   refine QS [o1, o10, o6, o7, o9] 51 59 (some (1 : Int)) none okQ5 leQ5 hx73 ?_
   refine QP true (fun _ => ?_) (fun hc => by cases hc)
   let o11 : Ob := .cells [.pd (.str ([114, 97, 121] : List UInt8)), .pd (.bool false), .ptr 1 3 0] 1 0 false
   let m12 : Mem := [o1, o10, o6, o7, o9, o11]
   refine QK 4 ?_
   refine QP false (fun hc => by cases hc) (fun _ => ?_)
   refine QL m12 51 59 elQ5 (sub (sub (sub x1 (1 : Int) (x1.length : Int)) (1 : Int) ((sub x1 (1 : Int) (x1.length : Int)).length : Int)) (1 : Int) ((sub (sub x1 (1 : Int) (x1.length : Int)) (1 : Int) ((sub x1 (1 : Int) (x1.length : Int)).length : Int)).length : Int)) ?_
   refine QBp h (fun hp74 h => ?_) (fun hp74 h => ?_)
   ·refine H_drawF [2, 3, 4] (by kernel_rfl) ?_
    refine QK 1 ?_
    obtain ⟨x75, x76, hx77, h⟩ := h
    refine H_askall _ (by kernel_rfl) (fun M' => ask_idx (P := Tryz.prog) (M := M') (t := 51) (et := 59) (k := .i64) (lv := lvQ5) okQ5 leQ5 (by kernel_rfl) (by kernel_rfl) hx77) ?_
    refine QAA (.rd [.int .i64 x75, .sl (x76.map elS)]) ?_
    refine QAA (.pd (.int .i64 x75)) ?_
    refine QK 1 ?_
    subst r; exact QE .ret
   refine QK 2 ?_
   subst r; exact QE .ret
  refine QK 6 ?_
  refine QP (s101 == (3 : Int)) (fun _ => ?_) (fun hc => by simp only [Dq] at hp33 hc; omega)
  let o14 : Ob := .cells [.pd (.str ([120] : List UInt8)), .pd (.bool true), .ptr 1 1 0, .pd (.str ([121] : List UInt8)), .pd (.bool false), .ptr 1 2 0, .pd (.str ([114, 97, 121] : List UInt8)), .pd (.bool true), .ptr 1 3 0] 1 0 false
  refine QK 5 ?_
  refine QEM .ret (.agg [.pd (.str ([120] : List UInt8)), .pd (.bool true), .ptr 1 1 0, .pd (.str ([121] : List UInt8)), .pd (.bool false), .ptr 1 2 0, .pd (.str ([114, 97, 121] : List UInt8)), .pd (.bool true), .ptr 1 3 0]) ([o1, o4, o14]) ?_
  refine H_unroll 4 mixedT (askG [9, 10, 11] false) (by kernel_rfl) ?_
  refine QP true (fun _ => ?_) (fun hc => by cases hc)
  let o15 : Ob := .cells [.pd (.str ([120] : List UInt8)), .pd (.bool true), .ptr 1 1 0] 1 0 false
  refine QK 4 ?_
  refine QL [o1, o4, o14, o15] 51 59 elQ5 (sub x1 (1 : Int) (x1.length : Int)) ?_
  refine QBp h (fun hp100 h => ?_) (fun hp100 h => ?_)
  ·refine QK 2 ?_
   subst r; exact QE .ret
  obtain ⟨x101, x102, hx103, h⟩ := h
  refine QI [o1, o4, o14, o15] 51 59 .i64 okQ5 leQ5 hx103 ?_
  refine QK 2 ?_
  obtain ⟨hx104, h⟩ := h
  refine QS [o1, o4, o14, o15] 25 9 (some (1 : Int)) none okS leS hx104 ?_
  obtain ⟨x105, x106, hx107, h⟩ := h
  refine QV (proof_numbers_ok m _ hx107) ?_
  cases x106
  ·replace h := h.f rfl
   refine QD ?_
   obtain ⟨x155, x156, hx157, h⟩ := h
   refine QI [o1, o4, o14, o15] 51 59 .i64 okQ5 leQ5 hx157 ?_
   refine QK 2 ?_
   obtain ⟨x158, hx159, h⟩ := h
   refine QI [o1, o4, o14, o15] 25 9 .i64 okS leS hx159 ?_
   refine QK 3 ?_
   refine QB h (fun h => ?_) (fun h => ?_)
   ·refine H_drawF [2, 3, 4] (by kernel_rfl) ?_
    refine QK 1 ?_
    obtain ⟨x160, x161, hx162, h⟩ := h
    refine H_askall _ (by kernel_rfl) (fun M' => ask_idx (P := Tryz.prog) (M := M') (t := 51) (et := 59) (k := .i64) (lv := lvQ5) okQ5 leQ5 (by kernel_rfl) (by kernel_rfl) hx162) ?_
    refine QAA (.rd [.int .i64 x160, .sl (x161.map elS)]) ?_
    refine QAA (.pd (.int .i64 x160)) ?_
    refine QK 1 ?_
    subst r; exact QE .ret
   refine H_drawF [2, 3, 4] (by kernel_rfl) ?_
   refine QK 1 ?_
   obtain ⟨x163, x164, hx165, h⟩ := h
   refine H_askall _ (by kernel_rfl) (fun M' => ask_idx (P := Tryz.prog) (M := M') (t := 51) (et := 59) (k := .i64) (lv := lvQ5) okQ5 leQ5 (by kernel_rfl) (by kernel_rfl) hx165) ?_
   refine QAA (.rd [.int .i64 x163, .sl (x164.map elS)]) ?_
   refine QAA (.pd (.int .i64 x163)) ?_
   refine QK 1 ?_
   subst r; exact QE .ret
  replace h := h.t rfl
  refine QD ?_
  obtain ⟨x108, x109, hx110, h⟩ := h
  refine QI [o1, o4, o14, o15] 51 59 .i64 okQ5 leQ5 hx110 ?_
  refine QK 2 ?_
  obtain ⟨x111, hx112, h⟩ := h
  refine QI [o1, o4, o14, o15] 25 9 .i64 okS leS hx112 ?_
  refine QK 3 ?_
  refine QB h (fun h => ?_) (fun h => ?_)
  ·refine H_drawF [2, 3, 4] (by kernel_rfl) ?_
   refine QK 1 ?_
   obtain ⟨x113, x114, hx115, h⟩ := h
   refine H_askall _ (by kernel_rfl) (fun M' => ask_idx (P := Tryz.prog) (M := M') (t := 51) (et := 59) (k := .i64) (lv := lvQ5) okQ5 leQ5 (by kernel_rfl) (by kernel_rfl) hx115) ?_
   refine QAA (.rd [.int .i64 x113, .sl (x114.map elS)]) ?_
   refine QAA (.pd (.int .i64 x113)) ?_
   refine QK 1 ?_
   subst r; exact QE .ret
  let o16 : Ob := .cells [.pd (.int .i64 s101), .pd (.sl (x105.map elQ4)), .fixed (([] : List Fq).map elQ4), .fixed (([] : List Fq).map elQ4)] 1 0 false
  refine QK 4 ?_
  refine QD ?_
  obtain ⟨x116, x117, hx118, h⟩ := h
  refine QI [o1, o16, o14, o15] 51 59 .i64 okQ5 leQ5 hx118 ?_
  refine QK 2 ?_
  obtain ⟨hx119, h⟩ := h
  refine QS [o1, o16, o14, o15] 51 59 (some (1 : Int)) none okQ5 leQ5 hx119 ?_
  refine QP true (fun _ => ?_) (fun hc => by cases hc)
  let o17 : Ob := .cells [.pd (.str ([121] : List UInt8)), .pd (.bool false), .ptr 1 2 0] 1 0 false
  refine QK 4 ?_
  refine QP true (fun _ => ?_) (fun hc => by cases hc)
  let o19 : Ob := .cells [.pd (.str ([114, 97, 121] : List UInt8)), .pd (.bool true), .ptr 1 3 0] 1 0 false
  let m20 : Mem := [o1, o16, o14, o15, o17, o19]
  refine QK 4 ?_
  refine QL m20 51 59 elQ5 (sub (sub x1 (1 : Int) (x1.length : Int)) (1 : Int) ((sub x1 (1 : Int) (x1.length : Int)).length : Int)) ?_
  refine QBp h (fun hp120 h => ?_) (fun hp120 h => ?_)
  ·refine QK 2 ?_
   subst r; exact QE .ret
  obtain ⟨x121, x122, hx123, h⟩ := h
  refine QI m20 51 59 .i64 okQ5 leQ5 hx123 ?_
  refine QK 2 ?_
  obtain ⟨hx124, h⟩ := h
  refine QS m20 25 9 (some (1 : Int)) none okS leS hx124 ?_
  obtain ⟨x125, x126, hx127, h⟩ := h
  refine QV (proof_numbers_ok m _ hx127) ?_
  cases x126
  ·replace h := h.f rfl
   refine QD ?_
   obtain ⟨x144, x145, hx146, h⟩ := h
   refine QI m20 51 59 .i64 okQ5 leQ5 hx146 ?_
   refine QK 2 ?_
   obtain ⟨x147, hx148, h⟩ := h
   refine QI m20 25 9 .i64 okS leS hx148 ?_
   refine QK 3 ?_
   refine QB h (fun h => ?_) (fun h => ?_)
   ·refine H_drawF [2, 3, 4] (by kernel_rfl) ?_
    refine QK 1 ?_
    obtain ⟨x149, x150, hx151, h⟩ := h
    refine H_askall _ (by kernel_rfl) (fun M' => ask_idx (P := Tryz.prog) (M := M') (t := 51) (et := 59) (k := .i64) (lv := lvQ5) okQ5 leQ5 (by kernel_rfl) (by kernel_rfl) hx151) ?_
    refine QAA (.rd [.int .i64 x149, .sl (x150.map elS)]) ?_
    refine QAA (.pd (.int .i64 x149)) ?_
    refine QK 1 ?_
    subst r; exact QE .ret
   refine H_drawF [2, 3, 4] (by kernel_rfl) ?_
   refine QK 1 ?_
   obtain ⟨x152, x153, hx154, h⟩ := h
   refine H_askall _ (by kernel_rfl) (fun M' => ask_idx (P := Tryz.prog) (M := M') (t := 51) (et := 59) (k := .i64) (lv := lvQ5) okQ5 leQ5 (by kernel_rfl) (by kernel_rfl) hx154) ?_
   refine QAA (.rd [.int .i64 x152, .sl (x153.map elS)]) ?_
   refine QAA (.pd (.int .i64 x152)) ?_
   refine QK 1 ?_
   subst r; exact QE .ret
  replace h := h.t rfl
  refine QD ?_
  obtain ⟨x128, x129, hx130, h⟩ := h
  refine QI m20 51 59 .i64 okQ5 leQ5 hx130 ?_
  refine QK 2 ?_
  obtain ⟨x131, hx132, h⟩ := h
  refine QI m20 25 9 .i64 okS leS hx132 ?_
  refine QK 3 ?_
  refine QB h (fun h => ?_) (fun h => ?_)
  ·refine H_drawF [2, 3, 4] (by kernel_rfl) ?_
   refine QK 1 ?_
   obtain ⟨x133, x134, hx135, h⟩ := h
   refine H_askall _ (by kernel_rfl) (fun M' => ask_idx (P := Tryz.prog) (M := M') (t := 51) (et := 59) (k := .i64) (lv := lvQ5) okQ5 leQ5 (by kernel_rfl) (by kernel_rfl) hx135) ?_
   refine QAA (.rd [.int .i64 x133, .sl (x134.map elS)]) ?_
   refine QAA (.pd (.int .i64 x133)) ?_
   refine QK 1 ?_
   subst r; exact QE .ret
  let o21 : Ob := .cells [.pd (.int .i64 s101), .pd (.sl (x105.map elQ4)), .fixed (([] : List Fq).map elQ4), .pd (.sl (x125.map elQ4))] 1 0 false
  let m22 : Mem := [o1, o21, o14, o15, o17, o19]
  refine QK 4 ?_
  refine QD ?_
  obtain ⟨x136, x137, hx138, h⟩ := h
  refine QI m22 51 59 .i64 okQ5 leQ5 hx138 ?_
  refine QK 2 ?_
  obtain ⟨hx139, h⟩ := h
  refine QS m22 51 59 (some (1 : Int)) none okQ5 leQ5 hx139 ?_
  refine QP false (fun hc => by cases hc) (fun _ => ?_)
  refine QL m22 51 59 elQ5 (sub (sub (sub x1 (1 : Int) (x1.length : Int)) (1 : Int) ((sub x1 (1 : Int) (x1.length : Int)).length : Int)) (1 : Int) ((sub (sub x1 (1 : Int) (x1.length : Int)) (1 : Int) ((sub x1 (1 : Int) (x1.length : Int)).length : Int)).length : Int)) ?_
  refine QBp h (fun hp140 h => ?_) (fun hp140 h => ?_)
  ·refine H_drawF [2, 3, 4] (by kernel_rfl) ?_
   refine QK 1 ?_
   obtain ⟨x141, x142, hx143, h⟩ := h
   refine H_askall _ (by kernel_rfl) (fun M' => ask_idx (P := Tryz.prog) (M := M') (t := 51) (et := 59) (k := .i64) (lv := lvQ5) okQ5 leQ5 (by kernel_rfl) (by kernel_rfl) hx143) ?_
   refine QAA (.rd [.int .i64 x141, .sl (x142.map elS)]) ?_
   refine QAA (.pd (.int .i64 x141)) ?_
   refine QK 1 ?_
   subst r; exact QE .ret
  refine QK 2 ?_
  subst r; exact QE .ret
 refine QK 6 ?_
 refine QP (s101 != (3 : Int)) (fun _ => ?_) (fun hc => by simp only [Dq] at hp32 hc; omega)
 refine QK 6 ?_
 refine QP (s101 == (3 : Int)) (fun hc => by simp only [Dq] at hp32 hc; omega) (fun _ => ?_)
 let o24 : Ob := .cells [.pd (.str ([120] : List UInt8)), .pd (.bool false), .ptr 1 1 0, .pd (.str ([121] : List UInt8)), .pd (.bool true), .ptr 1 2 0, .pd (.str ([114, 97, 121] : List UInt8)), .pd (.bool false), .ptr 1 3 0] 1 0 false
 refine QK 5 ?_
 refine QEM .ret (.agg [.pd (.str ([120] : List UInt8)), .pd (.bool false), .ptr 1 1 0, .pd (.str ([121] : List UInt8)), .pd (.bool true), .ptr 1 2 0, .pd (.str ([114, 97, 121] : List UInt8)), .pd (.bool false), .ptr 1 3 0]) ([o1, o4, o24]) ?_
 refine H_unroll 4 mixedT (askG [9, 10, 11] false) (by kernel_rfl) ?_
 refine QP true (fun _ => ?_) (fun hc => by cases hc)
 let o25 : Ob := .cells [.pd (.str ([120] : List UInt8)), .pd (.bool false), .ptr 1 1 0] 1 0 false
 refine QK 4 ?_
 refine QP true (fun _ => ?_) (fun hc => by cases hc)
 let o26 : Ob := .cells [.pd (.str ([121] : List UInt8)), .pd (.bool true), .ptr 1 2 0] 1 0 false
 refine QK 4 ?_
 refine QL [o1, o4, o24, o25, o26] 51 59 elQ5 (sub x1 (1 : Int) (x1.length : Int)) ?_
 refine QBp h (fun hp166 h => ?_) (fun hp166 h => ?_)
 ·refine QK 2 ?_
  subst r; exact QE .ret
 obtain ⟨x167, x168, hx169, h⟩ := h
 refine QI [o1, o4, o24, o25, o26] 51 59 .i64 okQ5 leQ5 hx169 ?_
 refine QK 2 ?_
 obtain ⟨hx170, h⟩ := h
 refine QS [o1, o4, o24, o25, o26] 25 9 (some (1 : Int)) none okS leS hx170 ?_
 obtain ⟨x171, x172, hx173, h⟩ := h
 refine QV (proof_numbers_ok m _ hx173) ?_
 cases x172
 ·replace h := h.f rfl
  refine QD ?_
  obtain ⟨x190, x191, hx192, h⟩ := h
  refine QI [o1, o4, o24, o25, o26] 51 59 .i64 okQ5 leQ5 hx192 ?_
  refine QK 2 ?_
  obtain ⟨x193, hx194, h⟩ := h
  refine QI [o1, o4, o24, o25, o26] 25 9 .i64 okS leS hx194 ?_
  refine QK 3 ?_
  refine QB h (fun h => ?_) (fun h => ?_)
  ·refine H_drawF [2, 3, 4] (by kernel_rfl) ?_
   refine QK 1 ?_
   obtain ⟨x195, x196, hx197, h⟩ := h
   refine H_askall _ (by kernel_rfl) (fun M' => ask_idx (P := Tryz.prog) (M := M') (t := 51) (et := 59) (k := .i64) (lv := lvQ5) okQ5 leQ5 (by kernel_rfl) (by kernel_rfl) hx197) ?_
   refine QAA (.rd [.int .i64 x195, .sl (x196.map elS)]) ?_
   refine QAA (.pd (.int .i64 x195)) ?_
   refine QK 1 ?_
   subst r; exact QE .ret
  refine H_drawF [2, 3, 4] (by kernel_rfl) ?_
  refine QK 1 ?_
  obtain ⟨x198, x199, hx200, h⟩ := h
  refine H_askall _ (by kernel_rfl) (fun M' => ask_idx (P := Tryz.prog) (M := M') (t := 51) (et := 59) (k := .i64) (lv := lvQ5) okQ5 leQ5 (by kernel_rfl) (by kernel_rfl) hx200) ?_
  refine QAA (.rd [.int .i64 x198, .sl (x199.map elS)]) ?_
  refine QAA (.pd (.int .i64 x198)) ?_
  refine QK 1 ?_
  subst r; exact QE .ret
 replace h := h.t rfl
 refine QD ?_
 obtain ⟨x174, x175, hx176, h⟩ := h
 refine QI [o1, o4, o24, o25, o26] 51 59 .i64 okQ5 leQ5 hx176 ?_
 refine QK 2 ?_
 obtain ⟨x177, hx178, h⟩ := h
 refine QI [o1, o4, o24, o25, o26] 25 9 .i64 okS leS hx178 ?_
 refine QK 3 ?_
 refine QB h (fun h => ?_) (fun h => ?_)
 ·refine H_drawF [2, 3, 4] (by kernel_rfl) ?_
  refine QK 1 ?_
  obtain ⟨x179, x180, hx181, h⟩ := h
  refine H_askall _ (by kernel_rfl) (fun M' => ask_idx (P := Tryz.prog) (M := M') (t := 51) (et := 59) (k := .i64) (lv := lvQ5) okQ5 leQ5 (by kernel_rfl) (by kernel_rfl) hx181) ?_
  refine QAA (.rd [.int .i64 x179, .sl (x180.map elS)]) ?_
  refine QAA (.pd (.int .i64 x179)) ?_
  refine QK 1 ?_
  subst r; exact QE .ret
 let o27 : Ob := .cells [.pd (.int .i64 s101), .fixed (([] : List Fq).map elQ4), .pd (.sl (x171.map elQ4)), .fixed (([] : List Fq).map elQ4)] 1 0 false
 let m28 : Mem := [o1, o27, o24, o25, o26]
 refine QK 4 ?_
 refine QD ?_
 obtain ⟨x182, x183, hx184, h⟩ := h
 refine QI m28 51 59 .i64 okQ5 leQ5 hx184 ?_
 refine QK 2 ?_
 obtain ⟨hx185, h⟩ := h
 refine QS m28 51 59 (some (1 : Int)) none okQ5 leQ5 hx185 ?_
 refine QP true (fun _ => ?_) (fun hc => by cases hc)
 let o29 : Ob := .cells [.pd (.str ([114, 97, 121] : List UInt8)), .pd (.bool false), .ptr 1 3 0] 1 0 false
 let m30 : Mem := [o1, o27, o24, o25, o26, o29]
 refine QK 4 ?_
 refine QP false (fun hc => by cases hc) (fun _ => ?_)
 refine QL m30 51 59 elQ5 (sub (sub x1 (1 : Int) (x1.length : Int)) (1 : Int) ((sub x1 (1 : Int) (x1.length : Int)).length : Int)) ?_
 refine QBp h (fun hp186 h => ?_) (fun hp186 h => ?_)
 ·refine H_drawF [2, 3, 4] (by kernel_rfl) ?_
  refine QK 1 ?_
  obtain ⟨x187, x188, hx189, h⟩ := h
  refine H_askall _ (by kernel_rfl) (fun M' => ask_idx (P := Tryz.prog) (M := M') (t := 51) (et := 59) (k := .i64) (lv := lvQ5) okQ5 leQ5 (by kernel_rfl) (by kernel_rfl) hx189) ?_
  refine QAA (.rd [.int .i64 x187, .sl (x188.map elS)]) ?_
  refine QAA (.pd (.int .i64 x187)) ?_
  refine QK 1 ?_
  subst r; exact QE .ret
 refine QK 2 ?_
 subst r; exact QE .ret
theorem proof_Right_ok (m : Tp) (p0 : Int) (p1 : List Fq) (p2 : List Fq) (p3 : List Fq) {r : Bool} (h : proof_Right p0 p1 p2 p3 r) : ASpec Tryz.prog (gtT m) 28 [.agg [.pd (.int .i64 p0), .pd (.sl (p1.map elQ4)), .pd (.sl (p2.map elQ4)), .pd (.sl (p3.map elQ4))]] (· = .pd (.bool r)) := by
 refine ASpec_tree Tryz.f28 mixedT (askG [9, 10, 11] false) (by kernel_rfl) ?_
 unfold proof_Right at h
 let o1 : Ob := .cells [.pd (.int .i64 p0), .pd (.sl (p1.map elQ4)), .pd (.sl (p2.map elQ4)), .pd (.sl (p3.map elQ4))] 1 0 false
 refine QK 1 ?_
 refine QIN (g := 19) (args := [.ptr 0 0 0]) (M := [o1]) Tryz.f19 mixedT (askG [9, 10, 11] false) (hasT 19 (by kernel_rfl)) ?_
 refine QD ?_
 refine QK 3 ?_
 refine QBp h (fun hp1 h => ?_) (fun hp1 h => ?_)
 ·refine QK 6 ?_
  refine QBp h (fun hp2 h => ?_) (fun hp2 h => ?_)
  ·refine QK 6 ?_
   refine QP (p0 == (3 : Int)) (fun hc => by simp only [Dq] at hp2 hc; omega) (fun _ => ?_)
   let o3 : Ob := .cells [.pd (.str ([120] : List UInt8)), .pd (.bool true), .ptr 0 1 0, .pd (.str ([121] : List UInt8)), .pd (.bool true), .ptr 0 2 0, .pd (.str ([114, 97, 121] : List UInt8)), .pd (.bool false), .ptr 0 3 0] 1 0 false
   refine QK 5 ?_
   refine QEM .ret (.agg [.pd (.str ([120] : List UInt8)), .pd (.bool true), .ptr 0 1 0, .pd (.str ([121] : List UInt8)), .pd (.bool true), .ptr 0 2 0, .pd (.str ([114, 97, 121] : List UInt8)), .pd (.bool false), .ptr 0 3 0]) ([o1, o3]) ?_
   refine H_unroll 4 mixedT (askG [9, 10, 11] false) (by kernel_rfl) ?_
   refine QP true (fun _ => ?_) (fun hc => by cases hc)
   let o4 : Ob := .cells [.pd (.str ([120] : List UInt8)), .pd (.bool true), .ptr 0 1 0] 1 0 false
   refine QK 8 ?_
   refine QL [o1, o3, o4] 26 67 elQ4 p1 ?_
   refine QBp h (fun hp3 h => ?_) (fun hp3 h => ?_)
   ·subst r; exact QE .ret
   refine QP true (fun _ => ?_) (fun hc => by cases hc)
   let o5 : Ob := .cells [.pd (.str ([121] : List UInt8)), .pd (.bool true), .ptr 0 2 0] 1 0 false
   refine QK 8 ?_
   refine QL [o1, o3, o4, o5] 26 67 elQ4 p2 ?_
   refine QBp h (fun hp4 h => ?_) (fun hp4 h => ?_)
   ·subst r; exact QE .ret
   refine QP true (fun _ => ?_) (fun hc => by cases hc)
   let o6 : Ob := .cells [.pd (.str ([114, 97, 121] : List UInt8)), .pd (.bool false), .ptr 0 3 0] 1 0 false
   refine QK 8 ?_
   refine QL [o1, o3, o4, o5, o6] 26 67 elQ4 p3 ?_
   refine QBp h (fun hp5 h => ?_) (fun hp5 h => ?_)
   ·subst r; exact QE .ret
   refine QK 4 ?_
   refine QL [o1, o3, o4, o5, o6] 26 67 elQ4 p3 ?_
   refine QP (decide ((p3.length : Int) > (180 : Int))) (fun hc => by simp only [Dq] at hp5 hc; omega) (fun _ => ?_)
   refine QP false (fun hc => by cases hc) (fun _ => ?_)
   refine QK 2 ?_
   refine QBp h (fun hp6 h => ?_) (fun hp6 h => ?_)
   ·refine QK 2 ?_
    refine QBp h (fun hp7 h => ?_) (fun hp7 h => ?_)
    ·subst r; exact QE .ret
    subst r; exact QE .ret
   subst r; exact QE .ret
  refine QK 6 ?_
  refine QP (p0 == (3 : Int)) (fun _ => ?_) (fun hc => by simp only [Dq] at hp2 hc; omega)
  let o7 : Ob := .cells [.pd (.str ([120] : List UInt8)), .pd (.bool true), .ptr 0 1 0, .pd (.str ([121] : List UInt8)), .pd (.bool false), .ptr 0 2 0, .pd (.str ([114, 97, 121] : List UInt8)), .pd (.bool true), .ptr 0 3 0] 1 0 false
  refine QK 5 ?_
  refine QEM .ret (.agg [.pd (.str ([120] : List UInt8)), .pd (.bool true), .ptr 0 1 0, .pd (.str ([121] : List UInt8)), .pd (.bool false), .ptr 0 2 0, .pd (.str ([114, 97, 121] : List UInt8)), .pd (.bool true), .ptr 0 3 0]) ([o1, o7]) ?_
  refine H_unroll 4 mixedT (askG [9, 10, 11] false) (by kernel_rfl) ?_
  refine QP true (fun _ => ?_) (fun hc => by cases hc)
  let o8 : Ob := .cells [.pd (.str ([120] : List UInt8)), .pd (.bool true), .ptr 0 1 0] 1 0 false
  refine QK 8 ?_
  refine QL [o1, o7, o8] 26 67 elQ4 p1 ?_
  refine QBp h (fun hp8 h => ?_) (fun hp8 h => ?_)
  ·subst r; exact QE .ret
  refine QP true (fun _ => ?_) (fun hc => by cases hc)
  let o9 : Ob := .cells [.pd (.str ([121] : List UInt8)), .pd (.bool false), .ptr 0 2 0] 1 0 false
  refine QK 8 ?_
  refine QL [o1, o7, o8, o9] 26 67 elQ4 p2 ?_
  refine QBp h (fun hp9 h => ?_) (fun hp9 h => ?_)
  ·subst r; exact QE .ret
  refine QK 4 ?_
  refine QL [o1, o7, o8, o9] 26 67 elQ4 p2 ?_
  refine QP (decide ((p2.length : Int) > (180 : Int))) (fun hc => by simp only [Dq] at hp9 hc; omega) (fun _ => ?_)
  refine QP true (fun _ => ?_) (fun hc => by cases hc)
  let o10 : Ob := .cells [.pd (.str ([114, 97, 121] : List UInt8)), .pd (.bool true), .ptr 0 3 0] 1 0 false
  refine QK 8 ?_
  refine QL [o1, o7, o8, o9, o10] 26 67 elQ4 p3 ?_
  refine QBp h (fun hp10 h => ?_) (fun hp10 h => ?_)
  ·subst r; exact QE .ret
  refine QP false (fun hc => by cases hc) (fun _ => ?_)
  refine QK 2 ?_
  refine QP (decide (p0 ≥ (1 : Int))) (fun _ => ?_) (fun hc => by simp only [Dq] at hp2 hc; omega)
  refine QK 2 ?_
  refine QP (decide (p0 ≤ (3 : Int))) (fun _ => ?_) (fun hc => by simp only [Dq] at hp2 hc; omega)
  subst r; exact QE .ret
 refine QK 6 ?_
 refine QP (p0 != (3 : Int)) (fun _ => ?_) (fun hc => by simp only [Dq] at hp1 hc; omega)
 refine QK 6 ?_
 refine QP (p0 == (3 : Int)) (fun hc => by simp only [Dq] at hp1 hc; omega) (fun _ => ?_)
 let o11 : Ob := .cells [.pd (.str ([120] : List UInt8)), .pd (.bool false), .ptr 0 1 0, .pd (.str ([121] : List UInt8)), .pd (.bool true), .ptr 0 2 0, .pd (.str ([114, 97, 121] : List UInt8)), .pd (.bool false), .ptr 0 3 0] 1 0 false
 refine QK 5 ?_
 refine QEM .ret (.agg [.pd (.str ([120] : List UInt8)), .pd (.bool false), .ptr 0 1 0, .pd (.str ([121] : List UInt8)), .pd (.bool true), .ptr 0 2 0, .pd (.str ([114, 97, 121] : List UInt8)), .pd (.bool false), .ptr 0 3 0]) ([o1, o11]) ?_
 refine H_unroll 4 mixedT (askG [9, 10, 11] false) (by kernel_rfl) ?_
 refine QP true (fun _ => ?_) (fun hc => by cases hc)
 let o12 : Ob := .cells [.pd (.str ([120] : List UInt8)), .pd (.bool false), .ptr 0 1 0] 1 0 false
 refine QK 8 ?_
 refine QL [o1, o11, o12] 26 67 elQ4 p1 ?_
 refine QBp h (fun hp11 h => ?_) (fun hp11 h => ?_)
 ·subst r; exact QE .ret
 refine QK 4 ?_
 refine QL [o1, o11, o12] 26 67 elQ4 p1 ?_
 refine QP (decide ((p1.length : Int) > (180 : Int))) (fun hc => by simp only [Dq] at hp11 hc; omega) (fun _ => ?_)
 refine QP true (fun _ => ?_) (fun hc => by cases hc)
 let o13 : Ob := .cells [.pd (.str ([121] : List UInt8)), .pd (.bool true), .ptr 0 2 0] 1 0 false
 refine QK 8 ?_
 refine QL [o1, o11, o12, o13] 26 67 elQ4 p2 ?_
 refine QBp h (fun hp12 h => ?_) (fun hp12 h => ?_)
 ·subst r; exact QE .ret
 refine QP true (fun _ => ?_) (fun hc => by cases hc)
 let o14 : Ob := .cells [.pd (.str ([114, 97, 121] : List UInt8)), .pd (.bool false), .ptr 0 3 0] 1 0 false
 let m15 : Mem := [o1, o11, o12, o13, o14]
 refine QK 8 ?_
 refine QL m15 26 67 elQ4 p3 ?_
 refine QBp h (fun hp13 h => ?_) (fun hp13 h => ?_)
 ·subst r; exact QE .ret
 refine QK 4 ?_
 refine QL m15 26 67 elQ4 p3 ?_
 refine QP (decide ((p3.length : Int) > (180 : Int))) (fun hc => by simp only [Dq] at hp13 hc; omega) (fun _ => ?_)
 refine QP false (fun hc => by cases hc) (fun _ => ?_)
 refine QK 2 ?_
 refine QP (decide (p0 ≥ (1 : Int))) (fun _ => ?_) (fun hc => by simp only [Dq] at hp1 hc; omega)
 refine QK 2 ?_
 refine QP (decide (p0 ≤ (3 : Int))) (fun _ => ?_) (fun hc => by simp only [Dq] at hp1 hc; omega)
 subst r; exact QE .ret
end Go.Abs
end
