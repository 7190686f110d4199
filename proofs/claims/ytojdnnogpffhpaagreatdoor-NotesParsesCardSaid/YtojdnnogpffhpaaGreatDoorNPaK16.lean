/- Part of a proof, in few files: GLinW DClo GCloW BNw. -/
import Derived.Test.YtojdnnogpffhpaaGreatDoorNPaK14
import Derived.Test.YtojdnnogpffhpaaGreatDoorNPaK15
import Derived.Test.YtojdnnogpffhpaaGreatDoorNPaK13
import Derived.Test.YtojdnnogpffhpaaGreatDoorNPaK11
import Derived.Test.YtojdnnogpffhpaaGreatDoorProg
import Derived.WalkKit
import Derived.WalkSpells
import Derived.WalkLawsBesides
import Derived.Shelf.Slices.Clone

section
namespace Go.Abs
open Go.Proofs
set_option maxRecDepth 20000
set_option linter.unusedVariables false
set_option linter.unusedSimpArgs false
set_option linter.unnecessarySimpa false
def lvS (x : List UInt8) : List PD := [.str x]
def elS (x : List UInt8) : PD := .str x
theorem okS : LVok lvS 1 := fun _ => ⟨rfl, rfl⟩
theorem leS : ELok elS lvS := fun _ => rfl
theorem lgS : ELg elS lvS 1 := fun _ => rfl
def lvQ2 (x : Int × (List (List UInt8))) : List PD := [.int .i64 x.1, .sl (x.2.map elS)]
def elQ2 (x : Int × (List (List UInt8))) : PD := .agg [.int .i64 x.1, .sl (x.2.map elS)]
theorem okQ2 : LVok lvQ2 2 := fun _ => ⟨rfl, rfl⟩
theorem leQ2 : ELok elQ2 lvQ2 := fun _ => rfl
theorem lgQ2 : ELg elQ2 lvQ2 2 := fun _ => rfl
theorem lines_may_ok (m : Tp) (p0 : Int) {r : Bool} (h : lines_may p0 r) : ASpec Tryz.prog (gtT m) 44 [.pd (.int .i32 p0)] (· = .pd (.bool r)) := by
 refine ASpec_tree Tryz.f44 mixedT (askO [9, 10, 11] false [73, 75]) (by kernel_rfl) ?_
 unfold lines_may at h
 refine QB h (fun h => ?_) (fun h => ?_)
 ·subst r; exact QE .ret
 ·refine QB h (fun h => ?_) (fun h => ?_)
  ·refine QB h (fun h => ?_) (fun h => ?_)
   ·subst r; exact QE .ret
   ·subst r; exact QE .ret
  ·subst r; exact QE .ret
theorem lines_All_ok (m : Tp) (p0 : List UInt8) {r : (List (Int × (List (List UInt8)))) × Int} (h : lines_All p0 r) : ASpec Tryz.prog (gtT m) 25 [.pd (.str p0)] (· = .tup [.pd (.sl (r.1.map elQ2)), .pd (.int .i64 r.2)]) := by
 refine ASpec_tree Tryz.f25 mixedT (askO [9, 10, 11] true [73, 75]) (by kernel_rfl) ?_
 unfold lines_All at h
 let o1 : Ob := rowV lvQ2 2 ([] : List (Int × (List (List UInt8)))) 0 false
 refine QK 1 ?_
 refine QB h (fun h => ?_) (fun h => ?_)
 ·subst r; exact QX .ret (.tup [.own 1 (([] : List (Int × (List (List UInt8)))).length) 0, .pd (.int .i64 4)]) [o1, o1] (pure_tup (pl_cons (pure_1to2 (po okQ2 lgQ2 1 ([] : List (Int × (List (List UInt8)))) 0 ([] : List (Int × (List (List UInt8)))).length rfl) rfl) (pl_cons rfl pl_nil)))
 refine H_loopP (F := lines_All_L1 p0 r) (s0 := 0) h () 49 2
  (fun s151 () => [(0, .pd (.str p0)), (14, .it 1)])
  (fun s151 () => [o1, .iter p0 s151]) (fun s151 () => True) trivial [] mixedT (askO [9, 10, 11] true [73, 75])
  (by kernel_rfl) (by kernel_rfl) (by kernel_rfl) (by kernel_rfl) (by kernel_rfl) (fun _ _ => rfl) ?_
 rintro X1 s151 ⟨⟩ - h
 dsimp only [lines_All_L1] at h
 cases hx1 : (decide (s151 < p0.length))
 ·replace h := h.f hx1
  refine QZ (ask_next0 (M := [o1, .iter p0 s151]) (b := 1) (s := p0) (pos := s151) (by kernel_rfl) hx1) ?_
  refine QR (.exit 0) ?_
  obtain ⟨x4, hx5, h⟩ := h
  refine QV (strings_Split_ok m _ _ hx5) ?_
  refine QL [o1, .iter p0 s151, o1] 22 9 elS x4 ?_
  refine H_loopP (F := lines_All_L2 x4 r) (s0 := ((0 : Int), ([] : List (Int × (List (List UInt8)))))) h (0, (([] : List (Int × (List (List UInt8)))).length)) 49 3
   (fun (s200, s252) (v202, n202) => [(6, .own 2 n202 v202), (22, .pd (.sl (x4.map elS))), (23, .pd (.int .i64 (x4.length : Int))), (24, .pd (.int .i64 s200))])
   (fun (s200, s252) (v202, n202) => [o1, .iter p0 s151, rowV lvQ2 2 s252 v202 false]) (fun (s200, s252) (v202, n202) => n202 = s252.length) rfl [] mixedT (askO [9, 10, 11] true [73, 75])
   (by kernel_rfl) (by kernel_rfl) (by kernel_rfl) (by kernel_rfl) (by kernel_rfl) (fun _ _ => rfl) ?_
  rintro X2 ⟨s200, s252⟩ ⟨v202, n202⟩ hn202 h
  dsimp only [lines_All_L2] at h
  refine QB h (fun h => ?_) (fun h => ?_)
  ·obtain ⟨x6, hx7, h⟩ := h
   let o2 : Ob := rowV lvQ2 2 s252 v202 false
   refine QI [o1, .iter p0 s151, o2] 22 9 .i64 okS leS hx7 ?_
   refine QK 1 ?_
   obtain ⟨x8, x9, x10, hx11, h⟩ := h
   refine QV (strings_Cut_ok m _ _ hx11) ?_
   cases x10
   ·replace h := h.f rfl
    obtain ⟨x15, hx16, h⟩ := h
    refine QV (strings_Fields_ok m _ hx16) ?_
    refine QL [o1, .iter p0 s151, o2] 22 9 elS x15 ?_
    refine QB h (fun h => ?_) (fun h => ?_)
    ·refine QK 1 ?_
     obtain ⟨hx17, h⟩ := h
     refine QA [o1, .iter p0 s151, o2] 2 s252 [((IntKind.i64.wrap (s200 + 1)), x15)] v202 59 59 32 okQ2 (src_fixed okQ2 leQ2) hn202 hx17 ?_
     exact QG ((vnext s252 [((IntKind.i64.wrap (s200 + 1)), x15)] v202), ((s252 ++ [((IntKind.i64.wrap (s200 + 1)), x15)]).length)) h rfl
    exact QG (v202, n202) h hn202
   replace h := h.t rfl
   obtain ⟨x12, hx13, h⟩ := h
   refine QV (strings_Fields_ok m _ hx13) ?_
   refine QL [o1, .iter p0 s151, o2] 22 9 elS x12 ?_
   refine QB h (fun h => ?_) (fun h => ?_)
   ·refine QK 1 ?_
    obtain ⟨hx14, h⟩ := h
    refine QA [o1, .iter p0 s151, o2] 2 s252 [((IntKind.i64.wrap (s200 + 1)), x12)] v202 59 59 32 okQ2 (src_fixed okQ2 leQ2) hn202 hx14 ?_
    exact QG ((vnext s252 [((IntKind.i64.wrap (s200 + 1)), x12)] v202), ((s252 ++ [((IntKind.i64.wrap (s200 + 1)), x12)]).length)) h rfl
   exact QG (v202, n202) h hn202
  refine QR (.exit 2) ?_
  let o3 : Ob := rowV lvQ2 2 s252 v202 false
  subst r; exact QX .ret (.tup [.own 2 n202 v202, .pd (.int .i64 0)]) [o1, .iter p0 s151, o3] (pure_tup (pl_cons (pure_1to2 (po okQ2 lgQ2 2 s252 v202 n202 hn202) rfl) (pl_cons rfl pl_nil)))
 replace h := h.t hx1
 refine QZ (ask_next (M := [o1, .iter p0 s151]) (b := 1) (s := p0) (pos := s151) (by kernel_rfl) hx1) ?_
 obtain ⟨x2, hx3, h⟩ := h
 let o4 : Ob := .iter p0 (s151 + runeLen p0 s151)
 refine QV (lines_may_ok m _ hx3) ?_
 cases x2
 ·replace h := h.f rfl
  refine QR .ret ?_
  subst r; exact QX .ret (.tup [.own 2 (([] : List (Int × (List (List UInt8)))).length) 0, .pd (.int .i64 2)]) [o1, o4, o1] (pure_tup (pl_cons (pure_1to2 (po okQ2 lgQ2 2 ([] : List (Int × (List (List UInt8)))) 0 ([] : List (Int × (List (List UInt8)))).length rfl) rfl) (pl_cons rfl pl_nil)))
 replace h := h.t rfl
 exact QG () h trivial
theorem lines_Name_ok (m : Tp) (p0 : List UInt8) {r : Bool} (h : lines_Name p0 r) : ASpec Tryz.prog (gtT m) 52 [.pd (.str p0)] (· = .pd (.bool r)) := by
 refine ASpec_tree Tryz.f52 mixedT (askO [9, 10, 11] false [73, 75]) (by kernel_rfl) ?_
 unfold lines_Name at h
 refine H_loopP (F := lines_Name_L1 p0 r) (s0 := 0) h () 44 1
  (fun s150 () => [(0, .pd (.str p0)), (7, .it 0)])
  (fun s150 () => [.iter p0 s150]) (fun s150 () => True) trivial [] mixedT (askO [9, 10, 11] false [73, 75])
  (by kernel_rfl) (by kernel_rfl) (by kernel_rfl) (by kernel_rfl) (by kernel_rfl) (fun _ _ => rfl) ?_
 rintro X1 s150 ⟨⟩ - h
 dsimp only [lines_Name_L1] at h
 cases hx1 : (decide (s150 < p0.length))
 ·replace h := h.f hx1
  refine QZ (ask_next0 (M := [.iter p0 s150]) (b := 0) (s := p0) (pos := s150) (by kernel_rfl) hx1) ?_
  refine QR (.exit 0) ?_
  refine QK 1 ?_
  refine QB h (fun h => ?_) (fun h => ?_)
  ·refine QK 1 ?_
   refine QB h (fun h => ?_) (fun h => ?_)
   ·subst r; exact QE .ret
   ·subst r; exact QE .ret
  ·subst r; exact QE .ret
 ·replace h := h.t hx1
  refine QZ (ask_next (M := [.iter p0 s150]) (b := 0) (s := p0) (pos := s150) (by kernel_rfl) hx1) ?_
  refine QB h (fun h => ?_) (fun h => ?_)
  ·refine QB h (fun h => ?_) (fun h => ?_)
   ·exact QG () h trivial
   ·refine QB h (fun h => ?_) (fun h => ?_)
    ·refine QR .ret ?_
     subst r; exact QE .ret
    ·refine QB h (fun h => ?_) (fun h => ?_)
     ·refine QB h (fun h => ?_) (fun h => ?_)
      ·refine QR .ret ?_
       subst r; exact QE .ret
      ·refine QB h (fun h => ?_) (fun h => ?_)
       ·refine QR .ret ?_
        subst r; exact QE .ret
       ·exact QG () h trivial
     ·exact QG () h trivial
  ·refine QB h (fun h => ?_) (fun h => ?_)
   ·refine QR .ret ?_
    subst r; exact QE .ret
   ·refine QB h (fun h => ?_) (fun h => ?_)
    ·refine QB h (fun h => ?_) (fun h => ?_)
     ·refine QR .ret ?_
      subst r; exact QE .ret
     ·refine QB h (fun h => ?_) (fun h => ?_)
      ·refine QR .ret ?_
       subst r; exact QE .ret
      ·exact QG () h trivial
    ·exact QG () h trivial
theorem lines_Join_ok (m : Tp) (p0 : List (List UInt8)) {r : (List UInt8)} (h : lines_Join p0 r) : ASpec Tryz.prog (gtT m) 42 [.pd (.sl (p0.map elS))] (· = .pd (.str r)) := by
 refine ASpec_tree Tryz.f42 mixedT (askO [9, 10, 11] false [73, 75]) (by kernel_rfl) ?_
 unfold lines_Join at h
 obtain ⟨x1, hx2, h⟩ := h
 refine QV (strings_Join_ok m _ _ hx2) ?_
 subst r; exact QE .ret
theorem offcutref07_Right_ok (m : Tp) (p0 : List UInt8) {r : Bool} (h : offcutref07_Right p0 r) : ASpec Tryz.prog (gtT m) 12 [.pd (.str p0)] (· = .pd (.bool r)) := by
 refine ASpec_tree Tryz.f12 mixedT (askO [9, 10, 11] false [73, 75]) (by kernel_rfl) ?_
 unfold offcutref07_Right at h
 refine H_loopP (F := offcutref07_Right_L1 p0 r) (s0 := (0 : Int)) h () 26 0
  (fun s100 () => [(0, .pd (.str p0)), (3, .pd (.int .i64 s100))])
  (fun s100 () => []) (fun s100 () => True) trivial [] mixedT (askO [9, 10, 11] false [73, 75])
  (by kernel_rfl) (by kernel_rfl) (by kernel_rfl) (by kernel_rfl) (by kernel_rfl) (fun _ _ => rfl) ?_
 rintro X1 s100 ⟨⟩ - h
 dsimp only [offcutref07_Right_L1] at h
 refine QK 1 ?_
 refine QB h (fun h => ?_) (fun h => ?_)
 ·obtain ⟨c1, hx2, h⟩ := h
  refine QZ (ask_sidx (P := Tryz.prog) (M := []) (t := 9) (k := .i64) (by kernel_rfl) hx2) ?_
  refine QB h (fun h => ?_) (fun h => ?_)
  ·obtain ⟨c3, hx4, h⟩ := h
   refine QZ (ask_sidx (P := Tryz.prog) (M := []) (t := 9) (k := .i64) (by kernel_rfl) hx4) ?_
   refine QB h (fun h => ?_) (fun h => ?_)
   ·refine QR .ret ?_
    subst r; exact QE .ret
   ·obtain ⟨c5, hx6, h⟩ := h
    refine QZ (ask_sidx (P := Tryz.prog) (M := []) (t := 9) (k := .i64) (by kernel_rfl) hx6) ?_
    refine QB h (fun h => ?_) (fun h => ?_)
    ·refine QR .ret ?_
     subst r; exact QE .ret
    ·exact QG () h trivial
  ·exact QG () h trivial
 ·refine QR (.exit 0) ?_
  subst r; exact QE .ret
theorem offcutref07_All_ok (m : Tp) (p0 : List UInt8) {r : (List (Int × (List (List UInt8))))} (h : offcutref07_All p0 r) : ASpec Tryz.prog (gtT m) 33 [.pd (.str p0)] (· = .pd (.sl (r.map elQ2))) := by
 refine ASpec_tree Tryz.f33 mixedT (askO [9, 10, 11] true [73, 75]) (by kernel_rfl) ?_
 unfold offcutref07_All at h
 let o1 : Ob := rowV lvQ2 2 ([] : List (Int × (List (List UInt8)))) 0 false
 refine H_bldN (t := 75) (parts := [(0, .pd (.int .i64 1))]) (M0 := [o1, o1]) 1 2 1 (.agg [.pd (.int .i64 1), .own 2 (([] : List (List UInt8)).length) 0]) (by kernel_rfl) rfl (by kernel_rfl) ?_
 let o2 : Ob := rowV lvS 1 ([] : List (List UInt8)) 0 false
 refine H_allocL (t := 75) (M0 := [o1, o1, o2]) (M1 := [o1, o1, o2]) (M2 := [o1, o1, o2, .cells [.pd (.int .i64 0), .fixed (([] : List (List UInt8)).map elS)] 1 0 false]) [] [.pd (.int .i64 0), .fixed (([] : List (List UInt8)).map elS)] (by kernel_rfl) (VStep.refl _) (by kernel_rfl) (by kernel_rfl) ?_
 let o3 : Ob := .cells [.pd (.int .i64 0), .fixed (([] : List (List UInt8)).map elS)] 1 0 false
 refine QC [o1, o1, o2, o3] 75 3 0 0 2 1 [.pd (.int .i64 1), .own 2 (([] : List (List UInt8)).length) 0] (.agg [.pd (.int .i64 1), .own 2 (([] : List (List UInt8)).length) 0]) (all_c (by kernel_rfl) (all_c (ok_own (o := o2) (by kernel_rfl) (rowIs_v' (lv := lvS) (s := 1) (e := ([] : List (List UInt8))) (ver := 0) (z := false))) all_n)) ?_
 refine H_loopP (F := offcutref07_All_L1 p0 r) (s0 := (([] : List UInt8), false, (0 : Int), (1 : Int), ([] : List (Int × (List (List UInt8)))), ([] : List (List UInt8)))) h (0, (([] : List (Int × (List (List UInt8)))).length), 0, (([] : List (List UInt8)).length)) 73 4
  (fun (s100, s101, s102, s103, s151, s152) (v101, n101, v102, n102) => [(0, .pd (.str p0)), (3, .own 1 n101 v101), (4, .ptr 3 0 0), (5, .pd (.str s100)), (6, .pd (.bool s101)), (7, .pd (.int .i64 s102))])
  (fun (s100, s101, s102, s103, s151, s152) (v101, n101, v102, n102) => [o1, rowV lvQ2 2 s151 v101 false, rowV lvS 1 s152 v102 false, .cells [.pd (.int .i64 s103), .own 2 n102 v102] 1 0 false]) (fun (s100, s101, s102, s103, s151, s152) (v101, n101, v102, n102) => n101 = s151.length ∧ n102 = s152.length) ⟨rfl, rfl⟩ [] mixedT (askO [9, 10, 11] true [73, 75])
  (by kernel_rfl) (by kernel_rfl) (by kernel_rfl) (by kernel_rfl) (by kernel_rfl) (fun _ _ => rfl) ?_
 rintro X1 ⟨s100, s101, s102, s103, s151, s152⟩ ⟨v101, n101, v102, n102⟩ ⟨hn101, hn102⟩ h
 dsimp only [offcutref07_All_L1] at h
 cases s101
 ·replace h := h.f rfl
  let o4 : Ob := rowV lvQ2 2 s151 v101 false
  let o5 : Ob := .cells [.pd (.int .i64 s103), .own 2 n102 v102] 1 0 false
  let m6 : Mem := [o1, o4, rowV lvS 1 s152 v102 false, o5]
  refine QK 1 ?_
  refine QB h (fun h => ?_) (fun h => ?_)
  ·refine QK 1 ?_
   refine QB h (fun h => ?_) (fun h => ?_)
   ·refine QB h (fun h => ?_) (fun h => ?_)
    ·refine QK 2 ?_
     obtain ⟨hx13, h⟩ := h
     refine QA m6 2 s152 [s100] v102 22 22 16 okS (src_fixed okS leS) hn102 hx13 ?_
     let o7 : Ob := rowV lvS 1 (s152 ++ [s100]) (vnext s152 [s100] v102) false
     refine QK 1 ?_
     refine QC [o1, o4, o7, o5] 22 3 1 0 1 1 [.own 2 ((s152 ++ [s100]).length) (vnext s152 [s100] v102)] (.own 2 ((s152 ++ [s100]).length) (vnext s152 [s100] v102)) (all_c (ok_own (o := o7) (by kernel_rfl) (rowIs_v' (lv := lvS) (s := 1) (e := (s152 ++ [s100])) (ver := (vnext s152 [s100] v102)) (z := false))) all_n) ?_
     let o8 : Ob := .cells [.pd (.int .i64 s103), .own 2 ((s152 ++ [s100]).length) (vnext s152 [s100] v102)] 1 0 false
     refine QK 2 ?_
     refine QO [o1, o4, o7, o8] 22 9 lvS 1 2 (s152 ++ [s100]) (vnext s152 [s100] v102) rfl ?_
     refine QB h (fun h => ?_) (fun h => ?_)
     ·refine QK 1 ?_
      refine H_bldF (t := 73) (n := 1) (parts := [(0, .agg [.pd (.int .i64 s103), .own 2 ((s152 ++ [s100]).length) (vnext s152 [s100] v102)])]) (M0 := [o1, o4, o7, o8]) 2 ((s152 ++ [s100]).length) (vnext s152 [s100] v102) (.fixed ([(s103, (s152 ++ [s100]))].map elQ2)) (by kernel_rfl) (own_pd okS (by decide) lgS (o := o7) (by kernel_rfl) (rowIs_v' (lv := lvS) (s := 1) (e := (s152 ++ [s100])) (ver := (vnext s152 [s100] v102)) (z := false)) (n := (s152 ++ [s100]).length) rfl) (frz_v (lv := lvS) (s := 1) (e := (s152 ++ [s100])) (ver := (vnext s152 [s100] v102)) (z := false) (by kernel_rfl)) (.cons (.agg (.cons (.keep _) (.cons .cut .nil))) .nil) (by kernel_rfl) ?_
      obtain ⟨hx14, h⟩ := h
      let o9 : Ob := rowV lvS 1 (s152 ++ [s100]) (vnext s152 [s100] v102) true
      refine QA [o1, o4, o9, o8] 1 s151 [(s103, (s152 ++ [s100]))] v101 73 73 32 okQ2 (src_fixed okQ2 leQ2) hn101 hx14 ?_
      let o10 : Ob := rowV lvQ2 2 (s151 ++ [(s103, (s152 ++ [s100]))]) (vnext s151 [(s103, (s152 ++ [s100]))] v101) false
      refine QK 2 ?_
      refine H_bldV (t := 75) (parts := [(0, .pd (.int .i64 (IntKind.i64.wrap (s103 + 1))))]) (M0 := [o1, o10, o9, o8]) 1 2 (.agg [.pd (.int .i64 (IntKind.i64.wrap (s103 + 1))), .own 2 (([] : List (List UInt8)).length) ((vnext s152 [s100] v102) + 1)]) (o := o9) (by kernel_rfl) (by kernel_rfl) (rowIs_v' (lv := lvS) (s := 1) (e := (s152 ++ [s100])) (ver := (vnext s152 [s100] v102)) (z := true)) rfl (by kernel_rfl) ?_
      let o11 : Ob := rowV lvS 1 ([] : List (List UInt8)) ((vnext s152 [s100] v102) + 1) false
      refine QC [o1, o10, o11, o8] 75 3 0 0 2 1 [.pd (.int .i64 (IntKind.i64.wrap (s103 + 1))), .own 2 (([] : List (List UInt8)).length) ((vnext s152 [s100] v102) + 1)] (.agg [.pd (.int .i64 (IntKind.i64.wrap (s103 + 1))), .own 2 (([] : List (List UInt8)).length) ((vnext s152 [s100] v102) + 1)]) (all_c (by kernel_rfl) (all_c (ok_own (o := o11) (by kernel_rfl) (rowIs_v' (lv := lvS) (s := 1) (e := ([] : List (List UInt8))) (ver := ((vnext s152 [s100] v102) + 1)) (z := false))) all_n)) ?_
      exact QG ((vnext s151 [(s103, (s152 ++ [s100]))] v101), ((s151 ++ [(s103, (s152 ++ [s100]))]).length), ((vnext s152 [s100] v102) + 1), (([] : List (List UInt8)).length)) h ⟨rfl, rfl⟩
     refine QK 2 ?_
     refine H_bldV (t := 75) (parts := [(0, .pd (.int .i64 (IntKind.i64.wrap (s103 + 1))))]) (M0 := [o1, o4, o7, o8]) 1 2 (.agg [.pd (.int .i64 (IntKind.i64.wrap (s103 + 1))), .own 2 (([] : List (List UInt8)).length) ((vnext s152 [s100] v102) + 1)]) (o := o7) (by kernel_rfl) (by kernel_rfl) (rowIs_v' (lv := lvS) (s := 1) (e := (s152 ++ [s100])) (ver := (vnext s152 [s100] v102)) (z := false)) rfl (by kernel_rfl) ?_
     let o12 : Ob := rowV lvS 1 ([] : List (List UInt8)) ((vnext s152 [s100] v102) + 1) false
     refine QC [o1, o4, o12, o8] 75 3 0 0 2 1 [.pd (.int .i64 (IntKind.i64.wrap (s103 + 1))), .own 2 (([] : List (List UInt8)).length) ((vnext s152 [s100] v102) + 1)] (.agg [.pd (.int .i64 (IntKind.i64.wrap (s103 + 1))), .own 2 (([] : List (List UInt8)).length) ((vnext s152 [s100] v102) + 1)]) (all_c (by kernel_rfl) (all_c (ok_own (o := o12) (by kernel_rfl) (rowIs_v' (lv := lvS) (s := 1) (e := ([] : List (List UInt8))) (ver := ((vnext s152 [s100] v102) + 1)) (z := false))) all_n)) ?_
     exact QG (v101, n101, ((vnext s152 [s100] v102) + 1), (([] : List (List UInt8)).length)) h ⟨hn101, rfl⟩
    refine QK 2 ?_
    refine QO m6 22 9 lvS 1 2 s152 v102 hn102 ?_
    refine QB h (fun h => ?_) (fun h => ?_)
    ·refine QK 1 ?_
     refine H_bldF (t := 73) (n := 1) (parts := [(0, .agg [.pd (.int .i64 s103), .own 2 n102 v102])]) (M0 := m6) 2 n102 v102 (.fixed ([(s103, s152)].map elQ2)) (by kernel_rfl) (own_pd okS (by decide) lgS (o := rowV lvS 1 s152 v102 false) (by kernel_rfl) (rowIs_v' (lv := lvS) (s := 1) (e := s152) (ver := v102) (z := false)) (n := n102) hn102) (frz_v (lv := lvS) (s := 1) (e := s152) (ver := v102) (z := false) (by kernel_rfl)) (.cons (.agg (.cons (.keep _) (.cons .cut .nil))) .nil) (by kernel_rfl) ?_
     obtain ⟨hx15, h⟩ := h
     let m13 : Mem := [o1, o4, rowV lvS 1 s152 v102 true, o5]
     refine QA m13 1 s151 [(s103, s152)] v101 73 73 32 okQ2 (src_fixed okQ2 leQ2) hn101 hx15 ?_
     let o14 : Ob := rowV lvQ2 2 (s151 ++ [(s103, s152)]) (vnext s151 [(s103, s152)] v101) false
     let m15 : Mem := [o1, o14, rowV lvS 1 s152 v102 true, o5]
     refine QK 2 ?_
     refine H_bldV (t := 75) (parts := [(0, .pd (.int .i64 (IntKind.i64.wrap (s103 + 1))))]) (M0 := m15) 1 2 (.agg [.pd (.int .i64 (IntKind.i64.wrap (s103 + 1))), .own 2 (([] : List (List UInt8)).length) (v102 + 1)]) (o := rowV lvS 1 s152 v102 true) (by kernel_rfl) (by kernel_rfl) (rowIs_v' (lv := lvS) (s := 1) (e := s152) (ver := v102) (z := true)) rfl (by kernel_rfl) ?_
     let o16 : Ob := rowV lvS 1 ([] : List (List UInt8)) (v102 + 1) false
     refine QC [o1, o14, o16, o5] 75 3 0 0 2 1 [.pd (.int .i64 (IntKind.i64.wrap (s103 + 1))), .own 2 (([] : List (List UInt8)).length) (v102 + 1)] (.agg [.pd (.int .i64 (IntKind.i64.wrap (s103 + 1))), .own 2 (([] : List (List UInt8)).length) (v102 + 1)]) (all_c (by kernel_rfl) (all_c (ok_own (o := o16) (by kernel_rfl) (rowIs_v' (lv := lvS) (s := 1) (e := ([] : List (List UInt8))) (ver := (v102 + 1)) (z := false))) all_n)) ?_
     exact QG ((vnext s151 [(s103, s152)] v101), ((s151 ++ [(s103, s152)]).length), (v102 + 1), (([] : List (List UInt8)).length)) h ⟨rfl, rfl⟩
    refine QK 2 ?_
    refine H_bldV (t := 75) (parts := [(0, .pd (.int .i64 (IntKind.i64.wrap (s103 + 1))))]) (M0 := m6) 1 2 (.agg [.pd (.int .i64 (IntKind.i64.wrap (s103 + 1))), .own 2 (([] : List (List UInt8)).length) (v102 + 1)]) (o := rowV lvS 1 s152 v102 false) (by kernel_rfl) (by kernel_rfl) (rowIs_v' (lv := lvS) (s := 1) (e := s152) (ver := v102) (z := false)) rfl (by kernel_rfl) ?_
    let o17 : Ob := rowV lvS 1 ([] : List (List UInt8)) (v102 + 1) false
    refine QC [o1, o4, o17, o5] 75 3 0 0 2 1 [.pd (.int .i64 (IntKind.i64.wrap (s103 + 1))), .own 2 (([] : List (List UInt8)).length) (v102 + 1)] (.agg [.pd (.int .i64 (IntKind.i64.wrap (s103 + 1))), .own 2 (([] : List (List UInt8)).length) (v102 + 1)]) (all_c (by kernel_rfl) (all_c (ok_own (o := o17) (by kernel_rfl) (rowIs_v' (lv := lvS) (s := 1) (e := ([] : List (List UInt8))) (ver := (v102 + 1)) (z := false))) all_n)) ?_
    exact QG (v101, n101, (v102 + 1), (([] : List (List UInt8)).length)) h ⟨hn101, rfl⟩
   obtain ⟨c16, hx17, h⟩ := h
   refine QZ (ask_sidx (P := Tryz.prog) (M := m6) (t := 9) (k := .i64) (by kernel_rfl) hx17) ?_
   refine QB h (fun h => ?_) (fun h => ?_)
   ·refine QB h (fun h => ?_) (fun h => ?_)
    ·refine QK 2 ?_
     obtain ⟨hx18, h⟩ := h
     refine QA m6 2 s152 [s100] v102 22 22 16 okS (src_fixed okS leS) hn102 hx18 ?_
     let o18 : Ob := rowV lvS 1 (s152 ++ [s100]) (vnext s152 [s100] v102) false
     refine QK 1 ?_
     refine QC [o1, o4, o18, o5] 22 3 1 0 1 1 [.own 2 ((s152 ++ [s100]).length) (vnext s152 [s100] v102)] (.own 2 ((s152 ++ [s100]).length) (vnext s152 [s100] v102)) (all_c (ok_own (o := o18) (by kernel_rfl) (rowIs_v' (lv := lvS) (s := 1) (e := (s152 ++ [s100])) (ver := (vnext s152 [s100] v102)) (z := false))) all_n) ?_
     let o19 : Ob := .cells [.pd (.int .i64 s103), .own 2 ((s152 ++ [s100]).length) (vnext s152 [s100] v102)] 1 0 false
     refine QK 2 ?_
     refine QO [o1, o4, o18, o19] 22 9 lvS 1 2 (s152 ++ [s100]) (vnext s152 [s100] v102) rfl ?_
     refine QB h (fun h => ?_) (fun h => ?_)
     ·refine QK 1 ?_
      refine H_bldF (t := 73) (n := 1) (parts := [(0, .agg [.pd (.int .i64 s103), .own 2 ((s152 ++ [s100]).length) (vnext s152 [s100] v102)])]) (M0 := [o1, o4, o18, o19]) 2 ((s152 ++ [s100]).length) (vnext s152 [s100] v102) (.fixed ([(s103, (s152 ++ [s100]))].map elQ2)) (by kernel_rfl) (own_pd okS (by decide) lgS (o := o18) (by kernel_rfl) (rowIs_v' (lv := lvS) (s := 1) (e := (s152 ++ [s100])) (ver := (vnext s152 [s100] v102)) (z := false)) (n := (s152 ++ [s100]).length) rfl) (frz_v (lv := lvS) (s := 1) (e := (s152 ++ [s100])) (ver := (vnext s152 [s100] v102)) (z := false) (by kernel_rfl)) (.cons (.agg (.cons (.keep _) (.cons .cut .nil))) .nil) (by kernel_rfl) ?_
      obtain ⟨hx19, h⟩ := h
      let o20 : Ob := rowV lvS 1 (s152 ++ [s100]) (vnext s152 [s100] v102) true
      refine QA [o1, o4, o20, o19] 1 s151 [(s103, (s152 ++ [s100]))] v101 73 73 32 okQ2 (src_fixed okQ2 leQ2) hn101 hx19 ?_
      let o21 : Ob := rowV lvQ2 2 (s151 ++ [(s103, (s152 ++ [s100]))]) (vnext s151 [(s103, (s152 ++ [s100]))] v101) false
      refine QK 2 ?_
      refine H_bldV (t := 75) (parts := [(0, .pd (.int .i64 (IntKind.i64.wrap (s103 + 1))))]) (M0 := [o1, o21, o20, o19]) 1 2 (.agg [.pd (.int .i64 (IntKind.i64.wrap (s103 + 1))), .own 2 (([] : List (List UInt8)).length) ((vnext s152 [s100] v102) + 1)]) (o := o20) (by kernel_rfl) (by kernel_rfl) (rowIs_v' (lv := lvS) (s := 1) (e := (s152 ++ [s100])) (ver := (vnext s152 [s100] v102)) (z := true)) rfl (by kernel_rfl) ?_
      let o22 : Ob := rowV lvS 1 ([] : List (List UInt8)) ((vnext s152 [s100] v102) + 1) false
      refine QC [o1, o21, o22, o19] 75 3 0 0 2 1 [.pd (.int .i64 (IntKind.i64.wrap (s103 + 1))), .own 2 (([] : List (List UInt8)).length) ((vnext s152 [s100] v102) + 1)] (.agg [.pd (.int .i64 (IntKind.i64.wrap (s103 + 1))), .own 2 (([] : List (List UInt8)).length) ((vnext s152 [s100] v102) + 1)]) (all_c (by kernel_rfl) (all_c (ok_own (o := o22) (by kernel_rfl) (rowIs_v' (lv := lvS) (s := 1) (e := ([] : List (List UInt8))) (ver := ((vnext s152 [s100] v102) + 1)) (z := false))) all_n)) ?_
      exact QG ((vnext s151 [(s103, (s152 ++ [s100]))] v101), ((s151 ++ [(s103, (s152 ++ [s100]))]).length), ((vnext s152 [s100] v102) + 1), (([] : List (List UInt8)).length)) h ⟨rfl, rfl⟩
     refine QK 2 ?_
     refine H_bldV (t := 75) (parts := [(0, .pd (.int .i64 (IntKind.i64.wrap (s103 + 1))))]) (M0 := [o1, o4, o18, o19]) 1 2 (.agg [.pd (.int .i64 (IntKind.i64.wrap (s103 + 1))), .own 2 (([] : List (List UInt8)).length) ((vnext s152 [s100] v102) + 1)]) (o := o18) (by kernel_rfl) (by kernel_rfl) (rowIs_v' (lv := lvS) (s := 1) (e := (s152 ++ [s100])) (ver := (vnext s152 [s100] v102)) (z := false)) rfl (by kernel_rfl) ?_
     let o23 : Ob := rowV lvS 1 ([] : List (List UInt8)) ((vnext s152 [s100] v102) + 1) false
     refine QC [o1, o4, o23, o19] 75 3 0 0 2 1 [.pd (.int .i64 (IntKind.i64.wrap (s103 + 1))), .own 2 (([] : List (List UInt8)).length) ((vnext s152 [s100] v102) + 1)] (.agg [.pd (.int .i64 (IntKind.i64.wrap (s103 + 1))), .own 2 (([] : List (List UInt8)).length) ((vnext s152 [s100] v102) + 1)]) (all_c (by kernel_rfl) (all_c (ok_own (o := o23) (by kernel_rfl) (rowIs_v' (lv := lvS) (s := 1) (e := ([] : List (List UInt8))) (ver := ((vnext s152 [s100] v102) + 1)) (z := false))) all_n)) ?_
     exact QG (v101, n101, ((vnext s152 [s100] v102) + 1), (([] : List (List UInt8)).length)) h ⟨hn101, rfl⟩
    refine QK 2 ?_
    refine QO m6 22 9 lvS 1 2 s152 v102 hn102 ?_
    refine QB h (fun h => ?_) (fun h => ?_)
    ·refine QK 1 ?_
     refine H_bldF (t := 73) (n := 1) (parts := [(0, .agg [.pd (.int .i64 s103), .own 2 n102 v102])]) (M0 := m6) 2 n102 v102 (.fixed ([(s103, s152)].map elQ2)) (by kernel_rfl) (own_pd okS (by decide) lgS (o := rowV lvS 1 s152 v102 false) (by kernel_rfl) (rowIs_v' (lv := lvS) (s := 1) (e := s152) (ver := v102) (z := false)) (n := n102) hn102) (frz_v (lv := lvS) (s := 1) (e := s152) (ver := v102) (z := false) (by kernel_rfl)) (.cons (.agg (.cons (.keep _) (.cons .cut .nil))) .nil) (by kernel_rfl) ?_
     obtain ⟨hx20, h⟩ := h
     let m24 : Mem := [o1, o4, rowV lvS 1 s152 v102 true, o5]
     refine QA m24 1 s151 [(s103, s152)] v101 73 73 32 okQ2 (src_fixed okQ2 leQ2) hn101 hx20 ?_
     let o25 : Ob := rowV lvQ2 2 (s151 ++ [(s103, s152)]) (vnext s151 [(s103, s152)] v101) false
     let m26 : Mem := [o1, o25, rowV lvS 1 s152 v102 true, o5]
     refine QK 2 ?_
     refine H_bldV (t := 75) (parts := [(0, .pd (.int .i64 (IntKind.i64.wrap (s103 + 1))))]) (M0 := m26) 1 2 (.agg [.pd (.int .i64 (IntKind.i64.wrap (s103 + 1))), .own 2 (([] : List (List UInt8)).length) (v102 + 1)]) (o := rowV lvS 1 s152 v102 true) (by kernel_rfl) (by kernel_rfl) (rowIs_v' (lv := lvS) (s := 1) (e := s152) (ver := v102) (z := true)) rfl (by kernel_rfl) ?_
     let o27 : Ob := rowV lvS 1 ([] : List (List UInt8)) (v102 + 1) false
     refine QC [o1, o25, o27, o5] 75 3 0 0 2 1 [.pd (.int .i64 (IntKind.i64.wrap (s103 + 1))), .own 2 (([] : List (List UInt8)).length) (v102 + 1)] (.agg [.pd (.int .i64 (IntKind.i64.wrap (s103 + 1))), .own 2 (([] : List (List UInt8)).length) (v102 + 1)]) (all_c (by kernel_rfl) (all_c (ok_own (o := o27) (by kernel_rfl) (rowIs_v' (lv := lvS) (s := 1) (e := ([] : List (List UInt8))) (ver := (v102 + 1)) (z := false))) all_n)) ?_
     exact QG ((vnext s151 [(s103, s152)] v101), ((s151 ++ [(s103, s152)]).length), (v102 + 1), (([] : List (List UInt8)).length)) h ⟨rfl, rfl⟩
    refine QK 2 ?_
    refine H_bldV (t := 75) (parts := [(0, .pd (.int .i64 (IntKind.i64.wrap (s103 + 1))))]) (M0 := m6) 1 2 (.agg [.pd (.int .i64 (IntKind.i64.wrap (s103 + 1))), .own 2 (([] : List (List UInt8)).length) (v102 + 1)]) (o := rowV lvS 1 s152 v102 false) (by kernel_rfl) (by kernel_rfl) (rowIs_v' (lv := lvS) (s := 1) (e := s152) (ver := v102) (z := false)) rfl (by kernel_rfl) ?_
    let o28 : Ob := rowV lvS 1 ([] : List (List UInt8)) (v102 + 1) false
    refine QC [o1, o4, o28, o5] 75 3 0 0 2 1 [.pd (.int .i64 (IntKind.i64.wrap (s103 + 1))), .own 2 (([] : List (List UInt8)).length) (v102 + 1)] (.agg [.pd (.int .i64 (IntKind.i64.wrap (s103 + 1))), .own 2 (([] : List (List UInt8)).length) (v102 + 1)]) (all_c (by kernel_rfl) (all_c (ok_own (o := o28) (by kernel_rfl) (rowIs_v' (lv := lvS) (s := 1) (e := ([] : List (List UInt8))) (ver := (v102 + 1)) (z := false))) all_n)) ?_
    exact QG (v101, n101, (v102 + 1), (([] : List (List UInt8)).length)) h ⟨hn101, rfl⟩
   obtain ⟨c21, hx22, h⟩ := h
   refine QZ (ask_sidx (P := Tryz.prog) (M := m6) (t := 9) (k := .i64) (by kernel_rfl) hx22) ?_
   refine QB h (fun h => ?_) (fun h => ?_)
   ·refine QB h (fun h => ?_) (fun h => ?_)
    ·refine QK 2 ?_
     obtain ⟨hx23, h⟩ := h
     refine QA m6 2 s152 [s100] v102 22 22 16 okS (src_fixed okS leS) hn102 hx23 ?_
     let o29 : Ob := rowV lvS 1 (s152 ++ [s100]) (vnext s152 [s100] v102) false
     refine QK 1 ?_
     refine QC [o1, o4, o29, o5] 22 3 1 0 1 1 [.own 2 ((s152 ++ [s100]).length) (vnext s152 [s100] v102)] (.own 2 ((s152 ++ [s100]).length) (vnext s152 [s100] v102)) (all_c (ok_own (o := o29) (by kernel_rfl) (rowIs_v' (lv := lvS) (s := 1) (e := (s152 ++ [s100])) (ver := (vnext s152 [s100] v102)) (z := false))) all_n) ?_
     exact QG (v101, n101, (vnext s152 [s100] v102), ((s152 ++ [s100]).length)) h ⟨hn101, rfl⟩
    exact QG (v101, n101, v102, n102) h ⟨hn101, hn102⟩
   obtain ⟨c24, hx25, h⟩ := h
   refine QZ (ask_sidx (P := Tryz.prog) (M := m6) (t := 9) (k := .i64) (by kernel_rfl) hx25) ?_
   refine QB h (fun h => ?_) (fun h => ?_)
   ·refine QB h (fun h => ?_) (fun h => ?_)
    ·refine QK 2 ?_
     obtain ⟨hx26, h⟩ := h
     refine QA m6 2 s152 [s100] v102 22 22 16 okS (src_fixed okS leS) hn102 hx26 ?_
     let o30 : Ob := rowV lvS 1 (s152 ++ [s100]) (vnext s152 [s100] v102) false
     refine QK 1 ?_
     refine QC [o1, o4, o30, o5] 22 3 1 0 1 1 [.own 2 ((s152 ++ [s100]).length) (vnext s152 [s100] v102)] (.own 2 ((s152 ++ [s100]).length) (vnext s152 [s100] v102)) (all_c (ok_own (o := o30) (by kernel_rfl) (rowIs_v' (lv := lvS) (s := 1) (e := (s152 ++ [s100])) (ver := (vnext s152 [s100] v102)) (z := false))) all_n) ?_
     exact QG (v101, n101, (vnext s152 [s100] v102), ((s152 ++ [s100]).length)) h ⟨hn101, rfl⟩
    exact QG (v101, n101, v102, n102) h ⟨hn101, hn102⟩
   obtain ⟨hx27, h⟩ := h
   refine QZ (ask_subS (P := Tryz.prog) (M := m6) (t := 9) (lo := (some s102)) (hi := (some (IntKind.i64.wrap (s102 + 1)))) (by kernel_rfl) hx27) ?_
   obtain ⟨hx28, h⟩ := h
   refine QZ (ask_cat (P := Tryz.prog) (M := m6) (t := 9) hx28) ?_
   exact QG (v101, n101, v102, n102) h ⟨hn101, hn102⟩
  refine QR (.exit 0) ?_
  subst r; exact QX .ret (.own 1 n101 v101) m6 (pure_2to3 (pure_1to2 (po okQ2 lgQ2 1 s151 v101 n101 hn101) rfl) rfl)
 replace h := h.t rfl
 let o31 : Ob := rowV lvQ2 2 s151 v101 false
 let o32 : Ob := .cells [.pd (.int .i64 s103), .own 2 n102 v102] 1 0 false
 let m33 : Mem := [o1, o31, rowV lvS 1 s152 v102 false, o32]
 refine QK 1 ?_
 refine QB h (fun h => ?_) (fun h => ?_)
 ·refine QK 1 ?_
  refine QB h (fun h => ?_) (fun h => ?_)
  ·refine QB h (fun h => ?_) (fun h => ?_)
   ·refine QK 2 ?_
    obtain ⟨hx1, h⟩ := h
    refine QA m33 2 s152 [s100] v102 22 22 16 okS (src_fixed okS leS) hn102 hx1 ?_
    let o34 : Ob := rowV lvS 1 (s152 ++ [s100]) (vnext s152 [s100] v102) false
    refine QK 1 ?_
    refine QC [o1, o31, o34, o32] 22 3 1 0 1 1 [.own 2 ((s152 ++ [s100]).length) (vnext s152 [s100] v102)] (.own 2 ((s152 ++ [s100]).length) (vnext s152 [s100] v102)) (all_c (ok_own (o := o34) (by kernel_rfl) (rowIs_v' (lv := lvS) (s := 1) (e := (s152 ++ [s100])) (ver := (vnext s152 [s100] v102)) (z := false))) all_n) ?_
    let o35 : Ob := .cells [.pd (.int .i64 s103), .own 2 ((s152 ++ [s100]).length) (vnext s152 [s100] v102)] 1 0 false
    refine QK 2 ?_
    refine QO [o1, o31, o34, o35] 22 9 lvS 1 2 (s152 ++ [s100]) (vnext s152 [s100] v102) rfl ?_
    refine QB h (fun h => ?_) (fun h => ?_)
    ·refine QK 1 ?_
     refine H_bldF (t := 73) (n := 1) (parts := [(0, .agg [.pd (.int .i64 s103), .own 2 ((s152 ++ [s100]).length) (vnext s152 [s100] v102)])]) (M0 := [o1, o31, o34, o35]) 2 ((s152 ++ [s100]).length) (vnext s152 [s100] v102) (.fixed ([(s103, (s152 ++ [s100]))].map elQ2)) (by kernel_rfl) (own_pd okS (by decide) lgS (o := o34) (by kernel_rfl) (rowIs_v' (lv := lvS) (s := 1) (e := (s152 ++ [s100])) (ver := (vnext s152 [s100] v102)) (z := false)) (n := (s152 ++ [s100]).length) rfl) (frz_v (lv := lvS) (s := 1) (e := (s152 ++ [s100])) (ver := (vnext s152 [s100] v102)) (z := false) (by kernel_rfl)) (.cons (.agg (.cons (.keep _) (.cons .cut .nil))) .nil) (by kernel_rfl) ?_
     obtain ⟨hx2, h⟩ := h
     let o36 : Ob := rowV lvS 1 (s152 ++ [s100]) (vnext s152 [s100] v102) true
     refine QA [o1, o31, o36, o35] 1 s151 [(s103, (s152 ++ [s100]))] v101 73 73 32 okQ2 (src_fixed okQ2 leQ2) hn101 hx2 ?_
     let o37 : Ob := rowV lvQ2 2 (s151 ++ [(s103, (s152 ++ [s100]))]) (vnext s151 [(s103, (s152 ++ [s100]))] v101) false
     refine QK 2 ?_
     refine H_bldV (t := 75) (parts := [(0, .pd (.int .i64 (IntKind.i64.wrap (s103 + 1))))]) (M0 := [o1, o37, o36, o35]) 1 2 (.agg [.pd (.int .i64 (IntKind.i64.wrap (s103 + 1))), .own 2 (([] : List (List UInt8)).length) ((vnext s152 [s100] v102) + 1)]) (o := o36) (by kernel_rfl) (by kernel_rfl) (rowIs_v' (lv := lvS) (s := 1) (e := (s152 ++ [s100])) (ver := (vnext s152 [s100] v102)) (z := true)) rfl (by kernel_rfl) ?_
     let o38 : Ob := rowV lvS 1 ([] : List (List UInt8)) ((vnext s152 [s100] v102) + 1) false
     refine QC [o1, o37, o38, o35] 75 3 0 0 2 1 [.pd (.int .i64 (IntKind.i64.wrap (s103 + 1))), .own 2 (([] : List (List UInt8)).length) ((vnext s152 [s100] v102) + 1)] (.agg [.pd (.int .i64 (IntKind.i64.wrap (s103 + 1))), .own 2 (([] : List (List UInt8)).length) ((vnext s152 [s100] v102) + 1)]) (all_c (by kernel_rfl) (all_c (ok_own (o := o38) (by kernel_rfl) (rowIs_v' (lv := lvS) (s := 1) (e := ([] : List (List UInt8))) (ver := ((vnext s152 [s100] v102) + 1)) (z := false))) all_n)) ?_
     exact QG ((vnext s151 [(s103, (s152 ++ [s100]))] v101), ((s151 ++ [(s103, (s152 ++ [s100]))]).length), ((vnext s152 [s100] v102) + 1), (([] : List (List UInt8)).length)) h ⟨rfl, rfl⟩
    refine QK 2 ?_
    refine H_bldV (t := 75) (parts := [(0, .pd (.int .i64 (IntKind.i64.wrap (s103 + 1))))]) (M0 := [o1, o31, o34, o35]) 1 2 (.agg [.pd (.int .i64 (IntKind.i64.wrap (s103 + 1))), .own 2 (([] : List (List UInt8)).length) ((vnext s152 [s100] v102) + 1)]) (o := o34) (by kernel_rfl) (by kernel_rfl) (rowIs_v' (lv := lvS) (s := 1) (e := (s152 ++ [s100])) (ver := (vnext s152 [s100] v102)) (z := false)) rfl (by kernel_rfl) ?_
    let o39 : Ob := rowV lvS 1 ([] : List (List UInt8)) ((vnext s152 [s100] v102) + 1) false
    refine QC [o1, o31, o39, o35] 75 3 0 0 2 1 [.pd (.int .i64 (IntKind.i64.wrap (s103 + 1))), .own 2 (([] : List (List UInt8)).length) ((vnext s152 [s100] v102) + 1)] (.agg [.pd (.int .i64 (IntKind.i64.wrap (s103 + 1))), .own 2 (([] : List (List UInt8)).length) ((vnext s152 [s100] v102) + 1)]) (all_c (by kernel_rfl) (all_c (ok_own (o := o39) (by kernel_rfl) (rowIs_v' (lv := lvS) (s := 1) (e := ([] : List (List UInt8))) (ver := ((vnext s152 [s100] v102) + 1)) (z := false))) all_n)) ?_
    exact QG (v101, n101, ((vnext s152 [s100] v102) + 1), (([] : List (List UInt8)).length)) h ⟨hn101, rfl⟩
   refine QK 2 ?_
   refine QO m33 22 9 lvS 1 2 s152 v102 hn102 ?_
   refine QB h (fun h => ?_) (fun h => ?_)
   ·refine QK 1 ?_
    refine H_bldF (t := 73) (n := 1) (parts := [(0, .agg [.pd (.int .i64 s103), .own 2 n102 v102])]) (M0 := m33) 2 n102 v102 (.fixed ([(s103, s152)].map elQ2)) (by kernel_rfl) (own_pd okS (by decide) lgS (o := rowV lvS 1 s152 v102 false) (by kernel_rfl) (rowIs_v' (lv := lvS) (s := 1) (e := s152) (ver := v102) (z := false)) (n := n102) hn102) (frz_v (lv := lvS) (s := 1) (e := s152) (ver := v102) (z := false) (by kernel_rfl)) (.cons (.agg (.cons (.keep _) (.cons .cut .nil))) .nil) (by kernel_rfl) ?_
    obtain ⟨hx3, h⟩ := h
    let m40 : Mem := [o1, o31, rowV lvS 1 s152 v102 true, o32]
    refine QA m40 1 s151 [(s103, s152)] v101 73 73 32 okQ2 (src_fixed okQ2 leQ2) hn101 hx3 ?_
    let o41 : Ob := rowV lvQ2 2 (s151 ++ [(s103, s152)]) (vnext s151 [(s103, s152)] v101) false
    let m42 : Mem := [o1, o41, rowV lvS 1 s152 v102 true, o32]
    refine QK 2 ?_
    refine H_bldV (t := 75) (parts := [(0, .pd (.int .i64 (IntKind.i64.wrap (s103 + 1))))]) (M0 := m42) 1 2 (.agg [.pd (.int .i64 (IntKind.i64.wrap (s103 + 1))), .own 2 (([] : List (List UInt8)).length) (v102 + 1)]) (o := rowV lvS 1 s152 v102 true) (by kernel_rfl) (by kernel_rfl) (rowIs_v' (lv := lvS) (s := 1) (e := s152) (ver := v102) (z := true)) rfl (by kernel_rfl) ?_
    let o43 : Ob := rowV lvS 1 ([] : List (List UInt8)) (v102 + 1) false
    refine QC [o1, o41, o43, o32] 75 3 0 0 2 1 [.pd (.int .i64 (IntKind.i64.wrap (s103 + 1))), .own 2 (([] : List (List UInt8)).length) (v102 + 1)] (.agg [.pd (.int .i64 (IntKind.i64.wrap (s103 + 1))), .own 2 (([] : List (List UInt8)).length) (v102 + 1)]) (all_c (by kernel_rfl) (all_c (ok_own (o := o43) (by kernel_rfl) (rowIs_v' (lv := lvS) (s := 1) (e := ([] : List (List UInt8))) (ver := (v102 + 1)) (z := false))) all_n)) ?_
    exact QG ((vnext s151 [(s103, s152)] v101), ((s151 ++ [(s103, s152)]).length), (v102 + 1), (([] : List (List UInt8)).length)) h ⟨rfl, rfl⟩
   refine QK 2 ?_
   refine H_bldV (t := 75) (parts := [(0, .pd (.int .i64 (IntKind.i64.wrap (s103 + 1))))]) (M0 := m33) 1 2 (.agg [.pd (.int .i64 (IntKind.i64.wrap (s103 + 1))), .own 2 (([] : List (List UInt8)).length) (v102 + 1)]) (o := rowV lvS 1 s152 v102 false) (by kernel_rfl) (by kernel_rfl) (rowIs_v' (lv := lvS) (s := 1) (e := s152) (ver := v102) (z := false)) rfl (by kernel_rfl) ?_
   let o44 : Ob := rowV lvS 1 ([] : List (List UInt8)) (v102 + 1) false
   refine QC [o1, o31, o44, o32] 75 3 0 0 2 1 [.pd (.int .i64 (IntKind.i64.wrap (s103 + 1))), .own 2 (([] : List (List UInt8)).length) (v102 + 1)] (.agg [.pd (.int .i64 (IntKind.i64.wrap (s103 + 1))), .own 2 (([] : List (List UInt8)).length) (v102 + 1)]) (all_c (by kernel_rfl) (all_c (ok_own (o := o44) (by kernel_rfl) (rowIs_v' (lv := lvS) (s := 1) (e := ([] : List (List UInt8))) (ver := (v102 + 1)) (z := false))) all_n)) ?_
   exact QG (v101, n101, (v102 + 1), (([] : List (List UInt8)).length)) h ⟨hn101, rfl⟩
  obtain ⟨c4, hx5, h⟩ := h
  refine QZ (ask_sidx (P := Tryz.prog) (M := m33) (t := 9) (k := .i64) (by kernel_rfl) hx5) ?_
  refine QB h (fun h => ?_) (fun h => ?_)
  ·refine QB h (fun h => ?_) (fun h => ?_)
   ·refine QK 2 ?_
    obtain ⟨hx6, h⟩ := h
    refine QA m33 2 s152 [s100] v102 22 22 16 okS (src_fixed okS leS) hn102 hx6 ?_
    let o45 : Ob := rowV lvS 1 (s152 ++ [s100]) (vnext s152 [s100] v102) false
    refine QK 1 ?_
    refine QC [o1, o31, o45, o32] 22 3 1 0 1 1 [.own 2 ((s152 ++ [s100]).length) (vnext s152 [s100] v102)] (.own 2 ((s152 ++ [s100]).length) (vnext s152 [s100] v102)) (all_c (ok_own (o := o45) (by kernel_rfl) (rowIs_v' (lv := lvS) (s := 1) (e := (s152 ++ [s100])) (ver := (vnext s152 [s100] v102)) (z := false))) all_n) ?_
    let o46 : Ob := .cells [.pd (.int .i64 s103), .own 2 ((s152 ++ [s100]).length) (vnext s152 [s100] v102)] 1 0 false
    refine QK 2 ?_
    refine QO [o1, o31, o45, o46] 22 9 lvS 1 2 (s152 ++ [s100]) (vnext s152 [s100] v102) rfl ?_
    refine QB h (fun h => ?_) (fun h => ?_)
    ·refine QK 1 ?_
     refine H_bldF (t := 73) (n := 1) (parts := [(0, .agg [.pd (.int .i64 s103), .own 2 ((s152 ++ [s100]).length) (vnext s152 [s100] v102)])]) (M0 := [o1, o31, o45, o46]) 2 ((s152 ++ [s100]).length) (vnext s152 [s100] v102) (.fixed ([(s103, (s152 ++ [s100]))].map elQ2)) (by kernel_rfl) (own_pd okS (by decide) lgS (o := o45) (by kernel_rfl) (rowIs_v' (lv := lvS) (s := 1) (e := (s152 ++ [s100])) (ver := (vnext s152 [s100] v102)) (z := false)) (n := (s152 ++ [s100]).length) rfl) (frz_v (lv := lvS) (s := 1) (e := (s152 ++ [s100])) (ver := (vnext s152 [s100] v102)) (z := false) (by kernel_rfl)) (.cons (.agg (.cons (.keep _) (.cons .cut .nil))) .nil) (by kernel_rfl) ?_
     obtain ⟨hx7, h⟩ := h
     let o47 : Ob := rowV lvS 1 (s152 ++ [s100]) (vnext s152 [s100] v102) true
     refine QA [o1, o31, o47, o46] 1 s151 [(s103, (s152 ++ [s100]))] v101 73 73 32 okQ2 (src_fixed okQ2 leQ2) hn101 hx7 ?_
     let o48 : Ob := rowV lvQ2 2 (s151 ++ [(s103, (s152 ++ [s100]))]) (vnext s151 [(s103, (s152 ++ [s100]))] v101) false
     refine QK 2 ?_
     refine H_bldV (t := 75) (parts := [(0, .pd (.int .i64 (IntKind.i64.wrap (s103 + 1))))]) (M0 := [o1, o48, o47, o46]) 1 2 (.agg [.pd (.int .i64 (IntKind.i64.wrap (s103 + 1))), .own 2 (([] : List (List UInt8)).length) ((vnext s152 [s100] v102) + 1)]) (o := o47) (by kernel_rfl) (by kernel_rfl) (rowIs_v' (lv := lvS) (s := 1) (e := (s152 ++ [s100])) (ver := (vnext s152 [s100] v102)) (z := true)) rfl (by kernel_rfl) ?_
     let o49 : Ob := rowV lvS 1 ([] : List (List UInt8)) ((vnext s152 [s100] v102) + 1) false
     refine QC [o1, o48, o49, o46] 75 3 0 0 2 1 [.pd (.int .i64 (IntKind.i64.wrap (s103 + 1))), .own 2 (([] : List (List UInt8)).length) ((vnext s152 [s100] v102) + 1)] (.agg [.pd (.int .i64 (IntKind.i64.wrap (s103 + 1))), .own 2 (([] : List (List UInt8)).length) ((vnext s152 [s100] v102) + 1)]) (all_c (by kernel_rfl) (all_c (ok_own (o := o49) (by kernel_rfl) (rowIs_v' (lv := lvS) (s := 1) (e := ([] : List (List UInt8))) (ver := ((vnext s152 [s100] v102) + 1)) (z := false))) all_n)) ?_
     exact QG ((vnext s151 [(s103, (s152 ++ [s100]))] v101), ((s151 ++ [(s103, (s152 ++ [s100]))]).length), ((vnext s152 [s100] v102) + 1), (([] : List (List UInt8)).length)) h ⟨rfl, rfl⟩
    refine QK 2 ?_
    refine H_bldV (t := 75) (parts := [(0, .pd (.int .i64 (IntKind.i64.wrap (s103 + 1))))]) (M0 := [o1, o31, o45, o46]) 1 2 (.agg [.pd (.int .i64 (IntKind.i64.wrap (s103 + 1))), .own 2 (([] : List (List UInt8)).length) ((vnext s152 [s100] v102) + 1)]) (o := o45) (by kernel_rfl) (by kernel_rfl) (rowIs_v' (lv := lvS) (s := 1) (e := (s152 ++ [s100])) (ver := (vnext s152 [s100] v102)) (z := false)) rfl (by kernel_rfl) ?_
    let o50 : Ob := rowV lvS 1 ([] : List (List UInt8)) ((vnext s152 [s100] v102) + 1) false
    refine QC [o1, o31, o50, o46] 75 3 0 0 2 1 [.pd (.int .i64 (IntKind.i64.wrap (s103 + 1))), .own 2 (([] : List (List UInt8)).length) ((vnext s152 [s100] v102) + 1)] (.agg [.pd (.int .i64 (IntKind.i64.wrap (s103 + 1))), .own 2 (([] : List (List UInt8)).length) ((vnext s152 [s100] v102) + 1)]) (all_c (by kernel_rfl) (all_c (ok_own (o := o50) (by kernel_rfl) (rowIs_v' (lv := lvS) (s := 1) (e := ([] : List (List UInt8))) (ver := ((vnext s152 [s100] v102) + 1)) (z := false))) all_n)) ?_
    exact QG (v101, n101, ((vnext s152 [s100] v102) + 1), (([] : List (List UInt8)).length)) h ⟨hn101, rfl⟩
   refine QK 2 ?_
   refine QO m33 22 9 lvS 1 2 s152 v102 hn102 ?_
   refine QB h (fun h => ?_) (fun h => ?_)
   ·refine QK 1 ?_
    refine H_bldF (t := 73) (n := 1) (parts := [(0, .agg [.pd (.int .i64 s103), .own 2 n102 v102])]) (M0 := m33) 2 n102 v102 (.fixed ([(s103, s152)].map elQ2)) (by kernel_rfl) (own_pd okS (by decide) lgS (o := rowV lvS 1 s152 v102 false) (by kernel_rfl) (rowIs_v' (lv := lvS) (s := 1) (e := s152) (ver := v102) (z := false)) (n := n102) hn102) (frz_v (lv := lvS) (s := 1) (e := s152) (ver := v102) (z := false) (by kernel_rfl)) (.cons (.agg (.cons (.keep _) (.cons .cut .nil))) .nil) (by kernel_rfl) ?_
    obtain ⟨hx8, h⟩ := h
    let m51 : Mem := [o1, o31, rowV lvS 1 s152 v102 true, o32]
    refine QA m51 1 s151 [(s103, s152)] v101 73 73 32 okQ2 (src_fixed okQ2 leQ2) hn101 hx8 ?_
    let o52 : Ob := rowV lvQ2 2 (s151 ++ [(s103, s152)]) (vnext s151 [(s103, s152)] v101) false
    let m53 : Mem := [o1, o52, rowV lvS 1 s152 v102 true, o32]
    refine QK 2 ?_
    refine H_bldV (t := 75) (parts := [(0, .pd (.int .i64 (IntKind.i64.wrap (s103 + 1))))]) (M0 := m53) 1 2 (.agg [.pd (.int .i64 (IntKind.i64.wrap (s103 + 1))), .own 2 (([] : List (List UInt8)).length) (v102 + 1)]) (o := rowV lvS 1 s152 v102 true) (by kernel_rfl) (by kernel_rfl) (rowIs_v' (lv := lvS) (s := 1) (e := s152) (ver := v102) (z := true)) rfl (by kernel_rfl) ?_
    let o54 : Ob := rowV lvS 1 ([] : List (List UInt8)) (v102 + 1) false
    refine QC [o1, o52, o54, o32] 75 3 0 0 2 1 [.pd (.int .i64 (IntKind.i64.wrap (s103 + 1))), .own 2 (([] : List (List UInt8)).length) (v102 + 1)] (.agg [.pd (.int .i64 (IntKind.i64.wrap (s103 + 1))), .own 2 (([] : List (List UInt8)).length) (v102 + 1)]) (all_c (by kernel_rfl) (all_c (ok_own (o := o54) (by kernel_rfl) (rowIs_v' (lv := lvS) (s := 1) (e := ([] : List (List UInt8))) (ver := (v102 + 1)) (z := false))) all_n)) ?_
    exact QG ((vnext s151 [(s103, s152)] v101), ((s151 ++ [(s103, s152)]).length), (v102 + 1), (([] : List (List UInt8)).length)) h ⟨rfl, rfl⟩
   refine QK 2 ?_
   refine H_bldV (t := 75) (parts := [(0, .pd (.int .i64 (IntKind.i64.wrap (s103 + 1))))]) (M0 := m33) 1 2 (.agg [.pd (.int .i64 (IntKind.i64.wrap (s103 + 1))), .own 2 (([] : List (List UInt8)).length) (v102 + 1)]) (o := rowV lvS 1 s152 v102 false) (by kernel_rfl) (by kernel_rfl) (rowIs_v' (lv := lvS) (s := 1) (e := s152) (ver := v102) (z := false)) rfl (by kernel_rfl) ?_
   let o55 : Ob := rowV lvS 1 ([] : List (List UInt8)) (v102 + 1) false
   refine QC [o1, o31, o55, o32] 75 3 0 0 2 1 [.pd (.int .i64 (IntKind.i64.wrap (s103 + 1))), .own 2 (([] : List (List UInt8)).length) (v102 + 1)] (.agg [.pd (.int .i64 (IntKind.i64.wrap (s103 + 1))), .own 2 (([] : List (List UInt8)).length) (v102 + 1)]) (all_c (by kernel_rfl) (all_c (ok_own (o := o55) (by kernel_rfl) (rowIs_v' (lv := lvS) (s := 1) (e := ([] : List (List UInt8))) (ver := (v102 + 1)) (z := false))) all_n)) ?_
   exact QG (v101, n101, (v102 + 1), (([] : List (List UInt8)).length)) h ⟨hn101, rfl⟩
  obtain ⟨c9, hx10, h⟩ := h
  refine QZ (ask_sidx (P := Tryz.prog) (M := m33) (t := 9) (k := .i64) (by kernel_rfl) hx10) ?_
  refine QB h (fun h => ?_) (fun h => ?_)
  ·refine QB h (fun h => ?_) (fun h => ?_)
   ·refine QK 2 ?_
    obtain ⟨hx11, h⟩ := h
    refine QA m33 2 s152 [s100] v102 22 22 16 okS (src_fixed okS leS) hn102 hx11 ?_
    let o56 : Ob := rowV lvS 1 (s152 ++ [s100]) (vnext s152 [s100] v102) false
    refine QK 1 ?_
    refine QC [o1, o31, o56, o32] 22 3 1 0 1 1 [.own 2 ((s152 ++ [s100]).length) (vnext s152 [s100] v102)] (.own 2 ((s152 ++ [s100]).length) (vnext s152 [s100] v102)) (all_c (ok_own (o := o56) (by kernel_rfl) (rowIs_v' (lv := lvS) (s := 1) (e := (s152 ++ [s100])) (ver := (vnext s152 [s100] v102)) (z := false))) all_n) ?_
    exact QG (v101, n101, (vnext s152 [s100] v102), ((s152 ++ [s100]).length)) h ⟨hn101, rfl⟩
   exact QG (v101, n101, v102, n102) h ⟨hn101, hn102⟩
  refine QB h (fun h => ?_) (fun h => ?_)
  ·refine QK 2 ?_
   obtain ⟨hx12, h⟩ := h
   refine QA m33 2 s152 [s100] v102 22 22 16 okS (src_fixed okS leS) hn102 hx12 ?_
   let o57 : Ob := rowV lvS 1 (s152 ++ [s100]) (vnext s152 [s100] v102) false
   refine QK 1 ?_
   refine QC [o1, o31, o57, o32] 22 3 1 0 1 1 [.own 2 ((s152 ++ [s100]).length) (vnext s152 [s100] v102)] (.own 2 ((s152 ++ [s100]).length) (vnext s152 [s100] v102)) (all_c (ok_own (o := o57) (by kernel_rfl) (rowIs_v' (lv := lvS) (s := 1) (e := (s152 ++ [s100])) (ver := (vnext s152 [s100] v102)) (z := false))) all_n) ?_
   exact QG (v101, n101, (vnext s152 [s100] v102), ((s152 ++ [s100]).length)) h ⟨hn101, rfl⟩
  exact QG (v101, n101, v102, n102) h ⟨hn101, hn102⟩
 refine QR (.exit 0) ?_
 subst r; exact QX .ret (.own 1 n101 v101) m33 (pure_2to3 (pure_1to2 (po okQ2 lgQ2 1 s151 v101 n101 hn101) rfl) rfl)
end Go.Abs
end

section
namespace Go.Abs
set_option linter.unusedVariables false
set_option linter.unusedSimpArgs false
set_option linter.unnecessarySimpa false
def slices_Clone_nat_Nat_uint32_cons (y0 : Int) (q0 : List Int) (r : (List Int)) : Prop :=
  IfB (y0 :: q0).isEmpty
    (r = [])
    (Fits (([] : List Int).length + (y0 :: q0).length) 4 ∧
    r = (([] : List Int) ++ (y0 :: q0)))
end Go.Abs
end

section
namespace Go.Abs
open Go.Proofs
set_option maxRecDepth 20000
set_option linter.unusedVariables false
set_option linter.unusedSimpArgs false
set_option linter.unnecessarySimpa false
def lvU32 (x : Int) : List PD := [.int .u32 x]
def elU32 (x : Int) : PD := .int .u32 x
theorem okU32 : LVok lvU32 1 := fun _ => ⟨rfl, rfl⟩
theorem leU32 : ELok elU32 lvU32 := fun _ => rfl
theorem lgU32 : ELg elU32 lvU32 1 := fun _ => rfl
theorem slices_Clone_nat_Nat_uint32_cons_ok (m : Tp) (y0 : Int) (q0 : List Int) {r : (List Int)} (h : slices_Clone_nat_Nat_uint32_cons y0 q0 r) : ASpec Tryz.prog (gtT m) 112 [.pd (.sl ((y0 :: q0).map elU32))] (· = .pd (.sl (r.map elU32))) := by
 refine ASpec_tree Tryz.f112 mixedT (askG [9, 10, 11] false) (by kernel_rfl) ?_
 unfold slices_Clone_nat_Nat_uint32_cons at h
 refine QK 1 ?_
 cases hx1 : ((y0 :: q0)).isEmpty
 ·replace h := h.f hx1
  obtain ⟨hx2, h⟩ := h
  refine QZ (ask_appF (P := Tryz.prog) (M := []) (lv := lvU32) (s := 1) (e := ([] : List Int)) (e2 := (y0 :: q0)) (sT := 47) (xT := 47) (by_ := 4) okU32 leU32 (by kernel_rfl) (src_pd (M := []) okU32 leU32) (ne_of_isEmpty hx1) hx2) ?_
  subst r; exact QX .ret (.own 0 ((([] : List Int) ++ (y0 :: q0)).length) 0) [.cells (rowC lvU32 (([] : List Int) ++ (y0 :: q0))) 1 0 false] (pure_2to3 (pure_1to2 (pure1_own okU32 (by decide) lgU32 (M := [.cells (rowC lvU32 (([] : List Int) ++ (y0 :: q0))) 1 0 false]) (b := 0) (o := .cells (rowC lvU32 (([] : List Int) ++ (y0 :: q0))) 1 0 false) (by kernel_rfl) (rowIs_c (lv := lvU32) (s := 1) (e := (([] : List Int) ++ (y0 :: q0))) (ver := 0) (z := false)) (n := (([] : List Int) ++ (y0 :: q0)).length) rfl) rfl) rfl)
 ·replace h := h.t hx1
  refine QZ (ask_app0 (P := Tryz.prog) (M := []) (lv := lvU32) (s := 1) (e := ([] : List Int)) (e2 := (y0 :: q0)) (sT := 47) (xT := 47) (by_ := 4) okU32 leU32 (by kernel_rfl) (src_pd (M := []) okU32 leU32) hx1) ?_
  subst r; exact QE .ret
end Go.Abs
end

section
namespace Go.Abs
open Go.RowKit Go.Proofs Go.Lib
theorem clone_nil (n c : Nat) (w : World) : Calls Tryz.prog 112 #[.slice none n c] w fun e w' => e = .returned (.slice none 0 0) ∧ w' = w := by
  have q37 : ∀ (w : World) (a : Option Addr) (n c n' c' : Nat), (binOp .eql 47 (.slice a n c) (.slice none n' c')).run Tryz.prog w = .ok (.bool a.isNone) w := fun w a n c n' c' => Lib.run_eql_slice_nil w _ _ a n c n' c' Tryz.underlying47
  go_enter Tryz.func112, Tryz.ntmps112
  go_wp2
  go_ret
  exact ⟨rfl, rfl⟩
theorem iU32 : (Tryz.prog.info? 121).map (fun i => (i.zero, i.size, i.bytes)) = some (some (Value.int .u32 0), 1, 4) := by kernel_rfl
set_option maxHeartbeats 2000000 in
set_option maxRecDepth 100000 in
theorem clone_zero (a : Addr) (c : Nat) (w : World) : Calls Tryz.prog 112 #[.slice (some a) 0 c] w fun e w' => ∃ v', e = .returned v' ∧ w'.ownsRow w.heap.size 121 1 v' 0 [] ∧ v' ≠ .slice none 0 0 ∧ Below w.heap.size w w' := by
  obtain ⟨i0, hi, hz0, hz1, hz2⟩ := info_parts iU32
  have q37 : ∀ (w : World) (a : Option Addr) (n c n' c' : Nat), (binOp .eql 47 (.slice a n c) (.slice none n' c')).run Tryz.prog w = .ok (.bool a.isNone) w := fun w a n c n' c' => Lib.run_eql_slice_nil w _ _ a n c n' c' Tryz.underlying47
  have u37 : ∀ w, Sem.run Tryz.prog (underlying 47) w = .ok (TypeDesc.slice 121) w := run_underlying Tryz.underlying47
  go_enter Tryz.func112, Tryz.ntmps112
  go_wp2_with (at_builtin; refine wpList_append_own _ rfl _ _ 47 rfl w.heap.size 121 i0 (.int .u32 0) 1 4 Tryz.underlying47 hi hz0 hz1 hz2 rfl (by decide) _ _ _ rfl (World.ownsRow_made w #[] 0 (Nat.le_refl _) (Nat.zero_le _) rfl) a 0 c [] rfl rfl (by intro j u hj; simp at hj) (by intro u hu; cases hu) (by unfold maxLen; omega) (by omega) (by simp) ?_)
  intro v' w1 hown hgrow hnil
  go_wp2
  go_ret
  refine ⟨v', rfl, by simpa using hown, ?_, ?_⟩
  · first | exact hnil | (intro e; exact absurd (hnil.1 e).1 (by simp))
  · exact ((Below.refl _ w).alloc (Nat.le_refl _) _).grown hgrow (by simp) (by intro k hk; simp [Value.ownBlock] at hk; omega)
theorem clone_spec {GT : Tabs} : ASpec Tryz.prog GT 112 [.pd (.sl [])] (· = .pd (.sl [])) := by
  refine ASpec.of_calls _ (by simp [AV.pure]) fun cx w vs hA hG hlt => ?_
  obtain ⟨v0, h0, r0⟩ := args_at hA 0 rfl
  rw [vs1 hA.1 h0]
  cases r0 with
  | pd v x h =>
  cases h with
  | nil =>
    refine (clone_nil 0 0 w).mono ?_
    rintro e w' ⟨rfl, rfl⟩
    exact ⟨_, rfl, Below.refl _ _, .pd _ _ .nil⟩
  | sl a n cap sz l f hsp hn hcap hI hsz hc hr =>
    simp at hn
    subst hn
    refine (clone_zero a cap w).mono ?_
    rintro e w' ⟨v', rfl, hown, _, hb⟩
    refine ⟨_, rfl, hb, .pd _ _ ?_⟩
    rcases hown.2 with ⟨rfl, _⟩ | ⟨g, cap', cur, rfl, _, _, _⟩
    · exact .nil
    · exact .sl _ 0 cap' 0 [] (fun _ _ => .nilIface) (fun h => by omega) rfl (Nat.zero_le _) (fun h => by omega) (by simp) (by simp) (by simp)
theorem slices_Clone_nat_Nat_uint32_ok (m : Tp) (l : List Int) {r : List Int} (h : slices_Clone_nat_Nat_uint32 l r) : ASpec Tryz.prog (gtT m) 112 [.pd (.sl (l.map elU32))] (· = .pd (.sl (r.map elU32))) := by
  obtain ⟨hf, rfl⟩ := h
  cases r with
  | nil => exact clone_spec
  | cons x l =>
    refine slices_Clone_nat_Nat_uint32_cons_ok m x l ?_
    unfold slices_Clone_nat_Nat_uint32_cons
    exact IfB_false.2 ⟨by simpa using hf, rfl⟩
end Go.Abs
end
