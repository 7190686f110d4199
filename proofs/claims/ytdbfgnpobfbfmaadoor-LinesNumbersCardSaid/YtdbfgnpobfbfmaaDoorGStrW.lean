/- Printed by gen.py: the functions do what these conditions say. -/
import Derived.Test.YtdbfgnpobfbfmaaDoorAbs30
import Derived.Test.YtdbfgnpobfbfmaaDoorDStr
import Derived.Test.YtdbfgnpobfbfmaaDoorGNatW
namespace Go.Abs
open Go.Proofs
set_option maxRecDepth 20000
set_option linter.unusedVariables false
set_option linter.unusedSimpArgs false
set_option linter.unnecessarySimpa false

def lvI64 (x : Int) : List PD := [.int .i64 x]
def elI64 (x : Int) : PD := .int .i64 x
theorem okI64 : LVok lvI64 1 := fun _ => ⟨rfl, rfl⟩
theorem leI64 : ELok elI64 lvI64 := fun _ => rfl
theorem lgI64 : ELg elI64 lvI64 1 := fun _ => rfl

theorem offcutref01_sign_ok (m : Tp) (p0 : Int) {r : (List UInt8)} (h : offcutref01_sign p0 r) : ASpec Tryd.prog (gtT m) 49 [.pd (.int .i64 p0)] (· = .pd (.str r)) := by
  refine ASpec_tree Tryd.f49 mixedT (askG [9, 10, 11] false) (by kernel_rfl) ?_
  unfold offcutref01_sign at h
  obtain ⟨hx1, h⟩ := h
  refine H_ask _ _ (by kernel_rfl) (ask_subS (P := Tryd.prog) (M := []) (t := 9) (lo := (some p0)) (hi := (some (IntKind.i64.wrap (p0 + 1)))) (by kernel_rfl) hx1) ?_
  exact H_end .ret (.pd (.str (sub ([48, 49, 50, 51, 52, 53, 54, 55, 56, 57] : List UInt8) p0 (IntKind.i64.wrap (p0 + 1))))) (by kernel_rfl) rfl (by kernel_rfl) (by subst h; rfl)

theorem offcutref01_cut_ok (m : Tp) (p0 : List UInt8) {r : (List UInt8)} (h : offcutref01_cut p0 r) : ASpec Tryd.prog (gtT m) 51 [.pd (.str p0)] (· = .pd (.str r)) := by
  refine ASpec_tree Tryd.f51 mixedT (askG [9, 10, 11] false) (by kernel_rfl) ?_
  unfold offcutref01_cut at h
  refine H_loopP (F := offcutref01_cut_L1 r) (s0 := p0) h () 16 0
    (fun (s100 : (List UInt8)) (() : Unit) => [(0, .pd (.str s100))])
    (fun (s100 : (List UInt8)) (() : Unit) => []) (fun (s100 : (List UInt8)) (() : Unit) => True) trivial [] mixedT (askG [9, 10, 11] false)
    (by kernel_rfl) (by kernel_rfl) (by kernel_rfl) (by kernel_rfl) (by kernel_rfl) (fun _ _ => rfl) ?_
  rintro X1 s100 ⟨⟩ - h
  dsimp only [offcutref01_cut_L1] at h
  refine H_askK (.pd (.int .i64 (s100.length : Int))) ([]) (by kernel_rfl) ?_
  refine H_split (decide ((s100.length : Int) > (1 : Int))) (by kernel_rfl) (fun hc => ?_) (fun hc => ?_)
  · replace h := h.t hc; clear hc
    obtain ⟨c1, hx2, h⟩ := h
    refine H_ask _ _ (by kernel_rfl) (ask_sidx (P := Tryd.prog) (M := []) (t := 9) (k := .i64) (by kernel_rfl) hx2) ?_
    refine H_split (((c1.toNat : Nat) : Int) == (48 : Int)) (by kernel_rfl) (fun hc => ?_) (fun hc => ?_)
    · replace h := h.t hc; clear hc
      obtain ⟨hx3, h⟩ := h
      refine H_ask _ _ (by kernel_rfl) (ask_subS (P := Tryd.prog) (M := []) (t := 9) (lo := (some (1 : Int))) (hi := none) (by kernel_rfl) hx3) ?_
      exact H_againP (st := _) (sub s100 (1 : Int) (s100.length : Int)) () h trivial (by kernel_rfl) (by kernel_rfl) (by kernel_rfl) (by kernel_rfl) (by kernel_rfl)
    · replace h := h.f hc; clear hc
      refine H_leaveP (.exit 0) (by kernel_rfl) rfl ?_
      refine H_split (s100 == ([] : List UInt8)) (by kernel_rfl) (fun hc => ?_) (fun hc => ?_)
      · replace h := h.t hc; clear hc
        exact H_end .ret (.pd (.str ([48] : List UInt8))) (by kernel_rfl) rfl (by kernel_rfl) (by subst h; rfl)
      · replace h := h.f hc; clear hc
        exact H_end .ret (.pd (.str s100)) (by kernel_rfl) rfl (by kernel_rfl) (by subst h; rfl)
  · replace h := h.f hc; clear hc
    refine H_leaveP (.exit 0) (by kernel_rfl) rfl ?_
    refine H_split (s100 == ([] : List UInt8)) (by kernel_rfl) (fun hc => ?_) (fun hc => ?_)
    · replace h := h.t hc; clear hc
      exact H_end .ret (.pd (.str ([48] : List UInt8))) (by kernel_rfl) rfl (by kernel_rfl) (by subst h; rfl)
    · replace h := h.f hc; clear hc
      exact H_end .ret (.pd (.str s100)) (by kernel_rfl) rfl (by kernel_rfl) (by subst h; rfl)

theorem offcutref01_at_ok (m : Tp) (p0 : List UInt8) (p1 : Int) {r : Int} (h : offcutref01_at p0 p1 r) : ASpec Tryd.prog (gtT m) 70 [.pd (.str p0), .pd (.int .i64 p1)] (· = .pd (.int .i64 r)) := by
  refine ASpec_tree Tryd.f70 mixedT (askG [9, 10, 11] false) (by kernel_rfl) ?_
  unfold offcutref01_at at h
  refine H_askK (.pd (.int .i64 (p0.length : Int))) ([]) (by kernel_rfl) ?_
  refine H_split (decide (p1 < (p0.length : Int))) (by kernel_rfl) (fun hc => ?_) (fun hc => ?_)
  · replace h := h.t hc; clear hc
    refine H_askK (.pd (.int .i64 (p0.length : Int))) ([]) (by kernel_rfl) ?_
    obtain ⟨c1, hx2, h⟩ := h
    refine H_ask _ _ (by kernel_rfl) (ask_sidx (P := Tryd.prog) (M := []) (t := 9) (k := .i64) (by kernel_rfl) hx2) ?_
    exact H_end .ret (.pd (.int .i64 (IntKind.i64.wrap (IntKind.u8.wrap (((c1.toNat : Nat) : Int) - 48))))) (by kernel_rfl) rfl (by kernel_rfl) (by subst h; rfl)
  · replace h := h.f hc; clear hc
    exact H_end .ret (.pd (.int .i64 0)) (by kernel_rfl) rfl (by kernel_rfl) (by subst h; rfl)

theorem offcutref01_Mul_ok (m : Tp) (p0 : List UInt8) (p1 : List UInt8) {r : (List UInt8)} (h : offcutref01_Mul p0 p1 r) : ASpec Tryd.prog (gtT m) 48 [.pd (.str p0), .pd (.str p1)] (· = .pd (.str r)) := by
  refine ASpec_tree Tryd.f48 mixedT (askG [9, 10, 11] false) (by kernel_rfl) ?_
  unfold offcutref01_Mul at h
  refine H_askK (.pd (.int .i64 (p0.length : Int))) ([]) (by kernel_rfl) ?_
  refine H_askK (.pd (.int .i64 (p1.length : Int))) ([]) (by kernel_rfl) ?_
  obtain ⟨hx1, h⟩ := h
  refine H_ask _ _ (by kernel_rfl) (ask_make (P := Tryd.prog) (M := []) (t := 115) (k := .i64) (lv := lvI64) (by_ := 8) (n := (IntKind.i64.wrap ((IntKind.i64.wrap ((p0.length : Int) + (p1.length : Int))) + 1))) (z := (0 : Int)) okI64 ⟨3, .int .i64 0, by kernel_rfl, by kernel_rfl, rfl, by kernel_rfl, by decide, rfl⟩ hx1.1 hx1.2.1 hx1.2.2) ?_
  refine H_loopP (F := offcutref01_Mul_L1 p0 p1 r) (s0 := ((0 : Int), (List.replicate (Int.toNat (IntKind.i64.wrap ((IntKind.i64.wrap ((p0.length : Int) + (p1.length : Int))) + 1))) (0 : Int)))) h () 71 1
    (fun ((s100, s150) : Int × (List Int)) (() : Unit) => [(0, .pd (.str p0)), (1, .pd (.str p1)), (5, .own 0 ((List.replicate (Int.toNat (IntKind.i64.wrap ((IntKind.i64.wrap ((p0.length : Int) + (p1.length : Int))) + 1))) (0 : Int)).length) 0), (6, .pd (.int .i64 s100))])
    (fun ((s100, s150) : Int × (List Int)) (() : Unit) => [.cells (rowC lvI64 s150) 1 0 false]) (fun ((s100, s150) : Int × (List Int)) (() : Unit) => (List.replicate (Int.toNat (IntKind.i64.wrap ((IntKind.i64.wrap ((p0.length : Int) + (p1.length : Int))) + 1))) (0 : Int)).length = s150.length) rfl [] mixedT (askG [9, 10, 11] false)
    (by kernel_rfl) (by kernel_rfl) (by kernel_rfl) (by kernel_rfl) (by kernel_rfl) (fun _ _ => rfl) ?_
  rintro X1 ⟨s100, s150⟩ ⟨⟩ hn100 h
  dsimp only [offcutref01_Mul_L1] at h
  refine H_askK (.pd (.int .i64 (p0.length : Int))) ([.cells (rowC lvI64 s150) 1 0 false]) (by kernel_rfl) ?_
  refine H_split (decide (s100 < (p0.length : Int))) (by kernel_rfl) (fun hc => ?_) (fun hc => ?_)
  · replace h := h.t hc; clear hc
    refine H_loopP (F := offcutref01_Mul_L2 p0 p1 s100 X1) (s0 := ((0 : Int), s150)) h () 71 1
      (fun ((s200, s250) : Int × (List Int)) (() : Unit) => [(0, .pd (.str p0)), (1, .pd (.str p1)), (5, .own 0 ((List.replicate (Int.toNat (IntKind.i64.wrap ((IntKind.i64.wrap ((p0.length : Int) + (p1.length : Int))) + 1))) (0 : Int)).length) 0), (6, .pd (.int .i64 s100)), (7, .pd (.int .i64 s200))])
      (fun ((s200, s250) : Int × (List Int)) (() : Unit) => [.cells (rowC lvI64 s250) 1 0 false]) (fun ((s200, s250) : Int × (List Int)) (() : Unit) => (List.replicate (Int.toNat (IntKind.i64.wrap ((IntKind.i64.wrap ((p0.length : Int) + (p1.length : Int))) + 1))) (0 : Int)).length = s250.length) hn100 [] mixedT (askG [9, 10, 11] false)
      (by kernel_rfl) (by kernel_rfl) (by kernel_rfl) (by kernel_rfl) (by kernel_rfl) (fun _ _ => rfl) ?_
    rintro X2 ⟨s200, s250⟩ ⟨⟩ hn200 h
    dsimp only [offcutref01_Mul_L2] at h
    refine H_askK (.pd (.int .i64 (p1.length : Int))) ([.cells (rowC lvI64 s250) 1 0 false]) (by kernel_rfl) ?_
    refine H_split (decide (s200 < (p1.length : Int))) (by kernel_rfl) (fun hc => ?_) (fun hc => ?_)
    · replace h := h.t hc; clear hc
      refine H_draw (by kernel_rfl) ?_
      obtain ⟨x4, hx5, h⟩ := h
      refine H_ask _ _ (by kernel_rfl) (ask_oidx (P := Tryd.prog) (M := [.cells (rowC lvI64 s250) 1 0 false]) (t := 115) (et := 3) (k := .i64) (lv := lvI64) (e := s250) (s := 1) (b := 0) (by kernel_rfl) (by kernel_rfl) (by kernel_rfl) (rowIs_c (lv := lvI64) (s := 1) (e := s250) (ver := 0) (z := false)) (n := (List.replicate (Int.toNat (IntKind.i64.wrap ((IntKind.i64.wrap ((p0.length : Int) + (p1.length : Int))) + 1))) (0 : Int)).length) hn200 hx5) ?_
      refine H_ask _ _ (by kernel_rfl) (ask_oload (P := Tryd.prog) (M := [.cells (rowC lvI64 s250) 1 0 false]) (t := 3) (lv := lvI64) (b := 0) (i := (IntKind.i64.wrap (s100 + s200))) okI64 (by kernel_rfl) (by kernel_rfl) (by kernel_rfl) (rowIs_c (lv := lvI64) (s := 1) (e := s250) (ver := 0) (z := false)) hx5 rfl) ?_
      obtain ⟨x6, hx7, h⟩ := h
      refine H_valW (g := 70) (args := [.pd (.str p0), .pd (.int .i64 s100)]) (M := [.cells (rowC lvI64 s250) 1 0 false]) (.pd (.int .i64 x6)) (.inr (by kernel_rfl)) (by kernel_rfl) (offcutref01_at_ok m _ _ hx7) (by kernel_rfl) (hasT 70 (by kernel_rfl)) ?_
      obtain ⟨x8, hx9, h⟩ := h
      refine H_valW (g := 70) (args := [.pd (.str p1), .pd (.int .i64 s200)]) (M := [.cells (rowC lvI64 s250) 1 0 false]) (.pd (.int .i64 x8)) (.inr (by kernel_rfl)) (by kernel_rfl) (offcutref01_at_ok m _ _ hx9) (by kernel_rfl) (hasT 70 (by kernel_rfl)) ?_
      obtain ⟨x10, hx11, h⟩ := h
      refine H_ask _ _ (by kernel_rfl) (ask_oidx (P := Tryd.prog) (M := [.cells (rowC lvI64 s250) 1 0 false]) (t := 115) (et := 3) (k := .i64) (lv := lvI64) (e := s250) (s := 1) (b := 0) (by kernel_rfl) (by kernel_rfl) (by kernel_rfl) (rowIs_c (lv := lvI64) (s := 1) (e := s250) (ver := 0) (z := false)) (n := (List.replicate (Int.toNat (IntKind.i64.wrap ((IntKind.i64.wrap ((p0.length : Int) + (p1.length : Int))) + 1))) (0 : Int)).length) hn200 hx11) ?_
      refine H_ask _ _ (by kernel_rfl) (ask_ostore (P := Tryd.prog) (M := [.cells (rowC lvI64 s250) 1 0 false]) (t := 3) (lv := lvI64) (b := 0) (i := (IntKind.i64.wrap (s100 + s200))) (y := (IntKind.i64.wrap (x4 + (IntKind.i64.wrap (x6 * x8))))) (X := .pd (.int .i64 (IntKind.i64.wrap (x4 + (IntKind.i64.wrap (x6 * x8)))))) okI64 (by kernel_rfl) (by kernel_rfl) (rowIs_c (lv := lvI64) (s := 1) (e := s250) (ver := 0) (z := false)) hx11 (by kernel_rfl)) ?_
      exact H_againP (st := _) ((IntKind.i64.wrap (s200 + 1)), (s250.set (Int.toNat (IntKind.i64.wrap (s100 + s200))) (IntKind.i64.wrap (x4 + (IntKind.i64.wrap (x6 * x8)))))) () h (ls_set hn200) (by kernel_rfl) (by kernel_rfl) (by kernel_rfl) (by kernel_rfl) (by kernel_rfl)
    · replace h := h.f hc; clear hc
      refine H_leaveP (.exit 2) (by kernel_rfl) rfl ?_
      exact H_againP (st := _) ((IntKind.i64.wrap (s100 + 1)), s250) () h hn200 (by kernel_rfl) (by kernel_rfl) (by kernel_rfl) (by kernel_rfl) (by kernel_rfl)
  · replace h := h.f hc; clear hc
    refine H_leaveP (.exit 0) (by kernel_rfl) rfl ?_
    refine H_loopP (F := offcutref01_Mul_L3 s150 r) (s0 := (([] : List UInt8), (0 : Int), (0 : Int))) h () 71 1
      (fun ((s300, s301, s302) : (List UInt8) × Int × Int) (() : Unit) => [(5, .own 0 ((List.replicate (Int.toNat (IntKind.i64.wrap ((IntKind.i64.wrap ((p0.length : Int) + (p1.length : Int))) + 1))) (0 : Int)).length) 0), (8, .pd (.str s300)), (9, .pd (.int .i64 s301)), (10, .pd (.int .i64 s302))])
      (fun ((s300, s301, s302) : (List UInt8) × Int × Int) (() : Unit) => [.cells (rowC lvI64 s150) 1 0 false]) (fun ((s300, s301, s302) : (List UInt8) × Int × Int) (() : Unit) => True) trivial [] mixedT (askG [9, 10, 11] false)
      (by kernel_rfl) (by kernel_rfl) (by kernel_rfl) (by kernel_rfl) (by kernel_rfl) (fun _ _ => rfl) ?_
    rintro X3 ⟨s300, s301, s302⟩ ⟨⟩ - h
    dsimp only [offcutref01_Mul_L3] at h
    refine H_ask _ _ (by kernel_rfl) (ask_olen (P := Tryd.prog) (M := [.cells (rowC lvI64 s150) 1 0 false]) (t := 115) (et := 3) (lv := lvI64) (e := s150) (b := 0) (n := (List.replicate (Int.toNat (IntKind.i64.wrap ((IntKind.i64.wrap ((p0.length : Int) + (p1.length : Int))) + 1))) (0 : Int)).length) (by kernel_rfl) (by kernel_rfl) (rowIs_c (lv := lvI64) (s := 1) (e := s150) (ver := 0) (z := false)) hn100) ?_
    refine H_split (decide (s302 < (s150.length : Int))) (by kernel_rfl) (fun hc => ?_) (fun hc => ?_)
    · replace h := h.t hc; clear hc
      obtain ⟨x12, hx13, h⟩ := h
      refine H_ask _ _ (by kernel_rfl) (ask_oidx (P := Tryd.prog) (M := [.cells (rowC lvI64 s150) 1 0 false]) (t := 115) (et := 3) (k := .i64) (lv := lvI64) (e := s150) (s := 1) (b := 0) (by kernel_rfl) (by kernel_rfl) (by kernel_rfl) (rowIs_c (lv := lvI64) (s := 1) (e := s150) (ver := 0) (z := false)) (n := (List.replicate (Int.toNat (IntKind.i64.wrap ((IntKind.i64.wrap ((p0.length : Int) + (p1.length : Int))) + 1))) (0 : Int)).length) hn100 hx13) ?_
      refine H_ask _ _ (by kernel_rfl) (ask_oload (P := Tryd.prog) (M := [.cells (rowC lvI64 s150) 1 0 false]) (t := 3) (lv := lvI64) (b := 0) (i := s302) okI64 (by kernel_rfl) (by kernel_rfl) (by kernel_rfl) (rowIs_c (lv := lvI64) (s := 1) (e := s150) (ver := 0) (z := false)) hx13 rfl) ?_
      refine H_ask _ _ (by kernel_rfl) (ask_remK (P := Tryd.prog) (M := [.cells (rowC lvI64 s150) 1 0 false]) (t := 3) (k := .i64) (a := (IntKind.i64.wrap (x12 + s301))) (b := (10 : Int)) (by decide)) ?_
      obtain ⟨x14, hx15, h⟩ := h
      refine H_valW (g := 49) (args := [.pd (.int .i64 (Int.tmod (IntKind.i64.wrap (x12 + s301)) (10 : Int)))]) (M := [.cells (rowC lvI64 s150) 1 0 false]) (.pd (.str x14)) (.inl (by kernel_rfl)) (by kernel_rfl) (offcutref01_sign_ok m _ hx15) (by kernel_rfl) (hasT 49 (by kernel_rfl)) ?_
      obtain ⟨hx16, h⟩ := h
      refine H_ask _ _ (by kernel_rfl) (ask_cat (P := Tryd.prog) (M := [.cells (rowC lvI64 s150) 1 0 false]) (t := 9) hx16) ?_
      refine H_ask _ _ (by kernel_rfl) (ask_quoK (P := Tryd.prog) (M := [.cells (rowC lvI64 s150) 1 0 false]) (t := 3) (k := .i64) (a := (IntKind.i64.wrap (x12 + s301))) (b := (10 : Int)) (by decide)) ?_
      exact H_againP (st := _) ((x14 ++ s300), (IntKind.i64.wrap (Int.tdiv (IntKind.i64.wrap (x12 + s301)) (10 : Int))), (IntKind.i64.wrap (s302 + 1))) () h trivial (by kernel_rfl) (by kernel_rfl) (by kernel_rfl) (by kernel_rfl) (by kernel_rfl)
    · replace h := h.f hc; clear hc
      refine H_leaveP (.exit 4) (by kernel_rfl) rfl ?_
      obtain ⟨x17, hx18, h⟩ := h
      refine H_valW (g := 51) (args := [.pd (.str s300)]) (M := [.cells (rowC lvI64 s150) 1 0 false]) (.pd (.str x17)) (.inl (by kernel_rfl)) (by kernel_rfl) (offcutref01_cut_ok m _ hx18) (by kernel_rfl) (hasT 51 (by kernel_rfl)) ?_
      exact H_end .ret (.pd (.str x17)) (by kernel_rfl) rfl (by kernel_rfl) (by subst h; rfl)

theorem offcutref01_Add_ok (m : Tp) (p0 : List UInt8) (p1 : List UInt8) {r : (List UInt8)} (h : offcutref01_Add p0 p1 r) : ASpec Tryd.prog (gtT m) 50 [.pd (.str p0), .pd (.str p1)] (· = .pd (.str r)) := by
  refine ASpec_tree Tryd.f50 mixedT (askG [9, 10, 11] false) (by kernel_rfl) ?_
  unfold offcutref01_Add at h
  refine H_loopP (F := offcutref01_Add_L1 p0 p1 r) (s0 := (([] : List UInt8), (0 : Int), (0 : Int))) h () 39 0
    (fun ((s100, s101, s102) : (List UInt8) × Int × Int) (() : Unit) => [(0, .pd (.str p0)), (1, .pd (.str p1)), (5, .pd (.str s100)), (6, .pd (.int .i64 s101)), (7, .pd (.int .i64 s102))])
    (fun ((s100, s101, s102) : (List UInt8) × Int × Int) (() : Unit) => []) (fun ((s100, s101, s102) : (List UInt8) × Int × Int) (() : Unit) => True) trivial [] mixedT (askG [9, 10, 11] false)
    (by kernel_rfl) (by kernel_rfl) (by kernel_rfl) (by kernel_rfl) (by kernel_rfl) (fun _ _ => rfl) ?_
  rintro X1 ⟨s100, s101, s102⟩ ⟨⟩ - h
  dsimp only [offcutref01_Add_L1] at h
  refine H_askK (.pd (.int .i64 (p0.length : Int))) ([]) (by kernel_rfl) ?_
  refine H_split (decide (s102 ≤ (p0.length : Int))) (by kernel_rfl) (fun hc => ?_) (fun hc => ?_)
  · replace h := h.t hc; clear hc
    obtain ⟨x1, hx2, h⟩ := h
    refine H_valW (g := 70) (args := [.pd (.str p0), .pd (.int .i64 s102)]) (M := []) (.pd (.int .i64 x1)) (.inl (by kernel_rfl)) (by kernel_rfl) (offcutref01_at_ok m _ _ hx2) (by kernel_rfl) (hasT 70 (by kernel_rfl)) ?_
    obtain ⟨x3, hx4, h⟩ := h
    refine H_valW (g := 70) (args := [.pd (.str p1), .pd (.int .i64 s102)]) (M := []) (.pd (.int .i64 x3)) (.inl (by kernel_rfl)) (by kernel_rfl) (offcutref01_at_ok m _ _ hx4) (by kernel_rfl) (hasT 70 (by kernel_rfl)) ?_
    refine H_ask _ _ (by kernel_rfl) (ask_remK (P := Tryd.prog) (M := []) (t := 3) (k := .i64) (a := (IntKind.i64.wrap ((IntKind.i64.wrap (x1 + x3)) + s101))) (b := (10 : Int)) (by decide)) ?_
    obtain ⟨x5, hx6, h⟩ := h
    refine H_valW (g := 49) (args := [.pd (.int .i64 (Int.tmod (IntKind.i64.wrap ((IntKind.i64.wrap (x1 + x3)) + s101)) (10 : Int)))]) (M := []) (.pd (.str x5)) (.inl (by kernel_rfl)) (by kernel_rfl) (offcutref01_sign_ok m _ hx6) (by kernel_rfl) (hasT 49 (by kernel_rfl)) ?_
    obtain ⟨hx7, h⟩ := h
    refine H_ask _ _ (by kernel_rfl) (ask_cat (P := Tryd.prog) (M := []) (t := 9) hx7) ?_
    refine H_ask _ _ (by kernel_rfl) (ask_quoK (P := Tryd.prog) (M := []) (t := 3) (k := .i64) (a := (IntKind.i64.wrap ((IntKind.i64.wrap (x1 + x3)) + s101))) (b := (10 : Int)) (by decide)) ?_
    exact H_againP (st := _) ((x5 ++ s100), (IntKind.i64.wrap (Int.tdiv (IntKind.i64.wrap ((IntKind.i64.wrap (x1 + x3)) + s101)) (10 : Int))), (IntKind.i64.wrap (s102 + 1))) () h trivial (by kernel_rfl) (by kernel_rfl) (by kernel_rfl) (by kernel_rfl) (by kernel_rfl)
  · replace h := h.f hc; clear hc
    refine H_askK (.pd (.int .i64 (p1.length : Int))) ([]) (by kernel_rfl) ?_
    refine H_split (decide (s102 ≤ (p1.length : Int))) (by kernel_rfl) (fun hc => ?_) (fun hc => ?_)
    · replace h := h.t hc; clear hc
      obtain ⟨x8, hx9, h⟩ := h
      refine H_valW (g := 70) (args := [.pd (.str p0), .pd (.int .i64 s102)]) (M := []) (.pd (.int .i64 x8)) (.inl (by kernel_rfl)) (by kernel_rfl) (offcutref01_at_ok m _ _ hx9) (by kernel_rfl) (hasT 70 (by kernel_rfl)) ?_
      obtain ⟨x10, hx11, h⟩ := h
      refine H_valW (g := 70) (args := [.pd (.str p1), .pd (.int .i64 s102)]) (M := []) (.pd (.int .i64 x10)) (.inl (by kernel_rfl)) (by kernel_rfl) (offcutref01_at_ok m _ _ hx11) (by kernel_rfl) (hasT 70 (by kernel_rfl)) ?_
      refine H_ask _ _ (by kernel_rfl) (ask_remK (P := Tryd.prog) (M := []) (t := 3) (k := .i64) (a := (IntKind.i64.wrap ((IntKind.i64.wrap (x8 + x10)) + s101))) (b := (10 : Int)) (by decide)) ?_
      obtain ⟨x12, hx13, h⟩ := h
      refine H_valW (g := 49) (args := [.pd (.int .i64 (Int.tmod (IntKind.i64.wrap ((IntKind.i64.wrap (x8 + x10)) + s101)) (10 : Int)))]) (M := []) (.pd (.str x12)) (.inl (by kernel_rfl)) (by kernel_rfl) (offcutref01_sign_ok m _ hx13) (by kernel_rfl) (hasT 49 (by kernel_rfl)) ?_
      obtain ⟨hx14, h⟩ := h
      refine H_ask _ _ (by kernel_rfl) (ask_cat (P := Tryd.prog) (M := []) (t := 9) hx14) ?_
      refine H_ask _ _ (by kernel_rfl) (ask_quoK (P := Tryd.prog) (M := []) (t := 3) (k := .i64) (a := (IntKind.i64.wrap ((IntKind.i64.wrap (x8 + x10)) + s101))) (b := (10 : Int)) (by decide)) ?_
      exact H_againP (st := _) ((x12 ++ s100), (IntKind.i64.wrap (Int.tdiv (IntKind.i64.wrap ((IntKind.i64.wrap (x8 + x10)) + s101)) (10 : Int))), (IntKind.i64.wrap (s102 + 1))) () h trivial (by kernel_rfl) (by kernel_rfl) (by kernel_rfl) (by kernel_rfl) (by kernel_rfl)
    · replace h := h.f hc; clear hc
      refine H_leaveP (.exit 0) (by kernel_rfl) rfl ?_
      obtain ⟨x15, hx16, h⟩ := h
      refine H_valW (g := 51) (args := [.pd (.str s100)]) (M := []) (.pd (.str x15)) (.inl (by kernel_rfl)) (by kernel_rfl) (offcutref01_cut_ok m _ hx16) (by kernel_rfl) (hasT 51 (by kernel_rfl)) ?_
      exact H_end .ret (.pd (.str x15)) (by kernel_rfl) rfl (by kernel_rfl) (by subst h; rfl)

theorem offcutref01_Of_ok (m : Tp) (p0 : List Int) {r : (List UInt8)} (h : offcutref01_Of p0 r) : ASpec Tryd.prog (gtT m) 22 [.pd (.sl (p0.map elU32))] (· = .pd (.str r)) := by
  refine ASpec_tree Tryd.f22 mixedT (askG [9, 10, 11] false) (by kernel_rfl) ?_
  unfold offcutref01_Of at h
  refine H_ask _ _ (by kernel_rfl) (ask_len (P := Tryd.prog) (M := []) (t := 23) (et := 78) (el := elU32) (by kernel_rfl) (e := p0)) ?_
  refine H_loopP (F := offcutref01_Of_L1 p0 r) (s0 := (([48] : List UInt8), (IntKind.i64.wrap ((p0.length : Int) - 1)))) h () 35 0
    (fun ((s100, s101) : (List UInt8) × Int) (() : Unit) => [(0, .pd (.sl (p0.map elU32))), (3, .pd (.str s100)), (4, .pd (.int .i64 s101))])
    (fun ((s100, s101) : (List UInt8) × Int) (() : Unit) => []) (fun ((s100, s101) : (List UInt8) × Int) (() : Unit) => True) trivial [] mixedT (askG [9, 10, 11] false)
    (by kernel_rfl) (by kernel_rfl) (by kernel_rfl) (by kernel_rfl) (by kernel_rfl) (fun _ _ => rfl) ?_
  rintro X1 ⟨s100, s101⟩ ⟨⟩ - h
  dsimp only [offcutref01_Of_L1] at h
  refine H_split (decide (s101 ≥ (0 : Int))) (by kernel_rfl) (fun hc => ?_) (fun hc => ?_)
  · replace h := h.t hc; clear hc
    obtain ⟨x1, hx2, h⟩ := h
    refine H_valW (g := 48) (args := [.pd (.str s100), .pd (.str ([52, 50, 57, 52, 57, 54, 55, 50, 57, 54] : List UInt8))]) (M := []) (.pd (.str x1)) (.inl (by kernel_rfl)) (by kernel_rfl) (offcutref01_Mul_ok m _ _ hx2) (by kernel_rfl) (hasT 48 (by kernel_rfl)) ?_
    obtain ⟨x3, hx4, h⟩ := h
    refine H_ask _ _ (by kernel_rfl) (ask_idx (P := Tryd.prog) (M := []) (t := 23) (et := 78) (k := .i64) (lv := lvU32) okU32 leU32 (by kernel_rfl) (by kernel_rfl) hx4) ?_
    refine H_askK (.pd (.int .u32 x3)) ([]) (by kernel_rfl) ?_
    refine H_loopP (F := offcutref01_Of_L2 s101 X1 x1) (s0 := (x3, ([] : List UInt8))) h () 35 0
      (fun ((s200, s201) : Int × (List UInt8)) (() : Unit) => [(0, .pd (.sl (p0.map elU32))), (3, .pd (.str x1)), (4, .pd (.int .i64 s101)), (5, .pd (.int .u32 s200)), (6, .pd (.str s201))])
      (fun ((s200, s201) : Int × (List UInt8)) (() : Unit) => []) (fun ((s200, s201) : Int × (List UInt8)) (() : Unit) => True) trivial [] mixedT (askG [9, 10, 11] false)
      (by kernel_rfl) (by kernel_rfl) (by kernel_rfl) (by kernel_rfl) (by kernel_rfl) (fun _ _ => rfl) ?_
    rintro X2 ⟨s200, s201⟩ ⟨⟩ - h
    dsimp only [offcutref01_Of_L2] at h
    refine H_split (decide (s200 > (0 : Int))) (by kernel_rfl) (fun hc => ?_) (fun hc => ?_)
    · replace h := h.t hc; clear hc
      refine H_ask _ _ (by kernel_rfl) (ask_remK (P := Tryd.prog) (M := []) (t := 78) (k := .u32) (a := s200) (b := (10 : Int)) (by decide)) ?_
      obtain ⟨x5, hx6, h⟩ := h
      refine H_valW (g := 49) (args := [.pd (.int .i64 (IntKind.i64.wrap (Int.tmod s200 (10 : Int))))]) (M := []) (.pd (.str x5)) (.inl (by kernel_rfl)) (by kernel_rfl) (offcutref01_sign_ok m _ hx6) (by kernel_rfl) (hasT 49 (by kernel_rfl)) ?_
      obtain ⟨hx7, h⟩ := h
      refine H_ask _ _ (by kernel_rfl) (ask_cat (P := Tryd.prog) (M := []) (t := 9) hx7) ?_
      refine H_ask _ _ (by kernel_rfl) (ask_quoK (P := Tryd.prog) (M := []) (t := 78) (k := .u32) (a := s200) (b := (10 : Int)) (by decide)) ?_
      exact H_againP (st := _) ((IntKind.u32.wrap (Int.tdiv s200 (10 : Int))), (x5 ++ s201)) () h trivial (by kernel_rfl) (by kernel_rfl) (by kernel_rfl) (by kernel_rfl) (by kernel_rfl)
    · replace h := h.f hc; clear hc
      refine H_leaveP (.exit 2) (by kernel_rfl) rfl ?_
      obtain ⟨x8, hx9, h⟩ := h
      refine H_valW (g := 51) (args := [.pd (.str s201)]) (M := []) (.pd (.str x8)) (.inl (by kernel_rfl)) (by kernel_rfl) (offcutref01_cut_ok m _ hx9) (by kernel_rfl) (hasT 51 (by kernel_rfl)) ?_
      obtain ⟨x10, hx11, h⟩ := h
      refine H_valW (g := 50) (args := [.pd (.str x1), .pd (.str x8)]) (M := []) (.pd (.str x10)) (.inl (by kernel_rfl)) (by kernel_rfl) (offcutref01_Add_ok m _ _ hx11) (by kernel_rfl) (hasT 50 (by kernel_rfl)) ?_
      exact H_againP (st := _) (x10, (IntKind.i64.wrap (s101 - 1))) () h trivial (by kernel_rfl) (by kernel_rfl) (by kernel_rfl) (by kernel_rfl) (by kernel_rfl)
  · replace h := h.f hc; clear hc
    refine H_leaveP (.exit 0) (by kernel_rfl) rfl ?_
    exact H_end .ret (.pd (.str s100)) (by kernel_rfl) rfl (by kernel_rfl) (by subst h; rfl)

theorem offcutref02_Made_ok (m : Tp) (p0 : Bool) (p1 : List UInt8) {r : (List UInt8)} (h : offcutref02_Made p0 p1 r) : ASpec Tryd.prog (gtT m) 24 [.pd (.bool p0), .pd (.str p1)] (· = .pd (.str r)) := by
  refine ASpec_tree Tryd.f24 mixedT (askG [9, 10, 11] false) (by kernel_rfl) ?_
  unfold offcutref02_Made at h
  cases p0
  · replace h := h.f rfl
    exact H_end .ret (.pd (.str p1)) (by kernel_rfl) rfl (by kernel_rfl) (by subst h; rfl)
  · replace h := h.t rfl
    refine H_split (!(p1 == ([48] : List UInt8))) (by kernel_rfl) (fun hc => ?_) (fun hc => ?_)
    · replace h := h.t hc; clear hc
      obtain ⟨hx1, h⟩ := h
      refine H_ask _ _ (by kernel_rfl) (ask_cat (P := Tryd.prog) (M := []) (t := 9) hx1) ?_
      exact H_end .ret (.pd (.str (([45] : List UInt8) ++ p1))) (by kernel_rfl) rfl (by kernel_rfl) (by subst h; rfl)
    · replace h := h.f hc; clear hc
      exact H_end .ret (.pd (.str p1)) (by kernel_rfl) rfl (by kernel_rfl) (by subst h; rfl)

theorem offcutref02_Below_ok (m : Tp) (p0 : List UInt8) {r : Bool} (h : offcutref02_Below p0 r) : ASpec Tryd.prog (gtT m) 52 [.pd (.str p0)] (· = .pd (.bool r)) := by
  refine ASpec_tree Tryd.f52 mixedT (askG [9, 10, 11] false) (by kernel_rfl) ?_
  unfold offcutref02_Below at h
  obtain ⟨c1, hx2, h⟩ := h
  refine H_ask _ _ (by kernel_rfl) (ask_sidx (P := Tryd.prog) (M := []) (t := 9) (k := .i64) (by kernel_rfl) hx2) ?_
  refine H_split (((c1.toNat : Nat) : Int) == (45 : Int)) (by kernel_rfl) (fun hc => ?_) (fun hc => ?_)
  · replace h := h.t hc; clear hc
    exact H_end .ret (.pd (.bool true)) (by kernel_rfl) rfl (by kernel_rfl) (by subst h; rfl)
  · replace h := h.f hc; clear hc
    exact H_end .ret (.pd (.bool false)) (by kernel_rfl) rfl (by kernel_rfl) (by subst h; rfl)

theorem offcutref01_Less_ok (m : Tp) (p0 : List UInt8) (p1 : List UInt8) {r : Bool} (h : offcutref01_Less p0 p1 r) : ASpec Tryd.prog (gtT m) 71 [.pd (.str p0), .pd (.str p1)] (· = .pd (.bool r)) := by
  refine ASpec_tree Tryd.f71 mixedT (askG [9, 10, 11] false) (by kernel_rfl) ?_
  unfold offcutref01_Less at h
  refine H_askK (.pd (.int .i64 (p0.length : Int))) ([]) (by kernel_rfl) ?_
  refine H_askK (.pd (.int .i64 (p1.length : Int))) ([]) (by kernel_rfl) ?_
  refine H_split ((p0.length : Int) != (p1.length : Int)) (by kernel_rfl) (fun hc => ?_) (fun hc => ?_)
  · replace h := h.t hc; clear hc
    refine H_askK (.pd (.int .i64 (p0.length : Int))) ([]) (by kernel_rfl) ?_
    refine H_askK (.pd (.int .i64 (p1.length : Int))) ([]) (by kernel_rfl) ?_
    refine H_split (decide ((p0.length : Int) < (p1.length : Int))) (by kernel_rfl) (fun hc => ?_) (fun hc => ?_)
    · replace h := h.t hc; clear hc
      exact H_end .ret (.pd (.bool true)) (by kernel_rfl) rfl (by kernel_rfl) (by subst h; rfl)
    · replace h := h.f hc; clear hc
      exact H_end .ret (.pd (.bool false)) (by kernel_rfl) rfl (by kernel_rfl) (by subst h; rfl)
  · replace h := h.f hc; clear hc
    refine H_split (Op.bytesLess p0 p1) (by kernel_rfl) (fun hc => ?_) (fun hc => ?_)
    · replace h := h.t hc; clear hc
      exact H_end .ret (.pd (.bool true)) (by kernel_rfl) rfl (by kernel_rfl) (by subst h; rfl)
    · replace h := h.f hc; clear hc
      exact H_end .ret (.pd (.bool false)) (by kernel_rfl) rfl (by kernel_rfl) (by subst h; rfl)

theorem offcutref01_Sub_ok (m : Tp) (p0 : List UInt8) (p1 : List UInt8) {r : (List UInt8)} (h : offcutref01_Sub p0 p1 r) : ASpec Tryd.prog (gtT m) 72 [.pd (.str p0), .pd (.str p1)] (· = .pd (.str r)) := by
  refine ASpec_tree Tryd.f72 mixedT (askG [9, 10, 11] false) (by kernel_rfl) ?_
  unfold offcutref01_Sub at h
  refine H_loopP (F := offcutref01_Sub_L1 p0 p1 r) (s0 := (([] : List UInt8), (0 : Int), (0 : Int))) h () 35 0
    (fun ((s100, s101, s102) : (List UInt8) × Int × Int) (() : Unit) => [(0, .pd (.str p0)), (1, .pd (.str p1)), (5, .pd (.str s100)), (6, .pd (.int .i64 s101)), (7, .pd (.int .i64 s102))])
    (fun ((s100, s101, s102) : (List UInt8) × Int × Int) (() : Unit) => []) (fun ((s100, s101, s102) : (List UInt8) × Int × Int) (() : Unit) => True) trivial [] mixedT (askG [9, 10, 11] false)
    (by kernel_rfl) (by kernel_rfl) (by kernel_rfl) (by kernel_rfl) (by kernel_rfl) (fun _ _ => rfl) ?_
  rintro X1 ⟨s100, s101, s102⟩ ⟨⟩ - h
  dsimp only [offcutref01_Sub_L1] at h
  refine H_askK (.pd (.int .i64 (p0.length : Int))) ([]) (by kernel_rfl) ?_
  refine H_split (decide (s102 < (p0.length : Int))) (by kernel_rfl) (fun hc => ?_) (fun hc => ?_)
  · replace h := h.t hc; clear hc
    obtain ⟨x1, hx2, h⟩ := h
    refine H_valW (g := 70) (args := [.pd (.str p0), .pd (.int .i64 s102)]) (M := []) (.pd (.int .i64 x1)) (.inl (by kernel_rfl)) (by kernel_rfl) (offcutref01_at_ok m _ _ hx2) (by kernel_rfl) (hasT 70 (by kernel_rfl)) ?_
    obtain ⟨x3, hx4, h⟩ := h
    refine H_valW (g := 70) (args := [.pd (.str p1), .pd (.int .i64 s102)]) (M := []) (.pd (.int .i64 x3)) (.inl (by kernel_rfl)) (by kernel_rfl) (offcutref01_at_ok m _ _ hx4) (by kernel_rfl) (hasT 70 (by kernel_rfl)) ?_
    refine H_ask _ _ (by kernel_rfl) (ask_remK (P := Tryd.prog) (M := []) (t := 3) (k := .i64) (a := (IntKind.i64.wrap ((IntKind.i64.wrap ((IntKind.i64.wrap (x1 - x3)) - s101)) + 10))) (b := (10 : Int)) (by decide)) ?_
    obtain ⟨x5, hx6, h⟩ := h
    refine H_valW (g := 49) (args := [.pd (.int .i64 (Int.tmod (IntKind.i64.wrap ((IntKind.i64.wrap ((IntKind.i64.wrap (x1 - x3)) - s101)) + 10)) (10 : Int)))]) (M := []) (.pd (.str x5)) (.inl (by kernel_rfl)) (by kernel_rfl) (offcutref01_sign_ok m _ hx6) (by kernel_rfl) (hasT 49 (by kernel_rfl)) ?_
    obtain ⟨hx7, h⟩ := h
    refine H_ask _ _ (by kernel_rfl) (ask_cat (P := Tryd.prog) (M := []) (t := 9) hx7) ?_
    refine H_ask _ _ (by kernel_rfl) (ask_quoK (P := Tryd.prog) (M := []) (t := 3) (k := .i64) (a := (IntKind.i64.wrap ((IntKind.i64.wrap ((IntKind.i64.wrap (x1 - x3)) - s101)) + 10))) (b := (10 : Int)) (by decide)) ?_
    exact H_againP (st := _) ((x5 ++ s100), (IntKind.i64.wrap (1 - (IntKind.i64.wrap (Int.tdiv (IntKind.i64.wrap ((IntKind.i64.wrap ((IntKind.i64.wrap (x1 - x3)) - s101)) + 10)) (10 : Int))))), (IntKind.i64.wrap (s102 + 1))) () h trivial (by kernel_rfl) (by kernel_rfl) (by kernel_rfl) (by kernel_rfl) (by kernel_rfl)
  · replace h := h.f hc; clear hc
    refine H_leaveP (.exit 0) (by kernel_rfl) rfl ?_
    obtain ⟨x8, hx9, h⟩ := h
    refine H_valW (g := 51) (args := [.pd (.str s100)]) (M := []) (.pd (.str x8)) (.inl (by kernel_rfl)) (by kernel_rfl) (offcutref01_cut_ok m _ hx9) (by kernel_rfl) (hasT 51 (by kernel_rfl)) ?_
    exact H_end .ret (.pd (.str x8)) (by kernel_rfl) rfl (by kernel_rfl) (by subst h; rfl)

theorem offcutref01_DivMod_ok (m : Tp) (p0 : List UInt8) (p1 : List UInt8) {r : (List UInt8) × (List UInt8)} (h : offcutref01_DivMod p0 p1 r) : ASpec Tryd.prog (gtT m) 54 [.pd (.str p0), .pd (.str p1)] (· = .tup [.pd (.str r.1), .pd (.str r.2)]) := by
  refine ASpec_tree Tryd.f54 mixedT (askG [9, 10, 11] false) (by kernel_rfl) ?_
  unfold offcutref01_DivMod at h
  refine H_loopP (F := offcutref01_DivMod_L1 p0 p1 r) (s0 := (([] : List UInt8), ([48] : List UInt8), (0 : Int))) h () 40 0
    (fun ((s100, s101, s102) : (List UInt8) × (List UInt8) × Int) (() : Unit) => [(0, .pd (.str p0)), (1, .pd (.str p1)), (6, .pd (.str s100)), (7, .pd (.str s101)), (8, .pd (.int .i64 s102))])
    (fun ((s100, s101, s102) : (List UInt8) × (List UInt8) × Int) (() : Unit) => []) (fun ((s100, s101, s102) : (List UInt8) × (List UInt8) × Int) (() : Unit) => True) trivial [] mixedT (askG [9, 10, 11] false)
    (by kernel_rfl) (by kernel_rfl) (by kernel_rfl) (by kernel_rfl) (by kernel_rfl) (fun _ _ => rfl) ?_
  rintro X1 ⟨s100, s101, s102⟩ ⟨⟩ - h
  dsimp only [offcutref01_DivMod_L1] at h
  refine H_askK (.pd (.int .i64 (p0.length : Int))) ([]) (by kernel_rfl) ?_
  refine H_split (decide (s102 < (p0.length : Int))) (by kernel_rfl) (fun hc => ?_) (fun hc => ?_)
  · replace h := h.t hc; clear hc
    obtain ⟨hx1, h⟩ := h
    refine H_ask _ _ (by kernel_rfl) (ask_subS (P := Tryd.prog) (M := []) (t := 9) (lo := (some s102)) (hi := (some (IntKind.i64.wrap (s102 + 1)))) (by kernel_rfl) hx1) ?_
    obtain ⟨hx2, h⟩ := h
    refine H_ask _ _ (by kernel_rfl) (ask_cat (P := Tryd.prog) (M := []) (t := 9) hx2) ?_
    obtain ⟨x3, hx4, h⟩ := h
    refine H_valW (g := 51) (args := [.pd (.str (s101 ++ (sub p0 s102 (IntKind.i64.wrap (s102 + 1)))))]) (M := []) (.pd (.str x3)) (.inl (by kernel_rfl)) (by kernel_rfl) (offcutref01_cut_ok m _ hx4) (by kernel_rfl) (hasT 51 (by kernel_rfl)) ?_
    refine H_loopP (F := offcutref01_DivMod_L2 p1 s100 s102 X1) (s0 := (x3, (0 : Int))) h () 40 0
      (fun ((s200, s201) : (List UInt8) × Int) (() : Unit) => [(0, .pd (.str p0)), (1, .pd (.str p1)), (6, .pd (.str s100)), (7, .pd (.str s200)), (8, .pd (.int .i64 s102)), (9, .pd (.int .i64 s201))])
      (fun ((s200, s201) : (List UInt8) × Int) (() : Unit) => []) (fun ((s200, s201) : (List UInt8) × Int) (() : Unit) => True) trivial [] mixedT (askG [9, 10, 11] false)
      (by kernel_rfl) (by kernel_rfl) (by kernel_rfl) (by kernel_rfl) (by kernel_rfl) (fun _ _ => rfl) ?_
    rintro X2 ⟨s200, s201⟩ ⟨⟩ - h
    dsimp only [offcutref01_DivMod_L2] at h
    obtain ⟨x5, hx6, h⟩ := h
    refine H_valW (g := 71) (args := [.pd (.str s200), .pd (.str p1)]) (M := []) (.pd (.bool x5)) (.inl (by kernel_rfl)) (by kernel_rfl) (offcutref01_Less_ok m _ _ hx6) (by kernel_rfl) (hasT 71 (by kernel_rfl)) ?_
    cases x5
    · replace h := h.f rfl
      obtain ⟨x10, hx11, h⟩ := h
      refine H_valW (g := 72) (args := [.pd (.str s200), .pd (.str p1)]) (M := []) (.pd (.str x10)) (.inl (by kernel_rfl)) (by kernel_rfl) (offcutref01_Sub_ok m _ _ hx11) (by kernel_rfl) (hasT 72 (by kernel_rfl)) ?_
      exact H_againP (st := _) (x10, (IntKind.i64.wrap (s201 + 1))) () h trivial (by kernel_rfl) (by kernel_rfl) (by kernel_rfl) (by kernel_rfl) (by kernel_rfl)
    · replace h := h.t rfl
      refine H_leaveP (.exit 2) (by kernel_rfl) rfl ?_
      obtain ⟨x7, hx8, h⟩ := h
      refine H_valW (g := 49) (args := [.pd (.int .i64 s201)]) (M := []) (.pd (.str x7)) (.inl (by kernel_rfl)) (by kernel_rfl) (offcutref01_sign_ok m _ hx8) (by kernel_rfl) (hasT 49 (by kernel_rfl)) ?_
      obtain ⟨hx9, h⟩ := h
      refine H_ask _ _ (by kernel_rfl) (ask_cat (P := Tryd.prog) (M := []) (t := 9) hx9) ?_
      exact H_againP (st := _) ((s100 ++ x7), s200, (IntKind.i64.wrap (s102 + 1))) () h trivial (by kernel_rfl) (by kernel_rfl) (by kernel_rfl) (by kernel_rfl) (by kernel_rfl)
  · replace h := h.f hc; clear hc
    refine H_leaveP (.exit 0) (by kernel_rfl) rfl ?_
    obtain ⟨x12, hx13, h⟩ := h
    refine H_valW (g := 51) (args := [.pd (.str s100)]) (M := []) (.pd (.str x12)) (.inl (by kernel_rfl)) (by kernel_rfl) (offcutref01_cut_ok m _ hx13) (by kernel_rfl) (hasT 51 (by kernel_rfl)) ?_
    exact H_end .ret (.tup [.pd (.str x12), .pd (.str s101)]) (by kernel_rfl) rfl (by kernel_rfl) (by subst h; rfl)

theorem offcutref01_Gcd_ok (m : Tp) (p0 : List UInt8) (p1 : List UInt8) {r : (List UInt8)} (h : offcutref01_Gcd p0 p1 r) : ASpec Tryd.prog (gtT m) 53 [.pd (.str p0), .pd (.str p1)] (· = .pd (.str r)) := by
  refine ASpec_tree Tryd.f53 mixedT (askG [9, 10, 11] false) (by kernel_rfl) ?_
  unfold offcutref01_Gcd at h
  refine H_loopP (F := offcutref01_Gcd_L1 r) (s0 := (p0, p1)) h () 18 0
    (fun ((s100, s101) : (List UInt8) × (List UInt8)) (() : Unit) => [(0, .pd (.str s100)), (1, .pd (.str s101))])
    (fun ((s100, s101) : (List UInt8) × (List UInt8)) (() : Unit) => []) (fun ((s100, s101) : (List UInt8) × (List UInt8)) (() : Unit) => True) trivial [] mixedT (askG [9, 10, 11] false)
    (by kernel_rfl) (by kernel_rfl) (by kernel_rfl) (by kernel_rfl) (by kernel_rfl) (fun _ _ => rfl) ?_
  rintro X1 ⟨s100, s101⟩ ⟨⟩ - h
  dsimp only [offcutref01_Gcd_L1] at h
  refine H_split (!(s101 == ([48] : List UInt8))) (by kernel_rfl) (fun hc => ?_) (fun hc => ?_)
  · replace h := h.t hc; clear hc
    obtain ⟨x1, x2, hx3, h⟩ := h
    refine H_valW (g := 54) (args := [.pd (.str s100), .pd (.str s101)]) (M := []) (.tup [.pd (.str x1), .pd (.str x2)]) (.inl (by kernel_rfl)) (by kernel_rfl) (offcutref01_DivMod_ok m _ _ hx3) (by kernel_rfl) (hasT 54 (by kernel_rfl)) ?_
    exact H_againP (st := _) (s101, x2) () h trivial (by kernel_rfl) (by kernel_rfl) (by kernel_rfl) (by kernel_rfl) (by kernel_rfl)
  · replace h := h.f hc; clear hc
    refine H_leaveP (.exit 0) (by kernel_rfl) rfl ?_
    exact H_end .ret (.pd (.str s100)) (by kernel_rfl) rfl (by kernel_rfl) (by subst h; rfl)

theorem offcutref03_Low_ok (m : Tp) (p0 : List UInt8) (p1 : List UInt8) {r : (List UInt8) × (List UInt8)} (h : offcutref03_Low p0 p1 r) : ASpec Tryd.prog (gtT m) 23 [.pd (.str p0), .pd (.str p1)] (· = .agg [.pd (.str r.1), .pd (.str r.2)]) := by
  refine ASpec_tree Tryd.f23 mixedT (askG [9, 10, 11] false) (by kernel_rfl) ?_
  unfold offcutref03_Low at h
  obtain ⟨x1, hx2, h⟩ := h
  refine H_valW (g := 52) (args := [.pd (.str p0)]) (M := [.cells [.pd (.str ([] : List UInt8)), .pd (.str ([] : List UInt8))] 1 0 false]) (.pd (.bool x1)) (.inl (by kernel_rfl)) (by kernel_rfl) (offcutref02_Below_ok m _ hx2) (by kernel_rfl) (hasT 52 (by kernel_rfl)) ?_
  cases x1
  · replace h := h.f rfl
    obtain ⟨x18, hx19, h⟩ := h
    refine H_valW (g := 53) (args := [.pd (.str p0), .pd (.str p1)]) (M := [.cells [.pd (.str ([] : List UInt8)), .pd (.str ([] : List UInt8))] 1 0 false]) (.pd (.str x18)) (.inl (by kernel_rfl)) (by kernel_rfl) (offcutref01_Gcd_ok m _ _ hx19) (by kernel_rfl) (hasT 53 (by kernel_rfl)) ?_
    obtain ⟨x20, x21, hx22, h⟩ := h
    refine H_valW (g := 54) (args := [.pd (.str p0), .pd (.str x18)]) (M := [.cells [.pd (.str ([] : List UInt8)), .pd (.str ([] : List UInt8))] 1 0 false]) (.tup [.pd (.str x20), .pd (.str x21)]) (.inl (by kernel_rfl)) (by kernel_rfl) (offcutref01_DivMod_ok m _ _ hx22) (by kernel_rfl) (hasT 54 (by kernel_rfl)) ?_
    obtain ⟨x23, x24, hx25, h⟩ := h
    refine H_valW (g := 54) (args := [.pd (.str p1), .pd (.str x18)]) (M := [.cells [.pd (.str ([] : List UInt8)), .pd (.str ([] : List UInt8))] 1 0 false]) (.tup [.pd (.str x23), .pd (.str x24)]) (.inl (by kernel_rfl)) (by kernel_rfl) (offcutref01_DivMod_ok m _ _ hx25) (by kernel_rfl) (hasT 54 (by kernel_rfl)) ?_
    obtain ⟨x26, hx27, h⟩ := h
    refine H_valW (g := 52) (args := [.pd (.str p0)]) (M := [.cells [.pd (.str ([] : List UInt8)), .pd (.str ([] : List UInt8))] 1 0 false]) (.pd (.bool x26)) (.inl (by kernel_rfl)) (by kernel_rfl) (offcutref02_Below_ok m _ hx27) (by kernel_rfl) (hasT 52 (by kernel_rfl)) ?_
    cases x26
    · replace h := h.f rfl
      obtain ⟨x30, hx31, h⟩ := h
      refine H_valW (g := 24) (args := [.pd (.bool false), .pd (.str x20)]) (M := [.cells [.pd (.str ([] : List UInt8)), .pd (.str ([] : List UInt8))] 1 0 false]) (.pd (.str x30)) (.inl (by kernel_rfl)) (by kernel_rfl) (offcutref02_Made_ok m _ _ hx31) (by kernel_rfl) (hasT 24 (by kernel_rfl)) ?_
      refine H_askK (.agg [.pd (.str x30), .pd (.str x23)]) ([.cells [.pd (.str ([] : List UInt8)), .pd (.str ([] : List UInt8))] 1 0 false]) (by kernel_rfl) ?_
      refine H_askK (.junk) ([.cells [.pd (.str x30), .pd (.str x23)] 1 0 false]) (by kernel_rfl) ?_
      exact H_end .ret (.agg [.pd (.str x30), .pd (.str x23)]) (by kernel_rfl) rfl (by kernel_rfl) (by subst h; rfl)
    · replace h := h.t rfl
      obtain ⟨x28, hx29, h⟩ := h
      refine H_valW (g := 24) (args := [.pd (.bool true), .pd (.str x20)]) (M := [.cells [.pd (.str ([] : List UInt8)), .pd (.str ([] : List UInt8))] 1 0 false]) (.pd (.str x28)) (.inl (by kernel_rfl)) (by kernel_rfl) (offcutref02_Made_ok m _ _ hx29) (by kernel_rfl) (hasT 24 (by kernel_rfl)) ?_
      refine H_askK (.agg [.pd (.str x28), .pd (.str x23)]) ([.cells [.pd (.str ([] : List UInt8)), .pd (.str ([] : List UInt8))] 1 0 false]) (by kernel_rfl) ?_
      refine H_askK (.junk) ([.cells [.pd (.str x28), .pd (.str x23)] 1 0 false]) (by kernel_rfl) ?_
      exact H_end .ret (.agg [.pd (.str x28), .pd (.str x23)]) (by kernel_rfl) rfl (by kernel_rfl) (by subst h; rfl)
  · replace h := h.t rfl
    obtain ⟨hx3, h⟩ := h
    refine H_ask _ _ (by kernel_rfl) (ask_subS (P := Tryd.prog) (M := [.cells [.pd (.str ([] : List UInt8)), .pd (.str ([] : List UInt8))] 1 0 false]) (t := 9) (lo := (some (1 : Int))) (hi := none) (by kernel_rfl) hx3) ?_
    obtain ⟨x4, hx5, h⟩ := h
    refine H_valW (g := 53) (args := [.pd (.str (sub p0 (1 : Int) (p0.length : Int))), .pd (.str p1)]) (M := [.cells [.pd (.str ([] : List UInt8)), .pd (.str ([] : List UInt8))] 1 0 false]) (.pd (.str x4)) (.inl (by kernel_rfl)) (by kernel_rfl) (offcutref01_Gcd_ok m _ _ hx5) (by kernel_rfl) (hasT 53 (by kernel_rfl)) ?_
    obtain ⟨x6, x7, hx8, h⟩ := h
    refine H_valW (g := 54) (args := [.pd (.str (sub p0 (1 : Int) (p0.length : Int))), .pd (.str x4)]) (M := [.cells [.pd (.str ([] : List UInt8)), .pd (.str ([] : List UInt8))] 1 0 false]) (.tup [.pd (.str x6), .pd (.str x7)]) (.inl (by kernel_rfl)) (by kernel_rfl) (offcutref01_DivMod_ok m _ _ hx8) (by kernel_rfl) (hasT 54 (by kernel_rfl)) ?_
    obtain ⟨x9, x10, hx11, h⟩ := h
    refine H_valW (g := 54) (args := [.pd (.str p1), .pd (.str x4)]) (M := [.cells [.pd (.str ([] : List UInt8)), .pd (.str ([] : List UInt8))] 1 0 false]) (.tup [.pd (.str x9), .pd (.str x10)]) (.inl (by kernel_rfl)) (by kernel_rfl) (offcutref01_DivMod_ok m _ _ hx11) (by kernel_rfl) (hasT 54 (by kernel_rfl)) ?_
    obtain ⟨x12, hx13, h⟩ := h
    refine H_valW (g := 52) (args := [.pd (.str p0)]) (M := [.cells [.pd (.str ([] : List UInt8)), .pd (.str ([] : List UInt8))] 1 0 false]) (.pd (.bool x12)) (.inl (by kernel_rfl)) (by kernel_rfl) (offcutref02_Below_ok m _ hx13) (by kernel_rfl) (hasT 52 (by kernel_rfl)) ?_
    cases x12
    · replace h := h.f rfl
      obtain ⟨x16, hx17, h⟩ := h
      refine H_valW (g := 24) (args := [.pd (.bool false), .pd (.str x6)]) (M := [.cells [.pd (.str ([] : List UInt8)), .pd (.str ([] : List UInt8))] 1 0 false]) (.pd (.str x16)) (.inl (by kernel_rfl)) (by kernel_rfl) (offcutref02_Made_ok m _ _ hx17) (by kernel_rfl) (hasT 24 (by kernel_rfl)) ?_
      refine H_askK (.agg [.pd (.str x16), .pd (.str x9)]) ([.cells [.pd (.str ([] : List UInt8)), .pd (.str ([] : List UInt8))] 1 0 false]) (by kernel_rfl) ?_
      refine H_askK (.junk) ([.cells [.pd (.str x16), .pd (.str x9)] 1 0 false]) (by kernel_rfl) ?_
      exact H_end .ret (.agg [.pd (.str x16), .pd (.str x9)]) (by kernel_rfl) rfl (by kernel_rfl) (by subst h; rfl)
    · replace h := h.t rfl
      obtain ⟨x14, hx15, h⟩ := h
      refine H_valW (g := 24) (args := [.pd (.bool true), .pd (.str x6)]) (M := [.cells [.pd (.str ([] : List UInt8)), .pd (.str ([] : List UInt8))] 1 0 false]) (.pd (.str x14)) (.inl (by kernel_rfl)) (by kernel_rfl) (offcutref02_Made_ok m _ _ hx15) (by kernel_rfl) (hasT 24 (by kernel_rfl)) ?_
      refine H_askK (.agg [.pd (.str x14), .pd (.str x9)]) ([.cells [.pd (.str ([] : List UInt8)), .pd (.str ([] : List UInt8))] 1 0 false]) (by kernel_rfl) ?_
      refine H_askK (.junk) ([.cells [.pd (.str x14), .pd (.str x9)] 1 0 false]) (by kernel_rfl) ?_
      exact H_end .ret (.agg [.pd (.str x14), .pd (.str x9)]) (by kernel_rfl) rfl (by kernel_rfl) (by subst h; rfl)

theorem offcutlaw03_Of_ok (m : Tp) (p0 : Bool) (p1 : List Int) (p2 : List Int) {r : (List UInt8) × (List UInt8)} (h : offcutlaw03_Of p0 p1 p2 r) : ASpec Tryd.prog (gtT m) 9 [.agg [.pd (.bool p0), .pd (.sl (p1.map elU32)), .pd (.sl (p2.map elU32))]] (· = .agg [.pd (.str r.1), .pd (.str r.2)]) := by
  refine ASpec_tree Tryd.f9 mixedT (askG [9, 10, 11] false) (by kernel_rfl) ?_
  unfold offcutlaw03_Of at h
  refine H_askK (.ptr 0 0 0) ([.cells [.pd (.bool p0), .pd (.sl (p1.map elU32)), .pd (.sl (p2.map elU32))] 1 0 false]) (by kernel_rfl) ?_
  refine H_askK (.ptr 0 2 0) ([.cells [.pd (.bool p0), .pd (.sl (p1.map elU32)), .pd (.sl (p2.map elU32))] 1 0 false, .cells [.pd (.str ([] : List UInt8)), .pd (.str ([] : List UInt8))] 1 0 false]) (by kernel_rfl) ?_
  refine H_askK (.pd (.sl (p2.map elU32))) ([.cells [.pd (.bool p0), .pd (.sl (p1.map elU32)), .pd (.sl (p2.map elU32))] 1 0 false, .cells [.pd (.str ([] : List UInt8)), .pd (.str ([] : List UInt8))] 1 0 false]) (by kernel_rfl) ?_
  obtain ⟨x1, hx2, h⟩ := h
  refine H_valW (g := 22) (args := [.pd (.sl (p2.map elU32))]) (M := [.cells [.pd (.bool p0), .pd (.sl (p1.map elU32)), .pd (.sl (p2.map elU32))] 1 0 false, .cells [.pd (.str ([] : List UInt8)), .pd (.str ([] : List UInt8))] 1 0 false]) (.pd (.str x1)) (.inl (by kernel_rfl)) (by kernel_rfl) (offcutref01_Of_ok m _ hx2) (by kernel_rfl) (hasT 22 (by kernel_rfl)) ?_
  refine H_split (x1 == ([48] : List UInt8)) (by kernel_rfl) (fun hc => ?_) (fun hc => ?_)
  · replace h := h.t hc; clear hc
    refine H_draw (by kernel_rfl) ?_
    refine H_askK (.ptr 0 0 0) ([.cells [.pd (.bool p0), .pd (.sl (p1.map elU32)), .pd (.sl (p2.map elU32))] 1 0 false, .cells [.pd (.str ([] : List UInt8)), .pd (.str ([] : List UInt8))] 1 0 false]) (by kernel_rfl) ?_
    refine H_askK (.ptr 0 0 0) ([.cells [.pd (.bool p0), .pd (.sl (p1.map elU32)), .pd (.sl (p2.map elU32))] 1 0 false, .cells [.pd (.str ([] : List UInt8)), .pd (.str ([] : List UInt8))] 1 0 false]) (by kernel_rfl) ?_
    refine H_askK (.pd (.bool p0)) ([.cells [.pd (.bool p0), .pd (.sl (p1.map elU32)), .pd (.sl (p2.map elU32))] 1 0 false, .cells [.pd (.str ([] : List UInt8)), .pd (.str ([] : List UInt8))] 1 0 false]) (by kernel_rfl) ?_
    refine H_askK (.ptr 0 0 0) ([.cells [.pd (.bool p0), .pd (.sl (p1.map elU32)), .pd (.sl (p2.map elU32))] 1 0 false, .cells [.pd (.str ([] : List UInt8)), .pd (.str ([] : List UInt8))] 1 0 false]) (by kernel_rfl) ?_
    refine H_askK (.ptr 0 1 0) ([.cells [.pd (.bool p0), .pd (.sl (p1.map elU32)), .pd (.sl (p2.map elU32))] 1 0 false, .cells [.pd (.str ([] : List UInt8)), .pd (.str ([] : List UInt8))] 1 0 false]) (by kernel_rfl) ?_
    refine H_askK (.pd (.sl (p1.map elU32))) ([.cells [.pd (.bool p0), .pd (.sl (p1.map elU32)), .pd (.sl (p2.map elU32))] 1 0 false, .cells [.pd (.str ([] : List UInt8)), .pd (.str ([] : List UInt8))] 1 0 false]) (by kernel_rfl) ?_
    obtain ⟨x3, hx4, h⟩ := h
    refine H_valW (g := 22) (args := [.pd (.sl (p1.map elU32))]) (M := [.cells [.pd (.bool p0), .pd (.sl (p1.map elU32)), .pd (.sl (p2.map elU32))] 1 0 false, .cells [.pd (.str ([] : List UInt8)), .pd (.str ([] : List UInt8))] 1 0 false]) (.pd (.str x3)) (.inr (by kernel_rfl)) (by kernel_rfl) (offcutref01_Of_ok m _ hx4) (by kernel_rfl) (hasT 22 (by kernel_rfl)) ?_
    obtain ⟨x5, hx6, h⟩ := h
    refine H_valW (g := 24) (args := [.pd (.bool p0), .pd (.str x3)]) (M := [.cells [.pd (.bool p0), .pd (.sl (p1.map elU32)), .pd (.sl (p2.map elU32))] 1 0 false, .cells [.pd (.str ([] : List UInt8)), .pd (.str ([] : List UInt8))] 1 0 false]) (.pd (.str x5)) (.inr (by kernel_rfl)) (by kernel_rfl) (offcutref02_Made_ok m _ _ hx6) (by kernel_rfl) (hasT 24 (by kernel_rfl)) ?_
    obtain ⟨x7, x8, hx9, h⟩ := h
    refine H_valW (g := 23) (args := [.pd (.str x5), .pd (.str ([49] : List UInt8))]) (M := [.cells [.pd (.bool p0), .pd (.sl (p1.map elU32)), .pd (.sl (p2.map elU32))] 1 0 false, .cells [.pd (.str ([] : List UInt8)), .pd (.str ([] : List UInt8))] 1 0 false]) (.agg [.pd (.str x7), .pd (.str x8)]) (.inr (by kernel_rfl)) (by kernel_rfl) (offcutref03_Low_ok m _ _ hx9) (by kernel_rfl) (hasT 23 (by kernel_rfl)) ?_
    refine H_askK (.junk) ([.cells [.pd (.bool p0), .pd (.sl (p1.map elU32)), .pd (.sl (p2.map elU32))] 1 0 false, .cells [.pd (.str x7), .pd (.str x8)] 1 0 false]) (by kernel_rfl) ?_
    exact H_end .ret (.agg [.pd (.str x7), .pd (.str x8)]) (by kernel_rfl) rfl (by kernel_rfl) (by subst h; rfl)
  · replace h := h.f hc; clear hc
    refine H_draw (by kernel_rfl) ?_
    refine H_askK (.ptr 0 0 0) ([.cells [.pd (.bool p0), .pd (.sl (p1.map elU32)), .pd (.sl (p2.map elU32))] 1 0 false, .cells [.pd (.str ([] : List UInt8)), .pd (.str ([] : List UInt8))] 1 0 false]) (by kernel_rfl) ?_
    refine H_askK (.ptr 0 0 0) ([.cells [.pd (.bool p0), .pd (.sl (p1.map elU32)), .pd (.sl (p2.map elU32))] 1 0 false, .cells [.pd (.str ([] : List UInt8)), .pd (.str ([] : List UInt8))] 1 0 false]) (by kernel_rfl) ?_
    refine H_askK (.pd (.bool p0)) ([.cells [.pd (.bool p0), .pd (.sl (p1.map elU32)), .pd (.sl (p2.map elU32))] 1 0 false, .cells [.pd (.str ([] : List UInt8)), .pd (.str ([] : List UInt8))] 1 0 false]) (by kernel_rfl) ?_
    refine H_askK (.ptr 0 0 0) ([.cells [.pd (.bool p0), .pd (.sl (p1.map elU32)), .pd (.sl (p2.map elU32))] 1 0 false, .cells [.pd (.str ([] : List UInt8)), .pd (.str ([] : List UInt8))] 1 0 false]) (by kernel_rfl) ?_
    refine H_askK (.ptr 0 1 0) ([.cells [.pd (.bool p0), .pd (.sl (p1.map elU32)), .pd (.sl (p2.map elU32))] 1 0 false, .cells [.pd (.str ([] : List UInt8)), .pd (.str ([] : List UInt8))] 1 0 false]) (by kernel_rfl) ?_
    refine H_askK (.pd (.sl (p1.map elU32))) ([.cells [.pd (.bool p0), .pd (.sl (p1.map elU32)), .pd (.sl (p2.map elU32))] 1 0 false, .cells [.pd (.str ([] : List UInt8)), .pd (.str ([] : List UInt8))] 1 0 false]) (by kernel_rfl) ?_
    obtain ⟨x10, hx11, h⟩ := h
    refine H_valW (g := 22) (args := [.pd (.sl (p1.map elU32))]) (M := [.cells [.pd (.bool p0), .pd (.sl (p1.map elU32)), .pd (.sl (p2.map elU32))] 1 0 false, .cells [.pd (.str ([] : List UInt8)), .pd (.str ([] : List UInt8))] 1 0 false]) (.pd (.str x10)) (.inr (by kernel_rfl)) (by kernel_rfl) (offcutref01_Of_ok m _ hx11) (by kernel_rfl) (hasT 22 (by kernel_rfl)) ?_
    obtain ⟨x12, hx13, h⟩ := h
    refine H_valW (g := 24) (args := [.pd (.bool p0), .pd (.str x10)]) (M := [.cells [.pd (.bool p0), .pd (.sl (p1.map elU32)), .pd (.sl (p2.map elU32))] 1 0 false, .cells [.pd (.str ([] : List UInt8)), .pd (.str ([] : List UInt8))] 1 0 false]) (.pd (.str x12)) (.inr (by kernel_rfl)) (by kernel_rfl) (offcutref02_Made_ok m _ _ hx13) (by kernel_rfl) (hasT 24 (by kernel_rfl)) ?_
    obtain ⟨x14, x15, hx16, h⟩ := h
    refine H_valW (g := 23) (args := [.pd (.str x12), .pd (.str x1)]) (M := [.cells [.pd (.bool p0), .pd (.sl (p1.map elU32)), .pd (.sl (p2.map elU32))] 1 0 false, .cells [.pd (.str ([] : List UInt8)), .pd (.str ([] : List UInt8))] 1 0 false]) (.agg [.pd (.str x14), .pd (.str x15)]) (.inr (by kernel_rfl)) (by kernel_rfl) (offcutref03_Low_ok m _ _ hx16) (by kernel_rfl) (hasT 23 (by kernel_rfl)) ?_
    refine H_askK (.junk) ([.cells [.pd (.bool p0), .pd (.sl (p1.map elU32)), .pd (.sl (p2.map elU32))] 1 0 false, .cells [.pd (.str x14), .pd (.str x15)] 1 0 false]) (by kernel_rfl) ?_
    exact H_end .ret (.agg [.pd (.str x14), .pd (.str x15)]) (by kernel_rfl) rfl (by kernel_rfl) (by subst h; rfl)

theorem offcutlaw03_Is_ok (m : Tp) (p0 : Bool) (p1 : List Int) (p2 : List Int) (p3 : List UInt8) (p4 : List UInt8) {r : Bool} (h : offcutlaw03_Is p0 p1 p2 p3 p4 r) : ASpec Tryd.prog (gtT m) 8 [.agg [.pd (.bool p0), .pd (.sl (p1.map elU32)), .pd (.sl (p2.map elU32))], .agg [.pd (.str p3), .pd (.str p4)]] (· = .pd (.bool r)) := by
  refine ASpec_tree Tryd.f8 mixedT (askG [9, 10, 11] false) (by kernel_rfl) ?_
  unfold offcutlaw03_Is at h
  refine H_askK (.ptr 0 0 0) ([.cells [.pd (.bool p0), .pd (.sl (p1.map elU32)), .pd (.sl (p2.map elU32))] 1 0 false]) (by kernel_rfl) ?_
  refine H_askK (.ptr 1 0 0) ([.cells [.pd (.bool p0), .pd (.sl (p1.map elU32)), .pd (.sl (p2.map elU32))] 1 0 false, .cells [.pd (.str p3), .pd (.str p4)] 1 0 false]) (by kernel_rfl) ?_
  refine H_draw (by kernel_rfl) ?_
  refine H_askK (.ptr 0 2 0) ([.cells [.pd (.bool p0), .pd (.sl (p1.map elU32)), .pd (.sl (p2.map elU32))] 1 0 false, .cells [.pd (.str p3), .pd (.str p4)] 1 0 false]) (by kernel_rfl) ?_
  refine H_askK (.pd (.sl (p2.map elU32))) ([.cells [.pd (.bool p0), .pd (.sl (p1.map elU32)), .pd (.sl (p2.map elU32))] 1 0 false, .cells [.pd (.str p3), .pd (.str p4)] 1 0 false]) (by kernel_rfl) ?_
  refine H_ask _ _ (by kernel_rfl) (ask_len (P := Tryd.prog) (M := [.cells [.pd (.bool p0), .pd (.sl (p1.map elU32)), .pd (.sl (p2.map elU32))] 1 0 false, .cells [.pd (.str p3), .pd (.str p4)] 1 0 false]) (t := 24) (et := 78) (el := elU32) (by kernel_rfl) (e := p2)) ?_
  refine H_split (decide ((p2.length : Int) > (0 : Int))) (by kernel_rfl) (fun hc => ?_) (fun hc => ?_)
  · replace h := h.t hc; clear hc
    refine H_askK (.agg [.pd (.bool p0), .pd (.sl (p1.map elU32)), .pd (.sl (p2.map elU32))]) ([.cells [.pd (.bool p0), .pd (.sl (p1.map elU32)), .pd (.sl (p2.map elU32))] 1 0 false, .cells [.pd (.str p3), .pd (.str p4)] 1 0 false]) (by kernel_rfl) ?_
    obtain ⟨x1, hx2, h⟩ := h
    refine H_valW (g := 21) (args := [.agg [.pd (.bool p0), .pd (.sl (p1.map elU32)), .pd (.sl (p2.map elU32))]]) (M := [.cells [.pd (.bool p0), .pd (.sl (p1.map elU32)), .pd (.sl (p2.map elU32))] 1 0 false, .cells [.pd (.str p3), .pd (.str p4)] 1 0 false]) (.pd (.bool x1)) (.inr (by kernel_rfl)) (by kernel_rfl) (rat_Right_ok m _ _ _ hx2) (by kernel_rfl) (hasT 21 (by kernel_rfl)) ?_
    cases x1
    · replace h := h.f rfl
      exact H_end .ret (.pd (.bool false)) (by kernel_rfl) rfl (by kernel_rfl) (by subst h; rfl)
    · replace h := h.t rfl
      refine H_askK (.agg [.pd (.bool p0), .pd (.sl (p1.map elU32)), .pd (.sl (p2.map elU32))]) ([.cells [.pd (.bool p0), .pd (.sl (p1.map elU32)), .pd (.sl (p2.map elU32))] 1 0 false, .cells [.pd (.str p3), .pd (.str p4)] 1 0 false]) (by kernel_rfl) ?_
      obtain ⟨x3, x4, hx5, h⟩ := h
      refine H_valW (g := 9) (args := [.agg [.pd (.bool p0), .pd (.sl (p1.map elU32)), .pd (.sl (p2.map elU32))]]) (M := [.cells [.pd (.bool p0), .pd (.sl (p1.map elU32)), .pd (.sl (p2.map elU32))] 1 0 false, .cells [.pd (.str p3), .pd (.str p4)] 1 0 false]) (.agg [.pd (.str x3), .pd (.str x4)]) (.inr (by kernel_rfl)) (by kernel_rfl) (offcutlaw03_Of_ok m _ _ _ hx5) (by kernel_rfl) (hasT 9 (by kernel_rfl)) ?_
      refine H_askK (.agg [.pd (.str p3), .pd (.str p4)]) ([.cells [.pd (.bool p0), .pd (.sl (p1.map elU32)), .pd (.sl (p2.map elU32))] 1 0 false, .cells [.pd (.str p3), .pd (.str p4)] 1 0 false]) (by kernel_rfl) ?_
      refine H_split (x3 == p3 && x4 == p4) (by kernel_rfl) (fun hc => ?_) (fun hc => ?_)
      · replace h := h.t hc; clear hc
        exact H_end .ret (.pd (.bool true)) (by kernel_rfl) rfl (by kernel_rfl) (by subst h; rfl)
      · replace h := h.f hc; clear hc
        exact H_end .ret (.pd (.bool false)) (by kernel_rfl) rfl (by kernel_rfl) (by subst h; rfl)
  · replace h := h.f hc; clear hc
    exact H_end .ret (.pd (.bool false)) (by kernel_rfl) rfl (by kernel_rfl) (by subst h; rfl)

end Go.Abs
