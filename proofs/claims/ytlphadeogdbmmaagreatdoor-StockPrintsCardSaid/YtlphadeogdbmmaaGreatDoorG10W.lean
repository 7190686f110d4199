/- Printed by gen.py: the functions do what these conditions say. -/
import Derived.Test.YtlphadeogdbmmaaGreatDoorAbs30
import Derived.Test.YtlphadeogdbmmaaGreatDoorD10
import Derived.Test.YtlphadeogdbmmaaGreatDoorGLinW
import Derived.Test.YtlphadeogdbmmaaGreatDoorM10w
namespace Go.Abs
open Go.Proofs
set_option maxRecDepth 20000
set_option linter.unusedVariables false
set_option linter.unusedSimpArgs false
set_option linter.unnecessarySimpa false

def lvAI64I64Z (x : Int × Int) : List PD := [.int .i64 x.1, .int .i64 x.2]
def elAI64I64Z (x : Int × Int) : PD := .agg [.int .i64 x.1, .int .i64 x.2]
theorem okAI64I64Z : LVok lvAI64I64Z 2 := fun _ => ⟨rfl, rfl⟩
theorem leAI64I64Z : ELok elAI64I64Z lvAI64I64Z := fun _ => rfl
theorem lgAI64I64Z : ELg elAI64I64Z lvAI64I64Z 2 := fun _ => rfl
def lvI64 (x : Int) : List PD := [.int .i64 x]
def elI64 (x : Int) : PD := .int .i64 x
theorem okI64 : LVok lvI64 1 := fun _ => ⟨rfl, rfl⟩
theorem leI64 : ELok elI64 lvI64 := fun _ => rfl
theorem lgI64 : ELg elI64 lvI64 1 := fun _ => rfl

theorem stock_number_ok (m : Tp) (p0 : List UInt8) {r : Int} (h : stock_number p0 r) : ASpec Tryz.prog (gtT m) 31 [.pd (.str p0)] (· = .pd (.int .i64 r)) := by
  refine ASpec_tree Tryz.f31 mixedT (askG [9, 10, 11] false) (by kernel_rfl) ?_
  unfold stock_number at h
  obtain ⟨x1, x2, hx3, h⟩ := h
  refine H_valW (g := 40) (args := [.pd (.str p0)]) (M := []) (.tup [.pd (.int .i64 x1), .pd (.err x2)]) (.inl (by kernel_rfl)) (by kernel_rfl) (strconv_Atoi_ok m _ hx3) (by kernel_rfl) (hasT 40 (by kernel_rfl)) ?_
  cases x2
  · replace h := h.f rfl
    refine H_askK (.pd (.bool false)) ([]) (by kernel_rfl) ?_
    obtain ⟨x4, hx5, h⟩ := h
    refine H_valW (g := 41) (args := [.pd (.str p0), .pd (.str ([48, 49, 50, 51, 52, 53, 54, 55, 56, 57] : List UInt8))]) (M := []) (.pd (.str x4)) (.inl (by kernel_rfl)) (by kernel_rfl) (strings_Trim_ok m _ _ hx5) (by kernel_rfl) (hasT 41 (by kernel_rfl)) ?_
    refine H_split (!(x4 == ([] : List UInt8))) (by kernel_rfl) (fun hc => ?_) (fun hc => ?_)
    · replace h := h.t hc; clear hc
      exact H_end .ret (.pd (.int .i64 (-1))) (by kernel_rfl) rfl (by kernel_rfl) (by subst h; rfl)
    · replace h := h.f hc; clear hc
      obtain ⟨x6, hx7, h⟩ := h
      refine H_valW (g := 42) (args := [.pd (.str p0), .pd (.str ([48] : List UInt8))]) (M := []) (.pd (.str x6)) (.inl (by kernel_rfl)) (by kernel_rfl) (strings_TrimLeft_ok m _ _ hx7) (by kernel_rfl) (hasT 42 (by kernel_rfl)) ?_
      refine H_askK (.pd (.int .i64 (x6.length : Int))) ([]) (by kernel_rfl) ?_
      refine H_split (decide ((x6.length : Int) > (9 : Int))) (by kernel_rfl) (fun hc => ?_) (fun hc => ?_)
      · replace h := h.t hc; clear hc
        exact H_end .ret (.pd (.int .i64 (-1))) (by kernel_rfl) rfl (by kernel_rfl) (by subst h; rfl)
      · replace h := h.f hc; clear hc
        refine H_askK (.pd (.int .i64 (p0.length : Int))) ([]) (by kernel_rfl) ?_
        refine H_split (decide ((p0.length : Int) > (400 : Int))) (by kernel_rfl) (fun hc => ?_) (fun hc => ?_)
        · replace h := h.t hc; clear hc
          exact H_end .ret (.pd (.int .i64 (-1))) (by kernel_rfl) rfl (by kernel_rfl) (by subst h; rfl)
        · replace h := h.f hc; clear hc
          exact H_end .ret (.pd (.int .i64 x1)) (by kernel_rfl) rfl (by kernel_rfl) (by subst h; rfl)
  · replace h := h.t rfl
    refine H_askK (.pd (.bool true)) ([]) (by kernel_rfl) ?_
    exact H_end .ret (.pd (.int .i64 (-1))) (by kernel_rfl) rfl (by kernel_rfl) (by subst h; rfl)

theorem stock_line_ok (m : Tp) (p0 : List (List UInt8)) (p1 : List UInt8) (p2 : Int) {r : (List Int) × Bool} (h : stock_line p0 p1 p2 r) : ASpec Tryz.prog (gtT m) 17 [.pd (.sl (p0.map elS)), .pd (.str p1), .pd (.int .i64 p2)] (· = .tup [.pd (.sl (r.1.map elI64)), .pd (.bool r.2)]) := by
  refine ASpec_tree Tryz.f17 mixedT (askG [9, 10, 11] true) (by kernel_rfl) ?_
  unfold stock_line at h
  refine H_ask _ _ (by kernel_rfl) (ask_len (P := Tryz.prog) (M := [rowV lvI64 1 ([] : List Int) 0 false]) (t := 45) (et := 9) (el := elS) (by kernel_rfl) (e := p0)) ?_
  refine H_split ((p0.length : Int) != (IntKind.i64.wrap (p2 + 1))) (by kernel_rfl) (fun hc => ?_) (fun hc => ?_)
  · replace h := h.t hc; clear hc
    exact H_endX .ret (.tup [.own 1 (([] : List Int).length) 0, .pd (.bool false)]) (.tup [.pd (.sl (([] : List Int).map elI64)), .pd (.bool false)]) ([rowV lvI64 1 ([] : List Int) 0 false, rowV lvI64 1 ([] : List Int) 0 false]) (by kernel_rfl) rfl (by kernel_rfl) (by kernel_rfl) (pure_tup (pl_cons (pure_1to2 (pure1_own okI64 (by decide) lgI64 (M := [rowV lvI64 1 ([] : List Int) 0 false, rowV lvI64 1 ([] : List Int) 0 false]) (b := 1) (o := rowV lvI64 1 ([] : List Int) 0 false) (by kernel_rfl) (rowIs_v' (lv := lvI64) (s := 1) (e := ([] : List Int)) (ver := 0) (z := false)) (n := ([] : List Int).length) rfl) rfl) (pl_cons rfl pl_nil))) (by subst h; rfl)
  · replace h := h.f hc; clear hc
    obtain ⟨x1, hx2, h⟩ := h
    refine H_ask _ _ (by kernel_rfl) (ask_idx (P := Tryz.prog) (M := [rowV lvI64 1 ([] : List Int) 0 false]) (t := 45) (et := 9) (k := .i64) (lv := lvS) okS leS (by kernel_rfl) (by kernel_rfl) hx2) ?_
    refine H_askK (.pd (.str x1)) ([rowV lvI64 1 ([] : List Int) 0 false]) (by kernel_rfl) ?_
    refine H_split (!(x1 == p1)) (by kernel_rfl) (fun hc => ?_) (fun hc => ?_)
    · replace h := h.t hc; clear hc
      exact H_endX .ret (.tup [.own 1 (([] : List Int).length) 0, .pd (.bool false)]) (.tup [.pd (.sl (([] : List Int).map elI64)), .pd (.bool false)]) ([rowV lvI64 1 ([] : List Int) 0 false, rowV lvI64 1 ([] : List Int) 0 false]) (by kernel_rfl) rfl (by kernel_rfl) (by kernel_rfl) (pure_tup (pl_cons (pure_1to2 (pure1_own okI64 (by decide) lgI64 (M := [rowV lvI64 1 ([] : List Int) 0 false, rowV lvI64 1 ([] : List Int) 0 false]) (b := 1) (o := rowV lvI64 1 ([] : List Int) 0 false) (by kernel_rfl) (rowIs_v' (lv := lvI64) (s := 1) (e := ([] : List Int)) (ver := 0) (z := false)) (n := ([] : List Int).length) rfl) rfl) (pl_cons rfl pl_nil))) (by subst h; rfl)
    · replace h := h.f hc; clear hc
      obtain ⟨hx3, h⟩ := h
      refine H_ask _ _ (by kernel_rfl) (ask_sub (P := Tryz.prog) (M := [rowV lvI64 1 ([] : List Int) 0 false, rowV lvI64 1 ([] : List Int) 0 false]) (t := 45) (et := 9) (lv := lvS) (lo := (some (1 : Int))) (hi := none) okS leS (by kernel_rfl) (by kernel_rfl) hx3) ?_
      refine H_ask _ _ (by kernel_rfl) (ask_len (P := Tryz.prog) (M := [rowV lvI64 1 ([] : List Int) 0 false, rowV lvI64 1 ([] : List Int) 0 false]) (t := 45) (et := 9) (el := elS) (by kernel_rfl) (e := (sub p0 (1 : Int) (p0.length : Int)))) ?_
      refine H_loopP (F := stock_line_L1 p0 r) (s0 := ((0 : Int), ([] : List Int))) h (0, (([] : List Int).length)) 37 2
        (fun ((s100, s151) : Int × (List Int)) ((v101, n101) : Nat × Nat) => [(8, .own 1 n101 v101), (24, .pd (.sl ((sub p0 (1 : Int) (p0.length : Int)).map elS))), (25, .pd (.int .i64 ((sub p0 (1 : Int) (p0.length : Int)).length : Int))), (26, .pd (.int .i64 s100))])
        (fun ((s100, s151) : Int × (List Int)) ((v101, n101) : Nat × Nat) => [rowV lvI64 1 ([] : List Int) 0 false, rowV lvI64 1 s151 v101 false]) (fun ((s100, s151) : Int × (List Int)) ((v101, n101) : Nat × Nat) => n101 = s151.length) rfl [] mixedT (askG [9, 10, 11] true)
        (by kernel_rfl) (by kernel_rfl) (by kernel_rfl) (by kernel_rfl) (by kernel_rfl) (fun _ _ => rfl) ?_
      rintro X1 ⟨s100, s151⟩ ⟨v101, n101⟩ hn101 h
      dsimp only [stock_line_L1] at h
      refine H_split (decide (s100 < ((sub p0 (1 : Int) (p0.length : Int)).length : Int))) (by kernel_rfl) (fun hc => ?_) (fun hc => ?_)
      · replace h := h.t hc; clear hc
        obtain ⟨x4, hx5, h⟩ := h
        refine H_ask _ _ (by kernel_rfl) (ask_idx (P := Tryz.prog) (M := [rowV lvI64 1 ([] : List Int) 0 false, rowV lvI64 1 s151 v101 false]) (t := 45) (et := 9) (k := .i64) (lv := lvS) okS leS (by kernel_rfl) (by kernel_rfl) hx5) ?_
        refine H_askK (.pd (.str x4)) ([rowV lvI64 1 ([] : List Int) 0 false, rowV lvI64 1 s151 v101 false]) (by kernel_rfl) ?_
        obtain ⟨x6, hx7, h⟩ := h
        refine H_valW (g := 31) (args := [.pd (.str x4)]) (M := [rowV lvI64 1 ([] : List Int) 0 false, rowV lvI64 1 s151 v101 false]) (.pd (.int .i64 x6)) (.inl (by kernel_rfl)) (by kernel_rfl) (stock_number_ok m _ hx7) (by kernel_rfl) (hasT 31 (by kernel_rfl)) ?_
        obtain ⟨hx8, h⟩ := h
        refine H_ask _ _ (by kernel_rfl) (ask_appV (P := Tryz.prog) (M := [rowV lvI64 1 ([] : List Int) 0 false, rowV lvI64 1 s151 v101 false]) (lv := lvI64) (s := 1) (b := 1) (e := s151) (e2 := [x6]) (ver := v101) (sT := 31) (xT := 31) (by_ := 8) okI64 (by kernel_rfl) (src_fixed (M := [rowV lvI64 1 ([] : List Int) 0 false, rowV lvI64 1 s151 v101 false]) okI64 leI64) (by kernel_rfl) (n := n101) hn101 hx8) ?_
        exact H_againP (st := _) ((IntKind.i64.wrap (s100 + 1)), (s151 ++ [x6])) ((vnext s151 [x6] v101), ((s151 ++ [x6]).length)) h rfl (by kernel_rfl) (by kernel_rfl) (by kernel_rfl) (by kernel_rfl) (by kernel_rfl)
      · replace h := h.f hc; clear hc
        refine H_leaveP (.exit 0) (by kernel_rfl) rfl ?_
        exact H_endX .ret (.tup [.own 1 n101 v101, .pd (.bool true)]) (.tup [.pd (.sl (s151.map elI64)), .pd (.bool true)]) ([rowV lvI64 1 ([] : List Int) 0 false, rowV lvI64 1 s151 v101 false]) (by kernel_rfl) rfl (by kernel_rfl) (by kernel_rfl) (pure_tup (pl_cons (pure_1to2 (pure1_own okI64 (by decide) lgI64 (M := [rowV lvI64 1 ([] : List Int) 0 false, rowV lvI64 1 s151 v101 false]) (b := 1) (o := rowV lvI64 1 s151 v101 false) (by kernel_rfl) (rowIs_v' (lv := lvI64) (s := 1) (e := s151) (ver := v101) (z := false)) (n := n101) hn101) rfl) (pl_cons rfl pl_nil))) (by subst h; rfl)

theorem stock_in_ok (m : Tp) (p0 : Int) (p1 : Int) (p2 : Int) {r : Bool} (h : stock_in p0 p1 p2 r) : ASpec Tryz.prog (gtT m) 18 [.pd (.int .i64 p0), .pd (.int .i64 p1), .pd (.int .i64 p2)] (· = .pd (.bool r)) := by
  refine ASpec_tree Tryz.f18 mixedT (askG [9, 10, 11] false) (by kernel_rfl) ?_
  unfold stock_in at h
  refine H_split (decide (p0 ≥ p1)) (by kernel_rfl) (fun hc => ?_) (fun hc => ?_)
  · replace h := h.t hc; clear hc
    refine H_split (decide (p0 ≤ p2)) (by kernel_rfl) (fun hc => ?_) (fun hc => ?_)
    · replace h := h.t hc; clear hc
      exact H_end .ret (.pd (.bool true)) (by kernel_rfl) rfl (by kernel_rfl) (by subst h; rfl)
    · replace h := h.f hc; clear hc
      exact H_end .ret (.pd (.bool false)) (by kernel_rfl) rfl (by kernel_rfl) (by subst h; rfl)
  · replace h := h.f hc; clear hc
    exact H_end .ret (.pd (.bool false)) (by kernel_rfl) rfl (by kernel_rfl) (by subst h; rfl)

theorem stock_item_ok (m : Tp) (p0 : Int) (p1 : Int) {r : Bool} (h : stock_item p0 p1 r) : ASpec Tryz.prog (gtT m) 19 [.agg [.pd (.int .i64 p0), .pd (.int .i64 p1)]] (· = .pd (.bool r)) := by
  refine ASpec_tree Tryz.f19 mixedT (askG [9, 10, 11] false) (by kernel_rfl) ?_
  unfold stock_item at h
  refine H_askK (.ptr 0 0 0) ([.cells [.pd (.int .i64 p0), .pd (.int .i64 p1)] 1 0 false]) (by kernel_rfl) ?_
  refine H_askK (.ptr 0 0 0) ([.cells [.pd (.int .i64 p0), .pd (.int .i64 p1)] 1 0 false]) (by kernel_rfl) ?_
  refine H_askK (.pd (.int .i64 p0)) ([.cells [.pd (.int .i64 p0), .pd (.int .i64 p1)] 1 0 false]) (by kernel_rfl) ?_
  obtain ⟨x1, hx2, h⟩ := h
  refine H_valW (g := 18) (args := [.pd (.int .i64 p0), .pd (.int .i64 1), .pd (.int .i64 1048576)]) (M := [.cells [.pd (.int .i64 p0), .pd (.int .i64 p1)] 1 0 false]) (.pd (.bool x1)) (.inl (by kernel_rfl)) (by kernel_rfl) (stock_in_ok m _ _ _ hx2) (by kernel_rfl) (hasT 18 (by kernel_rfl)) ?_
  cases x1
  · replace h := h.f rfl
    exact H_end .ret (.pd (.bool false)) (by kernel_rfl) rfl (by kernel_rfl) (by subst h; rfl)
  · replace h := h.t rfl
    refine H_askK (.ptr 0 1 0) ([.cells [.pd (.int .i64 p0), .pd (.int .i64 p1)] 1 0 false]) (by kernel_rfl) ?_
    refine H_askK (.pd (.int .i64 p1)) ([.cells [.pd (.int .i64 p0), .pd (.int .i64 p1)] 1 0 false]) (by kernel_rfl) ?_
    obtain ⟨x3, hx4, h⟩ := h
    refine H_valW (g := 18) (args := [.pd (.int .i64 p1), .pd (.int .i64 0), .pd (.int .i64 1024)]) (M := [.cells [.pd (.int .i64 p0), .pd (.int .i64 p1)] 1 0 false]) (.pd (.bool x3)) (.inl (by kernel_rfl)) (by kernel_rfl) (stock_in_ok m _ _ _ hx4) (by kernel_rfl) (hasT 18 (by kernel_rfl)) ?_
    cases x3
    · replace h := h.f rfl
      exact H_end .ret (.pd (.bool false)) (by kernel_rfl) rfl (by kernel_rfl) (by subst h; rfl)
    · replace h := h.t rfl
      exact H_end .ret (.pd (.bool true)) (by kernel_rfl) rfl (by kernel_rfl) (by subst h; rfl)

theorem stock_Parse_ok (m : Tp) (p0 : List UInt8) {r : Int × (List (Int × Int)) × Int × Int} (h : stock_Parse p0 r) : ASpec Tryz.prog (gtT m) 6 [.pd (.str p0)] (· = .tup [.agg [.pd (.int .i64 r.1), .pd (.sl (r.2.1.map elAI64I64Z))], .pd (.int .i64 r.2.2.1), .pd (.int .i64 r.2.2.2)]) := by
  refine ASpec_tree Tryz.f6 mixedT (askO [9, 10, 11] false [25]) (by kernel_rfl) ?_
  unfold stock_Parse at h
  refine H_allocL (t := 25) (M0 := []) (M1 := [rowV lvAI64I64Z 2 ([] : List (Int × Int)) 0 false]) (M2 := [rowV lvAI64I64Z 2 ([] : List (Int × Int)) 0 false, .cells [.pd (.int .i64 0), .own 0 (([] : List (Int × Int)).length) 0] 1 0 false]) [(1, 0)] [.pd (.int .i64 0), .own 0 (([] : List (Int × Int)).length) 0] (by kernel_rfl) (VStep.new [] 2) (by kernel_rfl) (by kernel_rfl) ?_
  obtain ⟨x1, x2, hx3, h⟩ := h
  refine H_valW (g := 16) (args := [.pd (.str p0)]) (M := [rowV lvAI64I64Z 2 ([] : List (Int × Int)) 0 false, .cells [.pd (.int .i64 0), .own 0 (([] : List (Int × Int)).length) 0] 1 0 false]) (.tup [.pd (.sl (x1.map elAI64LSZ)), .pd (.int .i64 x2)]) (.inl (by kernel_rfl)) (by kernel_rfl) (lines_All_ok m _ hx3) (by kernel_rfl) (hasT 16 (by kernel_rfl)) ?_
  refine H_split (x2 != (0 : Int)) (by kernel_rfl) (fun hc => ?_) (fun hc => ?_)
  · replace h := h.t hc; clear hc
    refine H_bldL (t := 25) (parts := []) (M0 := [rowV lvAI64I64Z 2 ([] : List (Int × Int)) 0 false, .cells [.pd (.int .i64 0), .own 0 (([] : List (Int × Int)).length) 0] 1 0 false]) (M1 := [rowV lvAI64I64Z 2 ([] : List (Int × Int)) 0 false, .cells [.pd (.int .i64 0), .own 0 (([] : List (Int × Int)).length) 0] 1 0 false]) [] (.agg [.pd (.int .i64 0), .fixed (([] : List (Int × Int)).map elAI64I64Z)]) (by kernel_rfl) (VStep.refl _) (by kernel_rfl) ?_
    refine H_askK (.junk) ([rowV lvAI64I64Z 2 ([] : List (Int × Int)) 0 false, .cells [.pd (.int .i64 0), .fixed (([] : List (Int × Int)).map elAI64I64Z)] 1 0 false]) (by kernel_rfl) ?_
    exact H_end .ret (.tup [.agg [.pd (.int .i64 0), .pd (.sl (([] : List (Int × Int)).map elAI64I64Z))], .pd (.int .i64 0), .pd (.int .i64 x2)]) (by kernel_rfl) rfl (by kernel_rfl) (by subst h; rfl)
  · replace h := h.f hc; clear hc
    refine H_ask _ _ (by kernel_rfl) (ask_len (P := Tryz.prog) (M := [rowV lvAI64I64Z 2 ([] : List (Int × Int)) 0 false, .cells [.pd (.int .i64 0), .own 0 (([] : List (Int × Int)).length) 0] 1 0 false]) (t := 42) (et := 47) (el := elAI64LSZ) (by kernel_rfl) (e := x1)) ?_
    refine H_split ((x1.length : Int) == (0 : Int)) (by kernel_rfl) (fun hc => ?_) (fun hc => ?_)
    · replace h := h.t hc; clear hc
      refine H_bldL (t := 25) (parts := []) (M0 := [rowV lvAI64I64Z 2 ([] : List (Int × Int)) 0 false, .cells [.pd (.int .i64 0), .own 0 (([] : List (Int × Int)).length) 0] 1 0 false]) (M1 := [rowV lvAI64I64Z 2 ([] : List (Int × Int)) 0 false, .cells [.pd (.int .i64 0), .own 0 (([] : List (Int × Int)).length) 0] 1 0 false]) [] (.agg [.pd (.int .i64 0), .fixed (([] : List (Int × Int)).map elAI64I64Z)]) (by kernel_rfl) (VStep.refl _) (by kernel_rfl) ?_
      refine H_askK (.junk) ([rowV lvAI64I64Z 2 ([] : List (Int × Int)) 0 false, .cells [.pd (.int .i64 0), .fixed (([] : List (Int × Int)).map elAI64I64Z)] 1 0 false]) (by kernel_rfl) ?_
      exact H_end .ret (.tup [.agg [.pd (.int .i64 0), .pd (.sl (([] : List (Int × Int)).map elAI64I64Z))], .pd (.int .i64 0), .pd (.int .i64 2)]) (by kernel_rfl) rfl (by kernel_rfl) (by subst h; rfl)
    · replace h := h.f hc; clear hc
      refine H_allocL (t := 25) (M0 := [rowV lvAI64I64Z 2 ([] : List (Int × Int)) 0 false, .cells [.pd (.int .i64 0), .own 0 (([] : List (Int × Int)).length) 0] 1 0 false]) (M1 := [rowV lvAI64I64Z 2 ([] : List (Int × Int)) 0 false, .cells [.pd (.int .i64 0), .own 0 (([] : List (Int × Int)).length) 0] 1 0 false, rowV lvAI64I64Z 2 ([] : List (Int × Int)) 0 false]) (M2 := [rowV lvAI64I64Z 2 ([] : List (Int × Int)) 0 false, .cells [.pd (.int .i64 0), .own 0 (([] : List (Int × Int)).length) 0] 1 0 false, rowV lvAI64I64Z 2 ([] : List (Int × Int)) 0 false, .cells [.pd (.int .i64 0), .own 2 (([] : List (Int × Int)).length) 0] 1 0 false]) [(1, 2)] [.pd (.int .i64 0), .own 2 (([] : List (Int × Int)).length) 0] (by kernel_rfl) (VStep.new [rowV lvAI64I64Z 2 ([] : List (Int × Int)) 0 false, .cells [.pd (.int .i64 0), .own 0 (([] : List (Int × Int)).length) 0] 1 0 false] 2) (by kernel_rfl) (by kernel_rfl) ?_
      refine H_ask _ _ (by kernel_rfl) (ask_len (P := Tryz.prog) (M := [rowV lvAI64I64Z 2 ([] : List (Int × Int)) 0 false, .cells [.pd (.int .i64 0), .own 0 (([] : List (Int × Int)).length) 0] 1 0 false, rowV lvAI64I64Z 2 ([] : List (Int × Int)) 0 false, .cells [.pd (.int .i64 0), .own 2 (([] : List (Int × Int)).length) 0] 1 0 false]) (t := 42) (et := 47) (el := elAI64LSZ) (by kernel_rfl) (e := x1)) ?_
      refine H_loopP (F := stock_Parse_L1 x1 r) (s0 := ((0 : Int), (0 : Int), ([] : List (Int × Int)))) h (0, (([] : List (Int × Int)).length)) 105 4
        (fun ((s100, s101, s152) : Int × Int × (List (Int × Int))) ((v102, n102) : Nat × Nat) => [(2, .ptr 1 0 0), (7, .ptr 3 0 0), (29, .pd (.sl (x1.map elAI64LSZ))), (30, .pd (.int .i64 (x1.length : Int))), (31, .pd (.int .i64 s100))])
        (fun ((s100, s101, s152) : Int × Int × (List (Int × Int))) ((v102, n102) : Nat × Nat) => [rowV lvAI64I64Z 2 ([] : List (Int × Int)) 0 false, .cells [.pd (.int .i64 0), .own 0 (([] : List (Int × Int)).length) 0] 1 0 false, rowV lvAI64I64Z 2 s152 v102 false, .cells [.pd (.int .i64 s101), .own 2 n102 v102] 1 0 false]) (fun ((s100, s101, s152) : Int × Int × (List (Int × Int))) ((v102, n102) : Nat × Nat) => n102 = s152.length) rfl [] mixedT (askO [9, 10, 11] false [25])
        (by kernel_rfl) (by kernel_rfl) (by kernel_rfl) (by kernel_rfl) (by kernel_rfl) (fun _ _ => rfl) ?_
      rintro X1 ⟨s100, s101, s152⟩ ⟨v102, n102⟩ hn102 h
      dsimp only [stock_Parse_L1] at h
      refine H_split (decide (s100 < (x1.length : Int))) (by kernel_rfl) (fun hc => ?_) (fun hc => ?_)
      · replace h := h.t hc; clear hc
        obtain ⟨x4, x5, hx6, h⟩ := h
        refine H_ask _ _ (by kernel_rfl) (ask_idx (P := Tryz.prog) (M := [rowV lvAI64I64Z 2 ([] : List (Int × Int)) 0 false, .cells [.pd (.int .i64 0), .own 0 (([] : List (Int × Int)).length) 0] 1 0 false, rowV lvAI64I64Z 2 s152 v102 false, .cells [.pd (.int .i64 s101), .own 2 n102 v102] 1 0 false]) (t := 42) (et := 47) (k := .i64) (lv := lvAI64LSZ) okAI64LSZ leAI64LSZ (by kernel_rfl) (by kernel_rfl) hx6) ?_
        refine H_askK (.agg [.pd (.int .i64 x4), .pd (.sl (x5.map elS))]) ([rowV lvAI64I64Z 2 ([] : List (Int × Int)) 0 false, .cells [.pd (.int .i64 0), .own 0 (([] : List (Int × Int)).length) 0] 1 0 false, rowV lvAI64I64Z 2 s152 v102 false, .cells [.pd (.int .i64 s101), .own 2 n102 v102] 1 0 false]) (by kernel_rfl) ?_
        refine H_askK (.junk) ([rowV lvAI64I64Z 2 ([] : List (Int × Int)) 0 false, .cells [.pd (.int .i64 0), .own 0 (([] : List (Int × Int)).length) 0] 1 0 false, rowV lvAI64I64Z 2 s152 v102 false, .cells [.pd (.int .i64 s101), .own 2 n102 v102] 1 0 false, .cells [.pd (.int .i64 x4), .pd (.sl (x5.map elS))] 1 0 false]) (by kernel_rfl) ?_
        refine H_split (s100 == (0 : Int)) (by kernel_rfl) (fun hc => ?_) (fun hc => ?_)
        · replace h := h.t hc; clear hc
          refine H_askK (.ptr 4 1 0) ([rowV lvAI64I64Z 2 ([] : List (Int × Int)) 0 false, .cells [.pd (.int .i64 0), .own 0 (([] : List (Int × Int)).length) 0] 1 0 false, rowV lvAI64I64Z 2 s152 v102 false, .cells [.pd (.int .i64 s101), .own 2 n102 v102] 1 0 false, .cells [.pd (.int .i64 x4), .pd (.sl (x5.map elS))] 1 0 false]) (by kernel_rfl) ?_
          refine H_askK (.pd (.sl (x5.map elS))) ([rowV lvAI64I64Z 2 ([] : List (Int × Int)) 0 false, .cells [.pd (.int .i64 0), .own 0 (([] : List (Int × Int)).length) 0] 1 0 false, rowV lvAI64I64Z 2 s152 v102 false, .cells [.pd (.int .i64 s101), .own 2 n102 v102] 1 0 false, .cells [.pd (.int .i64 x4), .pd (.sl (x5.map elS))] 1 0 false]) (by kernel_rfl) ?_
          obtain ⟨x7, x8, hx9, h⟩ := h
          refine H_valW (g := 17) (args := [.pd (.sl (x5.map elS)), .pd (.str ([114, 111, 108, 108] : List UInt8)), .pd (.int .i64 1)]) (M := [rowV lvAI64I64Z 2 ([] : List (Int × Int)) 0 false, .cells [.pd (.int .i64 0), .own 0 (([] : List (Int × Int)).length) 0] 1 0 false, rowV lvAI64I64Z 2 s152 v102 false, .cells [.pd (.int .i64 s101), .own 2 n102 v102] 1 0 false, .cells [.pd (.int .i64 x4), .pd (.sl (x5.map elS))] 1 0 false]) (.tup [.pd (.sl (x7.map elI64)), .pd (.bool x8)]) (.inl (by kernel_rfl)) (by kernel_rfl) (stock_line_ok m _ _ _ hx9) (by kernel_rfl) (hasT 17 (by kernel_rfl)) ?_
          cases x8
          · replace h := h.f rfl
            refine H_drawM [1, 2] [(1, (fun M => ∃ (Z1_1 : AV) (RR : Mem), M = ([rowV lvAI64I64Z 2 ([] : List (Int × Int)) 0 false, .cells [.pd (.int .i64 0), Z1_1] 1 0 false, rowV lvAI64I64Z 2 s152 v102 false, .cells [.pd (.int .i64 s101), .own 2 n102 v102] 1 0 false, .cells [.pd (.int .i64 x4), .pd (.sl (x5.map elS))] 1 0 false] : Mem) ++ RR)), (2, (fun M => ∃ (Z1_1 : AV) (RR : Mem), M = ([rowV lvAI64I64Z 2 ([] : List (Int × Int)) 0 false, .cells [.pd (.int .i64 0), Z1_1] 1 0 false, rowV lvAI64I64Z 2 s152 v102 false, .cells [.pd (.int .i64 s101), .own 2 n102 v102] 1 0 false, .cells [.pd (.int .i64 x4), .pd (.sl (x5.map elS))] 1 0 false] : Mem) ++ RR))] ([rowV lvAI64I64Z 2 ([] : List (Int × Int)) 0 false, .cells [.pd (.int .i64 0), .own 0 (([] : List (Int × Int)).length) 0] 1 0 false, rowV lvAI64I64Z 2 s152 v102 false, .cells [.pd (.int .i64 s101), .own 2 n102 v102] 1 0 false, .cells [.pd (.int .i64 x4), .pd (.sl (x5.map elS))] 1 0 false]) (by kernel_rfl) (by kernel_rfl) ⟨⟨.own 0 (([] : List (Int × Int)).length) 0, [], rfl⟩, ⟨.own 0 (([] : List (Int × Int)).length) 0, [], rfl⟩, trivial⟩ ?_
            refine H_askK (.agg [.pd (.int .i64 0), .fixed (([] : List (Int × Int)).map elAI64I64Z)]) ([rowV lvAI64I64Z 2 ([] : List (Int × Int)) 0 false, .cells [.pd (.int .i64 0), .own 0 (([] : List (Int × Int)).length) 0] 1 0 false, rowV lvAI64I64Z 2 s152 v102 false, .cells [.pd (.int .i64 s101), .own 2 n102 v102] 1 0 false, .cells [.pd (.int .i64 x4), .pd (.sl (x5.map elS))] 1 0 false]) (by kernel_rfl) ?_
            refine H_askM (fun M => ∃ (Z1_1 : AV) (RR : Mem), M = ([rowV lvAI64I64Z 2 ([] : List (Int × Int)) 0 false, .cells [.pd (.int .i64 0), Z1_1] 1 0 false, rowV lvAI64I64Z 2 s152 v102 false, .cells [.pd (.int .i64 s101), .own 2 n102 v102] 1 0 false, .cells [.pd (.int .i64 x4), .pd (.sl (x5.map elS))] 1 0 false] : Mem) ++ RR) (.ptr 4 0 0) (by kernel_rfl) (by kernel_rfl) (by rintro _ ⟨_, _, rfl⟩; kernel_rfl) ?_
            refine H_askM (fun M => ∃ (Z1_1 : AV) (RR : Mem), M = ([rowV lvAI64I64Z 2 ([] : List (Int × Int)) 0 false, .cells [.pd (.int .i64 0), Z1_1] 1 0 false, rowV lvAI64I64Z 2 s152 v102 false, .cells [.pd (.int .i64 s101), .own 2 n102 v102] 1 0 false, .cells [.pd (.int .i64 x4), .pd (.sl (x5.map elS))] 1 0 false] : Mem) ++ RR) (.pd (.int .i64 x4)) (by kernel_rfl) (by kernel_rfl) (by rintro _ ⟨_, _, rfl⟩; kernel_rfl) ?_
            refine H_askK (.junk) ([rowV lvAI64I64Z 2 ([] : List (Int × Int)) 0 false, .cells [.pd (.int .i64 0), .fixed (([] : List (Int × Int)).map elAI64I64Z)] 1 0 false, rowV lvAI64I64Z 2 s152 v102 false, .cells [.pd (.int .i64 s101), .own 2 n102 v102] 1 0 false, .cells [.pd (.int .i64 x4), .pd (.sl (x5.map elS))] 1 0 false]) (by kernel_rfl) ?_
            refine H_chk (p := (fun M => ∃ (Z1_1 : AV) (RR : Mem), M = ([rowV lvAI64I64Z 2 ([] : List (Int × Int)) 0 false, .cells [.pd (.int .i64 0), Z1_1] 1 0 false, rowV lvAI64I64Z 2 s152 v102 false, .cells [.pd (.int .i64 s101), .own 2 n102 v102] 1 0 false, .cells [.pd (.int .i64 x4), .pd (.sl (x5.map elS))] 1 0 false] : Mem) ++ RR) [rowV lvAI64I64Z 2 ([] : List (Int × Int)) 0 false, .cells [.pd (.int .i64 0), .fixed (([] : List (Int × Int)).map elAI64I64Z)] 1 0 false, rowV lvAI64I64Z 2 s152 v102 false, .cells [.pd (.int .i64 s101), .own 2 n102 v102] 1 0 false, .cells [.pd (.int .i64 x4), .pd (.sl (x5.map elS))] 1 0 false] ∧ (fun M => ∃ (Z1_1 : AV) (RR : Mem), M = ([rowV lvAI64I64Z 2 ([] : List (Int × Int)) 0 false, .cells [.pd (.int .i64 0), Z1_1] 1 0 false, rowV lvAI64I64Z 2 s152 v102 false, .cells [.pd (.int .i64 s101), .own 2 n102 v102] 1 0 false, .cells [.pd (.int .i64 x4), .pd (.sl (x5.map elS))] 1 0 false] : Mem) ++ RR) [rowV lvAI64I64Z 2 ([] : List (Int × Int)) 0 false, .cells [.pd (.int .i64 0), .fixed (([] : List (Int × Int)).map elAI64I64Z)] 1 0 false, rowV lvAI64I64Z 2 s152 v102 false, .cells [.pd (.int .i64 s101), .own 2 n102 v102] 1 0 false, .cells [.pd (.int .i64 x4), .pd (.sl (x5.map elS))] 1 0 false] ∧ True) (by kernel_rfl) (by kernel_rfl) ⟨⟨.fixed (([] : List (Int × Int)).map elAI64I64Z), [], rfl⟩, ⟨.fixed (([] : List (Int × Int)).map elAI64I64Z), [], rfl⟩, trivial⟩ ?_
            refine H_leaveP .ret (by kernel_rfl) rfl ?_
            exact H_end .ret (.tup [.agg [.pd (.int .i64 0), .pd (.sl (([] : List (Int × Int)).map elAI64I64Z))], .pd (.int .i64 x4), .pd (.int .i64 2)]) (by kernel_rfl) rfl (by kernel_rfl) (by subst h; rfl)
          · replace h := h.t rfl
            obtain ⟨x10, hx11, h⟩ := h
            refine H_ask _ _ (by kernel_rfl) (ask_idx (P := Tryz.prog) (M := [rowV lvAI64I64Z 2 ([] : List (Int × Int)) 0 false, .cells [.pd (.int .i64 0), .own 0 (([] : List (Int × Int)).length) 0] 1 0 false, rowV lvAI64I64Z 2 s152 v102 false, .cells [.pd (.int .i64 s101), .own 2 n102 v102] 1 0 false, .cells [.pd (.int .i64 x4), .pd (.sl (x5.map elS))] 1 0 false]) (t := 31) (et := 3) (k := .i64) (lv := lvI64) okI64 leI64 (by kernel_rfl) (by kernel_rfl) hx11) ?_
            refine H_askK (.pd (.int .i64 x10)) ([rowV lvAI64I64Z 2 ([] : List (Int × Int)) 0 false, .cells [.pd (.int .i64 0), .own 0 (([] : List (Int × Int)).length) 0] 1 0 false, rowV lvAI64I64Z 2 s152 v102 false, .cells [.pd (.int .i64 s101), .own 2 n102 v102] 1 0 false, .cells [.pd (.int .i64 x4), .pd (.sl (x5.map elS))] 1 0 false]) (by kernel_rfl) ?_
            obtain ⟨x12, hx13, h⟩ := h
            refine H_valW (g := 18) (args := [.pd (.int .i64 x10), .pd (.int .i64 1), .pd (.int .i64 1048576)]) (M := [rowV lvAI64I64Z 2 ([] : List (Int × Int)) 0 false, .cells [.pd (.int .i64 0), .own 0 (([] : List (Int × Int)).length) 0] 1 0 false, rowV lvAI64I64Z 2 s152 v102 false, .cells [.pd (.int .i64 s101), .own 2 n102 v102] 1 0 false, .cells [.pd (.int .i64 x4), .pd (.sl (x5.map elS))] 1 0 false]) (.pd (.bool x12)) (.inl (by kernel_rfl)) (by kernel_rfl) (stock_in_ok m _ _ _ hx13) (by kernel_rfl) (hasT 18 (by kernel_rfl)) ?_
            cases x12
            · replace h := h.f rfl
              refine H_drawM [1, 2] [(1, (fun M => ∃ (Z1_1 : AV) (RR : Mem), M = ([rowV lvAI64I64Z 2 ([] : List (Int × Int)) 0 false, .cells [.pd (.int .i64 0), Z1_1] 1 0 false, rowV lvAI64I64Z 2 s152 v102 false, .cells [.pd (.int .i64 s101), .own 2 n102 v102] 1 0 false, .cells [.pd (.int .i64 x4), .pd (.sl (x5.map elS))] 1 0 false] : Mem) ++ RR)), (2, (fun M => ∃ (Z1_1 : AV) (RR : Mem), M = ([rowV lvAI64I64Z 2 ([] : List (Int × Int)) 0 false, .cells [.pd (.int .i64 0), Z1_1] 1 0 false, rowV lvAI64I64Z 2 s152 v102 false, .cells [.pd (.int .i64 s101), .own 2 n102 v102] 1 0 false, .cells [.pd (.int .i64 x4), .pd (.sl (x5.map elS))] 1 0 false] : Mem) ++ RR))] ([rowV lvAI64I64Z 2 ([] : List (Int × Int)) 0 false, .cells [.pd (.int .i64 0), .own 0 (([] : List (Int × Int)).length) 0] 1 0 false, rowV lvAI64I64Z 2 s152 v102 false, .cells [.pd (.int .i64 s101), .own 2 n102 v102] 1 0 false, .cells [.pd (.int .i64 x4), .pd (.sl (x5.map elS))] 1 0 false]) (by kernel_rfl) (by kernel_rfl) ⟨⟨.own 0 (([] : List (Int × Int)).length) 0, [], rfl⟩, ⟨.own 0 (([] : List (Int × Int)).length) 0, [], rfl⟩, trivial⟩ ?_
              refine H_askK (.agg [.pd (.int .i64 0), .fixed (([] : List (Int × Int)).map elAI64I64Z)]) ([rowV lvAI64I64Z 2 ([] : List (Int × Int)) 0 false, .cells [.pd (.int .i64 0), .own 0 (([] : List (Int × Int)).length) 0] 1 0 false, rowV lvAI64I64Z 2 s152 v102 false, .cells [.pd (.int .i64 s101), .own 2 n102 v102] 1 0 false, .cells [.pd (.int .i64 x4), .pd (.sl (x5.map elS))] 1 0 false]) (by kernel_rfl) ?_
              refine H_askM (fun M => ∃ (Z1_1 : AV) (RR : Mem), M = ([rowV lvAI64I64Z 2 ([] : List (Int × Int)) 0 false, .cells [.pd (.int .i64 0), Z1_1] 1 0 false, rowV lvAI64I64Z 2 s152 v102 false, .cells [.pd (.int .i64 s101), .own 2 n102 v102] 1 0 false, .cells [.pd (.int .i64 x4), .pd (.sl (x5.map elS))] 1 0 false] : Mem) ++ RR) (.ptr 4 0 0) (by kernel_rfl) (by kernel_rfl) (by rintro _ ⟨_, _, rfl⟩; kernel_rfl) ?_
              refine H_askM (fun M => ∃ (Z1_1 : AV) (RR : Mem), M = ([rowV lvAI64I64Z 2 ([] : List (Int × Int)) 0 false, .cells [.pd (.int .i64 0), Z1_1] 1 0 false, rowV lvAI64I64Z 2 s152 v102 false, .cells [.pd (.int .i64 s101), .own 2 n102 v102] 1 0 false, .cells [.pd (.int .i64 x4), .pd (.sl (x5.map elS))] 1 0 false] : Mem) ++ RR) (.pd (.int .i64 x4)) (by kernel_rfl) (by kernel_rfl) (by rintro _ ⟨_, _, rfl⟩; kernel_rfl) ?_
              refine H_askK (.junk) ([rowV lvAI64I64Z 2 ([] : List (Int × Int)) 0 false, .cells [.pd (.int .i64 0), .fixed (([] : List (Int × Int)).map elAI64I64Z)] 1 0 false, rowV lvAI64I64Z 2 s152 v102 false, .cells [.pd (.int .i64 s101), .own 2 n102 v102] 1 0 false, .cells [.pd (.int .i64 x4), .pd (.sl (x5.map elS))] 1 0 false]) (by kernel_rfl) ?_
              refine H_chk (p := (fun M => ∃ (Z1_1 : AV) (RR : Mem), M = ([rowV lvAI64I64Z 2 ([] : List (Int × Int)) 0 false, .cells [.pd (.int .i64 0), Z1_1] 1 0 false, rowV lvAI64I64Z 2 s152 v102 false, .cells [.pd (.int .i64 s101), .own 2 n102 v102] 1 0 false, .cells [.pd (.int .i64 x4), .pd (.sl (x5.map elS))] 1 0 false] : Mem) ++ RR) [rowV lvAI64I64Z 2 ([] : List (Int × Int)) 0 false, .cells [.pd (.int .i64 0), .fixed (([] : List (Int × Int)).map elAI64I64Z)] 1 0 false, rowV lvAI64I64Z 2 s152 v102 false, .cells [.pd (.int .i64 s101), .own 2 n102 v102] 1 0 false, .cells [.pd (.int .i64 x4), .pd (.sl (x5.map elS))] 1 0 false] ∧ (fun M => ∃ (Z1_1 : AV) (RR : Mem), M = ([rowV lvAI64I64Z 2 ([] : List (Int × Int)) 0 false, .cells [.pd (.int .i64 0), Z1_1] 1 0 false, rowV lvAI64I64Z 2 s152 v102 false, .cells [.pd (.int .i64 s101), .own 2 n102 v102] 1 0 false, .cells [.pd (.int .i64 x4), .pd (.sl (x5.map elS))] 1 0 false] : Mem) ++ RR) [rowV lvAI64I64Z 2 ([] : List (Int × Int)) 0 false, .cells [.pd (.int .i64 0), .fixed (([] : List (Int × Int)).map elAI64I64Z)] 1 0 false, rowV lvAI64I64Z 2 s152 v102 false, .cells [.pd (.int .i64 s101), .own 2 n102 v102] 1 0 false, .cells [.pd (.int .i64 x4), .pd (.sl (x5.map elS))] 1 0 false] ∧ True) (by kernel_rfl) (by kernel_rfl) ⟨⟨.fixed (([] : List (Int × Int)).map elAI64I64Z), [], rfl⟩, ⟨.fixed (([] : List (Int × Int)).map elAI64I64Z), [], rfl⟩, trivial⟩ ?_
              refine H_leaveP .ret (by kernel_rfl) rfl ?_
              exact H_end .ret (.tup [.agg [.pd (.int .i64 0), .pd (.sl (([] : List (Int × Int)).map elAI64I64Z))], .pd (.int .i64 x4), .pd (.int .i64 2)]) (by kernel_rfl) rfl (by kernel_rfl) (by subst h; rfl)
            · replace h := h.t rfl
              obtain ⟨x14, hx15, h⟩ := h
              refine H_ask _ _ (by kernel_rfl) (ask_idx (P := Tryz.prog) (M := [rowV lvAI64I64Z 2 ([] : List (Int × Int)) 0 false, .cells [.pd (.int .i64 0), .own 0 (([] : List (Int × Int)).length) 0] 1 0 false, rowV lvAI64I64Z 2 s152 v102 false, .cells [.pd (.int .i64 s101), .own 2 n102 v102] 1 0 false, .cells [.pd (.int .i64 x4), .pd (.sl (x5.map elS))] 1 0 false]) (t := 31) (et := 3) (k := .i64) (lv := lvI64) okI64 leI64 (by kernel_rfl) (by kernel_rfl) hx15) ?_
              refine H_askK (.pd (.int .i64 x14)) ([rowV lvAI64I64Z 2 ([] : List (Int × Int)) 0 false, .cells [.pd (.int .i64 0), .own 0 (([] : List (Int × Int)).length) 0] 1 0 false, rowV lvAI64I64Z 2 s152 v102 false, .cells [.pd (.int .i64 s101), .own 2 n102 v102] 1 0 false, .cells [.pd (.int .i64 x4), .pd (.sl (x5.map elS))] 1 0 false]) (by kernel_rfl) ?_
              refine H_askK (.ptr 3 0 0) ([rowV lvAI64I64Z 2 ([] : List (Int × Int)) 0 false, .cells [.pd (.int .i64 0), .own 0 (([] : List (Int × Int)).length) 0] 1 0 false, rowV lvAI64I64Z 2 s152 v102 false, .cells [.pd (.int .i64 s101), .own 2 n102 v102] 1 0 false, .cells [.pd (.int .i64 x4), .pd (.sl (x5.map elS))] 1 0 false]) (by kernel_rfl) ?_
              refine H_askK (.junk) ([rowV lvAI64I64Z 2 ([] : List (Int × Int)) 0 false, .cells [.pd (.int .i64 0), .own 0 (([] : List (Int × Int)).length) 0] 1 0 false, rowV lvAI64I64Z 2 s152 v102 false, .cells [.pd (.int .i64 x14), .own 2 n102 v102] 1 0 false, .cells [.pd (.int .i64 x4), .pd (.sl (x5.map elS))] 1 0 false]) (by kernel_rfl) ?_
              exact H_againC (st := _) ((IntKind.i64.wrap (s100 + 1)), x14, s152) (v102, n102) h hn102 (by kernel_rfl) (by kernel_rfl) (by kernel_rfl) (by kernel_rfl) (by kernel_rfl) (by kernel_rfl) (all_c (bel_rowV _) (all_c (by kernel_rfl) (all_c (bel_rowV _) (all_c (by kernel_rfl) all_n)))) (by kernel_rfl) (by kernel_rfl)
        · replace h := h.f hc; clear hc
          refine H_askK (.ptr 4 1 0) ([rowV lvAI64I64Z 2 ([] : List (Int × Int)) 0 false, .cells [.pd (.int .i64 0), .own 0 (([] : List (Int × Int)).length) 0] 1 0 false, rowV lvAI64I64Z 2 s152 v102 false, .cells [.pd (.int .i64 s101), .own 2 n102 v102] 1 0 false, .cells [.pd (.int .i64 x4), .pd (.sl (x5.map elS))] 1 0 false]) (by kernel_rfl) ?_
          refine H_askK (.pd (.sl (x5.map elS))) ([rowV lvAI64I64Z 2 ([] : List (Int × Int)) 0 false, .cells [.pd (.int .i64 0), .own 0 (([] : List (Int × Int)).length) 0] 1 0 false, rowV lvAI64I64Z 2 s152 v102 false, .cells [.pd (.int .i64 s101), .own 2 n102 v102] 1 0 false, .cells [.pd (.int .i64 x4), .pd (.sl (x5.map elS))] 1 0 false]) (by kernel_rfl) ?_
          obtain ⟨x16, x17, hx18, h⟩ := h
          refine H_valW (g := 17) (args := [.pd (.sl (x5.map elS)), .pd (.str ([105, 116, 101, 109] : List UInt8)), .pd (.int .i64 2)]) (M := [rowV lvAI64I64Z 2 ([] : List (Int × Int)) 0 false, .cells [.pd (.int .i64 0), .own 0 (([] : List (Int × Int)).length) 0] 1 0 false, rowV lvAI64I64Z 2 s152 v102 false, .cells [.pd (.int .i64 s101), .own 2 n102 v102] 1 0 false, .cells [.pd (.int .i64 x4), .pd (.sl (x5.map elS))] 1 0 false]) (.tup [.pd (.sl (x16.map elI64)), .pd (.bool x17)]) (.inl (by kernel_rfl)) (by kernel_rfl) (stock_line_ok m _ _ _ hx18) (by kernel_rfl) (hasT 17 (by kernel_rfl)) ?_
          cases x17
          · replace h := h.f rfl
            refine H_draw (by kernel_rfl) ?_
            refine H_drawM [1, 2] [(1, (fun M => ∃ (Z1_1 : AV) (RR : Mem), M = ([rowV lvAI64I64Z 2 ([] : List (Int × Int)) 0 false, .cells [.pd (.int .i64 0), Z1_1] 1 0 false, rowV lvAI64I64Z 2 s152 v102 false, .cells [.pd (.int .i64 s101), .own 2 n102 v102] 1 0 false, .cells [.pd (.int .i64 x4), .pd (.sl (x5.map elS))] 1 0 false] : Mem) ++ RR)), (2, (fun M => ∃ (Z1_1 : AV) (RR : Mem), M = ([rowV lvAI64I64Z 2 ([] : List (Int × Int)) 0 false, .cells [.pd (.int .i64 0), Z1_1] 1 0 false, rowV lvAI64I64Z 2 s152 v102 false, .cells [.pd (.int .i64 s101), .own 2 n102 v102] 1 0 false, .cells [.pd (.int .i64 x4), .pd (.sl (x5.map elS))] 1 0 false] : Mem) ++ RR))] ([rowV lvAI64I64Z 2 ([] : List (Int × Int)) 0 false, .cells [.pd (.int .i64 0), .own 0 (([] : List (Int × Int)).length) 0] 1 0 false, rowV lvAI64I64Z 2 s152 v102 false, .cells [.pd (.int .i64 s101), .own 2 n102 v102] 1 0 false, .cells [.pd (.int .i64 x4), .pd (.sl (x5.map elS))] 1 0 false]) (by kernel_rfl) (by kernel_rfl) ⟨⟨.own 0 (([] : List (Int × Int)).length) 0, [], rfl⟩, ⟨.own 0 (([] : List (Int × Int)).length) 0, [], rfl⟩, trivial⟩ ?_
            refine H_askK (.agg [.pd (.int .i64 0), .fixed (([] : List (Int × Int)).map elAI64I64Z)]) ([rowV lvAI64I64Z 2 ([] : List (Int × Int)) 0 false, .cells [.pd (.int .i64 0), .own 0 (([] : List (Int × Int)).length) 0] 1 0 false, rowV lvAI64I64Z 2 s152 v102 false, .cells [.pd (.int .i64 s101), .own 2 n102 v102] 1 0 false, .cells [.pd (.int .i64 x4), .pd (.sl (x5.map elS))] 1 0 false]) (by kernel_rfl) ?_
            refine H_askM (fun M => ∃ (Z1_1 : AV) (RR : Mem), M = ([rowV lvAI64I64Z 2 ([] : List (Int × Int)) 0 false, .cells [.pd (.int .i64 0), Z1_1] 1 0 false, rowV lvAI64I64Z 2 s152 v102 false, .cells [.pd (.int .i64 s101), .own 2 n102 v102] 1 0 false, .cells [.pd (.int .i64 x4), .pd (.sl (x5.map elS))] 1 0 false] : Mem) ++ RR) (.ptr 4 0 0) (by kernel_rfl) (by kernel_rfl) (by rintro _ ⟨_, _, rfl⟩; kernel_rfl) ?_
            refine H_askM (fun M => ∃ (Z1_1 : AV) (RR : Mem), M = ([rowV lvAI64I64Z 2 ([] : List (Int × Int)) 0 false, .cells [.pd (.int .i64 0), Z1_1] 1 0 false, rowV lvAI64I64Z 2 s152 v102 false, .cells [.pd (.int .i64 s101), .own 2 n102 v102] 1 0 false, .cells [.pd (.int .i64 x4), .pd (.sl (x5.map elS))] 1 0 false] : Mem) ++ RR) (.pd (.int .i64 x4)) (by kernel_rfl) (by kernel_rfl) (by rintro _ ⟨_, _, rfl⟩; kernel_rfl) ?_
            refine H_askK (.junk) ([rowV lvAI64I64Z 2 ([] : List (Int × Int)) 0 false, .cells [.pd (.int .i64 0), .fixed (([] : List (Int × Int)).map elAI64I64Z)] 1 0 false, rowV lvAI64I64Z 2 s152 v102 false, .cells [.pd (.int .i64 s101), .own 2 n102 v102] 1 0 false, .cells [.pd (.int .i64 x4), .pd (.sl (x5.map elS))] 1 0 false]) (by kernel_rfl) ?_
            refine H_chk (p := (fun M => ∃ (Z1_1 : AV) (RR : Mem), M = ([rowV lvAI64I64Z 2 ([] : List (Int × Int)) 0 false, .cells [.pd (.int .i64 0), Z1_1] 1 0 false, rowV lvAI64I64Z 2 s152 v102 false, .cells [.pd (.int .i64 s101), .own 2 n102 v102] 1 0 false, .cells [.pd (.int .i64 x4), .pd (.sl (x5.map elS))] 1 0 false] : Mem) ++ RR) [rowV lvAI64I64Z 2 ([] : List (Int × Int)) 0 false, .cells [.pd (.int .i64 0), .fixed (([] : List (Int × Int)).map elAI64I64Z)] 1 0 false, rowV lvAI64I64Z 2 s152 v102 false, .cells [.pd (.int .i64 s101), .own 2 n102 v102] 1 0 false, .cells [.pd (.int .i64 x4), .pd (.sl (x5.map elS))] 1 0 false] ∧ (fun M => ∃ (Z1_1 : AV) (RR : Mem), M = ([rowV lvAI64I64Z 2 ([] : List (Int × Int)) 0 false, .cells [.pd (.int .i64 0), Z1_1] 1 0 false, rowV lvAI64I64Z 2 s152 v102 false, .cells [.pd (.int .i64 s101), .own 2 n102 v102] 1 0 false, .cells [.pd (.int .i64 x4), .pd (.sl (x5.map elS))] 1 0 false] : Mem) ++ RR) [rowV lvAI64I64Z 2 ([] : List (Int × Int)) 0 false, .cells [.pd (.int .i64 0), .fixed (([] : List (Int × Int)).map elAI64I64Z)] 1 0 false, rowV lvAI64I64Z 2 s152 v102 false, .cells [.pd (.int .i64 s101), .own 2 n102 v102] 1 0 false, .cells [.pd (.int .i64 x4), .pd (.sl (x5.map elS))] 1 0 false] ∧ True) (by kernel_rfl) (by kernel_rfl) ⟨⟨.fixed (([] : List (Int × Int)).map elAI64I64Z), [], rfl⟩, ⟨.fixed (([] : List (Int × Int)).map elAI64I64Z), [], rfl⟩, trivial⟩ ?_
            refine H_leaveP .ret (by kernel_rfl) rfl ?_
            exact H_end .ret (.tup [.agg [.pd (.int .i64 0), .pd (.sl (([] : List (Int × Int)).map elAI64I64Z))], .pd (.int .i64 x4), .pd (.int .i64 2)]) (by kernel_rfl) rfl (by kernel_rfl) (by subst h; rfl)
          · replace h := h.t rfl
            refine H_draw (by kernel_rfl) ?_
            obtain ⟨x19, hx20, h⟩ := h
            refine H_ask _ _ (by kernel_rfl) (ask_idx (P := Tryz.prog) (M := [rowV lvAI64I64Z 2 ([] : List (Int × Int)) 0 false, .cells [.pd (.int .i64 0), .own 0 (([] : List (Int × Int)).length) 0] 1 0 false, rowV lvAI64I64Z 2 s152 v102 false, .cells [.pd (.int .i64 s101), .own 2 n102 v102] 1 0 false, .cells [.pd (.int .i64 x4), .pd (.sl (x5.map elS))] 1 0 false]) (t := 31) (et := 3) (k := .i64) (lv := lvI64) okI64 leI64 (by kernel_rfl) (by kernel_rfl) hx20) ?_
            refine H_askK (.pd (.int .i64 x19)) ([rowV lvAI64I64Z 2 ([] : List (Int × Int)) 0 false, .cells [.pd (.int .i64 0), .own 0 (([] : List (Int × Int)).length) 0] 1 0 false, rowV lvAI64I64Z 2 s152 v102 false, .cells [.pd (.int .i64 s101), .own 2 n102 v102] 1 0 false, .cells [.pd (.int .i64 x4), .pd (.sl (x5.map elS))] 1 0 false]) (by kernel_rfl) ?_
            obtain ⟨x21, hx22, h⟩ := h
            refine H_ask _ _ (by kernel_rfl) (ask_idx (P := Tryz.prog) (M := [rowV lvAI64I64Z 2 ([] : List (Int × Int)) 0 false, .cells [.pd (.int .i64 0), .own 0 (([] : List (Int × Int)).length) 0] 1 0 false, rowV lvAI64I64Z 2 s152 v102 false, .cells [.pd (.int .i64 s101), .own 2 n102 v102] 1 0 false, .cells [.pd (.int .i64 x4), .pd (.sl (x5.map elS))] 1 0 false]) (t := 31) (et := 3) (k := .i64) (lv := lvI64) okI64 leI64 (by kernel_rfl) (by kernel_rfl) hx22) ?_
            refine H_askK (.pd (.int .i64 x21)) ([rowV lvAI64I64Z 2 ([] : List (Int × Int)) 0 false, .cells [.pd (.int .i64 0), .own 0 (([] : List (Int × Int)).length) 0] 1 0 false, rowV lvAI64I64Z 2 s152 v102 false, .cells [.pd (.int .i64 s101), .own 2 n102 v102] 1 0 false, .cells [.pd (.int .i64 x4), .pd (.sl (x5.map elS))] 1 0 false]) (by kernel_rfl) ?_
            refine H_askK (.agg [.pd (.int .i64 x19), .pd (.int .i64 x21)]) ([rowV lvAI64I64Z 2 ([] : List (Int × Int)) 0 false, .cells [.pd (.int .i64 0), .own 0 (([] : List (Int × Int)).length) 0] 1 0 false, rowV lvAI64I64Z 2 s152 v102 false, .cells [.pd (.int .i64 s101), .own 2 n102 v102] 1 0 false, .cells [.pd (.int .i64 x4), .pd (.sl (x5.map elS))] 1 0 false]) (by kernel_rfl) ?_
            obtain ⟨x23, hx24, h⟩ := h
            refine H_valW (g := 19) (args := [.agg [.pd (.int .i64 x19), .pd (.int .i64 x21)]]) (M := [rowV lvAI64I64Z 2 ([] : List (Int × Int)) 0 false, .cells [.pd (.int .i64 0), .own 0 (([] : List (Int × Int)).length) 0] 1 0 false, rowV lvAI64I64Z 2 s152 v102 false, .cells [.pd (.int .i64 s101), .own 2 n102 v102] 1 0 false, .cells [.pd (.int .i64 x4), .pd (.sl (x5.map elS))] 1 0 false]) (.pd (.bool x23)) (.inr (by kernel_rfl)) (by kernel_rfl) (stock_item_ok m _ _ hx24) (by kernel_rfl) (hasT 19 (by kernel_rfl)) ?_
            cases x23
            · replace h := h.f rfl
              refine H_drawM [1, 2] [(1, (fun M => ∃ (Z1_1 : AV) (RR : Mem), M = ([rowV lvAI64I64Z 2 ([] : List (Int × Int)) 0 false, .cells [.pd (.int .i64 0), Z1_1] 1 0 false, rowV lvAI64I64Z 2 s152 v102 false, .cells [.pd (.int .i64 s101), .own 2 n102 v102] 1 0 false, .cells [.pd (.int .i64 x4), .pd (.sl (x5.map elS))] 1 0 false] : Mem) ++ RR)), (2, (fun M => ∃ (Z1_1 : AV) (RR : Mem), M = ([rowV lvAI64I64Z 2 ([] : List (Int × Int)) 0 false, .cells [.pd (.int .i64 0), Z1_1] 1 0 false, rowV lvAI64I64Z 2 s152 v102 false, .cells [.pd (.int .i64 s101), .own 2 n102 v102] 1 0 false, .cells [.pd (.int .i64 x4), .pd (.sl (x5.map elS))] 1 0 false] : Mem) ++ RR))] ([rowV lvAI64I64Z 2 ([] : List (Int × Int)) 0 false, .cells [.pd (.int .i64 0), .own 0 (([] : List (Int × Int)).length) 0] 1 0 false, rowV lvAI64I64Z 2 s152 v102 false, .cells [.pd (.int .i64 s101), .own 2 n102 v102] 1 0 false, .cells [.pd (.int .i64 x4), .pd (.sl (x5.map elS))] 1 0 false]) (by kernel_rfl) (by kernel_rfl) ⟨⟨.own 0 (([] : List (Int × Int)).length) 0, [], rfl⟩, ⟨.own 0 (([] : List (Int × Int)).length) 0, [], rfl⟩, trivial⟩ ?_
              refine H_askK (.agg [.pd (.int .i64 0), .fixed (([] : List (Int × Int)).map elAI64I64Z)]) ([rowV lvAI64I64Z 2 ([] : List (Int × Int)) 0 false, .cells [.pd (.int .i64 0), .own 0 (([] : List (Int × Int)).length) 0] 1 0 false, rowV lvAI64I64Z 2 s152 v102 false, .cells [.pd (.int .i64 s101), .own 2 n102 v102] 1 0 false, .cells [.pd (.int .i64 x4), .pd (.sl (x5.map elS))] 1 0 false]) (by kernel_rfl) ?_
              refine H_askM (fun M => ∃ (Z1_1 : AV) (RR : Mem), M = ([rowV lvAI64I64Z 2 ([] : List (Int × Int)) 0 false, .cells [.pd (.int .i64 0), Z1_1] 1 0 false, rowV lvAI64I64Z 2 s152 v102 false, .cells [.pd (.int .i64 s101), .own 2 n102 v102] 1 0 false, .cells [.pd (.int .i64 x4), .pd (.sl (x5.map elS))] 1 0 false] : Mem) ++ RR) (.ptr 4 0 0) (by kernel_rfl) (by kernel_rfl) (by rintro _ ⟨_, _, rfl⟩; kernel_rfl) ?_
              refine H_askM (fun M => ∃ (Z1_1 : AV) (RR : Mem), M = ([rowV lvAI64I64Z 2 ([] : List (Int × Int)) 0 false, .cells [.pd (.int .i64 0), Z1_1] 1 0 false, rowV lvAI64I64Z 2 s152 v102 false, .cells [.pd (.int .i64 s101), .own 2 n102 v102] 1 0 false, .cells [.pd (.int .i64 x4), .pd (.sl (x5.map elS))] 1 0 false] : Mem) ++ RR) (.pd (.int .i64 x4)) (by kernel_rfl) (by kernel_rfl) (by rintro _ ⟨_, _, rfl⟩; kernel_rfl) ?_
              refine H_askK (.junk) ([rowV lvAI64I64Z 2 ([] : List (Int × Int)) 0 false, .cells [.pd (.int .i64 0), .fixed (([] : List (Int × Int)).map elAI64I64Z)] 1 0 false, rowV lvAI64I64Z 2 s152 v102 false, .cells [.pd (.int .i64 s101), .own 2 n102 v102] 1 0 false, .cells [.pd (.int .i64 x4), .pd (.sl (x5.map elS))] 1 0 false]) (by kernel_rfl) ?_
              refine H_chk (p := (fun M => ∃ (Z1_1 : AV) (RR : Mem), M = ([rowV lvAI64I64Z 2 ([] : List (Int × Int)) 0 false, .cells [.pd (.int .i64 0), Z1_1] 1 0 false, rowV lvAI64I64Z 2 s152 v102 false, .cells [.pd (.int .i64 s101), .own 2 n102 v102] 1 0 false, .cells [.pd (.int .i64 x4), .pd (.sl (x5.map elS))] 1 0 false] : Mem) ++ RR) [rowV lvAI64I64Z 2 ([] : List (Int × Int)) 0 false, .cells [.pd (.int .i64 0), .fixed (([] : List (Int × Int)).map elAI64I64Z)] 1 0 false, rowV lvAI64I64Z 2 s152 v102 false, .cells [.pd (.int .i64 s101), .own 2 n102 v102] 1 0 false, .cells [.pd (.int .i64 x4), .pd (.sl (x5.map elS))] 1 0 false] ∧ (fun M => ∃ (Z1_1 : AV) (RR : Mem), M = ([rowV lvAI64I64Z 2 ([] : List (Int × Int)) 0 false, .cells [.pd (.int .i64 0), Z1_1] 1 0 false, rowV lvAI64I64Z 2 s152 v102 false, .cells [.pd (.int .i64 s101), .own 2 n102 v102] 1 0 false, .cells [.pd (.int .i64 x4), .pd (.sl (x5.map elS))] 1 0 false] : Mem) ++ RR) [rowV lvAI64I64Z 2 ([] : List (Int × Int)) 0 false, .cells [.pd (.int .i64 0), .fixed (([] : List (Int × Int)).map elAI64I64Z)] 1 0 false, rowV lvAI64I64Z 2 s152 v102 false, .cells [.pd (.int .i64 s101), .own 2 n102 v102] 1 0 false, .cells [.pd (.int .i64 x4), .pd (.sl (x5.map elS))] 1 0 false] ∧ True) (by kernel_rfl) (by kernel_rfl) ⟨⟨.fixed (([] : List (Int × Int)).map elAI64I64Z), [], rfl⟩, ⟨.fixed (([] : List (Int × Int)).map elAI64I64Z), [], rfl⟩, trivial⟩ ?_
              refine H_leaveP .ret (by kernel_rfl) rfl ?_
              exact H_end .ret (.tup [.agg [.pd (.int .i64 0), .pd (.sl (([] : List (Int × Int)).map elAI64I64Z))], .pd (.int .i64 x4), .pd (.int .i64 2)]) (by kernel_rfl) rfl (by kernel_rfl) (by subst h; rfl)
            · replace h := h.t rfl
              refine H_askK (.ptr 3 1 0) ([rowV lvAI64I64Z 2 ([] : List (Int × Int)) 0 false, .cells [.pd (.int .i64 0), .own 0 (([] : List (Int × Int)).length) 0] 1 0 false, rowV lvAI64I64Z 2 s152 v102 false, .cells [.pd (.int .i64 s101), .own 2 n102 v102] 1 0 false, .cells [.pd (.int .i64 x4), .pd (.sl (x5.map elS))] 1 0 false]) (by kernel_rfl) ?_
              refine H_askK (.own 2 n102 v102) ([rowV lvAI64I64Z 2 ([] : List (Int × Int)) 0 false, .cells [.pd (.int .i64 0), .own 0 (([] : List (Int × Int)).length) 0] 1 0 false, rowV lvAI64I64Z 2 s152 v102 false, .cells [.pd (.int .i64 s101), .own 2 n102 v102] 1 0 false, .cells [.pd (.int .i64 x4), .pd (.sl (x5.map elS))] 1 0 false]) (by kernel_rfl) ?_
              refine H_ask _ _ (by kernel_rfl) (ask_olen (P := Tryz.prog) (M := [rowV lvAI64I64Z 2 ([] : List (Int × Int)) 0 false, .cells [.pd (.int .i64 0), .own 0 (([] : List (Int × Int)).length) 0] 1 0 false, rowV lvAI64I64Z 2 s152 v102 false, .cells [.pd (.int .i64 s101), .own 2 n102 v102] 1 0 false, .cells [.pd (.int .i64 x4), .pd (.sl (x5.map elS))] 1 0 false]) (t := 23) (et := 53) (lv := lvAI64I64Z) (e := s152) (b := 2) (n := n102) (by kernel_rfl) (by kernel_rfl) (rowIs_v' (lv := lvAI64I64Z) (s := 2) (e := s152) (ver := v102) (z := false)) hn102) ?_
              refine H_split ((s152.length : Int) == (60 : Int)) (by kernel_rfl) (fun hc => ?_) (fun hc => ?_)
              · replace h := h.t hc; clear hc
                refine H_drawM [1, 2] [(1, (fun M => ∃ (Z1_1 : AV) (RR : Mem), M = ([rowV lvAI64I64Z 2 ([] : List (Int × Int)) 0 false, .cells [.pd (.int .i64 0), Z1_1] 1 0 false, rowV lvAI64I64Z 2 s152 v102 false, .cells [.pd (.int .i64 s101), .own 2 n102 v102] 1 0 false, .cells [.pd (.int .i64 x4), .pd (.sl (x5.map elS))] 1 0 false] : Mem) ++ RR)), (2, (fun M => ∃ (Z1_1 : AV) (RR : Mem), M = ([rowV lvAI64I64Z 2 ([] : List (Int × Int)) 0 false, .cells [.pd (.int .i64 0), Z1_1] 1 0 false, rowV lvAI64I64Z 2 s152 v102 false, .cells [.pd (.int .i64 s101), .own 2 n102 v102] 1 0 false, .cells [.pd (.int .i64 x4), .pd (.sl (x5.map elS))] 1 0 false] : Mem) ++ RR))] ([rowV lvAI64I64Z 2 ([] : List (Int × Int)) 0 false, .cells [.pd (.int .i64 0), .own 0 (([] : List (Int × Int)).length) 0] 1 0 false, rowV lvAI64I64Z 2 s152 v102 false, .cells [.pd (.int .i64 s101), .own 2 n102 v102] 1 0 false, .cells [.pd (.int .i64 x4), .pd (.sl (x5.map elS))] 1 0 false]) (by kernel_rfl) (by kernel_rfl) ⟨⟨.own 0 (([] : List (Int × Int)).length) 0, [], rfl⟩, ⟨.own 0 (([] : List (Int × Int)).length) 0, [], rfl⟩, trivial⟩ ?_
                refine H_askK (.agg [.pd (.int .i64 0), .fixed (([] : List (Int × Int)).map elAI64I64Z)]) ([rowV lvAI64I64Z 2 ([] : List (Int × Int)) 0 false, .cells [.pd (.int .i64 0), .own 0 (([] : List (Int × Int)).length) 0] 1 0 false, rowV lvAI64I64Z 2 s152 v102 false, .cells [.pd (.int .i64 s101), .own 2 n102 v102] 1 0 false, .cells [.pd (.int .i64 x4), .pd (.sl (x5.map elS))] 1 0 false]) (by kernel_rfl) ?_
                refine H_askM (fun M => ∃ (Z1_1 : AV) (RR : Mem), M = ([rowV lvAI64I64Z 2 ([] : List (Int × Int)) 0 false, .cells [.pd (.int .i64 0), Z1_1] 1 0 false, rowV lvAI64I64Z 2 s152 v102 false, .cells [.pd (.int .i64 s101), .own 2 n102 v102] 1 0 false, .cells [.pd (.int .i64 x4), .pd (.sl (x5.map elS))] 1 0 false] : Mem) ++ RR) (.ptr 4 0 0) (by kernel_rfl) (by kernel_rfl) (by rintro _ ⟨_, _, rfl⟩; kernel_rfl) ?_
                refine H_askM (fun M => ∃ (Z1_1 : AV) (RR : Mem), M = ([rowV lvAI64I64Z 2 ([] : List (Int × Int)) 0 false, .cells [.pd (.int .i64 0), Z1_1] 1 0 false, rowV lvAI64I64Z 2 s152 v102 false, .cells [.pd (.int .i64 s101), .own 2 n102 v102] 1 0 false, .cells [.pd (.int .i64 x4), .pd (.sl (x5.map elS))] 1 0 false] : Mem) ++ RR) (.pd (.int .i64 x4)) (by kernel_rfl) (by kernel_rfl) (by rintro _ ⟨_, _, rfl⟩; kernel_rfl) ?_
                refine H_askK (.junk) ([rowV lvAI64I64Z 2 ([] : List (Int × Int)) 0 false, .cells [.pd (.int .i64 0), .fixed (([] : List (Int × Int)).map elAI64I64Z)] 1 0 false, rowV lvAI64I64Z 2 s152 v102 false, .cells [.pd (.int .i64 s101), .own 2 n102 v102] 1 0 false, .cells [.pd (.int .i64 x4), .pd (.sl (x5.map elS))] 1 0 false]) (by kernel_rfl) ?_
                refine H_chk (p := (fun M => ∃ (Z1_1 : AV) (RR : Mem), M = ([rowV lvAI64I64Z 2 ([] : List (Int × Int)) 0 false, .cells [.pd (.int .i64 0), Z1_1] 1 0 false, rowV lvAI64I64Z 2 s152 v102 false, .cells [.pd (.int .i64 s101), .own 2 n102 v102] 1 0 false, .cells [.pd (.int .i64 x4), .pd (.sl (x5.map elS))] 1 0 false] : Mem) ++ RR) [rowV lvAI64I64Z 2 ([] : List (Int × Int)) 0 false, .cells [.pd (.int .i64 0), .fixed (([] : List (Int × Int)).map elAI64I64Z)] 1 0 false, rowV lvAI64I64Z 2 s152 v102 false, .cells [.pd (.int .i64 s101), .own 2 n102 v102] 1 0 false, .cells [.pd (.int .i64 x4), .pd (.sl (x5.map elS))] 1 0 false] ∧ (fun M => ∃ (Z1_1 : AV) (RR : Mem), M = ([rowV lvAI64I64Z 2 ([] : List (Int × Int)) 0 false, .cells [.pd (.int .i64 0), Z1_1] 1 0 false, rowV lvAI64I64Z 2 s152 v102 false, .cells [.pd (.int .i64 s101), .own 2 n102 v102] 1 0 false, .cells [.pd (.int .i64 x4), .pd (.sl (x5.map elS))] 1 0 false] : Mem) ++ RR) [rowV lvAI64I64Z 2 ([] : List (Int × Int)) 0 false, .cells [.pd (.int .i64 0), .fixed (([] : List (Int × Int)).map elAI64I64Z)] 1 0 false, rowV lvAI64I64Z 2 s152 v102 false, .cells [.pd (.int .i64 s101), .own 2 n102 v102] 1 0 false, .cells [.pd (.int .i64 x4), .pd (.sl (x5.map elS))] 1 0 false] ∧ True) (by kernel_rfl) (by kernel_rfl) ⟨⟨.fixed (([] : List (Int × Int)).map elAI64I64Z), [], rfl⟩, ⟨.fixed (([] : List (Int × Int)).map elAI64I64Z), [], rfl⟩, trivial⟩ ?_
                refine H_leaveP .ret (by kernel_rfl) rfl ?_
                exact H_end .ret (.tup [.agg [.pd (.int .i64 0), .pd (.sl (([] : List (Int × Int)).map elAI64I64Z))], .pd (.int .i64 x4), .pd (.int .i64 4)]) (by kernel_rfl) rfl (by kernel_rfl) (by subst h; rfl)
              · replace h := h.f hc; clear hc
                refine H_draw (by kernel_rfl) ?_
                refine H_askK (.ptr 3 1 0) ([rowV lvAI64I64Z 2 ([] : List (Int × Int)) 0 false, .cells [.pd (.int .i64 0), .own 0 (([] : List (Int × Int)).length) 0] 1 0 false, rowV lvAI64I64Z 2 s152 v102 false, .cells [.pd (.int .i64 s101), .own 2 n102 v102] 1 0 false, .cells [.pd (.int .i64 x4), .pd (.sl (x5.map elS))] 1 0 false]) (by kernel_rfl) ?_
                refine H_askK (.own 2 n102 v102) ([rowV lvAI64I64Z 2 ([] : List (Int × Int)) 0 false, .cells [.pd (.int .i64 0), .own 0 (([] : List (Int × Int)).length) 0] 1 0 false, rowV lvAI64I64Z 2 s152 v102 false, .cells [.pd (.int .i64 s101), .own 2 n102 v102] 1 0 false, .cells [.pd (.int .i64 x4), .pd (.sl (x5.map elS))] 1 0 false]) (by kernel_rfl) ?_
                obtain ⟨x25, hx26, h⟩ := h
                refine H_ask _ _ (by kernel_rfl) (ask_idx (P := Tryz.prog) (M := [rowV lvAI64I64Z 2 ([] : List (Int × Int)) 0 false, .cells [.pd (.int .i64 0), .own 0 (([] : List (Int × Int)).length) 0] 1 0 false, rowV lvAI64I64Z 2 s152 v102 false, .cells [.pd (.int .i64 s101), .own 2 n102 v102] 1 0 false, .cells [.pd (.int .i64 x4), .pd (.sl (x5.map elS))] 1 0 false]) (t := 31) (et := 3) (k := .i64) (lv := lvI64) okI64 leI64 (by kernel_rfl) (by kernel_rfl) hx26) ?_
                refine H_askK (.pd (.int .i64 x25)) ([rowV lvAI64I64Z 2 ([] : List (Int × Int)) 0 false, .cells [.pd (.int .i64 0), .own 0 (([] : List (Int × Int)).length) 0] 1 0 false, rowV lvAI64I64Z 2 s152 v102 false, .cells [.pd (.int .i64 s101), .own 2 n102 v102] 1 0 false, .cells [.pd (.int .i64 x4), .pd (.sl (x5.map elS))] 1 0 false]) (by kernel_rfl) ?_
                obtain ⟨x27, hx28, h⟩ := h
                refine H_ask _ _ (by kernel_rfl) (ask_idx (P := Tryz.prog) (M := [rowV lvAI64I64Z 2 ([] : List (Int × Int)) 0 false, .cells [.pd (.int .i64 0), .own 0 (([] : List (Int × Int)).length) 0] 1 0 false, rowV lvAI64I64Z 2 s152 v102 false, .cells [.pd (.int .i64 s101), .own 2 n102 v102] 1 0 false, .cells [.pd (.int .i64 x4), .pd (.sl (x5.map elS))] 1 0 false]) (t := 31) (et := 3) (k := .i64) (lv := lvI64) okI64 leI64 (by kernel_rfl) (by kernel_rfl) hx28) ?_
                refine H_askK (.pd (.int .i64 x27)) ([rowV lvAI64I64Z 2 ([] : List (Int × Int)) 0 false, .cells [.pd (.int .i64 0), .own 0 (([] : List (Int × Int)).length) 0] 1 0 false, rowV lvAI64I64Z 2 s152 v102 false, .cells [.pd (.int .i64 s101), .own 2 n102 v102] 1 0 false, .cells [.pd (.int .i64 x4), .pd (.sl (x5.map elS))] 1 0 false]) (by kernel_rfl) ?_
                refine H_askK (.agg [.pd (.int .i64 x25), .pd (.int .i64 x27)]) ([rowV lvAI64I64Z 2 ([] : List (Int × Int)) 0 false, .cells [.pd (.int .i64 0), .own 0 (([] : List (Int × Int)).length) 0] 1 0 false, rowV lvAI64I64Z 2 s152 v102 false, .cells [.pd (.int .i64 s101), .own 2 n102 v102] 1 0 false, .cells [.pd (.int .i64 x4), .pd (.sl (x5.map elS))] 1 0 false]) (by kernel_rfl) ?_
                obtain ⟨hx29, h⟩ := h
                refine H_ask _ _ (by kernel_rfl) (ask_appV (P := Tryz.prog) (M := [rowV lvAI64I64Z 2 ([] : List (Int × Int)) 0 false, .cells [.pd (.int .i64 0), .own 0 (([] : List (Int × Int)).length) 0] 1 0 false, rowV lvAI64I64Z 2 s152 v102 false, .cells [.pd (.int .i64 s101), .own 2 n102 v102] 1 0 false, .cells [.pd (.int .i64 x4), .pd (.sl (x5.map elS))] 1 0 false]) (lv := lvAI64I64Z) (s := 2) (b := 2) (e := s152) (e2 := [(x25, x27)]) (ver := v102) (sT := 23) (xT := 23) (by_ := 16) okAI64I64Z (by kernel_rfl) (src_fixed (M := [rowV lvAI64I64Z 2 ([] : List (Int × Int)) 0 false, .cells [.pd (.int .i64 0), .own 0 (([] : List (Int × Int)).length) 0] 1 0 false, rowV lvAI64I64Z 2 s152 v102 false, .cells [.pd (.int .i64 s101), .own 2 n102 v102] 1 0 false, .cells [.pd (.int .i64 x4), .pd (.sl (x5.map elS))] 1 0 false]) okAI64I64Z leAI64I64Z) (by kernel_rfl) (n := n102) hn102 hx29) ?_
                refine H_askK (.ptr 3 1 0) ([rowV lvAI64I64Z 2 ([] : List (Int × Int)) 0 false, .cells [.pd (.int .i64 0), .own 0 (([] : List (Int × Int)).length) 0] 1 0 false, rowV lvAI64I64Z 2 (s152 ++ [(x25, x27)]) (vnext s152 [(x25, x27)] v102) false, .cells [.pd (.int .i64 s101), .own 2 n102 v102] 1 0 false, .cells [.pd (.int .i64 x4), .pd (.sl (x5.map elS))] 1 0 false]) (by kernel_rfl) ?_
                refine H_ask _ _ (by kernel_rfl) (ask_storeC (P := Tryz.prog) (M := [rowV lvAI64I64Z 2 ([] : List (Int × Int)) 0 false, .cells [.pd (.int .i64 0), .own 0 (([] : List (Int × Int)).length) 0] 1 0 false, rowV lvAI64I64Z 2 (s152 ++ [(x25, x27)]) (vnext s152 [(x25, x27)] v102) false, .cells [.pd (.int .i64 s101), .own 2 n102 v102] 1 0 false, .cells [.pd (.int .i64 x4), .pd (.sl (x5.map elS))] 1 0 false]) (M2 := [rowV lvAI64I64Z 2 ([] : List (Int × Int)) 0 false, .cells [.pd (.int .i64 0), .own 0 (([] : List (Int × Int)).length) 0] 1 0 false, rowV lvAI64I64Z 2 (s152 ++ [(x25, x27)]) (vnext s152 [(x25, x27)] v102) false, .cells [.pd (.int .i64 s101), .own 2 ((s152 ++ [(x25, x27)]).length) (vnext s152 [(x25, x27)] v102)] 1 0 false, .cells [.pd (.int .i64 x4), .pd (.sl (x5.map elS))] 1 0 false]) (t := 23) (b := 3) (off := 1) (v := 0) (n := 1) (s := 1) (l := [.pd (.int .i64 s101), .own 2 n102 v102]) (xs := [.own 2 ((s152 ++ [(x25, x27)]).length) (vnext s152 [(x25, x27)] v102)]) (x := .own 2 ((s152 ++ [(x25, x27)]).length) (vnext s152 [(x25, x27)] v102)) (by kernel_rfl) (by kernel_rfl) rfl (by kernel_rfl) (all_c (ok_own (o := rowV lvAI64I64Z 2 (s152 ++ [(x25, x27)]) (vnext s152 [(x25, x27)] v102) false) (by kernel_rfl) (rowIs_v' (lv := lvAI64I64Z) (s := 2) (e := (s152 ++ [(x25, x27)])) (ver := (vnext s152 [(x25, x27)] v102)) (z := false))) all_n) rfl) ?_
                exact H_againC (st := _) ((IntKind.i64.wrap (s100 + 1)), s101, (s152 ++ [(x25, x27)])) ((vnext s152 [(x25, x27)] v102), ((s152 ++ [(x25, x27)]).length)) h rfl (by kernel_rfl) (by kernel_rfl) (by kernel_rfl) (by kernel_rfl) (by kernel_rfl) (by kernel_rfl) (all_c (bel_rowV _) (all_c (by kernel_rfl) (all_c (bel_rowV _) (all_c (by kernel_rfl) all_n)))) (by kernel_rfl) (by kernel_rfl)
      · replace h := h.f hc; clear hc
        refine H_leaveP (.exit 1) (by kernel_rfl) rfl ?_
        refine H_askK (.agg [.pd (.int .i64 s101), .own 2 n102 v102]) ([rowV lvAI64I64Z 2 ([] : List (Int × Int)) 0 false, .cells [.pd (.int .i64 0), .own 0 (([] : List (Int × Int)).length) 0] 1 0 false, rowV lvAI64I64Z 2 s152 v102 false, .cells [.pd (.int .i64 s101), .own 2 n102 v102] 1 0 false]) (by kernel_rfl) ?_
        refine H_ask _ _ (by kernel_rfl) (ask_storeC (P := Tryz.prog) (M := [rowV lvAI64I64Z 2 ([] : List (Int × Int)) 0 false, .cells [.pd (.int .i64 0), .own 0 (([] : List (Int × Int)).length) 0] 1 0 false, rowV lvAI64I64Z 2 s152 v102 false, .cells [.pd (.int .i64 s101), .own 2 n102 v102] 1 0 false]) (M2 := [rowV lvAI64I64Z 2 ([] : List (Int × Int)) 0 false, .cells [.pd (.int .i64 s101), .own 2 n102 v102] 1 0 false, rowV lvAI64I64Z 2 s152 v102 false, .cells [.pd (.int .i64 s101), .own 2 n102 v102] 1 0 false]) (t := 25) (b := 1) (off := 0) (v := 0) (n := 2) (s := 1) (l := [.pd (.int .i64 0), .own 0 (([] : List (Int × Int)).length) 0]) (xs := [.pd (.int .i64 s101), .own 2 n102 v102]) (x := .agg [.pd (.int .i64 s101), .own 2 n102 v102]) (by kernel_rfl) (by kernel_rfl) rfl (by kernel_rfl) (all_c (by kernel_rfl) (all_c (ok_own (o := rowV lvAI64I64Z 2 s152 v102 false) (by kernel_rfl) (rowIs_v' (lv := lvAI64I64Z) (s := 2) (e := s152) (ver := v102) (z := false))) all_n)) rfl) ?_
        exact H_endX .ret (.tup [.agg [.pd (.int .i64 s101), .own 2 n102 v102], .pd (.int .i64 0), .pd (.int .i64 0)]) (.tup [.agg [.pd (.int .i64 s101), .pd (.sl (s152.map elAI64I64Z))], .pd (.int .i64 0), .pd (.int .i64 0)]) ([rowV lvAI64I64Z 2 ([] : List (Int × Int)) 0 false, .cells [.pd (.int .i64 s101), .own 2 n102 v102] 1 0 false, rowV lvAI64I64Z 2 s152 v102 false, .cells [.pd (.int .i64 s101), .own 2 n102 v102] 1 0 false]) (by kernel_rfl) rfl (by kernel_rfl) (by kernel_rfl) (pure_tup (pl_cons (pure_agg (pl_cons rfl (pl_cons (pure1_own okAI64I64Z (by decide) lgAI64I64Z (M := [rowV lvAI64I64Z 2 ([] : List (Int × Int)) 0 false, .cells [.pd (.int .i64 s101), .own 2 n102 v102] 1 0 false, rowV lvAI64I64Z 2 s152 v102 false, .cells [.pd (.int .i64 s101), .own 2 n102 v102] 1 0 false]) (b := 2) (o := rowV lvAI64I64Z 2 s152 v102 false) (by kernel_rfl) (rowIs_v' (lv := lvAI64I64Z) (s := 2) (e := s152) (ver := v102) (z := false)) (n := n102) hn102) pl_nil))) (pl_cons rfl (pl_cons rfl pl_nil)))) (by subst h; rfl)

theorem offcutlaw10_same_ok (m : Tp) (p0 : Int) (p1 : List (Int × Int)) (p2 : Int) (p3 : List Int) (p4 : List Int) {r : Bool} (h : offcutlaw10_same p0 p1 p2 p3 p4 r) : ASpec Tryz.prog (gtT m) 8 [.agg [.pd (.int .i64 p0), .pd (.sl (p1.map elAI64I64Z))], .agg [.pd (.int .i64 p2), .pd (.sl (p3.map elI64)), .pd (.sl (p4.map elI64))]] (· = .pd (.bool r)) := by
  refine ASpec_tree Tryz.f8 mixedT (askG [9, 10, 11] false) (by kernel_rfl) ?_
  unfold offcutlaw10_same at h
  refine H_askK (.ptr 0 0 0) ([.cells [.pd (.int .i64 p0), .pd (.sl (p1.map elAI64I64Z))] 1 0 false]) (by kernel_rfl) ?_
  refine H_askK (.ptr 1 0 0) ([.cells [.pd (.int .i64 p0), .pd (.sl (p1.map elAI64I64Z))] 1 0 false, .cells [.pd (.int .i64 p2), .pd (.sl (p3.map elI64)), .pd (.sl (p4.map elI64))] 1 0 false]) (by kernel_rfl) ?_
  refine H_askK (.ptr 0 0 0) ([.cells [.pd (.int .i64 p0), .pd (.sl (p1.map elAI64I64Z))] 1 0 false, .cells [.pd (.int .i64 p2), .pd (.sl (p3.map elI64)), .pd (.sl (p4.map elI64))] 1 0 false]) (by kernel_rfl) ?_
  refine H_askK (.pd (.int .i64 p0)) ([.cells [.pd (.int .i64 p0), .pd (.sl (p1.map elAI64I64Z))] 1 0 false, .cells [.pd (.int .i64 p2), .pd (.sl (p3.map elI64)), .pd (.sl (p4.map elI64))] 1 0 false]) (by kernel_rfl) ?_
  refine H_askK (.ptr 1 0 0) ([.cells [.pd (.int .i64 p0), .pd (.sl (p1.map elAI64I64Z))] 1 0 false, .cells [.pd (.int .i64 p2), .pd (.sl (p3.map elI64)), .pd (.sl (p4.map elI64))] 1 0 false]) (by kernel_rfl) ?_
  refine H_askK (.pd (.int .i64 p2)) ([.cells [.pd (.int .i64 p0), .pd (.sl (p1.map elAI64I64Z))] 1 0 false, .cells [.pd (.int .i64 p2), .pd (.sl (p3.map elI64)), .pd (.sl (p4.map elI64))] 1 0 false]) (by kernel_rfl) ?_
  refine H_split (p0 != p2) (by kernel_rfl) (fun hc => ?_) (fun hc => ?_)
  · replace h := h.t hc; clear hc
    exact H_end .ret (.pd (.bool false)) (by kernel_rfl) rfl (by kernel_rfl) (by subst h; rfl)
  · replace h := h.f hc; clear hc
    refine H_askK (.ptr 0 1 0) ([.cells [.pd (.int .i64 p0), .pd (.sl (p1.map elAI64I64Z))] 1 0 false, .cells [.pd (.int .i64 p2), .pd (.sl (p3.map elI64)), .pd (.sl (p4.map elI64))] 1 0 false]) (by kernel_rfl) ?_
    refine H_askK (.pd (.sl (p1.map elAI64I64Z))) ([.cells [.pd (.int .i64 p0), .pd (.sl (p1.map elAI64I64Z))] 1 0 false, .cells [.pd (.int .i64 p2), .pd (.sl (p3.map elI64)), .pd (.sl (p4.map elI64))] 1 0 false]) (by kernel_rfl) ?_
    refine H_ask _ _ (by kernel_rfl) (ask_len (P := Tryz.prog) (M := [.cells [.pd (.int .i64 p0), .pd (.sl (p1.map elAI64I64Z))] 1 0 false, .cells [.pd (.int .i64 p2), .pd (.sl (p3.map elI64)), .pd (.sl (p4.map elI64))] 1 0 false]) (t := 23) (et := 53) (el := elAI64I64Z) (by kernel_rfl) (e := p1)) ?_
    refine H_askK (.ptr 1 1 0) ([.cells [.pd (.int .i64 p0), .pd (.sl (p1.map elAI64I64Z))] 1 0 false, .cells [.pd (.int .i64 p2), .pd (.sl (p3.map elI64)), .pd (.sl (p4.map elI64))] 1 0 false]) (by kernel_rfl) ?_
    refine H_askK (.pd (.sl (p3.map elI64))) ([.cells [.pd (.int .i64 p0), .pd (.sl (p1.map elAI64I64Z))] 1 0 false, .cells [.pd (.int .i64 p2), .pd (.sl (p3.map elI64)), .pd (.sl (p4.map elI64))] 1 0 false]) (by kernel_rfl) ?_
    refine H_ask _ _ (by kernel_rfl) (ask_len (P := Tryz.prog) (M := [.cells [.pd (.int .i64 p0), .pd (.sl (p1.map elAI64I64Z))] 1 0 false, .cells [.pd (.int .i64 p2), .pd (.sl (p3.map elI64)), .pd (.sl (p4.map elI64))] 1 0 false]) (t := 31) (et := 3) (el := elI64) (by kernel_rfl) (e := p3)) ?_
    refine H_split ((p1.length : Int) != (p3.length : Int)) (by kernel_rfl) (fun hc => ?_) (fun hc => ?_)
    · replace h := h.t hc; clear hc
      exact H_end .ret (.pd (.bool false)) (by kernel_rfl) rfl (by kernel_rfl) (by subst h; rfl)
    · replace h := h.f hc; clear hc
      refine H_askK (.ptr 0 1 0) ([.cells [.pd (.int .i64 p0), .pd (.sl (p1.map elAI64I64Z))] 1 0 false, .cells [.pd (.int .i64 p2), .pd (.sl (p3.map elI64)), .pd (.sl (p4.map elI64))] 1 0 false]) (by kernel_rfl) ?_
      refine H_askK (.pd (.sl (p1.map elAI64I64Z))) ([.cells [.pd (.int .i64 p0), .pd (.sl (p1.map elAI64I64Z))] 1 0 false, .cells [.pd (.int .i64 p2), .pd (.sl (p3.map elI64)), .pd (.sl (p4.map elI64))] 1 0 false]) (by kernel_rfl) ?_
      refine H_ask _ _ (by kernel_rfl) (ask_len (P := Tryz.prog) (M := [.cells [.pd (.int .i64 p0), .pd (.sl (p1.map elAI64I64Z))] 1 0 false, .cells [.pd (.int .i64 p2), .pd (.sl (p3.map elI64)), .pd (.sl (p4.map elI64))] 1 0 false]) (t := 23) (et := 53) (el := elAI64I64Z) (by kernel_rfl) (e := p1)) ?_
      refine H_loopP (F := offcutlaw10_same_L1 p1 p3 p4 r) (s0 := (0 : Int)) h () 48 2
        (fun (s100 : Int) (() : Unit) => [(3, .ptr 1 0 0), (22, .pd (.sl (p1.map elAI64I64Z))), (23, .pd (.int .i64 (p1.length : Int))), (24, .pd (.int .i64 s100))])
        (fun (s100 : Int) (() : Unit) => [.cells [.pd (.int .i64 p0), .pd (.sl (p1.map elAI64I64Z))] 1 0 false, .cells [.pd (.int .i64 p2), .pd (.sl (p3.map elI64)), .pd (.sl (p4.map elI64))] 1 0 false]) (fun (s100 : Int) (() : Unit) => True) trivial [] mixedT (askG [9, 10, 11] false)
        (by kernel_rfl) (by kernel_rfl) (by kernel_rfl) (by kernel_rfl) (by kernel_rfl) (fun _ _ => rfl) ?_
      rintro X1 s100 ⟨⟩ - h
      dsimp only [offcutlaw10_same_L1] at h
      refine H_split (decide (s100 < (p1.length : Int))) (by kernel_rfl) (fun hc => ?_) (fun hc => ?_)
      · replace h := h.t hc; clear hc
        obtain ⟨x1, x2, hx3, h⟩ := h
        refine H_ask _ _ (by kernel_rfl) (ask_idx (P := Tryz.prog) (M := [.cells [.pd (.int .i64 p0), .pd (.sl (p1.map elAI64I64Z))] 1 0 false, .cells [.pd (.int .i64 p2), .pd (.sl (p3.map elI64)), .pd (.sl (p4.map elI64))] 1 0 false]) (t := 23) (et := 53) (k := .i64) (lv := lvAI64I64Z) okAI64I64Z leAI64I64Z (by kernel_rfl) (by kernel_rfl) hx3) ?_
        refine H_askK (.agg [.pd (.int .i64 x1), .pd (.int .i64 x2)]) ([.cells [.pd (.int .i64 p0), .pd (.sl (p1.map elAI64I64Z))] 1 0 false, .cells [.pd (.int .i64 p2), .pd (.sl (p3.map elI64)), .pd (.sl (p4.map elI64))] 1 0 false]) (by kernel_rfl) ?_
        refine H_askK (.junk) ([.cells [.pd (.int .i64 p0), .pd (.sl (p1.map elAI64I64Z))] 1 0 false, .cells [.pd (.int .i64 p2), .pd (.sl (p3.map elI64)), .pd (.sl (p4.map elI64))] 1 0 false, .cells [.pd (.int .i64 x1), .pd (.int .i64 x2)] 1 0 false]) (by kernel_rfl) ?_
        refine H_draw (by kernel_rfl) ?_
        refine H_askK (.ptr 2 0 0) ([.cells [.pd (.int .i64 p0), .pd (.sl (p1.map elAI64I64Z))] 1 0 false, .cells [.pd (.int .i64 p2), .pd (.sl (p3.map elI64)), .pd (.sl (p4.map elI64))] 1 0 false, .cells [.pd (.int .i64 x1), .pd (.int .i64 x2)] 1 0 false]) (by kernel_rfl) ?_
        refine H_askK (.pd (.int .i64 x1)) ([.cells [.pd (.int .i64 p0), .pd (.sl (p1.map elAI64I64Z))] 1 0 false, .cells [.pd (.int .i64 p2), .pd (.sl (p3.map elI64)), .pd (.sl (p4.map elI64))] 1 0 false, .cells [.pd (.int .i64 x1), .pd (.int .i64 x2)] 1 0 false]) (by kernel_rfl) ?_
        refine H_askK (.ptr 1 1 0) ([.cells [.pd (.int .i64 p0), .pd (.sl (p1.map elAI64I64Z))] 1 0 false, .cells [.pd (.int .i64 p2), .pd (.sl (p3.map elI64)), .pd (.sl (p4.map elI64))] 1 0 false, .cells [.pd (.int .i64 x1), .pd (.int .i64 x2)] 1 0 false]) (by kernel_rfl) ?_
        refine H_askK (.pd (.sl (p3.map elI64))) ([.cells [.pd (.int .i64 p0), .pd (.sl (p1.map elAI64I64Z))] 1 0 false, .cells [.pd (.int .i64 p2), .pd (.sl (p3.map elI64)), .pd (.sl (p4.map elI64))] 1 0 false, .cells [.pd (.int .i64 x1), .pd (.int .i64 x2)] 1 0 false]) (by kernel_rfl) ?_
        obtain ⟨x4, hx5, h⟩ := h
        refine H_ask _ _ (by kernel_rfl) (ask_idx (P := Tryz.prog) (M := [.cells [.pd (.int .i64 p0), .pd (.sl (p1.map elAI64I64Z))] 1 0 false, .cells [.pd (.int .i64 p2), .pd (.sl (p3.map elI64)), .pd (.sl (p4.map elI64))] 1 0 false, .cells [.pd (.int .i64 x1), .pd (.int .i64 x2)] 1 0 false]) (t := 31) (et := 3) (k := .i64) (lv := lvI64) okI64 leI64 (by kernel_rfl) (by kernel_rfl) hx5) ?_
        refine H_askK (.pd (.int .i64 x4)) ([.cells [.pd (.int .i64 p0), .pd (.sl (p1.map elAI64I64Z))] 1 0 false, .cells [.pd (.int .i64 p2), .pd (.sl (p3.map elI64)), .pd (.sl (p4.map elI64))] 1 0 false, .cells [.pd (.int .i64 x1), .pd (.int .i64 x2)] 1 0 false]) (by kernel_rfl) ?_
        refine H_split (x1 != x4) (by kernel_rfl) (fun hc => ?_) (fun hc => ?_)
        · replace h := h.t hc; clear hc
          refine H_leaveP .ret (by kernel_rfl) rfl ?_
          exact H_end .ret (.pd (.bool false)) (by kernel_rfl) rfl (by kernel_rfl) (by subst h; rfl)
        · replace h := h.f hc; clear hc
          refine H_askK (.ptr 2 1 0) ([.cells [.pd (.int .i64 p0), .pd (.sl (p1.map elAI64I64Z))] 1 0 false, .cells [.pd (.int .i64 p2), .pd (.sl (p3.map elI64)), .pd (.sl (p4.map elI64))] 1 0 false, .cells [.pd (.int .i64 x1), .pd (.int .i64 x2)] 1 0 false]) (by kernel_rfl) ?_
          refine H_askK (.pd (.int .i64 x2)) ([.cells [.pd (.int .i64 p0), .pd (.sl (p1.map elAI64I64Z))] 1 0 false, .cells [.pd (.int .i64 p2), .pd (.sl (p3.map elI64)), .pd (.sl (p4.map elI64))] 1 0 false, .cells [.pd (.int .i64 x1), .pd (.int .i64 x2)] 1 0 false]) (by kernel_rfl) ?_
          refine H_askK (.ptr 1 2 0) ([.cells [.pd (.int .i64 p0), .pd (.sl (p1.map elAI64I64Z))] 1 0 false, .cells [.pd (.int .i64 p2), .pd (.sl (p3.map elI64)), .pd (.sl (p4.map elI64))] 1 0 false, .cells [.pd (.int .i64 x1), .pd (.int .i64 x2)] 1 0 false]) (by kernel_rfl) ?_
          refine H_askK (.pd (.sl (p4.map elI64))) ([.cells [.pd (.int .i64 p0), .pd (.sl (p1.map elAI64I64Z))] 1 0 false, .cells [.pd (.int .i64 p2), .pd (.sl (p3.map elI64)), .pd (.sl (p4.map elI64))] 1 0 false, .cells [.pd (.int .i64 x1), .pd (.int .i64 x2)] 1 0 false]) (by kernel_rfl) ?_
          obtain ⟨x6, hx7, h⟩ := h
          refine H_ask _ _ (by kernel_rfl) (ask_idx (P := Tryz.prog) (M := [.cells [.pd (.int .i64 p0), .pd (.sl (p1.map elAI64I64Z))] 1 0 false, .cells [.pd (.int .i64 p2), .pd (.sl (p3.map elI64)), .pd (.sl (p4.map elI64))] 1 0 false, .cells [.pd (.int .i64 x1), .pd (.int .i64 x2)] 1 0 false]) (t := 31) (et := 3) (k := .i64) (lv := lvI64) okI64 leI64 (by kernel_rfl) (by kernel_rfl) hx7) ?_
          refine H_askK (.pd (.int .i64 x6)) ([.cells [.pd (.int .i64 p0), .pd (.sl (p1.map elAI64I64Z))] 1 0 false, .cells [.pd (.int .i64 p2), .pd (.sl (p3.map elI64)), .pd (.sl (p4.map elI64))] 1 0 false, .cells [.pd (.int .i64 x1), .pd (.int .i64 x2)] 1 0 false]) (by kernel_rfl) ?_
          refine H_split (x2 != x6) (by kernel_rfl) (fun hc => ?_) (fun hc => ?_)
          · replace h := h.t hc; clear hc
            refine H_leaveP .ret (by kernel_rfl) rfl ?_
            exact H_end .ret (.pd (.bool false)) (by kernel_rfl) rfl (by kernel_rfl) (by subst h; rfl)
          · replace h := h.f hc; clear hc
            exact H_againC (st := _) (IntKind.i64.wrap (s100 + 1)) () h trivial (by kernel_rfl) (by kernel_rfl) (by kernel_rfl) (by kernel_rfl) (by kernel_rfl) (by kernel_rfl) (all_c (by kernel_rfl) (all_c (by kernel_rfl) all_n)) (by kernel_rfl) (by kernel_rfl)
      · replace h := h.f hc; clear hc
        refine H_leaveP (.exit 0) (by kernel_rfl) rfl ?_
        exact H_end .ret (.pd (.bool true)) (by kernel_rfl) rfl (by kernel_rfl) (by subst h; rfl)

theorem offcutref10_number_ok (m : Tp) (p0 : List UInt8) (p1 : Int) {r : Int} (h : offcutref10_number p0 p1 r) : ASpec Tryz.prog (gtT m) 21 [.pd (.str p0), .pd (.int .i64 p1)] (· = .pd (.int .i64 r)) := by
  refine ASpec_tree Tryz.f21 mixedT (askG [9, 10, 11] false) (by kernel_rfl) ?_
  unfold offcutref10_number at h
  refine H_loopP (F := offcutref10_number_L1 p0 p1 r) (s0 := ((0 : Int), (0 : Int))) h () 47 0
    (fun ((s100, s101) : Int × Int) (() : Unit) => [(0, .pd (.str p0)), (1, .pd (.int .i64 p1)), (5, .pd (.int .i64 s100)), (6, .pd (.int .i64 s101))])
    (fun ((s100, s101) : Int × Int) (() : Unit) => []) (fun ((s100, s101) : Int × Int) (() : Unit) => True) trivial [] mixedT (askG [9, 10, 11] false)
    (by kernel_rfl) (by kernel_rfl) (by kernel_rfl) (by kernel_rfl) (by kernel_rfl) (fun _ _ => rfl) ?_
  rintro X1 ⟨s100, s101⟩ ⟨⟩ - h
  dsimp only [offcutref10_number_L1] at h
  refine H_askK (.pd (.int .i64 (p0.length : Int))) ([]) (by kernel_rfl) ?_
  refine H_split (decide (s101 < (p0.length : Int))) (by kernel_rfl) (fun hc => ?_) (fun hc => ?_)
  · replace h := h.t hc; clear hc
    obtain ⟨c1, hx2, h⟩ := h
    refine H_ask _ _ (by kernel_rfl) (ask_sidx (P := Tryz.prog) (M := []) (t := 9) (k := .i64) (by kernel_rfl) hx2) ?_
    refine H_split (decide (((c1.toNat : Nat) : Int) < (48 : Int))) (by kernel_rfl) (fun hc => ?_) (fun hc => ?_)
    · replace h := h.t hc; clear hc
      refine H_leaveP .ret (by kernel_rfl) rfl ?_
      exact H_end .ret (.pd (.int .i64 (-1))) (by kernel_rfl) rfl (by kernel_rfl) (by subst h; rfl)
    · replace h := h.f hc; clear hc
      obtain ⟨c3, hx4, h⟩ := h
      refine H_ask _ _ (by kernel_rfl) (ask_sidx (P := Tryz.prog) (M := []) (t := 9) (k := .i64) (by kernel_rfl) hx4) ?_
      refine H_split (decide (((c3.toNat : Nat) : Int) > (57 : Int))) (by kernel_rfl) (fun hc => ?_) (fun hc => ?_)
      · replace h := h.t hc; clear hc
        refine H_leaveP .ret (by kernel_rfl) rfl ?_
        exact H_end .ret (.pd (.int .i64 (-1))) (by kernel_rfl) rfl (by kernel_rfl) (by subst h; rfl)
      · replace h := h.f hc; clear hc
        refine H_split (decide (s100 ≤ p1)) (by kernel_rfl) (fun hc => ?_) (fun hc => ?_)
        · replace h := h.t hc; clear hc
          obtain ⟨c5, hx6, h⟩ := h
          refine H_ask _ _ (by kernel_rfl) (ask_sidx (P := Tryz.prog) (M := []) (t := 9) (k := .i64) (by kernel_rfl) hx6) ?_
          exact H_againP (st := _) ((IntKind.i64.wrap ((IntKind.i64.wrap (s100 * 10)) + (IntKind.i64.wrap (IntKind.u8.wrap (((c5.toNat : Nat) : Int) - 48))))), (IntKind.i64.wrap (s101 + 1))) () h trivial (by kernel_rfl) (by kernel_rfl) (by kernel_rfl) (by kernel_rfl) (by kernel_rfl)
        · replace h := h.f hc; clear hc
          exact H_againP (st := _) (s100, (IntKind.i64.wrap (s101 + 1))) () h trivial (by kernel_rfl) (by kernel_rfl) (by kernel_rfl) (by kernel_rfl) (by kernel_rfl)
  · replace h := h.f hc; clear hc
    refine H_leaveP (.exit 0) (by kernel_rfl) rfl ?_
    refine H_split (p0 == ([] : List UInt8)) (by kernel_rfl) (fun hc => ?_) (fun hc => ?_)
    · replace h := h.t hc; clear hc
      exact H_end .ret (.pd (.int .i64 (-1))) (by kernel_rfl) rfl (by kernel_rfl) (by subst h; rfl)
    · replace h := h.f hc; clear hc
      refine H_askK (.pd (.int .i64 (p0.length : Int))) ([]) (by kernel_rfl) ?_
      refine H_split (decide ((p0.length : Int) > (400 : Int))) (by kernel_rfl) (fun hc => ?_) (fun hc => ?_)
      · replace h := h.t hc; clear hc
        exact H_end .ret (.pd (.int .i64 (-1))) (by kernel_rfl) rfl (by kernel_rfl) (by subst h; rfl)
      · replace h := h.f hc; clear hc
        refine H_split (decide (s100 > p1)) (by kernel_rfl) (fun hc => ?_) (fun hc => ?_)
        · replace h := h.t hc; clear hc
          exact H_end .ret (.pd (.int .i64 (-1))) (by kernel_rfl) rfl (by kernel_rfl) (by subst h; rfl)
        · replace h := h.f hc; clear hc
          exact H_end .ret (.pd (.int .i64 s100)) (by kernel_rfl) rfl (by kernel_rfl) (by subst h; rfl)

theorem offcutref10_Parse_ok (m : Tp) (p0 : List UInt8) {r : Int × (List Int) × (List Int) × Int × Int} (h : offcutref10_Parse p0 r) : ASpec Tryz.prog (gtT m) 9 [.pd (.str p0)] (· = .tup [.agg [.pd (.int .i64 r.1), .pd (.sl (r.2.1.map elI64)), .pd (.sl (r.2.2.1.map elI64))], .pd (.int .i64 r.2.2.2.1), .pd (.int .i64 r.2.2.2.2)]) := by
  refine ASpec_tree Tryz.f9 mixedT (askO [9, 10, 11] false [33]) (by kernel_rfl) ?_
  unfold offcutref10_Parse at h
  refine H_allocL (t := 33) (M0 := []) (M1 := [rowV lvI64 1 ([] : List Int) 0 false, rowV lvI64 1 ([] : List Int) 0 false]) (M2 := [rowV lvI64 1 ([] : List Int) 0 false, rowV lvI64 1 ([] : List Int) 0 false, .cells [.pd (.int .i64 0), .own 0 (([] : List Int).length) 0, .own 1 (([] : List Int).length) 0] 1 0 false]) [(1, 0), (2, 1)] [.pd (.int .i64 0), .own 0 (([] : List Int).length) 0, .own 1 (([] : List Int).length) 0] (by kernel_rfl) (VStep.trans (VStep.new [] 1) (VStep.new [rowV lvI64 1 ([] : List Int) 0 false] 1)) (by kernel_rfl) (by kernel_rfl) ?_
  obtain ⟨x1, hx2, h⟩ := h
  refine H_valW (g := 20) (args := [.pd (.str p0)]) (M := [rowV lvI64 1 ([] : List Int) 0 false, rowV lvI64 1 ([] : List Int) 0 false, .cells [.pd (.int .i64 0), .own 0 (([] : List Int).length) 0, .own 1 (([] : List Int).length) 0] 1 0 false]) (.pd (.sl (x1.map elAI64LSZ))) (.inl (by kernel_rfl)) (by kernel_rfl) (offcutref07_All_ok m _ hx2) (by kernel_rfl) (hasT 20 (by kernel_rfl)) ?_
  refine H_ask _ _ (by kernel_rfl) (ask_len (P := Tryz.prog) (M := [rowV lvI64 1 ([] : List Int) 0 false, rowV lvI64 1 ([] : List Int) 0 false, .cells [.pd (.int .i64 0), .own 0 (([] : List Int).length) 0, .own 1 (([] : List Int).length) 0] 1 0 false]) (t := 54) (et := 56) (el := elAI64LSZ) (by kernel_rfl) (e := x1)) ?_
  refine H_split ((x1.length : Int) == (0 : Int)) (by kernel_rfl) (fun hc => ?_) (fun hc => ?_)
  · replace h := h.t hc; clear hc
    refine H_bldL (t := 33) (parts := []) (M0 := [rowV lvI64 1 ([] : List Int) 0 false, rowV lvI64 1 ([] : List Int) 0 false, .cells [.pd (.int .i64 0), .own 0 (([] : List Int).length) 0, .own 1 (([] : List Int).length) 0] 1 0 false]) (M1 := [rowV lvI64 1 ([] : List Int) 0 false, rowV lvI64 1 ([] : List Int) 0 false, .cells [.pd (.int .i64 0), .own 0 (([] : List Int).length) 0, .own 1 (([] : List Int).length) 0] 1 0 false]) [] (.agg [.pd (.int .i64 0), .fixed (([] : List Int).map elI64), .fixed (([] : List Int).map elI64)]) (by kernel_rfl) (VStep.refl _) (by kernel_rfl) ?_
    refine H_askK (.junk) ([rowV lvI64 1 ([] : List Int) 0 false, rowV lvI64 1 ([] : List Int) 0 false, .cells [.pd (.int .i64 0), .fixed (([] : List Int).map elI64), .fixed (([] : List Int).map elI64)] 1 0 false]) (by kernel_rfl) ?_
    exact H_end .ret (.tup [.agg [.pd (.int .i64 0), .pd (.sl (([] : List Int).map elI64)), .pd (.sl (([] : List Int).map elI64))], .pd (.int .i64 0), .pd (.int .i64 2)]) (by kernel_rfl) rfl (by kernel_rfl) (by subst h; rfl)
  · replace h := h.f hc; clear hc
    refine H_allocL (t := 33) (M0 := [rowV lvI64 1 ([] : List Int) 0 false, rowV lvI64 1 ([] : List Int) 0 false, .cells [.pd (.int .i64 0), .own 0 (([] : List Int).length) 0, .own 1 (([] : List Int).length) 0] 1 0 false]) (M1 := [rowV lvI64 1 ([] : List Int) 0 false, rowV lvI64 1 ([] : List Int) 0 false, .cells [.pd (.int .i64 0), .own 0 (([] : List Int).length) 0, .own 1 (([] : List Int).length) 0] 1 0 false, rowV lvI64 1 ([] : List Int) 0 false, rowV lvI64 1 ([] : List Int) 0 false]) (M2 := [rowV lvI64 1 ([] : List Int) 0 false, rowV lvI64 1 ([] : List Int) 0 false, .cells [.pd (.int .i64 0), .own 0 (([] : List Int).length) 0, .own 1 (([] : List Int).length) 0] 1 0 false, rowV lvI64 1 ([] : List Int) 0 false, rowV lvI64 1 ([] : List Int) 0 false, .cells [.pd (.int .i64 0), .own 3 (([] : List Int).length) 0, .own 4 (([] : List Int).length) 0] 1 0 false]) [(1, 3), (2, 4)] [.pd (.int .i64 0), .own 3 (([] : List Int).length) 0, .own 4 (([] : List Int).length) 0] (by kernel_rfl) (VStep.trans (VStep.new [rowV lvI64 1 ([] : List Int) 0 false, rowV lvI64 1 ([] : List Int) 0 false, .cells [.pd (.int .i64 0), .own 0 (([] : List Int).length) 0, .own 1 (([] : List Int).length) 0] 1 0 false] 1) (VStep.new [rowV lvI64 1 ([] : List Int) 0 false, rowV lvI64 1 ([] : List Int) 0 false, .cells [.pd (.int .i64 0), .own 0 (([] : List Int).length) 0, .own 1 (([] : List Int).length) 0] 1 0 false, rowV lvI64 1 ([] : List Int) 0 false] 1)) (by kernel_rfl) (by kernel_rfl) ?_
    refine H_loopP (F := offcutref10_Parse_L1 x1 r) (s0 := ((0 : Int), (0 : Int), ([] : List Int), ([] : List Int))) h (0, (([] : List Int).length), 0, (([] : List Int).length)) 113 6
      (fun ((s100, s101, s153, s154) : Int × Int × (List Int) × (List Int)) ((v103, n103, v104, n104) : Nat × Nat × Nat × Nat) => [(2, .ptr 2 0 0), (5, .pd (.sl (x1.map elAI64LSZ))), (6, .ptr 5 0 0), (7, .pd (.int .i64 s100))])
      (fun ((s100, s101, s153, s154) : Int × Int × (List Int) × (List Int)) ((v103, n103, v104, n104) : Nat × Nat × Nat × Nat) => [rowV lvI64 1 ([] : List Int) 0 false, rowV lvI64 1 ([] : List Int) 0 false, .cells [.pd (.int .i64 0), .own 0 (([] : List Int).length) 0, .own 1 (([] : List Int).length) 0] 1 0 false, rowV lvI64 1 s153 v103 false, rowV lvI64 1 s154 v104 false, .cells [.pd (.int .i64 s101), .own 3 n103 v103, .own 4 n104 v104] 1 0 false]) (fun ((s100, s101, s153, s154) : Int × Int × (List Int) × (List Int)) ((v103, n103, v104, n104) : Nat × Nat × Nat × Nat) => n103 = s153.length ∧ n104 = s154.length) ⟨rfl, rfl⟩ [] mixedT (askO [9, 10, 11] false [33])
      (by kernel_rfl) (by kernel_rfl) (by kernel_rfl) (by kernel_rfl) (by kernel_rfl) (fun _ _ => rfl) ?_
    rintro X1 ⟨s100, s101, s153, s154⟩ ⟨v103, n103, v104, n104⟩ ⟨hn103, hn104⟩ h
    dsimp only [offcutref10_Parse_L1] at h
    refine H_ask _ _ (by kernel_rfl) (ask_len (P := Tryz.prog) (M := [rowV lvI64 1 ([] : List Int) 0 false, rowV lvI64 1 ([] : List Int) 0 false, .cells [.pd (.int .i64 0), .own 0 (([] : List Int).length) 0, .own 1 (([] : List Int).length) 0] 1 0 false, rowV lvI64 1 s153 v103 false, rowV lvI64 1 s154 v104 false, .cells [.pd (.int .i64 s101), .own 3 n103 v103, .own 4 n104 v104] 1 0 false]) (t := 54) (et := 56) (el := elAI64LSZ) (by kernel_rfl) (e := x1)) ?_
    refine H_split (decide (s100 < (x1.length : Int))) (by kernel_rfl) (fun hc => ?_) (fun hc => ?_)
    · replace h := h.t hc; clear hc
      obtain ⟨x3, x4, hx5, h⟩ := h
      refine H_ask _ _ (by kernel_rfl) (ask_idx (P := Tryz.prog) (M := [rowV lvI64 1 ([] : List Int) 0 false, rowV lvI64 1 ([] : List Int) 0 false, .cells [.pd (.int .i64 0), .own 0 (([] : List Int).length) 0, .own 1 (([] : List Int).length) 0] 1 0 false, rowV lvI64 1 s153 v103 false, rowV lvI64 1 s154 v104 false, .cells [.pd (.int .i64 s101), .own 3 n103 v103, .own 4 n104 v104] 1 0 false]) (t := 54) (et := 56) (k := .i64) (lv := lvAI64LSZ) okAI64LSZ leAI64LSZ (by kernel_rfl) (by kernel_rfl) hx5) ?_
      refine H_askK (.rd [.sl (x4.map elS)]) ([rowV lvI64 1 ([] : List Int) 0 false, rowV lvI64 1 ([] : List Int) 0 false, .cells [.pd (.int .i64 0), .own 0 (([] : List Int).length) 0, .own 1 (([] : List Int).length) 0] 1 0 false, rowV lvI64 1 s153 v103 false, rowV lvI64 1 s154 v104 false, .cells [.pd (.int .i64 s101), .own 3 n103 v103, .own 4 n104 v104] 1 0 false]) (by kernel_rfl) ?_
      refine H_askK (.pd (.sl (x4.map elS))) ([rowV lvI64 1 ([] : List Int) 0 false, rowV lvI64 1 ([] : List Int) 0 false, .cells [.pd (.int .i64 0), .own 0 (([] : List Int).length) 0, .own 1 (([] : List Int).length) 0] 1 0 false, rowV lvI64 1 s153 v103 false, rowV lvI64 1 s154 v104 false, .cells [.pd (.int .i64 s101), .own 3 n103 v103, .own 4 n104 v104] 1 0 false]) (by kernel_rfl) ?_
      refine H_split (s100 == (0 : Int)) (by kernel_rfl) (fun hc => ?_) (fun hc => ?_)
      · replace h := h.t hc; clear hc
        refine H_ask _ _ (by kernel_rfl) (ask_len (P := Tryz.prog) (M := [rowV lvI64 1 ([] : List Int) 0 false, rowV lvI64 1 ([] : List Int) 0 false, .cells [.pd (.int .i64 0), .own 0 (([] : List Int).length) 0, .own 1 (([] : List Int).length) 0] 1 0 false, rowV lvI64 1 s153 v103 false, rowV lvI64 1 s154 v104 false, .cells [.pd (.int .i64 s101), .own 3 n103 v103, .own 4 n104 v104] 1 0 false]) (t := 45) (et := 9) (el := elS) (by kernel_rfl) (e := x4)) ?_
        refine H_split ((x4.length : Int) != (2 : Int)) (by kernel_rfl) (fun hc => ?_) (fun hc => ?_)
        · replace h := h.t hc; clear hc
          refine H_drawF [3, 4, 5] (by kernel_rfl) ?_
          refine H_askK (.agg [.pd (.int .i64 0), .fixed (([] : List Int).map elI64), .fixed (([] : List Int).map elI64)]) ([rowV lvI64 1 ([] : List Int) 0 false, rowV lvI64 1 ([] : List Int) 0 false, .cells [.pd (.int .i64 0), .own 0 (([] : List Int).length) 0, .own 1 (([] : List Int).length) 0] 1 0 false, rowV lvI64 1 s153 v103 false, rowV lvI64 1 s154 v104 false, .cells [.pd (.int .i64 s101), .own 3 n103 v103, .own 4 n104 v104] 1 0 false]) (by kernel_rfl) ?_
          obtain ⟨x6, x7, hx8, h⟩ := h
          refine H_askall _ (by kernel_rfl) (fun M' => ask_idx (P := Tryz.prog) (M := M') (t := 54) (et := 56) (k := .i64) (lv := lvAI64LSZ) okAI64LSZ leAI64LSZ (by kernel_rfl) (by kernel_rfl) hx8) ?_
          refine H_askall (.rd [.int .i64 x6, .sl (x7.map elS)]) (f := fun M' => some (.rd [.int .i64 x6, .sl (x7.map elS)], M')) (by kernel_rfl) (fun _ => rfl) ?_
          refine H_askall (.pd (.int .i64 x6)) (f := fun M' => some (.pd (.int .i64 x6), M')) (by kernel_rfl) (fun _ => rfl) ?_
          refine H_askK (.junk) ([rowV lvI64 1 ([] : List Int) 0 false, rowV lvI64 1 ([] : List Int) 0 false, .cells [.pd (.int .i64 0), .fixed (([] : List Int).map elI64), .fixed (([] : List Int).map elI64)] 1 0 false, rowV lvI64 1 s153 v103 false, rowV lvI64 1 s154 v104 false, .cells [.pd (.int .i64 s101), .own 3 n103 v103, .own 4 n104 v104] 1 0 false]) (by kernel_rfl) ?_
          refine H_leaveP .ret (by kernel_rfl) rfl ?_
          exact H_end .ret (.tup [.agg [.pd (.int .i64 0), .pd (.sl (([] : List Int).map elI64)), .pd (.sl (([] : List Int).map elI64))], .pd (.int .i64 x6), .pd (.int .i64 2)]) (by kernel_rfl) rfl (by kernel_rfl) (by subst h; rfl)
        · replace h := h.f hc; clear hc
          obtain ⟨x9, hx10, h⟩ := h
          refine H_ask _ _ (by kernel_rfl) (ask_idx (P := Tryz.prog) (M := [rowV lvI64 1 ([] : List Int) 0 false, rowV lvI64 1 ([] : List Int) 0 false, .cells [.pd (.int .i64 0), .own 0 (([] : List Int).length) 0, .own 1 (([] : List Int).length) 0] 1 0 false, rowV lvI64 1 s153 v103 false, rowV lvI64 1 s154 v104 false, .cells [.pd (.int .i64 s101), .own 3 n103 v103, .own 4 n104 v104] 1 0 false]) (t := 45) (et := 9) (k := .i64) (lv := lvS) okS leS (by kernel_rfl) (by kernel_rfl) hx10) ?_
          refine H_askK (.pd (.str x9)) ([rowV lvI64 1 ([] : List Int) 0 false, rowV lvI64 1 ([] : List Int) 0 false, .cells [.pd (.int .i64 0), .own 0 (([] : List Int).length) 0, .own 1 (([] : List Int).length) 0] 1 0 false, rowV lvI64 1 s153 v103 false, rowV lvI64 1 s154 v104 false, .cells [.pd (.int .i64 s101), .own 3 n103 v103, .own 4 n104 v104] 1 0 false]) (by kernel_rfl) ?_
          refine H_split (!(x9 == ([114, 111, 108, 108] : List UInt8))) (by kernel_rfl) (fun hc => ?_) (fun hc => ?_)
          · replace h := h.t hc; clear hc
            refine H_drawF [3, 4, 5] (by kernel_rfl) ?_
            refine H_askK (.agg [.pd (.int .i64 0), .fixed (([] : List Int).map elI64), .fixed (([] : List Int).map elI64)]) ([rowV lvI64 1 ([] : List Int) 0 false, rowV lvI64 1 ([] : List Int) 0 false, .cells [.pd (.int .i64 0), .own 0 (([] : List Int).length) 0, .own 1 (([] : List Int).length) 0] 1 0 false, rowV lvI64 1 s153 v103 false, rowV lvI64 1 s154 v104 false, .cells [.pd (.int .i64 s101), .own 3 n103 v103, .own 4 n104 v104] 1 0 false]) (by kernel_rfl) ?_
            obtain ⟨x11, x12, hx13, h⟩ := h
            refine H_askall _ (by kernel_rfl) (fun M' => ask_idx (P := Tryz.prog) (M := M') (t := 54) (et := 56) (k := .i64) (lv := lvAI64LSZ) okAI64LSZ leAI64LSZ (by kernel_rfl) (by kernel_rfl) hx13) ?_
            refine H_askall (.rd [.int .i64 x11, .sl (x12.map elS)]) (f := fun M' => some (.rd [.int .i64 x11, .sl (x12.map elS)], M')) (by kernel_rfl) (fun _ => rfl) ?_
            refine H_askall (.pd (.int .i64 x11)) (f := fun M' => some (.pd (.int .i64 x11), M')) (by kernel_rfl) (fun _ => rfl) ?_
            refine H_askK (.junk) ([rowV lvI64 1 ([] : List Int) 0 false, rowV lvI64 1 ([] : List Int) 0 false, .cells [.pd (.int .i64 0), .fixed (([] : List Int).map elI64), .fixed (([] : List Int).map elI64)] 1 0 false, rowV lvI64 1 s153 v103 false, rowV lvI64 1 s154 v104 false, .cells [.pd (.int .i64 s101), .own 3 n103 v103, .own 4 n104 v104] 1 0 false]) (by kernel_rfl) ?_
            refine H_leaveP .ret (by kernel_rfl) rfl ?_
            exact H_end .ret (.tup [.agg [.pd (.int .i64 0), .pd (.sl (([] : List Int).map elI64)), .pd (.sl (([] : List Int).map elI64))], .pd (.int .i64 x11), .pd (.int .i64 2)]) (by kernel_rfl) rfl (by kernel_rfl) (by subst h; rfl)
          · replace h := h.f hc; clear hc
            obtain ⟨x14, hx15, h⟩ := h
            refine H_ask _ _ (by kernel_rfl) (ask_idx (P := Tryz.prog) (M := [rowV lvI64 1 ([] : List Int) 0 false, rowV lvI64 1 ([] : List Int) 0 false, .cells [.pd (.int .i64 0), .own 0 (([] : List Int).length) 0, .own 1 (([] : List Int).length) 0] 1 0 false, rowV lvI64 1 s153 v103 false, rowV lvI64 1 s154 v104 false, .cells [.pd (.int .i64 s101), .own 3 n103 v103, .own 4 n104 v104] 1 0 false]) (t := 45) (et := 9) (k := .i64) (lv := lvS) okS leS (by kernel_rfl) (by kernel_rfl) hx15) ?_
            refine H_askK (.pd (.str x14)) ([rowV lvI64 1 ([] : List Int) 0 false, rowV lvI64 1 ([] : List Int) 0 false, .cells [.pd (.int .i64 0), .own 0 (([] : List Int).length) 0, .own 1 (([] : List Int).length) 0] 1 0 false, rowV lvI64 1 s153 v103 false, rowV lvI64 1 s154 v104 false, .cells [.pd (.int .i64 s101), .own 3 n103 v103, .own 4 n104 v104] 1 0 false]) (by kernel_rfl) ?_
            obtain ⟨x16, hx17, h⟩ := h
            refine H_valW (g := 21) (args := [.pd (.str x14), .pd (.int .i64 1048576)]) (M := [rowV lvI64 1 ([] : List Int) 0 false, rowV lvI64 1 ([] : List Int) 0 false, .cells [.pd (.int .i64 0), .own 0 (([] : List Int).length) 0, .own 1 (([] : List Int).length) 0] 1 0 false, rowV lvI64 1 s153 v103 false, rowV lvI64 1 s154 v104 false, .cells [.pd (.int .i64 s101), .own 3 n103 v103, .own 4 n104 v104] 1 0 false]) (.pd (.int .i64 x16)) (.inl (by kernel_rfl)) (by kernel_rfl) (offcutref10_number_ok m _ _ hx17) (by kernel_rfl) (hasT 21 (by kernel_rfl)) ?_
            refine H_split (decide (x16 < (1 : Int))) (by kernel_rfl) (fun hc => ?_) (fun hc => ?_)
            · replace h := h.t hc; clear hc
              refine H_drawF [3, 4, 5] (by kernel_rfl) ?_
              refine H_askK (.agg [.pd (.int .i64 0), .fixed (([] : List Int).map elI64), .fixed (([] : List Int).map elI64)]) ([rowV lvI64 1 ([] : List Int) 0 false, rowV lvI64 1 ([] : List Int) 0 false, .cells [.pd (.int .i64 0), .own 0 (([] : List Int).length) 0, .own 1 (([] : List Int).length) 0] 1 0 false, rowV lvI64 1 s153 v103 false, rowV lvI64 1 s154 v104 false, .cells [.pd (.int .i64 s101), .own 3 n103 v103, .own 4 n104 v104] 1 0 false]) (by kernel_rfl) ?_
              obtain ⟨x18, x19, hx20, h⟩ := h
              refine H_askall _ (by kernel_rfl) (fun M' => ask_idx (P := Tryz.prog) (M := M') (t := 54) (et := 56) (k := .i64) (lv := lvAI64LSZ) okAI64LSZ leAI64LSZ (by kernel_rfl) (by kernel_rfl) hx20) ?_
              refine H_askall (.rd [.int .i64 x18, .sl (x19.map elS)]) (f := fun M' => some (.rd [.int .i64 x18, .sl (x19.map elS)], M')) (by kernel_rfl) (fun _ => rfl) ?_
              refine H_askall (.pd (.int .i64 x18)) (f := fun M' => some (.pd (.int .i64 x18), M')) (by kernel_rfl) (fun _ => rfl) ?_
              refine H_askK (.junk) ([rowV lvI64 1 ([] : List Int) 0 false, rowV lvI64 1 ([] : List Int) 0 false, .cells [.pd (.int .i64 0), .fixed (([] : List Int).map elI64), .fixed (([] : List Int).map elI64)] 1 0 false, rowV lvI64 1 s153 v103 false, rowV lvI64 1 s154 v104 false, .cells [.pd (.int .i64 s101), .own 3 n103 v103, .own 4 n104 v104] 1 0 false]) (by kernel_rfl) ?_
              refine H_leaveP .ret (by kernel_rfl) rfl ?_
              exact H_end .ret (.tup [.agg [.pd (.int .i64 0), .pd (.sl (([] : List Int).map elI64)), .pd (.sl (([] : List Int).map elI64))], .pd (.int .i64 x18), .pd (.int .i64 2)]) (by kernel_rfl) rfl (by kernel_rfl) (by subst h; rfl)
            · replace h := h.f hc; clear hc
              obtain ⟨x21, hx22, h⟩ := h
              refine H_ask _ _ (by kernel_rfl) (ask_idx (P := Tryz.prog) (M := [rowV lvI64 1 ([] : List Int) 0 false, rowV lvI64 1 ([] : List Int) 0 false, .cells [.pd (.int .i64 0), .own 0 (([] : List Int).length) 0, .own 1 (([] : List Int).length) 0] 1 0 false, rowV lvI64 1 s153 v103 false, rowV lvI64 1 s154 v104 false, .cells [.pd (.int .i64 s101), .own 3 n103 v103, .own 4 n104 v104] 1 0 false]) (t := 45) (et := 9) (k := .i64) (lv := lvS) okS leS (by kernel_rfl) (by kernel_rfl) hx22) ?_
              refine H_askK (.pd (.str x21)) ([rowV lvI64 1 ([] : List Int) 0 false, rowV lvI64 1 ([] : List Int) 0 false, .cells [.pd (.int .i64 0), .own 0 (([] : List Int).length) 0, .own 1 (([] : List Int).length) 0] 1 0 false, rowV lvI64 1 s153 v103 false, rowV lvI64 1 s154 v104 false, .cells [.pd (.int .i64 s101), .own 3 n103 v103, .own 4 n104 v104] 1 0 false]) (by kernel_rfl) ?_
              obtain ⟨x23, hx24, h⟩ := h
              refine H_valW (g := 21) (args := [.pd (.str x21), .pd (.int .i64 1048576)]) (M := [rowV lvI64 1 ([] : List Int) 0 false, rowV lvI64 1 ([] : List Int) 0 false, .cells [.pd (.int .i64 0), .own 0 (([] : List Int).length) 0, .own 1 (([] : List Int).length) 0] 1 0 false, rowV lvI64 1 s153 v103 false, rowV lvI64 1 s154 v104 false, .cells [.pd (.int .i64 s101), .own 3 n103 v103, .own 4 n104 v104] 1 0 false]) (.pd (.int .i64 x23)) (.inl (by kernel_rfl)) (by kernel_rfl) (offcutref10_number_ok m _ _ hx24) (by kernel_rfl) (hasT 21 (by kernel_rfl)) ?_
              refine H_askK (.ptr 5 0 0) ([rowV lvI64 1 ([] : List Int) 0 false, rowV lvI64 1 ([] : List Int) 0 false, .cells [.pd (.int .i64 0), .own 0 (([] : List Int).length) 0, .own 1 (([] : List Int).length) 0] 1 0 false, rowV lvI64 1 s153 v103 false, rowV lvI64 1 s154 v104 false, .cells [.pd (.int .i64 s101), .own 3 n103 v103, .own 4 n104 v104] 1 0 false]) (by kernel_rfl) ?_
              refine H_askK (.junk) ([rowV lvI64 1 ([] : List Int) 0 false, rowV lvI64 1 ([] : List Int) 0 false, .cells [.pd (.int .i64 0), .own 0 (([] : List Int).length) 0, .own 1 (([] : List Int).length) 0] 1 0 false, rowV lvI64 1 s153 v103 false, rowV lvI64 1 s154 v104 false, .cells [.pd (.int .i64 x23), .own 3 n103 v103, .own 4 n104 v104] 1 0 false]) (by kernel_rfl) ?_
              exact H_againP (st := _) ((IntKind.i64.wrap (s100 + 1)), x23, s153, s154) (v103, n103, v104, n104) h ⟨hn103, hn104⟩ (by kernel_rfl) (by kernel_rfl) (by kernel_rfl) (by kernel_rfl) (by kernel_rfl)
      · replace h := h.f hc; clear hc
        refine H_ask _ _ (by kernel_rfl) (ask_len (P := Tryz.prog) (M := [rowV lvI64 1 ([] : List Int) 0 false, rowV lvI64 1 ([] : List Int) 0 false, .cells [.pd (.int .i64 0), .own 0 (([] : List Int).length) 0, .own 1 (([] : List Int).length) 0] 1 0 false, rowV lvI64 1 s153 v103 false, rowV lvI64 1 s154 v104 false, .cells [.pd (.int .i64 s101), .own 3 n103 v103, .own 4 n104 v104] 1 0 false]) (t := 45) (et := 9) (el := elS) (by kernel_rfl) (e := x4)) ?_
        refine H_split ((x4.length : Int) != (3 : Int)) (by kernel_rfl) (fun hc => ?_) (fun hc => ?_)
        · replace h := h.t hc; clear hc
          refine H_drawF [3, 4, 5] (by kernel_rfl) ?_
          refine H_askK (.agg [.pd (.int .i64 0), .fixed (([] : List Int).map elI64), .fixed (([] : List Int).map elI64)]) ([rowV lvI64 1 ([] : List Int) 0 false, rowV lvI64 1 ([] : List Int) 0 false, .cells [.pd (.int .i64 0), .own 0 (([] : List Int).length) 0, .own 1 (([] : List Int).length) 0] 1 0 false, rowV lvI64 1 s153 v103 false, rowV lvI64 1 s154 v104 false, .cells [.pd (.int .i64 s101), .own 3 n103 v103, .own 4 n104 v104] 1 0 false]) (by kernel_rfl) ?_
          obtain ⟨x25, x26, hx27, h⟩ := h
          refine H_askall _ (by kernel_rfl) (fun M' => ask_idx (P := Tryz.prog) (M := M') (t := 54) (et := 56) (k := .i64) (lv := lvAI64LSZ) okAI64LSZ leAI64LSZ (by kernel_rfl) (by kernel_rfl) hx27) ?_
          refine H_askall (.rd [.int .i64 x25, .sl (x26.map elS)]) (f := fun M' => some (.rd [.int .i64 x25, .sl (x26.map elS)], M')) (by kernel_rfl) (fun _ => rfl) ?_
          refine H_askall (.pd (.int .i64 x25)) (f := fun M' => some (.pd (.int .i64 x25), M')) (by kernel_rfl) (fun _ => rfl) ?_
          refine H_askK (.junk) ([rowV lvI64 1 ([] : List Int) 0 false, rowV lvI64 1 ([] : List Int) 0 false, .cells [.pd (.int .i64 0), .fixed (([] : List Int).map elI64), .fixed (([] : List Int).map elI64)] 1 0 false, rowV lvI64 1 s153 v103 false, rowV lvI64 1 s154 v104 false, .cells [.pd (.int .i64 s101), .own 3 n103 v103, .own 4 n104 v104] 1 0 false]) (by kernel_rfl) ?_
          refine H_leaveP .ret (by kernel_rfl) rfl ?_
          exact H_end .ret (.tup [.agg [.pd (.int .i64 0), .pd (.sl (([] : List Int).map elI64)), .pd (.sl (([] : List Int).map elI64))], .pd (.int .i64 x25), .pd (.int .i64 2)]) (by kernel_rfl) rfl (by kernel_rfl) (by subst h; rfl)
        · replace h := h.f hc; clear hc
          obtain ⟨x28, hx29, h⟩ := h
          refine H_ask _ _ (by kernel_rfl) (ask_idx (P := Tryz.prog) (M := [rowV lvI64 1 ([] : List Int) 0 false, rowV lvI64 1 ([] : List Int) 0 false, .cells [.pd (.int .i64 0), .own 0 (([] : List Int).length) 0, .own 1 (([] : List Int).length) 0] 1 0 false, rowV lvI64 1 s153 v103 false, rowV lvI64 1 s154 v104 false, .cells [.pd (.int .i64 s101), .own 3 n103 v103, .own 4 n104 v104] 1 0 false]) (t := 45) (et := 9) (k := .i64) (lv := lvS) okS leS (by kernel_rfl) (by kernel_rfl) hx29) ?_
          refine H_askK (.pd (.str x28)) ([rowV lvI64 1 ([] : List Int) 0 false, rowV lvI64 1 ([] : List Int) 0 false, .cells [.pd (.int .i64 0), .own 0 (([] : List Int).length) 0, .own 1 (([] : List Int).length) 0] 1 0 false, rowV lvI64 1 s153 v103 false, rowV lvI64 1 s154 v104 false, .cells [.pd (.int .i64 s101), .own 3 n103 v103, .own 4 n104 v104] 1 0 false]) (by kernel_rfl) ?_
          refine H_split (!(x28 == ([105, 116, 101, 109] : List UInt8))) (by kernel_rfl) (fun hc => ?_) (fun hc => ?_)
          · replace h := h.t hc; clear hc
            refine H_drawF [3, 4, 5] (by kernel_rfl) ?_
            refine H_askK (.agg [.pd (.int .i64 0), .fixed (([] : List Int).map elI64), .fixed (([] : List Int).map elI64)]) ([rowV lvI64 1 ([] : List Int) 0 false, rowV lvI64 1 ([] : List Int) 0 false, .cells [.pd (.int .i64 0), .own 0 (([] : List Int).length) 0, .own 1 (([] : List Int).length) 0] 1 0 false, rowV lvI64 1 s153 v103 false, rowV lvI64 1 s154 v104 false, .cells [.pd (.int .i64 s101), .own 3 n103 v103, .own 4 n104 v104] 1 0 false]) (by kernel_rfl) ?_
            obtain ⟨x30, x31, hx32, h⟩ := h
            refine H_askall _ (by kernel_rfl) (fun M' => ask_idx (P := Tryz.prog) (M := M') (t := 54) (et := 56) (k := .i64) (lv := lvAI64LSZ) okAI64LSZ leAI64LSZ (by kernel_rfl) (by kernel_rfl) hx32) ?_
            refine H_askall (.rd [.int .i64 x30, .sl (x31.map elS)]) (f := fun M' => some (.rd [.int .i64 x30, .sl (x31.map elS)], M')) (by kernel_rfl) (fun _ => rfl) ?_
            refine H_askall (.pd (.int .i64 x30)) (f := fun M' => some (.pd (.int .i64 x30), M')) (by kernel_rfl) (fun _ => rfl) ?_
            refine H_askK (.junk) ([rowV lvI64 1 ([] : List Int) 0 false, rowV lvI64 1 ([] : List Int) 0 false, .cells [.pd (.int .i64 0), .fixed (([] : List Int).map elI64), .fixed (([] : List Int).map elI64)] 1 0 false, rowV lvI64 1 s153 v103 false, rowV lvI64 1 s154 v104 false, .cells [.pd (.int .i64 s101), .own 3 n103 v103, .own 4 n104 v104] 1 0 false]) (by kernel_rfl) ?_
            refine H_leaveP .ret (by kernel_rfl) rfl ?_
            exact H_end .ret (.tup [.agg [.pd (.int .i64 0), .pd (.sl (([] : List Int).map elI64)), .pd (.sl (([] : List Int).map elI64))], .pd (.int .i64 x30), .pd (.int .i64 2)]) (by kernel_rfl) rfl (by kernel_rfl) (by subst h; rfl)
          · replace h := h.f hc; clear hc
            obtain ⟨x33, hx34, h⟩ := h
            refine H_ask _ _ (by kernel_rfl) (ask_idx (P := Tryz.prog) (M := [rowV lvI64 1 ([] : List Int) 0 false, rowV lvI64 1 ([] : List Int) 0 false, .cells [.pd (.int .i64 0), .own 0 (([] : List Int).length) 0, .own 1 (([] : List Int).length) 0] 1 0 false, rowV lvI64 1 s153 v103 false, rowV lvI64 1 s154 v104 false, .cells [.pd (.int .i64 s101), .own 3 n103 v103, .own 4 n104 v104] 1 0 false]) (t := 45) (et := 9) (k := .i64) (lv := lvS) okS leS (by kernel_rfl) (by kernel_rfl) hx34) ?_
            refine H_askK (.pd (.str x33)) ([rowV lvI64 1 ([] : List Int) 0 false, rowV lvI64 1 ([] : List Int) 0 false, .cells [.pd (.int .i64 0), .own 0 (([] : List Int).length) 0, .own 1 (([] : List Int).length) 0] 1 0 false, rowV lvI64 1 s153 v103 false, rowV lvI64 1 s154 v104 false, .cells [.pd (.int .i64 s101), .own 3 n103 v103, .own 4 n104 v104] 1 0 false]) (by kernel_rfl) ?_
            obtain ⟨x35, hx36, h⟩ := h
            refine H_valW (g := 21) (args := [.pd (.str x33), .pd (.int .i64 1048576)]) (M := [rowV lvI64 1 ([] : List Int) 0 false, rowV lvI64 1 ([] : List Int) 0 false, .cells [.pd (.int .i64 0), .own 0 (([] : List Int).length) 0, .own 1 (([] : List Int).length) 0] 1 0 false, rowV lvI64 1 s153 v103 false, rowV lvI64 1 s154 v104 false, .cells [.pd (.int .i64 s101), .own 3 n103 v103, .own 4 n104 v104] 1 0 false]) (.pd (.int .i64 x35)) (.inl (by kernel_rfl)) (by kernel_rfl) (offcutref10_number_ok m _ _ hx36) (by kernel_rfl) (hasT 21 (by kernel_rfl)) ?_
            refine H_split (decide (x35 < (1 : Int))) (by kernel_rfl) (fun hc => ?_) (fun hc => ?_)
            · replace h := h.t hc; clear hc
              refine H_drawF [3, 4, 5] (by kernel_rfl) ?_
              refine H_askK (.agg [.pd (.int .i64 0), .fixed (([] : List Int).map elI64), .fixed (([] : List Int).map elI64)]) ([rowV lvI64 1 ([] : List Int) 0 false, rowV lvI64 1 ([] : List Int) 0 false, .cells [.pd (.int .i64 0), .own 0 (([] : List Int).length) 0, .own 1 (([] : List Int).length) 0] 1 0 false, rowV lvI64 1 s153 v103 false, rowV lvI64 1 s154 v104 false, .cells [.pd (.int .i64 s101), .own 3 n103 v103, .own 4 n104 v104] 1 0 false]) (by kernel_rfl) ?_
              obtain ⟨x37, x38, hx39, h⟩ := h
              refine H_askall _ (by kernel_rfl) (fun M' => ask_idx (P := Tryz.prog) (M := M') (t := 54) (et := 56) (k := .i64) (lv := lvAI64LSZ) okAI64LSZ leAI64LSZ (by kernel_rfl) (by kernel_rfl) hx39) ?_
              refine H_askall (.rd [.int .i64 x37, .sl (x38.map elS)]) (f := fun M' => some (.rd [.int .i64 x37, .sl (x38.map elS)], M')) (by kernel_rfl) (fun _ => rfl) ?_
              refine H_askall (.pd (.int .i64 x37)) (f := fun M' => some (.pd (.int .i64 x37), M')) (by kernel_rfl) (fun _ => rfl) ?_
              refine H_askK (.junk) ([rowV lvI64 1 ([] : List Int) 0 false, rowV lvI64 1 ([] : List Int) 0 false, .cells [.pd (.int .i64 0), .fixed (([] : List Int).map elI64), .fixed (([] : List Int).map elI64)] 1 0 false, rowV lvI64 1 s153 v103 false, rowV lvI64 1 s154 v104 false, .cells [.pd (.int .i64 s101), .own 3 n103 v103, .own 4 n104 v104] 1 0 false]) (by kernel_rfl) ?_
              refine H_leaveP .ret (by kernel_rfl) rfl ?_
              exact H_end .ret (.tup [.agg [.pd (.int .i64 0), .pd (.sl (([] : List Int).map elI64)), .pd (.sl (([] : List Int).map elI64))], .pd (.int .i64 x37), .pd (.int .i64 2)]) (by kernel_rfl) rfl (by kernel_rfl) (by subst h; rfl)
            · replace h := h.f hc; clear hc
              obtain ⟨x40, hx41, h⟩ := h
              refine H_ask _ _ (by kernel_rfl) (ask_idx (P := Tryz.prog) (M := [rowV lvI64 1 ([] : List Int) 0 false, rowV lvI64 1 ([] : List Int) 0 false, .cells [.pd (.int .i64 0), .own 0 (([] : List Int).length) 0, .own 1 (([] : List Int).length) 0] 1 0 false, rowV lvI64 1 s153 v103 false, rowV lvI64 1 s154 v104 false, .cells [.pd (.int .i64 s101), .own 3 n103 v103, .own 4 n104 v104] 1 0 false]) (t := 45) (et := 9) (k := .i64) (lv := lvS) okS leS (by kernel_rfl) (by kernel_rfl) hx41) ?_
              refine H_askK (.pd (.str x40)) ([rowV lvI64 1 ([] : List Int) 0 false, rowV lvI64 1 ([] : List Int) 0 false, .cells [.pd (.int .i64 0), .own 0 (([] : List Int).length) 0, .own 1 (([] : List Int).length) 0] 1 0 false, rowV lvI64 1 s153 v103 false, rowV lvI64 1 s154 v104 false, .cells [.pd (.int .i64 s101), .own 3 n103 v103, .own 4 n104 v104] 1 0 false]) (by kernel_rfl) ?_
              obtain ⟨x42, hx43, h⟩ := h
              refine H_valW (g := 21) (args := [.pd (.str x40), .pd (.int .i64 1024)]) (M := [rowV lvI64 1 ([] : List Int) 0 false, rowV lvI64 1 ([] : List Int) 0 false, .cells [.pd (.int .i64 0), .own 0 (([] : List Int).length) 0, .own 1 (([] : List Int).length) 0] 1 0 false, rowV lvI64 1 s153 v103 false, rowV lvI64 1 s154 v104 false, .cells [.pd (.int .i64 s101), .own 3 n103 v103, .own 4 n104 v104] 1 0 false]) (.pd (.int .i64 x42)) (.inl (by kernel_rfl)) (by kernel_rfl) (offcutref10_number_ok m _ _ hx43) (by kernel_rfl) (hasT 21 (by kernel_rfl)) ?_
              refine H_split (decide (x42 < (0 : Int))) (by kernel_rfl) (fun hc => ?_) (fun hc => ?_)
              · replace h := h.t hc; clear hc
                refine H_drawF [3, 4, 5] (by kernel_rfl) ?_
                refine H_askK (.agg [.pd (.int .i64 0), .fixed (([] : List Int).map elI64), .fixed (([] : List Int).map elI64)]) ([rowV lvI64 1 ([] : List Int) 0 false, rowV lvI64 1 ([] : List Int) 0 false, .cells [.pd (.int .i64 0), .own 0 (([] : List Int).length) 0, .own 1 (([] : List Int).length) 0] 1 0 false, rowV lvI64 1 s153 v103 false, rowV lvI64 1 s154 v104 false, .cells [.pd (.int .i64 s101), .own 3 n103 v103, .own 4 n104 v104] 1 0 false]) (by kernel_rfl) ?_
                obtain ⟨x44, x45, hx46, h⟩ := h
                refine H_askall _ (by kernel_rfl) (fun M' => ask_idx (P := Tryz.prog) (M := M') (t := 54) (et := 56) (k := .i64) (lv := lvAI64LSZ) okAI64LSZ leAI64LSZ (by kernel_rfl) (by kernel_rfl) hx46) ?_
                refine H_askall (.rd [.int .i64 x44, .sl (x45.map elS)]) (f := fun M' => some (.rd [.int .i64 x44, .sl (x45.map elS)], M')) (by kernel_rfl) (fun _ => rfl) ?_
                refine H_askall (.pd (.int .i64 x44)) (f := fun M' => some (.pd (.int .i64 x44), M')) (by kernel_rfl) (fun _ => rfl) ?_
                refine H_askK (.junk) ([rowV lvI64 1 ([] : List Int) 0 false, rowV lvI64 1 ([] : List Int) 0 false, .cells [.pd (.int .i64 0), .fixed (([] : List Int).map elI64), .fixed (([] : List Int).map elI64)] 1 0 false, rowV lvI64 1 s153 v103 false, rowV lvI64 1 s154 v104 false, .cells [.pd (.int .i64 s101), .own 3 n103 v103, .own 4 n104 v104] 1 0 false]) (by kernel_rfl) ?_
                refine H_leaveP .ret (by kernel_rfl) rfl ?_
                exact H_end .ret (.tup [.agg [.pd (.int .i64 0), .pd (.sl (([] : List Int).map elI64)), .pd (.sl (([] : List Int).map elI64))], .pd (.int .i64 x44), .pd (.int .i64 2)]) (by kernel_rfl) rfl (by kernel_rfl) (by subst h; rfl)
              · replace h := h.f hc; clear hc
                refine H_askK (.ptr 5 1 0) ([rowV lvI64 1 ([] : List Int) 0 false, rowV lvI64 1 ([] : List Int) 0 false, .cells [.pd (.int .i64 0), .own 0 (([] : List Int).length) 0, .own 1 (([] : List Int).length) 0] 1 0 false, rowV lvI64 1 s153 v103 false, rowV lvI64 1 s154 v104 false, .cells [.pd (.int .i64 s101), .own 3 n103 v103, .own 4 n104 v104] 1 0 false]) (by kernel_rfl) ?_
                refine H_askK (.own 3 n103 v103) ([rowV lvI64 1 ([] : List Int) 0 false, rowV lvI64 1 ([] : List Int) 0 false, .cells [.pd (.int .i64 0), .own 0 (([] : List Int).length) 0, .own 1 (([] : List Int).length) 0] 1 0 false, rowV lvI64 1 s153 v103 false, rowV lvI64 1 s154 v104 false, .cells [.pd (.int .i64 s101), .own 3 n103 v103, .own 4 n104 v104] 1 0 false]) (by kernel_rfl) ?_
                refine H_ask _ _ (by kernel_rfl) (ask_olen (P := Tryz.prog) (M := [rowV lvI64 1 ([] : List Int) 0 false, rowV lvI64 1 ([] : List Int) 0 false, .cells [.pd (.int .i64 0), .own 0 (([] : List Int).length) 0, .own 1 (([] : List Int).length) 0] 1 0 false, rowV lvI64 1 s153 v103 false, rowV lvI64 1 s154 v104 false, .cells [.pd (.int .i64 s101), .own 3 n103 v103, .own 4 n104 v104] 1 0 false]) (t := 31) (et := 3) (lv := lvI64) (e := s153) (b := 3) (n := n103) (by kernel_rfl) (by kernel_rfl) (rowIs_v' (lv := lvI64) (s := 1) (e := s153) (ver := v103) (z := false)) hn103) ?_
                refine H_split ((s153.length : Int) == (60 : Int)) (by kernel_rfl) (fun hc => ?_) (fun hc => ?_)
                · replace h := h.t hc; clear hc
                  refine H_drawF [3, 4, 5] (by kernel_rfl) ?_
                  refine H_askK (.agg [.pd (.int .i64 0), .fixed (([] : List Int).map elI64), .fixed (([] : List Int).map elI64)]) ([rowV lvI64 1 ([] : List Int) 0 false, rowV lvI64 1 ([] : List Int) 0 false, .cells [.pd (.int .i64 0), .own 0 (([] : List Int).length) 0, .own 1 (([] : List Int).length) 0] 1 0 false, rowV lvI64 1 s153 v103 false, rowV lvI64 1 s154 v104 false, .cells [.pd (.int .i64 s101), .own 3 n103 v103, .own 4 n104 v104] 1 0 false]) (by kernel_rfl) ?_
                  obtain ⟨x47, x48, hx49, h⟩ := h
                  refine H_askall _ (by kernel_rfl) (fun M' => ask_idx (P := Tryz.prog) (M := M') (t := 54) (et := 56) (k := .i64) (lv := lvAI64LSZ) okAI64LSZ leAI64LSZ (by kernel_rfl) (by kernel_rfl) hx49) ?_
                  refine H_askall (.rd [.int .i64 x47, .sl (x48.map elS)]) (f := fun M' => some (.rd [.int .i64 x47, .sl (x48.map elS)], M')) (by kernel_rfl) (fun _ => rfl) ?_
                  refine H_askall (.pd (.int .i64 x47)) (f := fun M' => some (.pd (.int .i64 x47), M')) (by kernel_rfl) (fun _ => rfl) ?_
                  refine H_askK (.junk) ([rowV lvI64 1 ([] : List Int) 0 false, rowV lvI64 1 ([] : List Int) 0 false, .cells [.pd (.int .i64 0), .fixed (([] : List Int).map elI64), .fixed (([] : List Int).map elI64)] 1 0 false, rowV lvI64 1 s153 v103 false, rowV lvI64 1 s154 v104 false, .cells [.pd (.int .i64 s101), .own 3 n103 v103, .own 4 n104 v104] 1 0 false]) (by kernel_rfl) ?_
                  refine H_leaveP .ret (by kernel_rfl) rfl ?_
                  exact H_end .ret (.tup [.agg [.pd (.int .i64 0), .pd (.sl (([] : List Int).map elI64)), .pd (.sl (([] : List Int).map elI64))], .pd (.int .i64 x47), .pd (.int .i64 4)]) (by kernel_rfl) rfl (by kernel_rfl) (by subst h; rfl)
                · replace h := h.f hc; clear hc
                  refine H_draw (by kernel_rfl) ?_
                  refine H_askK (.ptr 5 1 0) ([rowV lvI64 1 ([] : List Int) 0 false, rowV lvI64 1 ([] : List Int) 0 false, .cells [.pd (.int .i64 0), .own 0 (([] : List Int).length) 0, .own 1 (([] : List Int).length) 0] 1 0 false, rowV lvI64 1 s153 v103 false, rowV lvI64 1 s154 v104 false, .cells [.pd (.int .i64 s101), .own 3 n103 v103, .own 4 n104 v104] 1 0 false]) (by kernel_rfl) ?_
                  refine H_askK (.own 3 n103 v103) ([rowV lvI64 1 ([] : List Int) 0 false, rowV lvI64 1 ([] : List Int) 0 false, .cells [.pd (.int .i64 0), .own 0 (([] : List Int).length) 0, .own 1 (([] : List Int).length) 0] 1 0 false, rowV lvI64 1 s153 v103 false, rowV lvI64 1 s154 v104 false, .cells [.pd (.int .i64 s101), .own 3 n103 v103, .own 4 n104 v104] 1 0 false]) (by kernel_rfl) ?_
                  obtain ⟨x50, hx51, h⟩ := h
                  refine H_ask _ _ (by kernel_rfl) (ask_idx (P := Tryz.prog) (M := [rowV lvI64 1 ([] : List Int) 0 false, rowV lvI64 1 ([] : List Int) 0 false, .cells [.pd (.int .i64 0), .own 0 (([] : List Int).length) 0, .own 1 (([] : List Int).length) 0] 1 0 false, rowV lvI64 1 s153 v103 false, rowV lvI64 1 s154 v104 false, .cells [.pd (.int .i64 s101), .own 3 n103 v103, .own 4 n104 v104] 1 0 false]) (t := 45) (et := 9) (k := .i64) (lv := lvS) okS leS (by kernel_rfl) (by kernel_rfl) hx51) ?_
                  refine H_askK (.pd (.str x50)) ([rowV lvI64 1 ([] : List Int) 0 false, rowV lvI64 1 ([] : List Int) 0 false, .cells [.pd (.int .i64 0), .own 0 (([] : List Int).length) 0, .own 1 (([] : List Int).length) 0] 1 0 false, rowV lvI64 1 s153 v103 false, rowV lvI64 1 s154 v104 false, .cells [.pd (.int .i64 s101), .own 3 n103 v103, .own 4 n104 v104] 1 0 false]) (by kernel_rfl) ?_
                  obtain ⟨x52, hx53, h⟩ := h
                  refine H_valW (g := 21) (args := [.pd (.str x50), .pd (.int .i64 1048576)]) (M := [rowV lvI64 1 ([] : List Int) 0 false, rowV lvI64 1 ([] : List Int) 0 false, .cells [.pd (.int .i64 0), .own 0 (([] : List Int).length) 0, .own 1 (([] : List Int).length) 0] 1 0 false, rowV lvI64 1 s153 v103 false, rowV lvI64 1 s154 v104 false, .cells [.pd (.int .i64 s101), .own 3 n103 v103, .own 4 n104 v104] 1 0 false]) (.pd (.int .i64 x52)) (.inr (by kernel_rfl)) (by kernel_rfl) (offcutref10_number_ok m _ _ hx53) (by kernel_rfl) (hasT 21 (by kernel_rfl)) ?_
                  obtain ⟨hx54, h⟩ := h
                  refine H_ask _ _ (by kernel_rfl) (ask_appV (P := Tryz.prog) (M := [rowV lvI64 1 ([] : List Int) 0 false, rowV lvI64 1 ([] : List Int) 0 false, .cells [.pd (.int .i64 0), .own 0 (([] : List Int).length) 0, .own 1 (([] : List Int).length) 0] 1 0 false, rowV lvI64 1 s153 v103 false, rowV lvI64 1 s154 v104 false, .cells [.pd (.int .i64 s101), .own 3 n103 v103, .own 4 n104 v104] 1 0 false]) (lv := lvI64) (s := 1) (b := 3) (e := s153) (e2 := [x52]) (ver := v103) (sT := 31) (xT := 31) (by_ := 8) okI64 (by kernel_rfl) (src_fixed (M := [rowV lvI64 1 ([] : List Int) 0 false, rowV lvI64 1 ([] : List Int) 0 false, .cells [.pd (.int .i64 0), .own 0 (([] : List Int).length) 0, .own 1 (([] : List Int).length) 0] 1 0 false, rowV lvI64 1 s153 v103 false, rowV lvI64 1 s154 v104 false, .cells [.pd (.int .i64 s101), .own 3 n103 v103, .own 4 n104 v104] 1 0 false]) okI64 leI64) (by kernel_rfl) (n := n103) hn103 hx54) ?_
                  refine H_askK (.ptr 5 1 0) ([rowV lvI64 1 ([] : List Int) 0 false, rowV lvI64 1 ([] : List Int) 0 false, .cells [.pd (.int .i64 0), .own 0 (([] : List Int).length) 0, .own 1 (([] : List Int).length) 0] 1 0 false, rowV lvI64 1 (s153 ++ [x52]) (vnext s153 [x52] v103) false, rowV lvI64 1 s154 v104 false, .cells [.pd (.int .i64 s101), .own 3 n103 v103, .own 4 n104 v104] 1 0 false]) (by kernel_rfl) ?_
                  refine H_ask _ _ (by kernel_rfl) (ask_storeC (P := Tryz.prog) (M := [rowV lvI64 1 ([] : List Int) 0 false, rowV lvI64 1 ([] : List Int) 0 false, .cells [.pd (.int .i64 0), .own 0 (([] : List Int).length) 0, .own 1 (([] : List Int).length) 0] 1 0 false, rowV lvI64 1 (s153 ++ [x52]) (vnext s153 [x52] v103) false, rowV lvI64 1 s154 v104 false, .cells [.pd (.int .i64 s101), .own 3 n103 v103, .own 4 n104 v104] 1 0 false]) (M2 := [rowV lvI64 1 ([] : List Int) 0 false, rowV lvI64 1 ([] : List Int) 0 false, .cells [.pd (.int .i64 0), .own 0 (([] : List Int).length) 0, .own 1 (([] : List Int).length) 0] 1 0 false, rowV lvI64 1 (s153 ++ [x52]) (vnext s153 [x52] v103) false, rowV lvI64 1 s154 v104 false, .cells [.pd (.int .i64 s101), .own 3 ((s153 ++ [x52]).length) (vnext s153 [x52] v103), .own 4 n104 v104] 1 0 false]) (t := 31) (b := 5) (off := 1) (v := 0) (n := 1) (s := 1) (l := [.pd (.int .i64 s101), .own 3 n103 v103, .own 4 n104 v104]) (xs := [.own 3 ((s153 ++ [x52]).length) (vnext s153 [x52] v103)]) (x := .own 3 ((s153 ++ [x52]).length) (vnext s153 [x52] v103)) (by kernel_rfl) (by kernel_rfl) rfl (by kernel_rfl) (all_c (ok_own (o := rowV lvI64 1 (s153 ++ [x52]) (vnext s153 [x52] v103) false) (by kernel_rfl) (rowIs_v' (lv := lvI64) (s := 1) (e := (s153 ++ [x52])) (ver := (vnext s153 [x52] v103)) (z := false))) all_n) rfl) ?_
                  refine H_draw (by kernel_rfl) ?_
                  refine H_askK (.ptr 5 2 0) ([rowV lvI64 1 ([] : List Int) 0 false, rowV lvI64 1 ([] : List Int) 0 false, .cells [.pd (.int .i64 0), .own 0 (([] : List Int).length) 0, .own 1 (([] : List Int).length) 0] 1 0 false, rowV lvI64 1 (s153 ++ [x52]) (vnext s153 [x52] v103) false, rowV lvI64 1 s154 v104 false, .cells [.pd (.int .i64 s101), .own 3 ((s153 ++ [x52]).length) (vnext s153 [x52] v103), .own 4 n104 v104] 1 0 false]) (by kernel_rfl) ?_
                  refine H_askK (.own 4 n104 v104) ([rowV lvI64 1 ([] : List Int) 0 false, rowV lvI64 1 ([] : List Int) 0 false, .cells [.pd (.int .i64 0), .own 0 (([] : List Int).length) 0, .own 1 (([] : List Int).length) 0] 1 0 false, rowV lvI64 1 (s153 ++ [x52]) (vnext s153 [x52] v103) false, rowV lvI64 1 s154 v104 false, .cells [.pd (.int .i64 s101), .own 3 ((s153 ++ [x52]).length) (vnext s153 [x52] v103), .own 4 n104 v104] 1 0 false]) (by kernel_rfl) ?_
                  obtain ⟨x55, hx56, h⟩ := h
                  refine H_ask _ _ (by kernel_rfl) (ask_idx (P := Tryz.prog) (M := [rowV lvI64 1 ([] : List Int) 0 false, rowV lvI64 1 ([] : List Int) 0 false, .cells [.pd (.int .i64 0), .own 0 (([] : List Int).length) 0, .own 1 (([] : List Int).length) 0] 1 0 false, rowV lvI64 1 (s153 ++ [x52]) (vnext s153 [x52] v103) false, rowV lvI64 1 s154 v104 false, .cells [.pd (.int .i64 s101), .own 3 ((s153 ++ [x52]).length) (vnext s153 [x52] v103), .own 4 n104 v104] 1 0 false]) (t := 45) (et := 9) (k := .i64) (lv := lvS) okS leS (by kernel_rfl) (by kernel_rfl) hx56) ?_
                  refine H_askK (.pd (.str x55)) ([rowV lvI64 1 ([] : List Int) 0 false, rowV lvI64 1 ([] : List Int) 0 false, .cells [.pd (.int .i64 0), .own 0 (([] : List Int).length) 0, .own 1 (([] : List Int).length) 0] 1 0 false, rowV lvI64 1 (s153 ++ [x52]) (vnext s153 [x52] v103) false, rowV lvI64 1 s154 v104 false, .cells [.pd (.int .i64 s101), .own 3 ((s153 ++ [x52]).length) (vnext s153 [x52] v103), .own 4 n104 v104] 1 0 false]) (by kernel_rfl) ?_
                  obtain ⟨x57, hx58, h⟩ := h
                  refine H_valW (g := 21) (args := [.pd (.str x55), .pd (.int .i64 1024)]) (M := [rowV lvI64 1 ([] : List Int) 0 false, rowV lvI64 1 ([] : List Int) 0 false, .cells [.pd (.int .i64 0), .own 0 (([] : List Int).length) 0, .own 1 (([] : List Int).length) 0] 1 0 false, rowV lvI64 1 (s153 ++ [x52]) (vnext s153 [x52] v103) false, rowV lvI64 1 s154 v104 false, .cells [.pd (.int .i64 s101), .own 3 ((s153 ++ [x52]).length) (vnext s153 [x52] v103), .own 4 n104 v104] 1 0 false]) (.pd (.int .i64 x57)) (.inr (by kernel_rfl)) (by kernel_rfl) (offcutref10_number_ok m _ _ hx58) (by kernel_rfl) (hasT 21 (by kernel_rfl)) ?_
                  obtain ⟨hx59, h⟩ := h
                  refine H_ask _ _ (by kernel_rfl) (ask_appV (P := Tryz.prog) (M := [rowV lvI64 1 ([] : List Int) 0 false, rowV lvI64 1 ([] : List Int) 0 false, .cells [.pd (.int .i64 0), .own 0 (([] : List Int).length) 0, .own 1 (([] : List Int).length) 0] 1 0 false, rowV lvI64 1 (s153 ++ [x52]) (vnext s153 [x52] v103) false, rowV lvI64 1 s154 v104 false, .cells [.pd (.int .i64 s101), .own 3 ((s153 ++ [x52]).length) (vnext s153 [x52] v103), .own 4 n104 v104] 1 0 false]) (lv := lvI64) (s := 1) (b := 4) (e := s154) (e2 := [x57]) (ver := v104) (sT := 31) (xT := 31) (by_ := 8) okI64 (by kernel_rfl) (src_fixed (M := [rowV lvI64 1 ([] : List Int) 0 false, rowV lvI64 1 ([] : List Int) 0 false, .cells [.pd (.int .i64 0), .own 0 (([] : List Int).length) 0, .own 1 (([] : List Int).length) 0] 1 0 false, rowV lvI64 1 (s153 ++ [x52]) (vnext s153 [x52] v103) false, rowV lvI64 1 s154 v104 false, .cells [.pd (.int .i64 s101), .own 3 ((s153 ++ [x52]).length) (vnext s153 [x52] v103), .own 4 n104 v104] 1 0 false]) okI64 leI64) (by kernel_rfl) (n := n104) hn104 hx59) ?_
                  refine H_askK (.ptr 5 2 0) ([rowV lvI64 1 ([] : List Int) 0 false, rowV lvI64 1 ([] : List Int) 0 false, .cells [.pd (.int .i64 0), .own 0 (([] : List Int).length) 0, .own 1 (([] : List Int).length) 0] 1 0 false, rowV lvI64 1 (s153 ++ [x52]) (vnext s153 [x52] v103) false, rowV lvI64 1 (s154 ++ [x57]) (vnext s154 [x57] v104) false, .cells [.pd (.int .i64 s101), .own 3 ((s153 ++ [x52]).length) (vnext s153 [x52] v103), .own 4 n104 v104] 1 0 false]) (by kernel_rfl) ?_
                  refine H_ask _ _ (by kernel_rfl) (ask_storeC (P := Tryz.prog) (M := [rowV lvI64 1 ([] : List Int) 0 false, rowV lvI64 1 ([] : List Int) 0 false, .cells [.pd (.int .i64 0), .own 0 (([] : List Int).length) 0, .own 1 (([] : List Int).length) 0] 1 0 false, rowV lvI64 1 (s153 ++ [x52]) (vnext s153 [x52] v103) false, rowV lvI64 1 (s154 ++ [x57]) (vnext s154 [x57] v104) false, .cells [.pd (.int .i64 s101), .own 3 ((s153 ++ [x52]).length) (vnext s153 [x52] v103), .own 4 n104 v104] 1 0 false]) (M2 := [rowV lvI64 1 ([] : List Int) 0 false, rowV lvI64 1 ([] : List Int) 0 false, .cells [.pd (.int .i64 0), .own 0 (([] : List Int).length) 0, .own 1 (([] : List Int).length) 0] 1 0 false, rowV lvI64 1 (s153 ++ [x52]) (vnext s153 [x52] v103) false, rowV lvI64 1 (s154 ++ [x57]) (vnext s154 [x57] v104) false, .cells [.pd (.int .i64 s101), .own 3 ((s153 ++ [x52]).length) (vnext s153 [x52] v103), .own 4 ((s154 ++ [x57]).length) (vnext s154 [x57] v104)] 1 0 false]) (t := 31) (b := 5) (off := 2) (v := 0) (n := 1) (s := 1) (l := [.pd (.int .i64 s101), .own 3 ((s153 ++ [x52]).length) (vnext s153 [x52] v103), .own 4 n104 v104]) (xs := [.own 4 ((s154 ++ [x57]).length) (vnext s154 [x57] v104)]) (x := .own 4 ((s154 ++ [x57]).length) (vnext s154 [x57] v104)) (by kernel_rfl) (by kernel_rfl) rfl (by kernel_rfl) (all_c (ok_own (o := rowV lvI64 1 (s154 ++ [x57]) (vnext s154 [x57] v104) false) (by kernel_rfl) (rowIs_v' (lv := lvI64) (s := 1) (e := (s154 ++ [x57])) (ver := (vnext s154 [x57] v104)) (z := false))) all_n) rfl) ?_
                  exact H_againP (st := _) ((IntKind.i64.wrap (s100 + 1)), s101, (s153 ++ [x52]), (s154 ++ [x57])) ((vnext s153 [x52] v103), ((s153 ++ [x52]).length), (vnext s154 [x57] v104), ((s154 ++ [x57]).length)) h ⟨rfl, rfl⟩ (by kernel_rfl) (by kernel_rfl) (by kernel_rfl) (by kernel_rfl) (by kernel_rfl)
    · replace h := h.f hc; clear hc
      refine H_leaveP (.exit 0) (by kernel_rfl) rfl ?_
      refine H_askK (.agg [.pd (.int .i64 s101), .own 3 n103 v103, .own 4 n104 v104]) ([rowV lvI64 1 ([] : List Int) 0 false, rowV lvI64 1 ([] : List Int) 0 false, .cells [.pd (.int .i64 0), .own 0 (([] : List Int).length) 0, .own 1 (([] : List Int).length) 0] 1 0 false, rowV lvI64 1 s153 v103 false, rowV lvI64 1 s154 v104 false, .cells [.pd (.int .i64 s101), .own 3 n103 v103, .own 4 n104 v104] 1 0 false]) (by kernel_rfl) ?_
      refine H_ask _ _ (by kernel_rfl) (ask_storeC (P := Tryz.prog) (M := [rowV lvI64 1 ([] : List Int) 0 false, rowV lvI64 1 ([] : List Int) 0 false, .cells [.pd (.int .i64 0), .own 0 (([] : List Int).length) 0, .own 1 (([] : List Int).length) 0] 1 0 false, rowV lvI64 1 s153 v103 false, rowV lvI64 1 s154 v104 false, .cells [.pd (.int .i64 s101), .own 3 n103 v103, .own 4 n104 v104] 1 0 false]) (M2 := [rowV lvI64 1 ([] : List Int) 0 false, rowV lvI64 1 ([] : List Int) 0 false, .cells [.pd (.int .i64 s101), .own 3 n103 v103, .own 4 n104 v104] 1 0 false, rowV lvI64 1 s153 v103 false, rowV lvI64 1 s154 v104 false, .cells [.pd (.int .i64 s101), .own 3 n103 v103, .own 4 n104 v104] 1 0 false]) (t := 33) (b := 2) (off := 0) (v := 0) (n := 3) (s := 1) (l := [.pd (.int .i64 0), .own 0 (([] : List Int).length) 0, .own 1 (([] : List Int).length) 0]) (xs := [.pd (.int .i64 s101), .own 3 n103 v103, .own 4 n104 v104]) (x := .agg [.pd (.int .i64 s101), .own 3 n103 v103, .own 4 n104 v104]) (by kernel_rfl) (by kernel_rfl) rfl (by kernel_rfl) (all_c (by kernel_rfl) (all_c (ok_own (o := rowV lvI64 1 s153 v103 false) (by kernel_rfl) (rowIs_v' (lv := lvI64) (s := 1) (e := s153) (ver := v103) (z := false))) (all_c (ok_own (o := rowV lvI64 1 s154 v104 false) (by kernel_rfl) (rowIs_v' (lv := lvI64) (s := 1) (e := s154) (ver := v104) (z := false))) all_n))) rfl) ?_
      exact H_endX .ret (.tup [.agg [.pd (.int .i64 s101), .own 3 n103 v103, .own 4 n104 v104], .pd (.int .i64 0), .pd (.int .i64 0)]) (.tup [.agg [.pd (.int .i64 s101), .pd (.sl (s153.map elI64)), .pd (.sl (s154.map elI64))], .pd (.int .i64 0), .pd (.int .i64 0)]) ([rowV lvI64 1 ([] : List Int) 0 false, rowV lvI64 1 ([] : List Int) 0 false, .cells [.pd (.int .i64 s101), .own 3 n103 v103, .own 4 n104 v104] 1 0 false, rowV lvI64 1 s153 v103 false, rowV lvI64 1 s154 v104 false, .cells [.pd (.int .i64 s101), .own 3 n103 v103, .own 4 n104 v104] 1 0 false]) (by kernel_rfl) rfl (by kernel_rfl) (by kernel_rfl) (pure_tup (pl_cons (pure_agg (pl_cons rfl (pl_cons (pure1_own okI64 (by decide) lgI64 (M := [rowV lvI64 1 ([] : List Int) 0 false, rowV lvI64 1 ([] : List Int) 0 false, .cells [.pd (.int .i64 s101), .own 3 n103 v103, .own 4 n104 v104] 1 0 false, rowV lvI64 1 s153 v103 false, rowV lvI64 1 s154 v104 false, .cells [.pd (.int .i64 s101), .own 3 n103 v103, .own 4 n104 v104] 1 0 false]) (b := 3) (o := rowV lvI64 1 s153 v103 false) (by kernel_rfl) (rowIs_v' (lv := lvI64) (s := 1) (e := s153) (ver := v103) (z := false)) (n := n103) hn103) (pl_cons (pure1_own okI64 (by decide) lgI64 (M := [rowV lvI64 1 ([] : List Int) 0 false, rowV lvI64 1 ([] : List Int) 0 false, .cells [.pd (.int .i64 s101), .own 3 n103 v103, .own 4 n104 v104] 1 0 false, rowV lvI64 1 s153 v103 false, rowV lvI64 1 s154 v104 false, .cells [.pd (.int .i64 s101), .own 3 n103 v103, .own 4 n104 v104] 1 0 false]) (b := 4) (o := rowV lvI64 1 s154 v104 false) (by kernel_rfl) (rowIs_v' (lv := lvI64) (s := 1) (e := s154) (ver := v104) (z := false)) (n := n104) hn104) pl_nil)))) (pl_cons rfl (pl_cons rfl pl_nil)))) (by subst h; rfl)

theorem offcutlaw10_StockParses_ok (m : Tp) (p0 : List UInt8) {r : Bool} (h : offcutlaw10_StockParses p0 r) : ASpec Tryz.prog (gtT m) 3 [.pd (.str p0)] (· = .pd (.bool r)) := by
  refine ASpec_tree Tryz.f3 mixedT (askG [9, 10, 11] false) (by kernel_rfl) ?_
  unfold offcutlaw10_StockParses at h
  refine H_askK (.pd (.int .i64 (p0.length : Int))) ([]) (by kernel_rfl) ?_
  refine H_split (decide ((p0.length : Int) > (3000 : Int))) (by kernel_rfl) (fun hc => ?_) (fun hc => ?_)
  · replace h := h.t hc; clear hc
    obtain ⟨x1, hx2, h⟩ := h
    refine H_valW (g := 5) (args := []) (M := []) (.pd (.bool x1)) (.inl (by kernel_rfl)) (by kernel_rfl) (offcutlaw10_awake_ok m  hx2) (by kernel_rfl) (hasT 5 (by kernel_rfl)) ?_
    cases x1
    · replace h := h.f rfl
      exact H_end .ret (.pd (.bool false)) (by kernel_rfl) rfl (by kernel_rfl) (by subst h; rfl)
    · replace h := h.t rfl
      exact H_end .ret (.pd (.bool true)) (by kernel_rfl) rfl (by kernel_rfl) (by subst h; rfl)
  · replace h := h.f hc; clear hc
    obtain ⟨x3, x4, x5, x6, hx7, h⟩ := h
    refine H_valW (g := 6) (args := [.pd (.str p0)]) (M := []) (.tup [.agg [.pd (.int .i64 x3), .pd (.sl (x4.map elAI64I64Z))], .pd (.int .i64 x5), .pd (.int .i64 x6)]) (.inl (by kernel_rfl)) (by kernel_rfl) (stock_Parse_ok m _ hx7) (by kernel_rfl) (hasT 6 (by kernel_rfl)) ?_
    refine H_askK (.junk) ([.cells [.pd (.int .i64 x3), .pd (.sl (x4.map elAI64I64Z))] 1 0 false]) (by kernel_rfl) ?_
    obtain ⟨x8, hx9, h⟩ := h
    refine H_valW (g := 7) (args := [.pd (.str p0)]) (M := [.cells [.pd (.int .i64 x3), .pd (.sl (x4.map elAI64I64Z))] 1 0 false]) (.pd (.bool x8)) (.inl (by kernel_rfl)) (by kernel_rfl) (offcutref07_Right_ok m _ hx9) (by kernel_rfl) (hasT 7 (by kernel_rfl)) ?_
    cases x8
    · replace h := h.f rfl
      refine H_askK (.agg [.pd (.int .i64 x3), .pd (.sl (x4.map elAI64I64Z))]) ([.cells [.pd (.int .i64 x3), .pd (.sl (x4.map elAI64I64Z))] 1 0 false]) (by kernel_rfl) ?_
      refine H_askK (.agg [.pd (.int .i64 0), .fixed (([] : List Int).map elI64), .fixed (([] : List Int).map elI64)]) ([.cells [.pd (.int .i64 x3), .pd (.sl (x4.map elAI64I64Z))] 1 0 false]) (by kernel_rfl) ?_
      obtain ⟨x20, hx21, h⟩ := h
      refine H_valW (g := 8) (args := [.agg [.pd (.int .i64 x3), .pd (.sl (x4.map elAI64I64Z))], .agg [.pd (.int .i64 0), .fixed (([] : List Int).map elI64), .fixed (([] : List Int).map elI64)]]) (M := [.cells [.pd (.int .i64 x3), .pd (.sl (x4.map elAI64I64Z))] 1 0 false]) (.pd (.bool x20)) (.inl (by kernel_rfl)) (by kernel_rfl) (offcutlaw10_same_ok m _ _ _ _ _ hx21) (by kernel_rfl) (hasT 8 (by kernel_rfl)) ?_
      cases x20
      · replace h := h.f rfl
        exact H_end .ret (.pd (.bool false)) (by kernel_rfl) rfl (by kernel_rfl) (by subst h; rfl)
      · replace h := h.t rfl
        refine H_split (x5 == (0 : Int)) (by kernel_rfl) (fun hc => ?_) (fun hc => ?_)
        · replace h := h.t hc; clear hc
          refine H_split (x6 == (2 : Int)) (by kernel_rfl) (fun hc => ?_) (fun hc => ?_)
          · replace h := h.t hc; clear hc
            obtain ⟨x22, hx23, h⟩ := h
            refine H_valW (g := 5) (args := []) (M := [.cells [.pd (.int .i64 x3), .pd (.sl (x4.map elAI64I64Z))] 1 0 false]) (.pd (.bool x22)) (.inl (by kernel_rfl)) (by kernel_rfl) (offcutlaw10_awake_ok m  hx23) (by kernel_rfl) (hasT 5 (by kernel_rfl)) ?_
            cases x22
            · replace h := h.f rfl
              exact H_end .ret (.pd (.bool false)) (by kernel_rfl) rfl (by kernel_rfl) (by subst h; rfl)
            · replace h := h.t rfl
              exact H_end .ret (.pd (.bool true)) (by kernel_rfl) rfl (by kernel_rfl) (by subst h; rfl)
          · replace h := h.f hc; clear hc
            exact H_end .ret (.pd (.bool false)) (by kernel_rfl) rfl (by kernel_rfl) (by subst h; rfl)
        · replace h := h.f hc; clear hc
          exact H_end .ret (.pd (.bool false)) (by kernel_rfl) rfl (by kernel_rfl) (by subst h; rfl)
    · replace h := h.t rfl
      obtain ⟨x10, x11, x12, x13, x14, hx15, h⟩ := h
      refine H_valW (g := 9) (args := [.pd (.str p0)]) (M := [.cells [.pd (.int .i64 x3), .pd (.sl (x4.map elAI64I64Z))] 1 0 false]) (.tup [.agg [.pd (.int .i64 x10), .pd (.sl (x11.map elI64)), .pd (.sl (x12.map elI64))], .pd (.int .i64 x13), .pd (.int .i64 x14)]) (.inl (by kernel_rfl)) (by kernel_rfl) (offcutref10_Parse_ok m _ hx15) (by kernel_rfl) (hasT 9 (by kernel_rfl)) ?_
      refine H_askK (.junk) ([.cells [.pd (.int .i64 x3), .pd (.sl (x4.map elAI64I64Z))] 1 0 false, .cells [.pd (.int .i64 x10), .pd (.sl (x11.map elI64)), .pd (.sl (x12.map elI64))] 1 0 false]) (by kernel_rfl) ?_
      refine H_askK (.agg [.pd (.int .i64 x3), .pd (.sl (x4.map elAI64I64Z))]) ([.cells [.pd (.int .i64 x3), .pd (.sl (x4.map elAI64I64Z))] 1 0 false, .cells [.pd (.int .i64 x10), .pd (.sl (x11.map elI64)), .pd (.sl (x12.map elI64))] 1 0 false]) (by kernel_rfl) ?_
      refine H_askK (.agg [.pd (.int .i64 x10), .pd (.sl (x11.map elI64)), .pd (.sl (x12.map elI64))]) ([.cells [.pd (.int .i64 x3), .pd (.sl (x4.map elAI64I64Z))] 1 0 false, .cells [.pd (.int .i64 x10), .pd (.sl (x11.map elI64)), .pd (.sl (x12.map elI64))] 1 0 false]) (by kernel_rfl) ?_
      obtain ⟨x16, hx17, h⟩ := h
      refine H_valW (g := 8) (args := [.agg [.pd (.int .i64 x3), .pd (.sl (x4.map elAI64I64Z))], .agg [.pd (.int .i64 x10), .pd (.sl (x11.map elI64)), .pd (.sl (x12.map elI64))]]) (M := [.cells [.pd (.int .i64 x3), .pd (.sl (x4.map elAI64I64Z))] 1 0 false, .cells [.pd (.int .i64 x10), .pd (.sl (x11.map elI64)), .pd (.sl (x12.map elI64))] 1 0 false]) (.pd (.bool x16)) (.inl (by kernel_rfl)) (by kernel_rfl) (offcutlaw10_same_ok m _ _ _ _ _ hx17) (by kernel_rfl) (hasT 8 (by kernel_rfl)) ?_
      cases x16
      · replace h := h.f rfl
        exact H_end .ret (.pd (.bool false)) (by kernel_rfl) rfl (by kernel_rfl) (by subst h; rfl)
      · replace h := h.t rfl
        refine H_split (x5 == x13) (by kernel_rfl) (fun hc => ?_) (fun hc => ?_)
        · replace h := h.t hc; clear hc
          refine H_split (x6 == x14) (by kernel_rfl) (fun hc => ?_) (fun hc => ?_)
          · replace h := h.t hc; clear hc
            obtain ⟨x18, hx19, h⟩ := h
            refine H_valW (g := 5) (args := []) (M := [.cells [.pd (.int .i64 x3), .pd (.sl (x4.map elAI64I64Z))] 1 0 false, .cells [.pd (.int .i64 x10), .pd (.sl (x11.map elI64)), .pd (.sl (x12.map elI64))] 1 0 false]) (.pd (.bool x18)) (.inl (by kernel_rfl)) (by kernel_rfl) (offcutlaw10_awake_ok m  hx19) (by kernel_rfl) (hasT 5 (by kernel_rfl)) ?_
            cases x18
            · replace h := h.f rfl
              exact H_end .ret (.pd (.bool false)) (by kernel_rfl) rfl (by kernel_rfl) (by subst h; rfl)
            · replace h := h.t rfl
              exact H_end .ret (.pd (.bool true)) (by kernel_rfl) rfl (by kernel_rfl) (by subst h; rfl)
          · replace h := h.f hc; clear hc
            exact H_end .ret (.pd (.bool false)) (by kernel_rfl) rfl (by kernel_rfl) (by subst h; rfl)
        · replace h := h.f hc; clear hc
          exact H_end .ret (.pd (.bool false)) (by kernel_rfl) rfl (by kernel_rfl) (by subst h; rfl)

theorem stock_Right_1_ok (m : Tp) (p0 : Int) (p1 : Int) {r : Bool} (h : stock_Right_1 p0 p1 r) : ASpec Tryz.prog (gtT m) 24 [.agg [.pd (.int .i64 p0), .pd (.int .i64 p1)]] (· = .pd (.bool r)) := by
  refine ASpec_tree Tryz.f24 mixedT (askG [9, 10, 11] false) (by kernel_rfl) ?_
  unfold stock_Right_1 at h
  refine H_askK (.ptr 0 0 0) ([.cells [.pd (.int .i64 p0), .pd (.int .i64 p1)] 1 0 false]) (by kernel_rfl) ?_
  refine H_askK (.agg [.pd (.int .i64 p0), .pd (.int .i64 p1)]) ([.cells [.pd (.int .i64 p0), .pd (.int .i64 p1)] 1 0 false]) (by kernel_rfl) ?_
  obtain ⟨x1, hx2, h⟩ := h
  refine H_valW (g := 19) (args := [.agg [.pd (.int .i64 p0), .pd (.int .i64 p1)]]) (M := [.cells [.pd (.int .i64 p0), .pd (.int .i64 p1)] 1 0 false]) (.pd (.bool x1)) (.inl (by kernel_rfl)) (by kernel_rfl) (stock_item_ok m _ _ hx2) (by kernel_rfl) (hasT 19 (by kernel_rfl)) ?_
  cases x1
  · replace h := h.f rfl
    exact H_end .ret (.pd (.bool true)) (by kernel_rfl) rfl (by kernel_rfl) (by subst h; rfl)
  · replace h := h.t rfl
    exact H_end .ret (.pd (.bool false)) (by kernel_rfl) rfl (by kernel_rfl) (by subst h; rfl)

theorem stock_Right_ok (m : Tp) (p0 : Int) (p1 : List (Int × Int)) {r : Bool} (h : stock_Right p0 p1 r) : ASpec Tryz.prog (gtT m) 11 [.agg [.pd (.int .i64 p0), .pd (.sl (p1.map elAI64I64Z))]] (· = .pd (.bool r)) := by
  refine ASpec_tree Tryz.f11 mixedT (askG [9, 10, 11] false) (by kernel_rfl) ?_
  unfold stock_Right at h
  refine H_askK (.ptr 0 0 0) ([.cells [.pd (.int .i64 p0), .pd (.sl (p1.map elAI64I64Z))] 1 0 false]) (by kernel_rfl) ?_
  refine H_askK (.ptr 0 0 0) ([.cells [.pd (.int .i64 p0), .pd (.sl (p1.map elAI64I64Z))] 1 0 false]) (by kernel_rfl) ?_
  refine H_askK (.pd (.int .i64 p0)) ([.cells [.pd (.int .i64 p0), .pd (.sl (p1.map elAI64I64Z))] 1 0 false]) (by kernel_rfl) ?_
  obtain ⟨x1, hx2, h⟩ := h
  refine H_valW (g := 18) (args := [.pd (.int .i64 p0), .pd (.int .i64 1), .pd (.int .i64 1048576)]) (M := [.cells [.pd (.int .i64 p0), .pd (.sl (p1.map elAI64I64Z))] 1 0 false]) (.pd (.bool x1)) (.inl (by kernel_rfl)) (by kernel_rfl) (stock_in_ok m _ _ _ hx2) (by kernel_rfl) (hasT 18 (by kernel_rfl)) ?_
  cases x1
  · replace h := h.f rfl
    exact H_end .ret (.pd (.bool false)) (by kernel_rfl) rfl (by kernel_rfl) (by subst h; rfl)
  · replace h := h.t rfl
    refine H_askK (.ptr 0 1 0) ([.cells [.pd (.int .i64 p0), .pd (.sl (p1.map elAI64I64Z))] 1 0 false]) (by kernel_rfl) ?_
    refine H_askK (.pd (.sl (p1.map elAI64I64Z))) ([.cells [.pd (.int .i64 p0), .pd (.sl (p1.map elAI64I64Z))] 1 0 false]) (by kernel_rfl) ?_
    refine H_ask _ _ (by kernel_rfl) (ask_len (P := Tryz.prog) (M := [.cells [.pd (.int .i64 p0), .pd (.sl (p1.map elAI64I64Z))] 1 0 false]) (t := 23) (et := 53) (el := elAI64I64Z) (by kernel_rfl) (e := p1)) ?_
    refine H_split (decide ((p1.length : Int) ≤ (60 : Int))) (by kernel_rfl) (fun hc => ?_) (fun hc => ?_)
    · replace h := h.t hc; clear hc
      refine H_askK (.ptr 0 1 0) ([.cells [.pd (.int .i64 p0), .pd (.sl (p1.map elAI64I64Z))] 1 0 false]) (by kernel_rfl) ?_
      refine H_askK (.pd (.sl (p1.map elAI64I64Z))) ([.cells [.pd (.int .i64 p0), .pd (.sl (p1.map elAI64I64Z))] 1 0 false]) (by kernel_rfl) ?_
      refine H_inl (g := 25) (args := [.pd (.sl (p1.map elAI64I64Z)), .fn (.func 24) [] []]) (M := [.cells [.pd (.int .i64 p0), .pd (.sl (p1.map elAI64I64Z))] 1 0 false]) Tryz.f25 mixedT (askG [9, 10, 11] false) (by kernel_rfl) (by kernel_rfl) (hasT 25 (by kernel_rfl)) ?_
      refine H_inl (g := 34) (args := [.pd (.sl (p1.map elAI64I64Z)), .fn (.func 24) [] []]) (M := [.cells [.pd (.int .i64 p0), .pd (.sl (p1.map elAI64I64Z))] 1 0 false]) Tryz.f34 mixedT (askG [9, 10, 11] false) (by kernel_rfl) (by kernel_rfl) (hasT 34 (by kernel_rfl)) ?_
      refine H_ask _ _ (by kernel_rfl) (ask_len (P := Tryz.prog) (M := [.cells [.pd (.int .i64 p0), .pd (.sl (p1.map elAI64I64Z))] 1 0 false]) (t := 23) (et := 53) (el := elAI64I64Z) (by kernel_rfl) (e := p1)) ?_
      refine H_loopP (F := stock_Right_L1 p1 r) (s0 := (0 : Int)) h () 19 1
        (fun (s100 : Int) (() : Unit) => [(0, .pd (.sl (p1.map elAI64I64Z))), (1, .fn (.func 24) [] []), (7, .pd (.int .i64 (p1.length : Int))), (8, .pd (.int .i64 s100))])
        (fun (s100 : Int) (() : Unit) => [.cells [.pd (.int .i64 p0), .pd (.sl (p1.map elAI64I64Z))] 1 0 false]) (fun (s100 : Int) (() : Unit) => True) trivial [] mixedT (askG [9, 10, 11] false)
        (by kernel_rfl) (by kernel_rfl) (by kernel_rfl) (by kernel_rfl) (by kernel_rfl) (fun _ _ => rfl) ?_
      rintro X1 s100 ⟨⟩ - h
      dsimp only [stock_Right_L1] at h
      refine H_split (decide (s100 < (p1.length : Int))) (by kernel_rfl) (fun hc => ?_) (fun hc => ?_)
      · replace h := h.t hc; clear hc
        obtain ⟨x3, x4, hx5, h⟩ := h
        refine H_ask _ _ (by kernel_rfl) (ask_idx (P := Tryz.prog) (M := [.cells [.pd (.int .i64 p0), .pd (.sl (p1.map elAI64I64Z))] 1 0 false]) (t := 23) (et := 53) (k := .i64) (lv := lvAI64I64Z) okAI64I64Z leAI64I64Z (by kernel_rfl) (by kernel_rfl) hx5) ?_
        refine H_askK (.agg [.pd (.int .i64 x3), .pd (.int .i64 x4)]) ([.cells [.pd (.int .i64 p0), .pd (.sl (p1.map elAI64I64Z))] 1 0 false]) (by kernel_rfl) ?_
        obtain ⟨x6, hx7, h⟩ := h
        refine H_valW (g := 24) (args := [.agg [.pd (.int .i64 x3), .pd (.int .i64 x4)]]) (M := [.cells [.pd (.int .i64 p0), .pd (.sl (p1.map elAI64I64Z))] 1 0 false]) (.pd (.bool x6)) (.inl (by kernel_rfl)) (by kernel_rfl) (stock_Right_1_ok m _ _ hx7) (by kernel_rfl) (hasT 24 (by kernel_rfl)) ?_
        cases x6
        · replace h := h.f rfl
          exact H_againP (st := _) (IntKind.i64.wrap (s100 + 1)) () h trivial (by kernel_rfl) (by kernel_rfl) (by kernel_rfl) (by kernel_rfl) (by kernel_rfl)
        · replace h := h.t rfl
          refine H_leaveP .ret (by kernel_rfl) rfl ?_
          refine H_endM .ret (.pd (.int .i64 s100)) ([.cells [.pd (.int .i64 p0), .pd (.sl (p1.map elAI64I64Z))] 1 0 false]) (by kernel_rfl) rfl (by kernel_rfl) (by kernel_rfl) (by kernel_rfl) ?_
          refine H_split (decide (s100 ≥ (0 : Int))) (by kernel_rfl) (fun hc => ?_) (fun hc => ?_)
          · replace h := h.t hc; clear hc
            refine H_endM .ret (.pd (.bool true)) ([.cells [.pd (.int .i64 p0), .pd (.sl (p1.map elAI64I64Z))] 1 0 false]) (by kernel_rfl) rfl (by kernel_rfl) (by kernel_rfl) (by kernel_rfl) ?_
            exact H_end .ret (.pd (.bool false)) (by kernel_rfl) rfl (by kernel_rfl) (by subst h; rfl)
          · replace h := h.f hc; clear hc
            refine H_endM .ret (.pd (.bool false)) ([.cells [.pd (.int .i64 p0), .pd (.sl (p1.map elAI64I64Z))] 1 0 false]) (by kernel_rfl) rfl (by kernel_rfl) (by kernel_rfl) (by kernel_rfl) ?_
            exact H_end .ret (.pd (.bool true)) (by kernel_rfl) rfl (by kernel_rfl) (by subst h; rfl)
      · replace h := h.f hc; clear hc
        refine H_leaveP (.exit 0) (by kernel_rfl) rfl ?_
        refine H_endM .ret (.pd (.int .i64 (-1))) ([.cells [.pd (.int .i64 p0), .pd (.sl (p1.map elAI64I64Z))] 1 0 false]) (by kernel_rfl) rfl (by kernel_rfl) (by kernel_rfl) (by kernel_rfl) ?_
        refine H_split false (by kernel_rfl) (fun hc => by cases hc) (fun _ => ?_)
        refine H_endM .ret (.pd (.bool false)) ([.cells [.pd (.int .i64 p0), .pd (.sl (p1.map elAI64I64Z))] 1 0 false]) (by kernel_rfl) rfl (by kernel_rfl) (by kernel_rfl) (by kernel_rfl) ?_
        exact H_end .ret (.pd (.bool true)) (by kernel_rfl) rfl (by kernel_rfl) (by subst h; rfl)
    · replace h := h.f hc; clear hc
      exact H_end .ret (.pd (.bool false)) (by kernel_rfl) rfl (by kernel_rfl) (by subst h; rfl)

theorem stock_Print_ok (m : Tp) (p0 : Int) (p1 : List (Int × Int)) {r : (List UInt8) × Int} (h : stock_Print p0 p1 r) : ASpec Tryz.prog (gtT m) 10 [.agg [.pd (.int .i64 p0), .pd (.sl (p1.map elAI64I64Z))]] (· = .tup [.pd (.str r.1), .pd (.int .i64 r.2)]) := by
  refine ASpec_tree Tryz.f10 mixedT (askG [9, 10, 11] false) (by kernel_rfl) ?_
  unfold stock_Print at h
  refine H_askK (.ptr 0 0 0) ([.cells [.pd (.int .i64 p0), .pd (.sl (p1.map elAI64I64Z))] 1 0 false]) (by kernel_rfl) ?_
  refine H_askK (.agg [.pd (.int .i64 p0), .pd (.sl (p1.map elAI64I64Z))]) ([.cells [.pd (.int .i64 p0), .pd (.sl (p1.map elAI64I64Z))] 1 0 false]) (by kernel_rfl) ?_
  obtain ⟨x1, hx2, h⟩ := h
  refine H_valW (g := 11) (args := [.agg [.pd (.int .i64 p0), .pd (.sl (p1.map elAI64I64Z))]]) (M := [.cells [.pd (.int .i64 p0), .pd (.sl (p1.map elAI64I64Z))] 1 0 false]) (.pd (.bool x1)) (.inl (by kernel_rfl)) (by kernel_rfl) (stock_Right_ok m _ _ hx2) (by kernel_rfl) (hasT 11 (by kernel_rfl)) ?_
  cases x1
  · replace h := h.f rfl
    exact H_end .ret (.tup [.pd (.str ([] : List UInt8)), .pd (.int .i64 1)]) (by kernel_rfl) rfl (by kernel_rfl) (by subst h; rfl)
  · replace h := h.t rfl
    refine H_askK (.ptr 0 0 0) ([.cells [.pd (.int .i64 p0), .pd (.sl (p1.map elAI64I64Z))] 1 0 false]) (by kernel_rfl) ?_
    refine H_askK (.pd (.int .i64 p0)) ([.cells [.pd (.int .i64 p0), .pd (.sl (p1.map elAI64I64Z))] 1 0 false]) (by kernel_rfl) ?_
    obtain ⟨x3, hx4, h⟩ := h
    refine H_valW (g := 23) (args := [.pd (.int .i64 p0)]) (M := [.cells [.pd (.int .i64 p0), .pd (.sl (p1.map elAI64I64Z))] 1 0 false]) (.pd (.str x3)) (.inl (by kernel_rfl)) (by kernel_rfl) (strconv_Itoa_ok m _ hx4) (by kernel_rfl) (hasT 23 (by kernel_rfl)) ?_
    obtain ⟨x5, hx6, h⟩ := h
    refine H_valW (g := 22) (args := [.fixed ([([114, 111, 108, 108] : List UInt8), x3].map elS)]) (M := [.cells [.pd (.int .i64 p0), .pd (.sl (p1.map elAI64I64Z))] 1 0 false]) (.pd (.str x5)) (.inl (by kernel_rfl)) (by kernel_rfl) (lines_Join_ok m _ hx6) (by kernel_rfl) (hasT 22 (by kernel_rfl)) ?_
    obtain ⟨hx7, h⟩ := h
    refine H_ask _ _ (by kernel_rfl) (ask_cat (P := Tryz.prog) (M := [.cells [.pd (.int .i64 p0), .pd (.sl (p1.map elAI64I64Z))] 1 0 false]) (t := 9) hx7) ?_
    refine H_askK (.ptr 0 1 0) ([.cells [.pd (.int .i64 p0), .pd (.sl (p1.map elAI64I64Z))] 1 0 false]) (by kernel_rfl) ?_
    refine H_askK (.pd (.sl (p1.map elAI64I64Z))) ([.cells [.pd (.int .i64 p0), .pd (.sl (p1.map elAI64I64Z))] 1 0 false]) (by kernel_rfl) ?_
    refine H_ask _ _ (by kernel_rfl) (ask_len (P := Tryz.prog) (M := [.cells [.pd (.int .i64 p0), .pd (.sl (p1.map elAI64I64Z))] 1 0 false]) (t := 23) (et := 53) (el := elAI64I64Z) (by kernel_rfl) (e := p1)) ?_
    refine H_loopP (F := stock_Print_L1 p1 r) (s0 := ((x5 ++ ([10] : List UInt8)), (0 : Int))) h () 36 1
      (fun ((s100, s101) : (List UInt8) × Int) (() : Unit) => [(4, .pd (.str s100)), (17, .pd (.sl (p1.map elAI64I64Z))), (18, .pd (.int .i64 (p1.length : Int))), (19, .pd (.int .i64 s101))])
      (fun ((s100, s101) : (List UInt8) × Int) (() : Unit) => [.cells [.pd (.int .i64 p0), .pd (.sl (p1.map elAI64I64Z))] 1 0 false]) (fun ((s100, s101) : (List UInt8) × Int) (() : Unit) => True) trivial [] mixedT (askG [9, 10, 11] false)
      (by kernel_rfl) (by kernel_rfl) (by kernel_rfl) (by kernel_rfl) (by kernel_rfl) (fun _ _ => rfl) ?_
    rintro X1 ⟨s100, s101⟩ ⟨⟩ - h
    dsimp only [stock_Print_L1] at h
    refine H_split (decide (s101 < (p1.length : Int))) (by kernel_rfl) (fun hc => ?_) (fun hc => ?_)
    · replace h := h.t hc; clear hc
      obtain ⟨x8, x9, hx10, h⟩ := h
      refine H_ask _ _ (by kernel_rfl) (ask_idx (P := Tryz.prog) (M := [.cells [.pd (.int .i64 p0), .pd (.sl (p1.map elAI64I64Z))] 1 0 false]) (t := 23) (et := 53) (k := .i64) (lv := lvAI64I64Z) okAI64I64Z leAI64I64Z (by kernel_rfl) (by kernel_rfl) hx10) ?_
      refine H_askK (.agg [.pd (.int .i64 x8), .pd (.int .i64 x9)]) ([.cells [.pd (.int .i64 p0), .pd (.sl (p1.map elAI64I64Z))] 1 0 false]) (by kernel_rfl) ?_
      refine H_askK (.junk) ([.cells [.pd (.int .i64 p0), .pd (.sl (p1.map elAI64I64Z))] 1 0 false, .cells [.pd (.int .i64 x8), .pd (.int .i64 x9)] 1 0 false]) (by kernel_rfl) ?_
      refine H_draw (by kernel_rfl) ?_
      refine H_askK (.ptr 1 0 0) ([.cells [.pd (.int .i64 p0), .pd (.sl (p1.map elAI64I64Z))] 1 0 false, .cells [.pd (.int .i64 x8), .pd (.int .i64 x9)] 1 0 false]) (by kernel_rfl) ?_
      refine H_askK (.pd (.int .i64 x8)) ([.cells [.pd (.int .i64 p0), .pd (.sl (p1.map elAI64I64Z))] 1 0 false, .cells [.pd (.int .i64 x8), .pd (.int .i64 x9)] 1 0 false]) (by kernel_rfl) ?_
      obtain ⟨x11, hx12, h⟩ := h
      refine H_valW (g := 23) (args := [.pd (.int .i64 x8)]) (M := [.cells [.pd (.int .i64 p0), .pd (.sl (p1.map elAI64I64Z))] 1 0 false, .cells [.pd (.int .i64 x8), .pd (.int .i64 x9)] 1 0 false]) (.pd (.str x11)) (.inr (by kernel_rfl)) (by kernel_rfl) (strconv_Itoa_ok m _ hx12) (by kernel_rfl) (hasT 23 (by kernel_rfl)) ?_
      refine H_askK (.ptr 1 1 0) ([.cells [.pd (.int .i64 p0), .pd (.sl (p1.map elAI64I64Z))] 1 0 false, .cells [.pd (.int .i64 x8), .pd (.int .i64 x9)] 1 0 false]) (by kernel_rfl) ?_
      refine H_askK (.pd (.int .i64 x9)) ([.cells [.pd (.int .i64 p0), .pd (.sl (p1.map elAI64I64Z))] 1 0 false, .cells [.pd (.int .i64 x8), .pd (.int .i64 x9)] 1 0 false]) (by kernel_rfl) ?_
      obtain ⟨x13, hx14, h⟩ := h
      refine H_valW (g := 23) (args := [.pd (.int .i64 x9)]) (M := [.cells [.pd (.int .i64 p0), .pd (.sl (p1.map elAI64I64Z))] 1 0 false, .cells [.pd (.int .i64 x8), .pd (.int .i64 x9)] 1 0 false]) (.pd (.str x13)) (.inr (by kernel_rfl)) (by kernel_rfl) (strconv_Itoa_ok m _ hx14) (by kernel_rfl) (hasT 23 (by kernel_rfl)) ?_
      obtain ⟨x15, hx16, h⟩ := h
      refine H_valW (g := 22) (args := [.fixed ([([105, 116, 101, 109] : List UInt8), x11, x13].map elS)]) (M := [.cells [.pd (.int .i64 p0), .pd (.sl (p1.map elAI64I64Z))] 1 0 false, .cells [.pd (.int .i64 x8), .pd (.int .i64 x9)] 1 0 false]) (.pd (.str x15)) (.inr (by kernel_rfl)) (by kernel_rfl) (lines_Join_ok m _ hx16) (by kernel_rfl) (hasT 22 (by kernel_rfl)) ?_
      obtain ⟨hx17, h⟩ := h
      refine H_ask _ _ (by kernel_rfl) (ask_cat (P := Tryz.prog) (M := [.cells [.pd (.int .i64 p0), .pd (.sl (p1.map elAI64I64Z))] 1 0 false, .cells [.pd (.int .i64 x8), .pd (.int .i64 x9)] 1 0 false]) (t := 9) hx17) ?_
      obtain ⟨hx18, h⟩ := h
      refine H_ask _ _ (by kernel_rfl) (ask_cat (P := Tryz.prog) (M := [.cells [.pd (.int .i64 p0), .pd (.sl (p1.map elAI64I64Z))] 1 0 false, .cells [.pd (.int .i64 x8), .pd (.int .i64 x9)] 1 0 false]) (t := 9) hx18) ?_
      exact H_againC (st := _) ((s100 ++ (x15 ++ ([10] : List UInt8))), (IntKind.i64.wrap (s101 + 1))) () h trivial (by kernel_rfl) (by kernel_rfl) (by kernel_rfl) (by kernel_rfl) (by kernel_rfl) (by kernel_rfl) (all_c (by kernel_rfl) all_n) (by kernel_rfl) (by kernel_rfl)
    · replace h := h.f hc; clear hc
      refine H_leaveP (.exit 0) (by kernel_rfl) rfl ?_
      exact H_end .ret (.tup [.pd (.str s100), .pd (.int .i64 0)]) (by kernel_rfl) rfl (by kernel_rfl) (by subst h; rfl)

theorem offcutref10_Right_ok (m : Tp) (p0 : Int) (p1 : List Int) (p2 : List Int) {r : Bool} (h : offcutref10_Right p0 p1 p2 r) : ASpec Tryz.prog (gtT m) 12 [.agg [.pd (.int .i64 p0), .pd (.sl (p1.map elI64)), .pd (.sl (p2.map elI64))]] (· = .pd (.bool r)) := by
  refine ASpec_tree Tryz.f12 mixedT (askG [9, 10, 11] false) (by kernel_rfl) ?_
  unfold offcutref10_Right at h
  refine H_askK (.ptr 0 0 0) ([.cells [.pd (.int .i64 p0), .pd (.sl (p1.map elI64)), .pd (.sl (p2.map elI64))] 1 0 false]) (by kernel_rfl) ?_
  refine H_askK (.ptr 0 0 0) ([.cells [.pd (.int .i64 p0), .pd (.sl (p1.map elI64)), .pd (.sl (p2.map elI64))] 1 0 false]) (by kernel_rfl) ?_
  refine H_askK (.pd (.int .i64 p0)) ([.cells [.pd (.int .i64 p0), .pd (.sl (p1.map elI64)), .pd (.sl (p2.map elI64))] 1 0 false]) (by kernel_rfl) ?_
  refine H_split (decide (p0 < (1 : Int))) (by kernel_rfl) (fun hc => ?_) (fun hc => ?_)
  · replace h := h.t hc; clear hc
    exact H_end .ret (.pd (.bool false)) (by kernel_rfl) rfl (by kernel_rfl) (by subst h; rfl)
  · replace h := h.f hc; clear hc
    refine H_askK (.ptr 0 0 0) ([.cells [.pd (.int .i64 p0), .pd (.sl (p1.map elI64)), .pd (.sl (p2.map elI64))] 1 0 false]) (by kernel_rfl) ?_
    refine H_askK (.pd (.int .i64 p0)) ([.cells [.pd (.int .i64 p0), .pd (.sl (p1.map elI64)), .pd (.sl (p2.map elI64))] 1 0 false]) (by kernel_rfl) ?_
    refine H_split (decide (p0 > (1048576 : Int))) (by kernel_rfl) (fun hc => ?_) (fun hc => ?_)
    · replace h := h.t hc; clear hc
      exact H_end .ret (.pd (.bool false)) (by kernel_rfl) rfl (by kernel_rfl) (by subst h; rfl)
    · replace h := h.f hc; clear hc
      refine H_askK (.ptr 0 1 0) ([.cells [.pd (.int .i64 p0), .pd (.sl (p1.map elI64)), .pd (.sl (p2.map elI64))] 1 0 false]) (by kernel_rfl) ?_
      refine H_askK (.pd (.sl (p1.map elI64))) ([.cells [.pd (.int .i64 p0), .pd (.sl (p1.map elI64)), .pd (.sl (p2.map elI64))] 1 0 false]) (by kernel_rfl) ?_
      refine H_ask _ _ (by kernel_rfl) (ask_len (P := Tryz.prog) (M := [.cells [.pd (.int .i64 p0), .pd (.sl (p1.map elI64)), .pd (.sl (p2.map elI64))] 1 0 false]) (t := 31) (et := 3) (el := elI64) (by kernel_rfl) (e := p1)) ?_
      refine H_split (decide ((p1.length : Int) > (60 : Int))) (by kernel_rfl) (fun hc => ?_) (fun hc => ?_)
      · replace h := h.t hc; clear hc
        exact H_end .ret (.pd (.bool false)) (by kernel_rfl) rfl (by kernel_rfl) (by subst h; rfl)
      · replace h := h.f hc; clear hc
        refine H_askK (.ptr 0 1 0) ([.cells [.pd (.int .i64 p0), .pd (.sl (p1.map elI64)), .pd (.sl (p2.map elI64))] 1 0 false]) (by kernel_rfl) ?_
        refine H_askK (.pd (.sl (p1.map elI64))) ([.cells [.pd (.int .i64 p0), .pd (.sl (p1.map elI64)), .pd (.sl (p2.map elI64))] 1 0 false]) (by kernel_rfl) ?_
        refine H_ask _ _ (by kernel_rfl) (ask_len (P := Tryz.prog) (M := [.cells [.pd (.int .i64 p0), .pd (.sl (p1.map elI64)), .pd (.sl (p2.map elI64))] 1 0 false]) (t := 31) (et := 3) (el := elI64) (by kernel_rfl) (e := p1)) ?_
        refine H_askK (.ptr 0 2 0) ([.cells [.pd (.int .i64 p0), .pd (.sl (p1.map elI64)), .pd (.sl (p2.map elI64))] 1 0 false]) (by kernel_rfl) ?_
        refine H_askK (.pd (.sl (p2.map elI64))) ([.cells [.pd (.int .i64 p0), .pd (.sl (p1.map elI64)), .pd (.sl (p2.map elI64))] 1 0 false]) (by kernel_rfl) ?_
        refine H_ask _ _ (by kernel_rfl) (ask_len (P := Tryz.prog) (M := [.cells [.pd (.int .i64 p0), .pd (.sl (p1.map elI64)), .pd (.sl (p2.map elI64))] 1 0 false]) (t := 31) (et := 3) (el := elI64) (by kernel_rfl) (e := p2)) ?_
        refine H_split ((p1.length : Int) != (p2.length : Int)) (by kernel_rfl) (fun hc => ?_) (fun hc => ?_)
        · replace h := h.t hc; clear hc
          exact H_end .ret (.pd (.bool false)) (by kernel_rfl) rfl (by kernel_rfl) (by subst h; rfl)
        · replace h := h.f hc; clear hc
          refine H_loopP (F := offcutref10_Right_L1 p1 p2 r) (s0 := (0 : Int)) h () 64 1
            (fun (s100 : Int) (() : Unit) => [(1, .ptr 0 0 0), (3, .pd (.int .i64 s100))])
            (fun (s100 : Int) (() : Unit) => [.cells [.pd (.int .i64 p0), .pd (.sl (p1.map elI64)), .pd (.sl (p2.map elI64))] 1 0 false]) (fun (s100 : Int) (() : Unit) => True) trivial [] mixedT (askG [9, 10, 11] false)
            (by kernel_rfl) (by kernel_rfl) (by kernel_rfl) (by kernel_rfl) (by kernel_rfl) (fun _ _ => rfl) ?_
          rintro X1 s100 ⟨⟩ - h
          dsimp only [offcutref10_Right_L1] at h
          refine H_askK (.ptr 0 1 0) ([.cells [.pd (.int .i64 p0), .pd (.sl (p1.map elI64)), .pd (.sl (p2.map elI64))] 1 0 false]) (by kernel_rfl) ?_
          refine H_askK (.pd (.sl (p1.map elI64))) ([.cells [.pd (.int .i64 p0), .pd (.sl (p1.map elI64)), .pd (.sl (p2.map elI64))] 1 0 false]) (by kernel_rfl) ?_
          refine H_ask _ _ (by kernel_rfl) (ask_len (P := Tryz.prog) (M := [.cells [.pd (.int .i64 p0), .pd (.sl (p1.map elI64)), .pd (.sl (p2.map elI64))] 1 0 false]) (t := 31) (et := 3) (el := elI64) (by kernel_rfl) (e := p1)) ?_
          refine H_split (decide (s100 < (p1.length : Int))) (by kernel_rfl) (fun hc => ?_) (fun hc => ?_)
          · replace h := h.t hc; clear hc
            refine H_askK (.ptr 0 1 0) ([.cells [.pd (.int .i64 p0), .pd (.sl (p1.map elI64)), .pd (.sl (p2.map elI64))] 1 0 false]) (by kernel_rfl) ?_
            refine H_askK (.pd (.sl (p1.map elI64))) ([.cells [.pd (.int .i64 p0), .pd (.sl (p1.map elI64)), .pd (.sl (p2.map elI64))] 1 0 false]) (by kernel_rfl) ?_
            obtain ⟨x1, hx2, h⟩ := h
            refine H_ask _ _ (by kernel_rfl) (ask_idx (P := Tryz.prog) (M := [.cells [.pd (.int .i64 p0), .pd (.sl (p1.map elI64)), .pd (.sl (p2.map elI64))] 1 0 false]) (t := 31) (et := 3) (k := .i64) (lv := lvI64) okI64 leI64 (by kernel_rfl) (by kernel_rfl) hx2) ?_
            refine H_askK (.pd (.int .i64 x1)) ([.cells [.pd (.int .i64 p0), .pd (.sl (p1.map elI64)), .pd (.sl (p2.map elI64))] 1 0 false]) (by kernel_rfl) ?_
            refine H_split (decide (x1 < (1 : Int))) (by kernel_rfl) (fun hc => ?_) (fun hc => ?_)
            · replace h := h.t hc; clear hc
              refine H_leaveP .ret (by kernel_rfl) rfl ?_
              exact H_end .ret (.pd (.bool false)) (by kernel_rfl) rfl (by kernel_rfl) (by subst h; rfl)
            · replace h := h.f hc; clear hc
              refine H_askK (.ptr 0 1 0) ([.cells [.pd (.int .i64 p0), .pd (.sl (p1.map elI64)), .pd (.sl (p2.map elI64))] 1 0 false]) (by kernel_rfl) ?_
              refine H_askK (.pd (.sl (p1.map elI64))) ([.cells [.pd (.int .i64 p0), .pd (.sl (p1.map elI64)), .pd (.sl (p2.map elI64))] 1 0 false]) (by kernel_rfl) ?_
              obtain ⟨x3, hx4, h⟩ := h
              refine H_ask _ _ (by kernel_rfl) (ask_idx (P := Tryz.prog) (M := [.cells [.pd (.int .i64 p0), .pd (.sl (p1.map elI64)), .pd (.sl (p2.map elI64))] 1 0 false]) (t := 31) (et := 3) (k := .i64) (lv := lvI64) okI64 leI64 (by kernel_rfl) (by kernel_rfl) hx4) ?_
              refine H_askK (.pd (.int .i64 x3)) ([.cells [.pd (.int .i64 p0), .pd (.sl (p1.map elI64)), .pd (.sl (p2.map elI64))] 1 0 false]) (by kernel_rfl) ?_
              refine H_split (decide (x3 > (1048576 : Int))) (by kernel_rfl) (fun hc => ?_) (fun hc => ?_)
              · replace h := h.t hc; clear hc
                refine H_leaveP .ret (by kernel_rfl) rfl ?_
                exact H_end .ret (.pd (.bool false)) (by kernel_rfl) rfl (by kernel_rfl) (by subst h; rfl)
              · replace h := h.f hc; clear hc
                refine H_askK (.ptr 0 2 0) ([.cells [.pd (.int .i64 p0), .pd (.sl (p1.map elI64)), .pd (.sl (p2.map elI64))] 1 0 false]) (by kernel_rfl) ?_
                refine H_askK (.pd (.sl (p2.map elI64))) ([.cells [.pd (.int .i64 p0), .pd (.sl (p1.map elI64)), .pd (.sl (p2.map elI64))] 1 0 false]) (by kernel_rfl) ?_
                obtain ⟨x5, hx6, h⟩ := h
                refine H_ask _ _ (by kernel_rfl) (ask_idx (P := Tryz.prog) (M := [.cells [.pd (.int .i64 p0), .pd (.sl (p1.map elI64)), .pd (.sl (p2.map elI64))] 1 0 false]) (t := 31) (et := 3) (k := .i64) (lv := lvI64) okI64 leI64 (by kernel_rfl) (by kernel_rfl) hx6) ?_
                refine H_askK (.pd (.int .i64 x5)) ([.cells [.pd (.int .i64 p0), .pd (.sl (p1.map elI64)), .pd (.sl (p2.map elI64))] 1 0 false]) (by kernel_rfl) ?_
                refine H_split (decide (x5 < (0 : Int))) (by kernel_rfl) (fun hc => ?_) (fun hc => ?_)
                · replace h := h.t hc; clear hc
                  refine H_leaveP .ret (by kernel_rfl) rfl ?_
                  exact H_end .ret (.pd (.bool false)) (by kernel_rfl) rfl (by kernel_rfl) (by subst h; rfl)
                · replace h := h.f hc; clear hc
                  refine H_askK (.ptr 0 2 0) ([.cells [.pd (.int .i64 p0), .pd (.sl (p1.map elI64)), .pd (.sl (p2.map elI64))] 1 0 false]) (by kernel_rfl) ?_
                  refine H_askK (.pd (.sl (p2.map elI64))) ([.cells [.pd (.int .i64 p0), .pd (.sl (p1.map elI64)), .pd (.sl (p2.map elI64))] 1 0 false]) (by kernel_rfl) ?_
                  obtain ⟨x7, hx8, h⟩ := h
                  refine H_ask _ _ (by kernel_rfl) (ask_idx (P := Tryz.prog) (M := [.cells [.pd (.int .i64 p0), .pd (.sl (p1.map elI64)), .pd (.sl (p2.map elI64))] 1 0 false]) (t := 31) (et := 3) (k := .i64) (lv := lvI64) okI64 leI64 (by kernel_rfl) (by kernel_rfl) hx8) ?_
                  refine H_askK (.pd (.int .i64 x7)) ([.cells [.pd (.int .i64 p0), .pd (.sl (p1.map elI64)), .pd (.sl (p2.map elI64))] 1 0 false]) (by kernel_rfl) ?_
                  refine H_split (decide (x7 > (1024 : Int))) (by kernel_rfl) (fun hc => ?_) (fun hc => ?_)
                  · replace h := h.t hc; clear hc
                    refine H_leaveP .ret (by kernel_rfl) rfl ?_
                    exact H_end .ret (.pd (.bool false)) (by kernel_rfl) rfl (by kernel_rfl) (by subst h; rfl)
                  · replace h := h.f hc; clear hc
                    exact H_againP (st := _) (IntKind.i64.wrap (s100 + 1)) () h trivial (by kernel_rfl) (by kernel_rfl) (by kernel_rfl) (by kernel_rfl) (by kernel_rfl)
          · replace h := h.f hc; clear hc
            refine H_leaveP (.exit 0) (by kernel_rfl) rfl ?_
            exact H_end .ret (.pd (.bool true)) (by kernel_rfl) rfl (by kernel_rfl) (by subst h; rfl)

theorem offcutlaw10_Of_ok (m : Tp) (p0 : Int) (p1 : List (Int × Int)) {r : Int × (List Int) × (List Int)} (h : offcutlaw10_Of p0 p1 r) : ASpec Tryz.prog (gtT m) 13 [.agg [.pd (.int .i64 p0), .pd (.sl (p1.map elAI64I64Z))]] (· = .agg [.pd (.int .i64 r.1), .pd (.sl (r.2.1.map elI64)), .pd (.sl (r.2.2.map elI64))]) := by
  refine ASpec_tree Tryz.f13 mixedT (askO [9, 10, 11] false [33]) (by kernel_rfl) ?_
  unfold offcutlaw10_Of at h
  refine H_askK (.ptr 0 0 0) ([.cells [.pd (.int .i64 p0), .pd (.sl (p1.map elAI64I64Z))] 1 0 false]) (by kernel_rfl) ?_
  refine H_allocL (t := 33) (M0 := [.cells [.pd (.int .i64 p0), .pd (.sl (p1.map elAI64I64Z))] 1 0 false]) (M1 := [.cells [.pd (.int .i64 p0), .pd (.sl (p1.map elAI64I64Z))] 1 0 false, rowV lvI64 1 ([] : List Int) 0 false, rowV lvI64 1 ([] : List Int) 0 false]) (M2 := [.cells [.pd (.int .i64 p0), .pd (.sl (p1.map elAI64I64Z))] 1 0 false, rowV lvI64 1 ([] : List Int) 0 false, rowV lvI64 1 ([] : List Int) 0 false, .cells [.pd (.int .i64 0), .own 1 (([] : List Int).length) 0, .own 2 (([] : List Int).length) 0] 1 0 false]) [(1, 1), (2, 2)] [.pd (.int .i64 0), .own 1 (([] : List Int).length) 0, .own 2 (([] : List Int).length) 0] (by kernel_rfl) (VStep.trans (VStep.new [.cells [.pd (.int .i64 p0), .pd (.sl (p1.map elAI64I64Z))] 1 0 false] 1) (VStep.new [.cells [.pd (.int .i64 p0), .pd (.sl (p1.map elAI64I64Z))] 1 0 false, rowV lvI64 1 ([] : List Int) 0 false] 1)) (by kernel_rfl) (by kernel_rfl) ?_
  refine H_askK (.ptr 0 0 0) ([.cells [.pd (.int .i64 p0), .pd (.sl (p1.map elAI64I64Z))] 1 0 false, rowV lvI64 1 ([] : List Int) 0 false, rowV lvI64 1 ([] : List Int) 0 false, .cells [.pd (.int .i64 0), .own 1 (([] : List Int).length) 0, .own 2 (([] : List Int).length) 0] 1 0 false]) (by kernel_rfl) ?_
  refine H_askK (.pd (.int .i64 p0)) ([.cells [.pd (.int .i64 p0), .pd (.sl (p1.map elAI64I64Z))] 1 0 false, rowV lvI64 1 ([] : List Int) 0 false, rowV lvI64 1 ([] : List Int) 0 false, .cells [.pd (.int .i64 0), .own 1 (([] : List Int).length) 0, .own 2 (([] : List Int).length) 0] 1 0 false]) (by kernel_rfl) ?_
  refine H_bldL (t := 33) (parts := [(0, .pd (.int .i64 p0))]) (M0 := [.cells [.pd (.int .i64 p0), .pd (.sl (p1.map elAI64I64Z))] 1 0 false, rowV lvI64 1 ([] : List Int) 0 false, rowV lvI64 1 ([] : List Int) 0 false, .cells [.pd (.int .i64 0), .own 1 (([] : List Int).length) 0, .own 2 (([] : List Int).length) 0] 1 0 false]) (M1 := [.cells [.pd (.int .i64 p0), .pd (.sl (p1.map elAI64I64Z))] 1 0 false, rowV lvI64 1 ([] : List Int) 0 false, rowV lvI64 1 ([] : List Int) 0 false, .cells [.pd (.int .i64 0), .own 1 (([] : List Int).length) 0, .own 2 (([] : List Int).length) 0] 1 0 false, rowV lvI64 1 ([] : List Int) 0 false, rowV lvI64 1 ([] : List Int) 0 false]) [(1, 4), (2, 5)] (.agg [.pd (.int .i64 p0), .own 4 (([] : List Int).length) 0, .own 5 (([] : List Int).length) 0]) (by kernel_rfl) (VStep.trans (VStep.new [.cells [.pd (.int .i64 p0), .pd (.sl (p1.map elAI64I64Z))] 1 0 false, rowV lvI64 1 ([] : List Int) 0 false, rowV lvI64 1 ([] : List Int) 0 false, .cells [.pd (.int .i64 0), .own 1 (([] : List Int).length) 0, .own 2 (([] : List Int).length) 0] 1 0 false] 1) (VStep.new [.cells [.pd (.int .i64 p0), .pd (.sl (p1.map elAI64I64Z))] 1 0 false, rowV lvI64 1 ([] : List Int) 0 false, rowV lvI64 1 ([] : List Int) 0 false, .cells [.pd (.int .i64 0), .own 1 (([] : List Int).length) 0, .own 2 (([] : List Int).length) 0] 1 0 false, rowV lvI64 1 ([] : List Int) 0 false] 1)) (by kernel_rfl) ?_
  refine H_allocL (t := 33) (M0 := [.cells [.pd (.int .i64 p0), .pd (.sl (p1.map elAI64I64Z))] 1 0 false, rowV lvI64 1 ([] : List Int) 0 false, rowV lvI64 1 ([] : List Int) 0 false, .cells [.pd (.int .i64 0), .own 1 (([] : List Int).length) 0, .own 2 (([] : List Int).length) 0] 1 0 false, rowV lvI64 1 ([] : List Int) 0 false, rowV lvI64 1 ([] : List Int) 0 false]) (M1 := [.cells [.pd (.int .i64 p0), .pd (.sl (p1.map elAI64I64Z))] 1 0 false, rowV lvI64 1 ([] : List Int) 0 false, rowV lvI64 1 ([] : List Int) 0 false, .cells [.pd (.int .i64 0), .own 1 (([] : List Int).length) 0, .own 2 (([] : List Int).length) 0] 1 0 false, rowV lvI64 1 ([] : List Int) 0 false, rowV lvI64 1 ([] : List Int) 0 false]) (M2 := [.cells [.pd (.int .i64 p0), .pd (.sl (p1.map elAI64I64Z))] 1 0 false, rowV lvI64 1 ([] : List Int) 0 false, rowV lvI64 1 ([] : List Int) 0 false, .cells [.pd (.int .i64 0), .own 1 (([] : List Int).length) 0, .own 2 (([] : List Int).length) 0] 1 0 false, rowV lvI64 1 ([] : List Int) 0 false, rowV lvI64 1 ([] : List Int) 0 false, .cells [.pd (.int .i64 0), .fixed (([] : List Int).map elI64), .fixed (([] : List Int).map elI64)] 1 0 false]) [] [.pd (.int .i64 0), .fixed (([] : List Int).map elI64), .fixed (([] : List Int).map elI64)] (by kernel_rfl) (VStep.refl _) (by kernel_rfl) (by kernel_rfl) ?_
  refine H_ask _ _ (by kernel_rfl) (ask_storeC (P := Tryz.prog) (M := [.cells [.pd (.int .i64 p0), .pd (.sl (p1.map elAI64I64Z))] 1 0 false, rowV lvI64 1 ([] : List Int) 0 false, rowV lvI64 1 ([] : List Int) 0 false, .cells [.pd (.int .i64 0), .own 1 (([] : List Int).length) 0, .own 2 (([] : List Int).length) 0] 1 0 false, rowV lvI64 1 ([] : List Int) 0 false, rowV lvI64 1 ([] : List Int) 0 false, .cells [.pd (.int .i64 0), .fixed (([] : List Int).map elI64), .fixed (([] : List Int).map elI64)] 1 0 false]) (M2 := [.cells [.pd (.int .i64 p0), .pd (.sl (p1.map elAI64I64Z))] 1 0 false, rowV lvI64 1 ([] : List Int) 0 false, rowV lvI64 1 ([] : List Int) 0 false, .cells [.pd (.int .i64 0), .own 1 (([] : List Int).length) 0, .own 2 (([] : List Int).length) 0] 1 0 false, rowV lvI64 1 ([] : List Int) 0 false, rowV lvI64 1 ([] : List Int) 0 false, .cells [.pd (.int .i64 p0), .own 4 (([] : List Int).length) 0, .own 5 (([] : List Int).length) 0] 1 0 false]) (t := 33) (b := 6) (off := 0) (v := 0) (n := 3) (s := 1) (l := [.pd (.int .i64 0), .fixed (([] : List Int).map elI64), .fixed (([] : List Int).map elI64)]) (xs := [.pd (.int .i64 p0), .own 4 (([] : List Int).length) 0, .own 5 (([] : List Int).length) 0]) (x := .agg [.pd (.int .i64 p0), .own 4 (([] : List Int).length) 0, .own 5 (([] : List Int).length) 0]) (by kernel_rfl) (by kernel_rfl) rfl (by kernel_rfl) (all_c (by kernel_rfl) (all_c (ok_own (o := rowV lvI64 1 ([] : List Int) 0 false) (by kernel_rfl) (rowIs_v' (lv := lvI64) (s := 1) (e := ([] : List Int)) (ver := 0) (z := false))) (all_c (ok_own (o := rowV lvI64 1 ([] : List Int) 0 false) (by kernel_rfl) (rowIs_v' (lv := lvI64) (s := 1) (e := ([] : List Int)) (ver := 0) (z := false))) all_n))) rfl) ?_
  refine H_askK (.ptr 0 1 0) ([.cells [.pd (.int .i64 p0), .pd (.sl (p1.map elAI64I64Z))] 1 0 false, rowV lvI64 1 ([] : List Int) 0 false, rowV lvI64 1 ([] : List Int) 0 false, .cells [.pd (.int .i64 0), .own 1 (([] : List Int).length) 0, .own 2 (([] : List Int).length) 0] 1 0 false, rowV lvI64 1 ([] : List Int) 0 false, rowV lvI64 1 ([] : List Int) 0 false, .cells [.pd (.int .i64 p0), .own 4 (([] : List Int).length) 0, .own 5 (([] : List Int).length) 0] 1 0 false]) (by kernel_rfl) ?_
  refine H_askK (.pd (.sl (p1.map elAI64I64Z))) ([.cells [.pd (.int .i64 p0), .pd (.sl (p1.map elAI64I64Z))] 1 0 false, rowV lvI64 1 ([] : List Int) 0 false, rowV lvI64 1 ([] : List Int) 0 false, .cells [.pd (.int .i64 0), .own 1 (([] : List Int).length) 0, .own 2 (([] : List Int).length) 0] 1 0 false, rowV lvI64 1 ([] : List Int) 0 false, rowV lvI64 1 ([] : List Int) 0 false, .cells [.pd (.int .i64 p0), .own 4 (([] : List Int).length) 0, .own 5 (([] : List Int).length) 0] 1 0 false]) (by kernel_rfl) ?_
  refine H_ask _ _ (by kernel_rfl) (ask_len (P := Tryz.prog) (M := [.cells [.pd (.int .i64 p0), .pd (.sl (p1.map elAI64I64Z))] 1 0 false, rowV lvI64 1 ([] : List Int) 0 false, rowV lvI64 1 ([] : List Int) 0 false, .cells [.pd (.int .i64 0), .own 1 (([] : List Int).length) 0, .own 2 (([] : List Int).length) 0] 1 0 false, rowV lvI64 1 ([] : List Int) 0 false, rowV lvI64 1 ([] : List Int) 0 false, .cells [.pd (.int .i64 p0), .own 4 (([] : List Int).length) 0, .own 5 (([] : List Int).length) 0] 1 0 false]) (t := 23) (et := 53) (el := elAI64I64Z) (by kernel_rfl) (e := p1)) ?_
  refine H_loopP (F := offcutlaw10_Of_L1 p0 p1 r) (s0 := ((0 : Int), ([] : List Int), ([] : List Int))) h (0, (([] : List Int).length), 0, (([] : List Int).length)) 32 7
    (fun ((s100, s154, s155) : Int × (List Int) × (List Int)) ((v104, n104, v105, n105) : Nat × Nat × Nat × Nat) => [(2, .ptr 3 0 0), (3, .ptr 6 0 0), (10, .pd (.sl (p1.map elAI64I64Z))), (11, .pd (.int .i64 (p1.length : Int))), (12, .pd (.int .i64 s100))])
    (fun ((s100, s154, s155) : Int × (List Int) × (List Int)) ((v104, n104, v105, n105) : Nat × Nat × Nat × Nat) => [.cells [.pd (.int .i64 p0), .pd (.sl (p1.map elAI64I64Z))] 1 0 false, rowV lvI64 1 ([] : List Int) 0 false, rowV lvI64 1 ([] : List Int) 0 false, .cells [.pd (.int .i64 0), .own 1 (([] : List Int).length) 0, .own 2 (([] : List Int).length) 0] 1 0 false, rowV lvI64 1 s154 v104 false, rowV lvI64 1 s155 v105 false, .cells [.pd (.int .i64 p0), .own 4 n104 v104, .own 5 n105 v105] 1 0 false]) (fun ((s100, s154, s155) : Int × (List Int) × (List Int)) ((v104, n104, v105, n105) : Nat × Nat × Nat × Nat) => n104 = s154.length ∧ n105 = s155.length) ⟨rfl, rfl⟩ [] mixedT (askO [9, 10, 11] false [33])
    (by kernel_rfl) (by kernel_rfl) (by kernel_rfl) (by kernel_rfl) (by kernel_rfl) (fun _ _ => rfl) ?_
  rintro X1 ⟨s100, s154, s155⟩ ⟨v104, n104, v105, n105⟩ ⟨hn104, hn105⟩ h
  dsimp only [offcutlaw10_Of_L1] at h
  refine H_split (decide (s100 < (p1.length : Int))) (by kernel_rfl) (fun hc => ?_) (fun hc => ?_)
  · replace h := h.t hc; clear hc
    obtain ⟨x1, x2, hx3, h⟩ := h
    refine H_ask _ _ (by kernel_rfl) (ask_idx (P := Tryz.prog) (M := [.cells [.pd (.int .i64 p0), .pd (.sl (p1.map elAI64I64Z))] 1 0 false, rowV lvI64 1 ([] : List Int) 0 false, rowV lvI64 1 ([] : List Int) 0 false, .cells [.pd (.int .i64 0), .own 1 (([] : List Int).length) 0, .own 2 (([] : List Int).length) 0] 1 0 false, rowV lvI64 1 s154 v104 false, rowV lvI64 1 s155 v105 false, .cells [.pd (.int .i64 p0), .own 4 n104 v104, .own 5 n105 v105] 1 0 false]) (t := 23) (et := 53) (k := .i64) (lv := lvAI64I64Z) okAI64I64Z leAI64I64Z (by kernel_rfl) (by kernel_rfl) hx3) ?_
    refine H_askK (.agg [.pd (.int .i64 x1), .pd (.int .i64 x2)]) ([.cells [.pd (.int .i64 p0), .pd (.sl (p1.map elAI64I64Z))] 1 0 false, rowV lvI64 1 ([] : List Int) 0 false, rowV lvI64 1 ([] : List Int) 0 false, .cells [.pd (.int .i64 0), .own 1 (([] : List Int).length) 0, .own 2 (([] : List Int).length) 0] 1 0 false, rowV lvI64 1 s154 v104 false, rowV lvI64 1 s155 v105 false, .cells [.pd (.int .i64 p0), .own 4 n104 v104, .own 5 n105 v105] 1 0 false]) (by kernel_rfl) ?_
    refine H_askK (.junk) ([.cells [.pd (.int .i64 p0), .pd (.sl (p1.map elAI64I64Z))] 1 0 false, rowV lvI64 1 ([] : List Int) 0 false, rowV lvI64 1 ([] : List Int) 0 false, .cells [.pd (.int .i64 0), .own 1 (([] : List Int).length) 0, .own 2 (([] : List Int).length) 0] 1 0 false, rowV lvI64 1 s154 v104 false, rowV lvI64 1 s155 v105 false, .cells [.pd (.int .i64 p0), .own 4 n104 v104, .own 5 n105 v105] 1 0 false, .cells [.pd (.int .i64 x1), .pd (.int .i64 x2)] 1 0 false]) (by kernel_rfl) ?_
    refine H_drawM [6, 7, 8, 9, 10, 12] [(6, (fun M => ∃ (Y4 : Ob) (RR : Mem), M = ([.cells [.pd (.int .i64 p0), .pd (.sl (p1.map elAI64I64Z))] 1 0 false, rowV lvI64 1 ([] : List Int) 0 false, rowV lvI64 1 ([] : List Int) 0 false, .cells [.pd (.int .i64 0), .own 1 (([] : List Int).length) 0, .own 2 (([] : List Int).length) 0] 1 0 false, Y4, rowV lvI64 1 s155 v105 false, .cells [.pd (.int .i64 p0), .own 4 n104 v104, .own 5 n105 v105] 1 0 false, .cells [.pd (.int .i64 x1), .pd (.int .i64 x2)] 1 0 false] : Mem) ++ RR)), (7, (fun M => ∃ (Y4 : Ob) (RR : Mem), M = ([.cells [.pd (.int .i64 p0), .pd (.sl (p1.map elAI64I64Z))] 1 0 false, rowV lvI64 1 ([] : List Int) 0 false, rowV lvI64 1 ([] : List Int) 0 false, .cells [.pd (.int .i64 0), .own 1 (([] : List Int).length) 0, .own 2 (([] : List Int).length) 0] 1 0 false, Y4, rowV lvI64 1 s155 v105 false, .cells [.pd (.int .i64 p0), .own 4 n104 v104, .own 5 n105 v105] 1 0 false, .cells [.pd (.int .i64 x1), .pd (.int .i64 x2)] 1 0 false] : Mem) ++ RR)), (8, (fun M => ∃ (Y4 : Ob) (RR : Mem), M = ([.cells [.pd (.int .i64 p0), .pd (.sl (p1.map elAI64I64Z))] 1 0 false, rowV lvI64 1 ([] : List Int) 0 false, rowV lvI64 1 ([] : List Int) 0 false, .cells [.pd (.int .i64 0), .own 1 (([] : List Int).length) 0, .own 2 (([] : List Int).length) 0] 1 0 false, Y4, rowV lvI64 1 s155 v105 false, .cells [.pd (.int .i64 p0), .own 4 n104 v104, .own 5 n105 v105] 1 0 false, .cells [.pd (.int .i64 x1), .pd (.int .i64 x2)] 1 0 false] : Mem) ++ RR)), (9, (fun M => ∃ (Y4 : Ob) (RR : Mem), M = ([.cells [.pd (.int .i64 p0), .pd (.sl (p1.map elAI64I64Z))] 1 0 false, rowV lvI64 1 ([] : List Int) 0 false, rowV lvI64 1 ([] : List Int) 0 false, .cells [.pd (.int .i64 0), .own 1 (([] : List Int).length) 0, .own 2 (([] : List Int).length) 0] 1 0 false, Y4, rowV lvI64 1 s155 v105 false, .cells [.pd (.int .i64 p0), .own 4 n104 v104, .own 5 n105 v105] 1 0 false, .cells [.pd (.int .i64 x1), .pd (.int .i64 x2)] 1 0 false] : Mem) ++ RR)), (12, (fun M => ∃ (Y4 : Ob) (Y5 : Ob) (RR : Mem), M = ([.cells [.pd (.int .i64 p0), .pd (.sl (p1.map elAI64I64Z))] 1 0 false, rowV lvI64 1 ([] : List Int) 0 false, rowV lvI64 1 ([] : List Int) 0 false, .cells [.pd (.int .i64 0), .own 1 (([] : List Int).length) 0, .own 2 (([] : List Int).length) 0] 1 0 false, Y4, Y5, .cells [.pd (.int .i64 p0), .own 4 n104 v104, .own 5 n105 v105] 1 0 false, .cells [.pd (.int .i64 x1), .pd (.int .i64 x2)] 1 0 false] : Mem) ++ RR))] ([.cells [.pd (.int .i64 p0), .pd (.sl (p1.map elAI64I64Z))] 1 0 false, rowV lvI64 1 ([] : List Int) 0 false, rowV lvI64 1 ([] : List Int) 0 false, .cells [.pd (.int .i64 0), .own 1 (([] : List Int).length) 0, .own 2 (([] : List Int).length) 0] 1 0 false, rowV lvI64 1 s154 v104 false, rowV lvI64 1 s155 v105 false, .cells [.pd (.int .i64 p0), .own 4 n104 v104, .own 5 n105 v105] 1 0 false, .cells [.pd (.int .i64 x1), .pd (.int .i64 x2)] 1 0 false]) (by kernel_rfl) (by kernel_rfl) ⟨⟨rowV lvI64 1 s154 v104 false, [], rfl⟩, ⟨rowV lvI64 1 s154 v104 false, [], rfl⟩, ⟨rowV lvI64 1 s154 v104 false, [], rfl⟩, ⟨rowV lvI64 1 s154 v104 false, [], rfl⟩, ⟨rowV lvI64 1 s154 v104 false, rowV lvI64 1 s155 v105 false, [], rfl⟩, trivial⟩ ?_
    refine H_askK (.ptr 6 1 0) ([.cells [.pd (.int .i64 p0), .pd (.sl (p1.map elAI64I64Z))] 1 0 false, rowV lvI64 1 ([] : List Int) 0 false, rowV lvI64 1 ([] : List Int) 0 false, .cells [.pd (.int .i64 0), .own 1 (([] : List Int).length) 0, .own 2 (([] : List Int).length) 0] 1 0 false, rowV lvI64 1 s154 v104 false, rowV lvI64 1 s155 v105 false, .cells [.pd (.int .i64 p0), .own 4 n104 v104, .own 5 n105 v105] 1 0 false, .cells [.pd (.int .i64 x1), .pd (.int .i64 x2)] 1 0 false]) (by kernel_rfl) ?_
    refine H_askK (.own 4 n104 v104) ([.cells [.pd (.int .i64 p0), .pd (.sl (p1.map elAI64I64Z))] 1 0 false, rowV lvI64 1 ([] : List Int) 0 false, rowV lvI64 1 ([] : List Int) 0 false, .cells [.pd (.int .i64 0), .own 1 (([] : List Int).length) 0, .own 2 (([] : List Int).length) 0] 1 0 false, rowV lvI64 1 s154 v104 false, rowV lvI64 1 s155 v105 false, .cells [.pd (.int .i64 p0), .own 4 n104 v104, .own 5 n105 v105] 1 0 false, .cells [.pd (.int .i64 x1), .pd (.int .i64 x2)] 1 0 false]) (by kernel_rfl) ?_
    refine H_askK (.ptr 7 0 0) ([.cells [.pd (.int .i64 p0), .pd (.sl (p1.map elAI64I64Z))] 1 0 false, rowV lvI64 1 ([] : List Int) 0 false, rowV lvI64 1 ([] : List Int) 0 false, .cells [.pd (.int .i64 0), .own 1 (([] : List Int).length) 0, .own 2 (([] : List Int).length) 0] 1 0 false, rowV lvI64 1 s154 v104 false, rowV lvI64 1 s155 v105 false, .cells [.pd (.int .i64 p0), .own 4 n104 v104, .own 5 n105 v105] 1 0 false, .cells [.pd (.int .i64 x1), .pd (.int .i64 x2)] 1 0 false]) (by kernel_rfl) ?_
    refine H_askK (.pd (.int .i64 x1)) ([.cells [.pd (.int .i64 p0), .pd (.sl (p1.map elAI64I64Z))] 1 0 false, rowV lvI64 1 ([] : List Int) 0 false, rowV lvI64 1 ([] : List Int) 0 false, .cells [.pd (.int .i64 0), .own 1 (([] : List Int).length) 0, .own 2 (([] : List Int).length) 0] 1 0 false, rowV lvI64 1 s154 v104 false, rowV lvI64 1 s155 v105 false, .cells [.pd (.int .i64 p0), .own 4 n104 v104, .own 5 n105 v105] 1 0 false, .cells [.pd (.int .i64 x1), .pd (.int .i64 x2)] 1 0 false]) (by kernel_rfl) ?_
    obtain ⟨hx4, h⟩ := h
    refine H_ask _ _ (by kernel_rfl) (ask_appV (P := Tryz.prog) (M := [.cells [.pd (.int .i64 p0), .pd (.sl (p1.map elAI64I64Z))] 1 0 false, rowV lvI64 1 ([] : List Int) 0 false, rowV lvI64 1 ([] : List Int) 0 false, .cells [.pd (.int .i64 0), .own 1 (([] : List Int).length) 0, .own 2 (([] : List Int).length) 0] 1 0 false, rowV lvI64 1 s154 v104 false, rowV lvI64 1 s155 v105 false, .cells [.pd (.int .i64 p0), .own 4 n104 v104, .own 5 n105 v105] 1 0 false, .cells [.pd (.int .i64 x1), .pd (.int .i64 x2)] 1 0 false]) (lv := lvI64) (s := 1) (b := 4) (e := s154) (e2 := [x1]) (ver := v104) (sT := 31) (xT := 31) (by_ := 8) okI64 (by kernel_rfl) (src_fixed (M := [.cells [.pd (.int .i64 p0), .pd (.sl (p1.map elAI64I64Z))] 1 0 false, rowV lvI64 1 ([] : List Int) 0 false, rowV lvI64 1 ([] : List Int) 0 false, .cells [.pd (.int .i64 0), .own 1 (([] : List Int).length) 0, .own 2 (([] : List Int).length) 0] 1 0 false, rowV lvI64 1 s154 v104 false, rowV lvI64 1 s155 v105 false, .cells [.pd (.int .i64 p0), .own 4 n104 v104, .own 5 n105 v105] 1 0 false, .cells [.pd (.int .i64 x1), .pd (.int .i64 x2)] 1 0 false]) okI64 leI64) (by kernel_rfl) (n := n104) hn104 hx4) ?_
    refine H_chk (p := (fun M => ∃ (Y4 : Ob) (RR : Mem), M = ([.cells [.pd (.int .i64 p0), .pd (.sl (p1.map elAI64I64Z))] 1 0 false, rowV lvI64 1 ([] : List Int) 0 false, rowV lvI64 1 ([] : List Int) 0 false, .cells [.pd (.int .i64 0), .own 1 (([] : List Int).length) 0, .own 2 (([] : List Int).length) 0] 1 0 false, Y4, rowV lvI64 1 s155 v105 false, .cells [.pd (.int .i64 p0), .own 4 n104 v104, .own 5 n105 v105] 1 0 false, .cells [.pd (.int .i64 x1), .pd (.int .i64 x2)] 1 0 false] : Mem) ++ RR) [.cells [.pd (.int .i64 p0), .pd (.sl (p1.map elAI64I64Z))] 1 0 false, rowV lvI64 1 ([] : List Int) 0 false, rowV lvI64 1 ([] : List Int) 0 false, .cells [.pd (.int .i64 0), .own 1 (([] : List Int).length) 0, .own 2 (([] : List Int).length) 0] 1 0 false, rowV lvI64 1 (s154 ++ [x1]) (vnext s154 [x1] v104) false, rowV lvI64 1 s155 v105 false, .cells [.pd (.int .i64 p0), .own 4 n104 v104, .own 5 n105 v105] 1 0 false, .cells [.pd (.int .i64 x1), .pd (.int .i64 x2)] 1 0 false] ∧ (fun M => ∃ (Y4 : Ob) (RR : Mem), M = ([.cells [.pd (.int .i64 p0), .pd (.sl (p1.map elAI64I64Z))] 1 0 false, rowV lvI64 1 ([] : List Int) 0 false, rowV lvI64 1 ([] : List Int) 0 false, .cells [.pd (.int .i64 0), .own 1 (([] : List Int).length) 0, .own 2 (([] : List Int).length) 0] 1 0 false, Y4, rowV lvI64 1 s155 v105 false, .cells [.pd (.int .i64 p0), .own 4 n104 v104, .own 5 n105 v105] 1 0 false, .cells [.pd (.int .i64 x1), .pd (.int .i64 x2)] 1 0 false] : Mem) ++ RR) [.cells [.pd (.int .i64 p0), .pd (.sl (p1.map elAI64I64Z))] 1 0 false, rowV lvI64 1 ([] : List Int) 0 false, rowV lvI64 1 ([] : List Int) 0 false, .cells [.pd (.int .i64 0), .own 1 (([] : List Int).length) 0, .own 2 (([] : List Int).length) 0] 1 0 false, rowV lvI64 1 (s154 ++ [x1]) (vnext s154 [x1] v104) false, rowV lvI64 1 s155 v105 false, .cells [.pd (.int .i64 p0), .own 4 n104 v104, .own 5 n105 v105] 1 0 false, .cells [.pd (.int .i64 x1), .pd (.int .i64 x2)] 1 0 false] ∧ (fun M => ∃ (Y4 : Ob) (RR : Mem), M = ([.cells [.pd (.int .i64 p0), .pd (.sl (p1.map elAI64I64Z))] 1 0 false, rowV lvI64 1 ([] : List Int) 0 false, rowV lvI64 1 ([] : List Int) 0 false, .cells [.pd (.int .i64 0), .own 1 (([] : List Int).length) 0, .own 2 (([] : List Int).length) 0] 1 0 false, Y4, rowV lvI64 1 s155 v105 false, .cells [.pd (.int .i64 p0), .own 4 n104 v104, .own 5 n105 v105] 1 0 false, .cells [.pd (.int .i64 x1), .pd (.int .i64 x2)] 1 0 false] : Mem) ++ RR) [.cells [.pd (.int .i64 p0), .pd (.sl (p1.map elAI64I64Z))] 1 0 false, rowV lvI64 1 ([] : List Int) 0 false, rowV lvI64 1 ([] : List Int) 0 false, .cells [.pd (.int .i64 0), .own 1 (([] : List Int).length) 0, .own 2 (([] : List Int).length) 0] 1 0 false, rowV lvI64 1 (s154 ++ [x1]) (vnext s154 [x1] v104) false, rowV lvI64 1 s155 v105 false, .cells [.pd (.int .i64 p0), .own 4 n104 v104, .own 5 n105 v105] 1 0 false, .cells [.pd (.int .i64 x1), .pd (.int .i64 x2)] 1 0 false] ∧ (fun M => ∃ (Y4 : Ob) (RR : Mem), M = ([.cells [.pd (.int .i64 p0), .pd (.sl (p1.map elAI64I64Z))] 1 0 false, rowV lvI64 1 ([] : List Int) 0 false, rowV lvI64 1 ([] : List Int) 0 false, .cells [.pd (.int .i64 0), .own 1 (([] : List Int).length) 0, .own 2 (([] : List Int).length) 0] 1 0 false, Y4, rowV lvI64 1 s155 v105 false, .cells [.pd (.int .i64 p0), .own 4 n104 v104, .own 5 n105 v105] 1 0 false, .cells [.pd (.int .i64 x1), .pd (.int .i64 x2)] 1 0 false] : Mem) ++ RR) [.cells [.pd (.int .i64 p0), .pd (.sl (p1.map elAI64I64Z))] 1 0 false, rowV lvI64 1 ([] : List Int) 0 false, rowV lvI64 1 ([] : List Int) 0 false, .cells [.pd (.int .i64 0), .own 1 (([] : List Int).length) 0, .own 2 (([] : List Int).length) 0] 1 0 false, rowV lvI64 1 (s154 ++ [x1]) (vnext s154 [x1] v104) false, rowV lvI64 1 s155 v105 false, .cells [.pd (.int .i64 p0), .own 4 n104 v104, .own 5 n105 v105] 1 0 false, .cells [.pd (.int .i64 x1), .pd (.int .i64 x2)] 1 0 false] ∧ (fun M => ∃ (Y4 : Ob) (Y5 : Ob) (RR : Mem), M = ([.cells [.pd (.int .i64 p0), .pd (.sl (p1.map elAI64I64Z))] 1 0 false, rowV lvI64 1 ([] : List Int) 0 false, rowV lvI64 1 ([] : List Int) 0 false, .cells [.pd (.int .i64 0), .own 1 (([] : List Int).length) 0, .own 2 (([] : List Int).length) 0] 1 0 false, Y4, Y5, .cells [.pd (.int .i64 p0), .own 4 n104 v104, .own 5 n105 v105] 1 0 false, .cells [.pd (.int .i64 x1), .pd (.int .i64 x2)] 1 0 false] : Mem) ++ RR) [.cells [.pd (.int .i64 p0), .pd (.sl (p1.map elAI64I64Z))] 1 0 false, rowV lvI64 1 ([] : List Int) 0 false, rowV lvI64 1 ([] : List Int) 0 false, .cells [.pd (.int .i64 0), .own 1 (([] : List Int).length) 0, .own 2 (([] : List Int).length) 0] 1 0 false, rowV lvI64 1 (s154 ++ [x1]) (vnext s154 [x1] v104) false, rowV lvI64 1 s155 v105 false, .cells [.pd (.int .i64 p0), .own 4 n104 v104, .own 5 n105 v105] 1 0 false, .cells [.pd (.int .i64 x1), .pd (.int .i64 x2)] 1 0 false] ∧ True) (by kernel_rfl) (by kernel_rfl) ⟨⟨rowV lvI64 1 (s154 ++ [x1]) (vnext s154 [x1] v104) false, [], rfl⟩, ⟨rowV lvI64 1 (s154 ++ [x1]) (vnext s154 [x1] v104) false, [], rfl⟩, ⟨rowV lvI64 1 (s154 ++ [x1]) (vnext s154 [x1] v104) false, [], rfl⟩, ⟨rowV lvI64 1 (s154 ++ [x1]) (vnext s154 [x1] v104) false, [], rfl⟩, ⟨rowV lvI64 1 (s154 ++ [x1]) (vnext s154 [x1] v104) false, rowV lvI64 1 s155 v105 false, [], rfl⟩, trivial⟩ ?_
    refine H_askM (fun M => ∃ (Y4 : Ob) (RR : Mem), M = ([.cells [.pd (.int .i64 p0), .pd (.sl (p1.map elAI64I64Z))] 1 0 false, rowV lvI64 1 ([] : List Int) 0 false, rowV lvI64 1 ([] : List Int) 0 false, .cells [.pd (.int .i64 0), .own 1 (([] : List Int).length) 0, .own 2 (([] : List Int).length) 0] 1 0 false, Y4, rowV lvI64 1 s155 v105 false, .cells [.pd (.int .i64 p0), .own 4 n104 v104, .own 5 n105 v105] 1 0 false, .cells [.pd (.int .i64 x1), .pd (.int .i64 x2)] 1 0 false] : Mem) ++ RR) (.ptr 6 2 0) (by kernel_rfl) (by kernel_rfl) (by rintro _ ⟨_, _, rfl⟩; kernel_rfl) ?_
    refine H_askM (fun M => ∃ (Y4 : Ob) (RR : Mem), M = ([.cells [.pd (.int .i64 p0), .pd (.sl (p1.map elAI64I64Z))] 1 0 false, rowV lvI64 1 ([] : List Int) 0 false, rowV lvI64 1 ([] : List Int) 0 false, .cells [.pd (.int .i64 0), .own 1 (([] : List Int).length) 0, .own 2 (([] : List Int).length) 0] 1 0 false, Y4, rowV lvI64 1 s155 v105 false, .cells [.pd (.int .i64 p0), .own 4 n104 v104, .own 5 n105 v105] 1 0 false, .cells [.pd (.int .i64 x1), .pd (.int .i64 x2)] 1 0 false] : Mem) ++ RR) (.own 5 n105 v105) (by kernel_rfl) (by kernel_rfl) (by rintro _ ⟨_, _, rfl⟩; kernel_rfl) ?_
    refine H_askM (fun M => ∃ (Y4 : Ob) (RR : Mem), M = ([.cells [.pd (.int .i64 p0), .pd (.sl (p1.map elAI64I64Z))] 1 0 false, rowV lvI64 1 ([] : List Int) 0 false, rowV lvI64 1 ([] : List Int) 0 false, .cells [.pd (.int .i64 0), .own 1 (([] : List Int).length) 0, .own 2 (([] : List Int).length) 0] 1 0 false, Y4, rowV lvI64 1 s155 v105 false, .cells [.pd (.int .i64 p0), .own 4 n104 v104, .own 5 n105 v105] 1 0 false, .cells [.pd (.int .i64 x1), .pd (.int .i64 x2)] 1 0 false] : Mem) ++ RR) (.ptr 7 1 0) (by kernel_rfl) (by kernel_rfl) (by rintro _ ⟨_, _, rfl⟩; kernel_rfl) ?_
    refine H_askM (fun M => ∃ (Y4 : Ob) (RR : Mem), M = ([.cells [.pd (.int .i64 p0), .pd (.sl (p1.map elAI64I64Z))] 1 0 false, rowV lvI64 1 ([] : List Int) 0 false, rowV lvI64 1 ([] : List Int) 0 false, .cells [.pd (.int .i64 0), .own 1 (([] : List Int).length) 0, .own 2 (([] : List Int).length) 0] 1 0 false, Y4, rowV lvI64 1 s155 v105 false, .cells [.pd (.int .i64 p0), .own 4 n104 v104, .own 5 n105 v105] 1 0 false, .cells [.pd (.int .i64 x1), .pd (.int .i64 x2)] 1 0 false] : Mem) ++ RR) (.pd (.int .i64 x2)) (by kernel_rfl) (by kernel_rfl) (by rintro _ ⟨_, _, rfl⟩; kernel_rfl) ?_
    refine H_askall (.fixed ([x2].map elI64)) (f := fun M' => some (.fixed ([x2].map elI64), M')) (by kernel_rfl) (fun _ => rfl) ?_
    obtain ⟨hx5, h⟩ := h
    refine H_ask _ _ (by kernel_rfl) (ask_appV (P := Tryz.prog) (M := [.cells [.pd (.int .i64 p0), .pd (.sl (p1.map elAI64I64Z))] 1 0 false, rowV lvI64 1 ([] : List Int) 0 false, rowV lvI64 1 ([] : List Int) 0 false, .cells [.pd (.int .i64 0), .own 1 (([] : List Int).length) 0, .own 2 (([] : List Int).length) 0] 1 0 false, rowV lvI64 1 (s154 ++ [x1]) (vnext s154 [x1] v104) false, rowV lvI64 1 s155 v105 false, .cells [.pd (.int .i64 p0), .own 4 n104 v104, .own 5 n105 v105] 1 0 false, .cells [.pd (.int .i64 x1), .pd (.int .i64 x2)] 1 0 false]) (lv := lvI64) (s := 1) (b := 5) (e := s155) (e2 := [x2]) (ver := v105) (sT := 31) (xT := 31) (by_ := 8) okI64 (by kernel_rfl) (src_fixed (M := [.cells [.pd (.int .i64 p0), .pd (.sl (p1.map elAI64I64Z))] 1 0 false, rowV lvI64 1 ([] : List Int) 0 false, rowV lvI64 1 ([] : List Int) 0 false, .cells [.pd (.int .i64 0), .own 1 (([] : List Int).length) 0, .own 2 (([] : List Int).length) 0] 1 0 false, rowV lvI64 1 (s154 ++ [x1]) (vnext s154 [x1] v104) false, rowV lvI64 1 s155 v105 false, .cells [.pd (.int .i64 p0), .own 4 n104 v104, .own 5 n105 v105] 1 0 false, .cells [.pd (.int .i64 x1), .pd (.int .i64 x2)] 1 0 false]) okI64 leI64) (by kernel_rfl) (n := n105) hn105 hx5) ?_
    refine H_chk (p := (fun M => ∃ (Y4 : Ob) (Y5 : Ob) (RR : Mem), M = ([.cells [.pd (.int .i64 p0), .pd (.sl (p1.map elAI64I64Z))] 1 0 false, rowV lvI64 1 ([] : List Int) 0 false, rowV lvI64 1 ([] : List Int) 0 false, .cells [.pd (.int .i64 0), .own 1 (([] : List Int).length) 0, .own 2 (([] : List Int).length) 0] 1 0 false, Y4, Y5, .cells [.pd (.int .i64 p0), .own 4 n104 v104, .own 5 n105 v105] 1 0 false, .cells [.pd (.int .i64 x1), .pd (.int .i64 x2)] 1 0 false] : Mem) ++ RR) [.cells [.pd (.int .i64 p0), .pd (.sl (p1.map elAI64I64Z))] 1 0 false, rowV lvI64 1 ([] : List Int) 0 false, rowV lvI64 1 ([] : List Int) 0 false, .cells [.pd (.int .i64 0), .own 1 (([] : List Int).length) 0, .own 2 (([] : List Int).length) 0] 1 0 false, rowV lvI64 1 (s154 ++ [x1]) (vnext s154 [x1] v104) false, rowV lvI64 1 (s155 ++ [x2]) (vnext s155 [x2] v105) false, .cells [.pd (.int .i64 p0), .own 4 n104 v104, .own 5 n105 v105] 1 0 false, .cells [.pd (.int .i64 x1), .pd (.int .i64 x2)] 1 0 false] ∧ True) (by kernel_rfl) (by kernel_rfl) ⟨⟨rowV lvI64 1 (s154 ++ [x1]) (vnext s154 [x1] v104) false, rowV lvI64 1 (s155 ++ [x2]) (vnext s155 [x2] v105) false, [], rfl⟩, trivial⟩ ?_
    refine H_askM (fun M => ∃ (Y4 : Ob) (Y5 : Ob) (RR : Mem), M = ([.cells [.pd (.int .i64 p0), .pd (.sl (p1.map elAI64I64Z))] 1 0 false, rowV lvI64 1 ([] : List Int) 0 false, rowV lvI64 1 ([] : List Int) 0 false, .cells [.pd (.int .i64 0), .own 1 (([] : List Int).length) 0, .own 2 (([] : List Int).length) 0] 1 0 false, Y4, Y5, .cells [.pd (.int .i64 p0), .own 4 n104 v104, .own 5 n105 v105] 1 0 false, .cells [.pd (.int .i64 x1), .pd (.int .i64 x2)] 1 0 false] : Mem) ++ RR) (.ptr 6 1 0) (by kernel_rfl) (by kernel_rfl) (by rintro _ ⟨_, _, _, rfl⟩; kernel_rfl) ?_
    refine H_ask _ _ (by kernel_rfl) (ask_storeC (P := Tryz.prog) (M := [.cells [.pd (.int .i64 p0), .pd (.sl (p1.map elAI64I64Z))] 1 0 false, rowV lvI64 1 ([] : List Int) 0 false, rowV lvI64 1 ([] : List Int) 0 false, .cells [.pd (.int .i64 0), .own 1 (([] : List Int).length) 0, .own 2 (([] : List Int).length) 0] 1 0 false, rowV lvI64 1 (s154 ++ [x1]) (vnext s154 [x1] v104) false, rowV lvI64 1 (s155 ++ [x2]) (vnext s155 [x2] v105) false, .cells [.pd (.int .i64 p0), .own 4 n104 v104, .own 5 n105 v105] 1 0 false, .cells [.pd (.int .i64 x1), .pd (.int .i64 x2)] 1 0 false]) (M2 := [.cells [.pd (.int .i64 p0), .pd (.sl (p1.map elAI64I64Z))] 1 0 false, rowV lvI64 1 ([] : List Int) 0 false, rowV lvI64 1 ([] : List Int) 0 false, .cells [.pd (.int .i64 0), .own 1 (([] : List Int).length) 0, .own 2 (([] : List Int).length) 0] 1 0 false, rowV lvI64 1 (s154 ++ [x1]) (vnext s154 [x1] v104) false, rowV lvI64 1 (s155 ++ [x2]) (vnext s155 [x2] v105) false, .cells [.pd (.int .i64 p0), .own 4 ((s154 ++ [x1]).length) (vnext s154 [x1] v104), .own 5 n105 v105] 1 0 false, .cells [.pd (.int .i64 x1), .pd (.int .i64 x2)] 1 0 false]) (t := 31) (b := 6) (off := 1) (v := 0) (n := 1) (s := 1) (l := [.pd (.int .i64 p0), .own 4 n104 v104, .own 5 n105 v105]) (xs := [.own 4 ((s154 ++ [x1]).length) (vnext s154 [x1] v104)]) (x := .own 4 ((s154 ++ [x1]).length) (vnext s154 [x1] v104)) (by kernel_rfl) (by kernel_rfl) rfl (by kernel_rfl) (all_c (ok_own (o := rowV lvI64 1 (s154 ++ [x1]) (vnext s154 [x1] v104) false) (by kernel_rfl) (rowIs_v' (lv := lvI64) (s := 1) (e := (s154 ++ [x1])) (ver := (vnext s154 [x1] v104)) (z := false))) all_n) rfl) ?_
    refine H_chk (p := True) (by kernel_rfl) (by kernel_rfl) trivial ?_
    refine H_askK (.ptr 6 2 0) ([.cells [.pd (.int .i64 p0), .pd (.sl (p1.map elAI64I64Z))] 1 0 false, rowV lvI64 1 ([] : List Int) 0 false, rowV lvI64 1 ([] : List Int) 0 false, .cells [.pd (.int .i64 0), .own 1 (([] : List Int).length) 0, .own 2 (([] : List Int).length) 0] 1 0 false, rowV lvI64 1 (s154 ++ [x1]) (vnext s154 [x1] v104) false, rowV lvI64 1 (s155 ++ [x2]) (vnext s155 [x2] v105) false, .cells [.pd (.int .i64 p0), .own 4 ((s154 ++ [x1]).length) (vnext s154 [x1] v104), .own 5 n105 v105] 1 0 false, .cells [.pd (.int .i64 x1), .pd (.int .i64 x2)] 1 0 false]) (by kernel_rfl) ?_
    refine H_ask _ _ (by kernel_rfl) (ask_storeC (P := Tryz.prog) (M := [.cells [.pd (.int .i64 p0), .pd (.sl (p1.map elAI64I64Z))] 1 0 false, rowV lvI64 1 ([] : List Int) 0 false, rowV lvI64 1 ([] : List Int) 0 false, .cells [.pd (.int .i64 0), .own 1 (([] : List Int).length) 0, .own 2 (([] : List Int).length) 0] 1 0 false, rowV lvI64 1 (s154 ++ [x1]) (vnext s154 [x1] v104) false, rowV lvI64 1 (s155 ++ [x2]) (vnext s155 [x2] v105) false, .cells [.pd (.int .i64 p0), .own 4 ((s154 ++ [x1]).length) (vnext s154 [x1] v104), .own 5 n105 v105] 1 0 false, .cells [.pd (.int .i64 x1), .pd (.int .i64 x2)] 1 0 false]) (M2 := [.cells [.pd (.int .i64 p0), .pd (.sl (p1.map elAI64I64Z))] 1 0 false, rowV lvI64 1 ([] : List Int) 0 false, rowV lvI64 1 ([] : List Int) 0 false, .cells [.pd (.int .i64 0), .own 1 (([] : List Int).length) 0, .own 2 (([] : List Int).length) 0] 1 0 false, rowV lvI64 1 (s154 ++ [x1]) (vnext s154 [x1] v104) false, rowV lvI64 1 (s155 ++ [x2]) (vnext s155 [x2] v105) false, .cells [.pd (.int .i64 p0), .own 4 ((s154 ++ [x1]).length) (vnext s154 [x1] v104), .own 5 ((s155 ++ [x2]).length) (vnext s155 [x2] v105)] 1 0 false, .cells [.pd (.int .i64 x1), .pd (.int .i64 x2)] 1 0 false]) (t := 31) (b := 6) (off := 2) (v := 0) (n := 1) (s := 1) (l := [.pd (.int .i64 p0), .own 4 ((s154 ++ [x1]).length) (vnext s154 [x1] v104), .own 5 n105 v105]) (xs := [.own 5 ((s155 ++ [x2]).length) (vnext s155 [x2] v105)]) (x := .own 5 ((s155 ++ [x2]).length) (vnext s155 [x2] v105)) (by kernel_rfl) (by kernel_rfl) rfl (by kernel_rfl) (all_c (ok_own (o := rowV lvI64 1 (s155 ++ [x2]) (vnext s155 [x2] v105) false) (by kernel_rfl) (rowIs_v' (lv := lvI64) (s := 1) (e := (s155 ++ [x2])) (ver := (vnext s155 [x2] v105)) (z := false))) all_n) rfl) ?_
    refine H_chk (p := True) (by kernel_rfl) (by kernel_rfl) trivial ?_
    exact H_againC (st := _) ((IntKind.i64.wrap (s100 + 1)), (s154 ++ [x1]), (s155 ++ [x2])) ((vnext s154 [x1] v104), ((s154 ++ [x1]).length), (vnext s155 [x2] v105), ((s155 ++ [x2]).length)) h ⟨rfl, rfl⟩ (by kernel_rfl) (by kernel_rfl) (by kernel_rfl) (by kernel_rfl) (by kernel_rfl) (by kernel_rfl) (all_c (by kernel_rfl) (all_c (bel_rowV _) (all_c (bel_rowV _) (all_c (by kernel_rfl) (all_c (bel_rowV _) (all_c (bel_rowV _) (all_c (by kernel_rfl) all_n))))))) (by kernel_rfl) (by kernel_rfl)
  · replace h := h.f hc; clear hc
    refine H_leaveP (.exit 0) (by kernel_rfl) rfl ?_
    refine H_askK (.agg [.pd (.int .i64 p0), .own 4 n104 v104, .own 5 n105 v105]) ([.cells [.pd (.int .i64 p0), .pd (.sl (p1.map elAI64I64Z))] 1 0 false, rowV lvI64 1 ([] : List Int) 0 false, rowV lvI64 1 ([] : List Int) 0 false, .cells [.pd (.int .i64 0), .own 1 (([] : List Int).length) 0, .own 2 (([] : List Int).length) 0] 1 0 false, rowV lvI64 1 s154 v104 false, rowV lvI64 1 s155 v105 false, .cells [.pd (.int .i64 p0), .own 4 n104 v104, .own 5 n105 v105] 1 0 false]) (by kernel_rfl) ?_
    refine H_ask _ _ (by kernel_rfl) (ask_storeC (P := Tryz.prog) (M := [.cells [.pd (.int .i64 p0), .pd (.sl (p1.map elAI64I64Z))] 1 0 false, rowV lvI64 1 ([] : List Int) 0 false, rowV lvI64 1 ([] : List Int) 0 false, .cells [.pd (.int .i64 0), .own 1 (([] : List Int).length) 0, .own 2 (([] : List Int).length) 0] 1 0 false, rowV lvI64 1 s154 v104 false, rowV lvI64 1 s155 v105 false, .cells [.pd (.int .i64 p0), .own 4 n104 v104, .own 5 n105 v105] 1 0 false]) (M2 := [.cells [.pd (.int .i64 p0), .pd (.sl (p1.map elAI64I64Z))] 1 0 false, rowV lvI64 1 ([] : List Int) 0 false, rowV lvI64 1 ([] : List Int) 0 false, .cells [.pd (.int .i64 p0), .own 4 n104 v104, .own 5 n105 v105] 1 0 false, rowV lvI64 1 s154 v104 false, rowV lvI64 1 s155 v105 false, .cells [.pd (.int .i64 p0), .own 4 n104 v104, .own 5 n105 v105] 1 0 false]) (t := 33) (b := 3) (off := 0) (v := 0) (n := 3) (s := 1) (l := [.pd (.int .i64 0), .own 1 (([] : List Int).length) 0, .own 2 (([] : List Int).length) 0]) (xs := [.pd (.int .i64 p0), .own 4 n104 v104, .own 5 n105 v105]) (x := .agg [.pd (.int .i64 p0), .own 4 n104 v104, .own 5 n105 v105]) (by kernel_rfl) (by kernel_rfl) rfl (by kernel_rfl) (all_c (by kernel_rfl) (all_c (ok_own (o := rowV lvI64 1 s154 v104 false) (by kernel_rfl) (rowIs_v' (lv := lvI64) (s := 1) (e := s154) (ver := v104) (z := false))) (all_c (ok_own (o := rowV lvI64 1 s155 v105 false) (by kernel_rfl) (rowIs_v' (lv := lvI64) (s := 1) (e := s155) (ver := v105) (z := false))) all_n))) rfl) ?_
    exact H_endX .ret (.agg [.pd (.int .i64 p0), .own 4 n104 v104, .own 5 n105 v105]) (.agg [.pd (.int .i64 p0), .pd (.sl (s154.map elI64)), .pd (.sl (s155.map elI64))]) ([.cells [.pd (.int .i64 p0), .pd (.sl (p1.map elAI64I64Z))] 1 0 false, rowV lvI64 1 ([] : List Int) 0 false, rowV lvI64 1 ([] : List Int) 0 false, .cells [.pd (.int .i64 p0), .own 4 n104 v104, .own 5 n105 v105] 1 0 false, rowV lvI64 1 s154 v104 false, rowV lvI64 1 s155 v105 false, .cells [.pd (.int .i64 p0), .own 4 n104 v104, .own 5 n105 v105] 1 0 false]) (by kernel_rfl) rfl (by kernel_rfl) (by kernel_rfl) (pure_2to3 (pure_agg (pl_cons rfl (pl_cons (pure1_own okI64 (by decide) lgI64 (M := [.cells [.pd (.int .i64 p0), .pd (.sl (p1.map elAI64I64Z))] 1 0 false, rowV lvI64 1 ([] : List Int) 0 false, rowV lvI64 1 ([] : List Int) 0 false, .cells [.pd (.int .i64 p0), .own 4 n104 v104, .own 5 n105 v105] 1 0 false, rowV lvI64 1 s154 v104 false, rowV lvI64 1 s155 v105 false, .cells [.pd (.int .i64 p0), .own 4 n104 v104, .own 5 n105 v105] 1 0 false]) (b := 4) (o := rowV lvI64 1 s154 v104 false) (by kernel_rfl) (rowIs_v' (lv := lvI64) (s := 1) (e := s154) (ver := v104) (z := false)) (n := n104) hn104) (pl_cons (pure1_own okI64 (by decide) lgI64 (M := [.cells [.pd (.int .i64 p0), .pd (.sl (p1.map elAI64I64Z))] 1 0 false, rowV lvI64 1 ([] : List Int) 0 false, rowV lvI64 1 ([] : List Int) 0 false, .cells [.pd (.int .i64 p0), .own 4 n104 v104, .own 5 n105 v105] 1 0 false, rowV lvI64 1 s154 v104 false, rowV lvI64 1 s155 v105 false, .cells [.pd (.int .i64 p0), .own 4 n104 v104, .own 5 n105 v105] 1 0 false]) (b := 5) (o := rowV lvI64 1 s155 v105 false) (by kernel_rfl) (rowIs_v' (lv := lvI64) (s := 1) (e := s155) (ver := v105) (z := false)) (n := n105) hn105) pl_nil)))) rfl) (by subst h; rfl)

theorem stock_Total_ok (m : Tp) (p0 : Int) (p1 : List (Int × Int)) {r : Int} (h : stock_Total p0 p1 r) : ASpec Tryz.prog (gtT m) 14 [.agg [.pd (.int .i64 p0), .pd (.sl (p1.map elAI64I64Z))]] (· = .pd (.int .i64 r)) := by
  refine ASpec_tree Tryz.f14 mixedT (askG [9, 10, 11] false) (by kernel_rfl) ?_
  unfold stock_Total at h
  refine H_askK (.ptr 0 0 0) ([.cells [.pd (.int .i64 p0), .pd (.sl (p1.map elAI64I64Z))] 1 0 false]) (by kernel_rfl) ?_
  refine H_askK (.junk) ([.cells [.pd (.int .i64 p0), .pd (.sl (p1.map elAI64I64Z))] 1 0 false, .cells [.pd (.int .i64 0)] 1 0 false]) (by kernel_rfl) ?_
  refine H_askK (.agg [.pd (.int .i64 p0), .pd (.sl (p1.map elAI64I64Z))]) ([.cells [.pd (.int .i64 p0), .pd (.sl (p1.map elAI64I64Z))] 1 0 false, .cells [.pd (.int .i64 0)] 1 0 false]) (by kernel_rfl) ?_
  refine H_inl (g := 26) (args := [.agg [.pd (.int .i64 p0), .pd (.sl (p1.map elAI64I64Z))]]) (M := [.cells [.pd (.int .i64 p0), .pd (.sl (p1.map elAI64I64Z))] 1 0 false, .cells [.pd (.int .i64 0)] 1 0 false]) Tryz.f26 mixedT (askG [9, 10, 11] false) (by kernel_rfl) (by kernel_rfl) (hasT 26 (by kernel_rfl)) ?_
  refine H_askK (.ptr 2 0 0) ([.cells [.pd (.int .i64 p0), .pd (.sl (p1.map elAI64I64Z))] 1 0 false, .cells [.pd (.int .i64 0)] 1 0 false, .cells [.pd (.int .i64 p0), .pd (.sl (p1.map elAI64I64Z))] 1 0 false]) (by kernel_rfl) ?_
  refine H_endM .ret (.fn (.func 35) [] [.ptr 2 0 0]) ([.cells [.pd (.int .i64 p0), .pd (.sl (p1.map elAI64I64Z))] 1 0 false, .cells [.pd (.int .i64 0)] 1 0 false, .cells [.pd (.int .i64 p0), .pd (.sl (p1.map elAI64I64Z))] 1 0 false]) (by kernel_rfl) rfl (by kernel_rfl) (by kernel_rfl) (by kernel_rfl) ?_
  refine H_gen fun w1 hw1 => ?_
  refine H_range (gf := 35) (l1 := []) (l2 := [.ptr 2 0 0]) ([.cells [.pd (.int .i64 p0), .pd (.sl (p1.map elAI64I64Z))] 1 0 false, .cells [.pd (.int .i64 0)] 1 0 false, .cells [.pd (.int .i64 p0), .pd (.sl (p1.map elAI64I64Z))] 1 0 false, .defers false, .loop .ready none w1.stS.T w1.rps w1.rasg w1.rbo 3]) 4 (by subst hw1; kernel_rfl) (by subst hw1; kernel_rfl) (hasT 35 (by kernel_rfl)) (by subst hw1; kernel_rfl) (by subst hw1; kernel_rfl) ?_
  refine ACall_tree Tryz.f35 mixedT (askG [9, 10, 11] false) (by kernel_rfl) ?_
  refine H_askK (.agg [.pd (.int .i64 p0), .pd (.sl (p1.map elAI64I64Z))]) ([.cells [.pd (.int .i64 p0), .pd (.sl (p1.map elAI64I64Z))] 1 0 false, .cells [.pd (.int .i64 0)] 1 0 false, .cells [.pd (.int .i64 p0), .pd (.sl (p1.map elAI64I64Z))] 1 0 false, .defers false, .loop .ready none w1.stS.T w1.rps w1.rasg w1.rbo 3]) (by subst hw1; kernel_rfl) ?_
  obtain ⟨x1, hx2, h⟩ := h
  refine H_valW (g := 11) (args := [.agg [.pd (.int .i64 p0), .pd (.sl (p1.map elAI64I64Z))]]) (M := [.cells [.pd (.int .i64 p0), .pd (.sl (p1.map elAI64I64Z))] 1 0 false, .cells [.pd (.int .i64 0)] 1 0 false, .cells [.pd (.int .i64 p0), .pd (.sl (p1.map elAI64I64Z))] 1 0 false, .defers false, .loop .ready none w1.stS.T w1.rps w1.rasg w1.rbo 3]) (.pd (.bool x1)) (.inl (by subst hw1; kernel_rfl)) (by subst hw1; kernel_rfl) (stock_Right_ok m _ _ hx2) (by kernel_rfl) (hasT 11 (by kernel_rfl)) ?_
  cases x1
  · replace h := h.f rfl
    refine H_endM .ret (.tup []) ([.cells [.pd (.int .i64 p0), .pd (.sl (p1.map elAI64I64Z))] 1 0 false, .cells [.pd (.int .i64 0)] 1 0 false, .cells [.pd (.int .i64 p0), .pd (.sl (p1.map elAI64I64Z))] 1 0 false, .defers false, .loop .ready none w1.stS.T w1.rps w1.rasg w1.rbo 3]) (by subst hw1; kernel_rfl) rfl (by subst hw1; kernel_rfl) (by subst hw1; kernel_rfl) (by subst hw1; kernel_rfl) ?_
    refine aft_done (st := .ready) (M' := [.cells [.pd (.int .i64 p0), .pd (.sl (p1.map elAI64I64Z))] 1 0 false, .cells [.pd (.int .i64 0)] 1 0 false, .cells [.pd (.int .i64 p0), .pd (.sl (p1.map elAI64I64Z))] 1 0 false, .defers false, .loop .exhausted none w1.stS.T w1.rps w1.rasg w1.rbo 3]) (by subst hw1; kernel_rfl) (by simp) (by subst hw1; kernel_rfl) ?_
    refine H_askK (.pd (.int .i64 0)) ([.cells [.pd (.int .i64 p0), .pd (.sl (p1.map elAI64I64Z))] 1 0 false, .cells [.pd (.int .i64 0)] 1 0 false, .cells [.pd (.int .i64 p0), .pd (.sl (p1.map elAI64I64Z))] 1 0 false, .defers false, .loop .exhausted none w1.stS.T w1.rps w1.rasg w1.rbo 3]) (by subst hw1; kernel_rfl) ?_
    exact H_end .ret (.pd (.int .i64 0)) (by subst hw1; kernel_rfl) rfl (by subst hw1; kernel_rfl) (by subst h; rfl)
  · replace h := h.t rfl
    refine H_askK (.ptr 2 1 0) ([.cells [.pd (.int .i64 p0), .pd (.sl (p1.map elAI64I64Z))] 1 0 false, .cells [.pd (.int .i64 0)] 1 0 false, .cells [.pd (.int .i64 p0), .pd (.sl (p1.map elAI64I64Z))] 1 0 false, .defers false, .loop .ready none w1.stS.T w1.rps w1.rasg w1.rbo 3]) (by subst hw1; kernel_rfl) ?_
    refine H_askK (.pd (.sl (p1.map elAI64I64Z))) ([.cells [.pd (.int .i64 p0), .pd (.sl (p1.map elAI64I64Z))] 1 0 false, .cells [.pd (.int .i64 0)] 1 0 false, .cells [.pd (.int .i64 p0), .pd (.sl (p1.map elAI64I64Z))] 1 0 false, .defers false, .loop .ready none w1.stS.T w1.rps w1.rasg w1.rbo 3]) (by subst hw1; kernel_rfl) ?_
    refine H_ask _ _ (by subst hw1; kernel_rfl) (ask_len (P := Tryz.prog) (M := [.cells [.pd (.int .i64 p0), .pd (.sl (p1.map elAI64I64Z))] 1 0 false, .cells [.pd (.int .i64 0)] 1 0 false, .cells [.pd (.int .i64 p0), .pd (.sl (p1.map elAI64I64Z))] 1 0 false, .defers false, .loop .ready none w1.stS.T w1.rps w1.rasg w1.rbo 3]) (t := 23) (et := 53) (el := elAI64I64Z) (by kernel_rfl) (e := p1)) ?_
    refine H_loopP (F := stock_Total_L1 p1 r) (s0 := ((0 : Int), (0 : Int), (0 : Int))) h () 30 5
      (fun ((s100, s101, s102) : Int × Int × Int) (() : Unit) => [(0, .yld 4), (3, .pd (.int .i64 s100)), (10, .pd (.sl (p1.map elAI64I64Z))), (11, .pd (.int .i64 (p1.length : Int))), (12, .pd (.int .i64 s101))])
      (fun ((s100, s101, s102) : Int × Int × Int) (() : Unit) => [.cells [.pd (.int .i64 p0), .pd (.sl (p1.map elAI64I64Z))] 1 0 false, .cells [.pd (.int .i64 s102)] 1 0 false, .cells [.pd (.int .i64 p0), .pd (.sl (p1.map elAI64I64Z))] 1 0 false, .defers false, .loop .ready none w1.stS.T w1.rps w1.rasg w1.rbo 3]) (fun ((s100, s101, s102) : Int × Int × Int) (() : Unit) => True) trivial [] mixedT (askG [9, 10, 11] false)
      (by subst hw1; kernel_rfl) (by subst hw1; kernel_rfl) (by subst hw1; kernel_rfl) (by subst hw1; kernel_rfl) (by subst hw1; kernel_rfl) (fun _ _ => rfl) ?_
    rintro X1 ⟨s100, s101, s102⟩ ⟨⟩ - h
    dsimp only [stock_Total_L1] at h
    refine H_split (decide (s101 < (p1.length : Int))) (by subst hw1; kernel_rfl) (fun hc => ?_) (fun hc => ?_)
    · replace h := h.t hc; clear hc
      obtain ⟨x3, x4, hx5, h⟩ := h
      refine H_ask _ _ (by subst hw1; kernel_rfl) (ask_idx (P := Tryz.prog) (M := [.cells [.pd (.int .i64 p0), .pd (.sl (p1.map elAI64I64Z))] 1 0 false, .cells [.pd (.int .i64 s102)] 1 0 false, .cells [.pd (.int .i64 p0), .pd (.sl (p1.map elAI64I64Z))] 1 0 false, .defers false, .loop .ready none w1.stS.T w1.rps w1.rasg w1.rbo 3]) (t := 23) (et := 53) (k := .i64) (lv := lvAI64I64Z) okAI64I64Z leAI64I64Z (by kernel_rfl) (by kernel_rfl) hx5) ?_
      refine H_askK (.agg [.pd (.int .i64 x3), .pd (.int .i64 x4)]) ([.cells [.pd (.int .i64 p0), .pd (.sl (p1.map elAI64I64Z))] 1 0 false, .cells [.pd (.int .i64 s102)] 1 0 false, .cells [.pd (.int .i64 p0), .pd (.sl (p1.map elAI64I64Z))] 1 0 false, .defers false, .loop .ready none w1.stS.T w1.rps w1.rasg w1.rbo 3]) (by subst hw1; kernel_rfl) ?_
      refine H_askK (.junk) ([.cells [.pd (.int .i64 p0), .pd (.sl (p1.map elAI64I64Z))] 1 0 false, .cells [.pd (.int .i64 s102)] 1 0 false, .cells [.pd (.int .i64 p0), .pd (.sl (p1.map elAI64I64Z))] 1 0 false, .defers false, .loop .ready none w1.stS.T w1.rps w1.rasg w1.rbo 3, .cells [.pd (.int .i64 x3), .pd (.int .i64 x4)] 1 0 false]) (by subst hw1; kernel_rfl) ?_
      refine H_askK (.ptr 5 1 0) ([.cells [.pd (.int .i64 p0), .pd (.sl (p1.map elAI64I64Z))] 1 0 false, .cells [.pd (.int .i64 s102)] 1 0 false, .cells [.pd (.int .i64 p0), .pd (.sl (p1.map elAI64I64Z))] 1 0 false, .defers false, .loop .ready none w1.stS.T w1.rps w1.rasg w1.rbo 3, .cells [.pd (.int .i64 x3), .pd (.int .i64 x4)] 1 0 false]) (by subst hw1; kernel_rfl) ?_
      refine H_askK (.pd (.int .i64 x4)) ([.cells [.pd (.int .i64 p0), .pd (.sl (p1.map elAI64I64Z))] 1 0 false, .cells [.pd (.int .i64 s102)] 1 0 false, .cells [.pd (.int .i64 p0), .pd (.sl (p1.map elAI64I64Z))] 1 0 false, .defers false, .loop .ready none w1.stS.T w1.rps w1.rasg w1.rbo 3, .cells [.pd (.int .i64 x3), .pd (.int .i64 x4)] 1 0 false]) (by subst hw1; kernel_rfl) ?_
      refine H_loopP (F := stock_Total_L2 s101 X1 x4) (s0 := (s100, (0 : Int), s102)) h () 30 6
        (fun ((s200, s201, s202) : Int × Int × Int) (() : Unit) => [(0, .yld 4), (3, .pd (.int .i64 s200)), (5, .ptr 5 0 0), (10, .pd (.sl (p1.map elAI64I64Z))), (11, .pd (.int .i64 (p1.length : Int))), (12, .pd (.int .i64 s101)), (17, .pd (.int .i64 x4)), (18, .pd (.int .i64 s201))])
        (fun ((s200, s201, s202) : Int × Int × Int) (() : Unit) => [.cells [.pd (.int .i64 p0), .pd (.sl (p1.map elAI64I64Z))] 1 0 false, .cells [.pd (.int .i64 s202)] 1 0 false, .cells [.pd (.int .i64 p0), .pd (.sl (p1.map elAI64I64Z))] 1 0 false, .defers false, .loop .ready none w1.stS.T w1.rps w1.rasg w1.rbo 3, .cells [.pd (.int .i64 x3), .pd (.int .i64 x4)] 1 0 false]) (fun ((s200, s201, s202) : Int × Int × Int) (() : Unit) => True) trivial [] mixedT (askG [9, 10, 11] false)
        (by subst hw1; kernel_rfl) (by subst hw1; kernel_rfl) (by subst hw1; kernel_rfl) (by subst hw1; kernel_rfl) (by subst hw1; kernel_rfl) (fun _ _ => rfl) ?_
      rintro X2 ⟨s200, s201, s202⟩ ⟨⟩ - h
      dsimp only [stock_Total_L2] at h
      refine H_split (decide (s201 < x4)) (by subst hw1; kernel_rfl) (fun hc => ?_) (fun hc => ?_)
      · replace h := h.t hc; clear hc
        refine H_askK (.ptr 5 0 0) ([.cells [.pd (.int .i64 p0), .pd (.sl (p1.map elAI64I64Z))] 1 0 false, .cells [.pd (.int .i64 s202)] 1 0 false, .cells [.pd (.int .i64 p0), .pd (.sl (p1.map elAI64I64Z))] 1 0 false, .defers false, .loop .ready none w1.stS.T w1.rps w1.rasg w1.rbo 3, .cells [.pd (.int .i64 x3), .pd (.int .i64 x4)] 1 0 false]) (by subst hw1; kernel_rfl) ?_
        refine H_askK (.pd (.int .i64 x3)) ([.cells [.pd (.int .i64 p0), .pd (.sl (p1.map elAI64I64Z))] 1 0 false, .cells [.pd (.int .i64 s202)] 1 0 false, .cells [.pd (.int .i64 p0), .pd (.sl (p1.map elAI64I64Z))] 1 0 false, .defers false, .loop .ready none w1.stS.T w1.rps w1.rasg w1.rbo 3, .cells [.pd (.int .i64 x3), .pd (.int .i64 x4)] 1 0 false]) (by subst hw1; kernel_rfl) ?_
        refine H_yld (l := 4) (args := [.pd (.int .i64 s200), .pd (.int .i64 x3)]) (M := [.cells [.pd (.int .i64 p0), .pd (.sl (p1.map elAI64I64Z))] 1 0 false, .cells [.pd (.int .i64 s202)] 1 0 false, .cells [.pd (.int .i64 p0), .pd (.sl (p1.map elAI64I64Z))] 1 0 false, .defers false, .loop .ready none w1.stS.T w1.rps w1.rasg w1.rbo 3, .cells [.pd (.int .i64 x3), .pd (.int .i64 x4)] 1 0 false]) (by subst hw1; kernel_rfl) ?_
        refine H_round mixedT (askG [9, 10, 11] false) (by subst hw1; kernel_rfl) ?_
        refine H_askK (.pd (.int .i64 s202)) ([.cells [.pd (.int .i64 p0), .pd (.sl (p1.map elAI64I64Z))] 1 0 false, .cells [.pd (.int .i64 s202)] 1 0 false, .cells [.pd (.int .i64 p0), .pd (.sl (p1.map elAI64I64Z))] 1 0 false, .defers false, .loop .busy none w1.stS.T w1.rps w1.rasg w1.rbo 3, .cells [.pd (.int .i64 x3), .pd (.int .i64 x4)] 1 0 false]) (by subst hw1; kernel_rfl) ?_
        refine H_askK (.junk) ([.cells [.pd (.int .i64 p0), .pd (.sl (p1.map elAI64I64Z))] 1 0 false, .cells [.pd (.int .i64 (IntKind.i64.wrap (s202 + 1)))] 1 0 false, .cells [.pd (.int .i64 p0), .pd (.sl (p1.map elAI64I64Z))] 1 0 false, .defers false, .loop .busy none w1.stS.T w1.rps w1.rasg w1.rbo 3, .cells [.pd (.int .i64 x3), .pd (.int .i64 x4)] 1 0 false]) (by subst hw1; kernel_rfl) ?_
        refine H_rnd .normal .ready none true ([.cells [.pd (.int .i64 p0), .pd (.sl (p1.map elAI64I64Z))] 1 0 false, .cells [.pd (.int .i64 (IntKind.i64.wrap (s202 + 1)))] 1 0 false, .cells [.pd (.int .i64 p0), .pd (.sl (p1.map elAI64I64Z))] 1 0 false, .defers false, .loop .ready none w1.stS.T w1.rps w1.rasg w1.rbo 3, .cells [.pd (.int .i64 x3), .pd (.int .i64 x4)] 1 0 false]) (by subst hw1; kernel_rfl) rfl (by subst hw1; kernel_rfl) ?_
        exact H_againP (st := _) ((IntKind.i64.wrap (s200 + 1)), (IntKind.i64.wrap (s201 + 1)), (IntKind.i64.wrap (s202 + 1))) () h trivial (by subst hw1; kernel_rfl) (by subst hw1; kernel_rfl) (by subst hw1; kernel_rfl) (by subst hw1; kernel_rfl) (by subst hw1; kernel_rfl)
      · replace h := h.f hc; clear hc
        refine H_leaveP (.exit 2) (by subst hw1; kernel_rfl) rfl ?_
        exact H_againC (st := _) (s200, (IntKind.i64.wrap (s101 + 1)), s202) () h trivial (by subst hw1; kernel_rfl) (by subst hw1; kernel_rfl) (by subst hw1; kernel_rfl) (by subst hw1; kernel_rfl) (by subst hw1; kernel_rfl) (by subst hw1; kernel_rfl) (all_c (by subst hw1; kernel_rfl) (all_c (by subst hw1; kernel_rfl) (all_c (by subst hw1; kernel_rfl) (all_c (by subst hw1; kernel_rfl) (all_c (by subst hw1; kernel_rfl) all_n))))) (by subst hw1; kernel_rfl) (by kernel_rfl)
    · replace h := h.f hc; clear hc
      refine H_leaveP (.exit 0) (by subst hw1; kernel_rfl) rfl ?_
      refine H_endM .normal (.tup []) ([.cells [.pd (.int .i64 p0), .pd (.sl (p1.map elAI64I64Z))] 1 0 false, .cells [.pd (.int .i64 s102)] 1 0 false, .cells [.pd (.int .i64 p0), .pd (.sl (p1.map elAI64I64Z))] 1 0 false, .defers false, .loop .ready none w1.stS.T w1.rps w1.rasg w1.rbo 3]) (by subst hw1; kernel_rfl) rfl (by subst hw1; kernel_rfl) (by subst hw1; kernel_rfl) (by subst hw1; kernel_rfl) ?_
      refine aft_done (st := .ready) (M' := [.cells [.pd (.int .i64 p0), .pd (.sl (p1.map elAI64I64Z))] 1 0 false, .cells [.pd (.int .i64 s102)] 1 0 false, .cells [.pd (.int .i64 p0), .pd (.sl (p1.map elAI64I64Z))] 1 0 false, .defers false, .loop .exhausted none w1.stS.T w1.rps w1.rasg w1.rbo 3]) (by subst hw1; kernel_rfl) (by simp) (by subst hw1; kernel_rfl) ?_
      refine H_askK (.pd (.int .i64 s102)) ([.cells [.pd (.int .i64 p0), .pd (.sl (p1.map elAI64I64Z))] 1 0 false, .cells [.pd (.int .i64 s102)] 1 0 false, .cells [.pd (.int .i64 p0), .pd (.sl (p1.map elAI64I64Z))] 1 0 false, .defers false, .loop .exhausted none w1.stS.T w1.rps w1.rasg w1.rbo 3]) (by subst hw1; kernel_rfl) ?_
      exact H_end .ret (.pd (.int .i64 s102)) (by subst hw1; kernel_rfl) rfl (by subst hw1; kernel_rfl) (by subst h; rfl)

theorem stock_Wide_ok (m : Tp) (p0 : Int) (p1 : List (Int × Int)) {r : Bool} (h : stock_Wide p0 p1 r) : ASpec Tryz.prog (gtT m) 15 [.agg [.pd (.int .i64 p0), .pd (.sl (p1.map elAI64I64Z))]] (· = .pd (.bool r)) := by
  refine ASpec_tree Tryz.f15 mixedT (askG [9, 10, 11] false) (by kernel_rfl) ?_
  unfold stock_Wide at h
  refine H_askK (.ptr 0 0 0) ([.cells [.pd (.int .i64 p0), .pd (.sl (p1.map elAI64I64Z))] 1 0 false]) (by kernel_rfl) ?_
  refine H_askK (.agg [.pd (.int .i64 p0), .pd (.sl (p1.map elAI64I64Z))]) ([.cells [.pd (.int .i64 p0), .pd (.sl (p1.map elAI64I64Z))] 1 0 false, .cells [.pd (.bool false)] 1 0 false]) (by kernel_rfl) ?_
  refine H_inl (g := 26) (args := [.agg [.pd (.int .i64 p0), .pd (.sl (p1.map elAI64I64Z))]]) (M := [.cells [.pd (.int .i64 p0), .pd (.sl (p1.map elAI64I64Z))] 1 0 false, .cells [.pd (.bool false)] 1 0 false]) Tryz.f26 mixedT (askG [9, 10, 11] false) (by kernel_rfl) (by kernel_rfl) (hasT 26 (by kernel_rfl)) ?_
  refine H_askK (.ptr 2 0 0) ([.cells [.pd (.int .i64 p0), .pd (.sl (p1.map elAI64I64Z))] 1 0 false, .cells [.pd (.bool false)] 1 0 false, .cells [.pd (.int .i64 p0), .pd (.sl (p1.map elAI64I64Z))] 1 0 false]) (by kernel_rfl) ?_
  refine H_endM .ret (.fn (.func 35) [] [.ptr 2 0 0]) ([.cells [.pd (.int .i64 p0), .pd (.sl (p1.map elAI64I64Z))] 1 0 false, .cells [.pd (.bool false)] 1 0 false, .cells [.pd (.int .i64 p0), .pd (.sl (p1.map elAI64I64Z))] 1 0 false]) (by kernel_rfl) rfl (by kernel_rfl) (by kernel_rfl) (by kernel_rfl) ?_
  refine H_gen fun w1 hw1 => ?_
  refine H_range (gf := 35) (l1 := []) (l2 := [.ptr 2 0 0]) ([.cells [.pd (.int .i64 p0), .pd (.sl (p1.map elAI64I64Z))] 1 0 false, .cells [.pd (.bool false)] 1 0 false, .cells [.pd (.int .i64 p0), .pd (.sl (p1.map elAI64I64Z))] 1 0 false, .defers false, .loop .ready none w1.stS.T w1.rps w1.rasg w1.rbo 3]) 4 (by subst hw1; kernel_rfl) (by subst hw1; kernel_rfl) (hasT 35 (by kernel_rfl)) (by subst hw1; kernel_rfl) (by subst hw1; kernel_rfl) ?_
  refine ACall_tree Tryz.f35 mixedT (askG [9, 10, 11] false) (by kernel_rfl) ?_
  refine H_askK (.agg [.pd (.int .i64 p0), .pd (.sl (p1.map elAI64I64Z))]) ([.cells [.pd (.int .i64 p0), .pd (.sl (p1.map elAI64I64Z))] 1 0 false, .cells [.pd (.bool false)] 1 0 false, .cells [.pd (.int .i64 p0), .pd (.sl (p1.map elAI64I64Z))] 1 0 false, .defers false, .loop .ready none w1.stS.T w1.rps w1.rasg w1.rbo 3]) (by subst hw1; kernel_rfl) ?_
  obtain ⟨x1, hx2, h⟩ := h
  refine H_valW (g := 11) (args := [.agg [.pd (.int .i64 p0), .pd (.sl (p1.map elAI64I64Z))]]) (M := [.cells [.pd (.int .i64 p0), .pd (.sl (p1.map elAI64I64Z))] 1 0 false, .cells [.pd (.bool false)] 1 0 false, .cells [.pd (.int .i64 p0), .pd (.sl (p1.map elAI64I64Z))] 1 0 false, .defers false, .loop .ready none w1.stS.T w1.rps w1.rasg w1.rbo 3]) (.pd (.bool x1)) (.inl (by subst hw1; kernel_rfl)) (by subst hw1; kernel_rfl) (stock_Right_ok m _ _ hx2) (by kernel_rfl) (hasT 11 (by kernel_rfl)) ?_
  cases x1
  · replace h := h.f rfl
    refine H_endM .ret (.tup []) ([.cells [.pd (.int .i64 p0), .pd (.sl (p1.map elAI64I64Z))] 1 0 false, .cells [.pd (.bool false)] 1 0 false, .cells [.pd (.int .i64 p0), .pd (.sl (p1.map elAI64I64Z))] 1 0 false, .defers false, .loop .ready none w1.stS.T w1.rps w1.rasg w1.rbo 3]) (by subst hw1; kernel_rfl) rfl (by subst hw1; kernel_rfl) (by subst hw1; kernel_rfl) (by subst hw1; kernel_rfl) ?_
    refine aft_done (st := .ready) (M' := [.cells [.pd (.int .i64 p0), .pd (.sl (p1.map elAI64I64Z))] 1 0 false, .cells [.pd (.bool false)] 1 0 false, .cells [.pd (.int .i64 p0), .pd (.sl (p1.map elAI64I64Z))] 1 0 false, .defers false, .loop .exhausted none w1.stS.T w1.rps w1.rasg w1.rbo 3]) (by subst hw1; kernel_rfl) (by simp) (by subst hw1; kernel_rfl) ?_
    refine H_askK (.junk) ([.cells [.pd (.int .i64 p0), .pd (.sl (p1.map elAI64I64Z))] 1 0 false, .cells [.pd (.bool false)] 1 0 false, .cells [.pd (.int .i64 p0), .pd (.sl (p1.map elAI64I64Z))] 1 0 false, .defers false, .loop .exhausted none w1.stS.T w1.rps w1.rasg w1.rbo 3]) (by subst hw1; kernel_rfl) ?_
    exact H_end .ret (.pd (.bool false)) (by subst hw1; kernel_rfl) rfl (by subst hw1; kernel_rfl) (by subst h; rfl)
  · replace h := h.t rfl
    refine H_askK (.ptr 2 1 0) ([.cells [.pd (.int .i64 p0), .pd (.sl (p1.map elAI64I64Z))] 1 0 false, .cells [.pd (.bool false)] 1 0 false, .cells [.pd (.int .i64 p0), .pd (.sl (p1.map elAI64I64Z))] 1 0 false, .defers false, .loop .ready none w1.stS.T w1.rps w1.rasg w1.rbo 3]) (by subst hw1; kernel_rfl) ?_
    refine H_askK (.pd (.sl (p1.map elAI64I64Z))) ([.cells [.pd (.int .i64 p0), .pd (.sl (p1.map elAI64I64Z))] 1 0 false, .cells [.pd (.bool false)] 1 0 false, .cells [.pd (.int .i64 p0), .pd (.sl (p1.map elAI64I64Z))] 1 0 false, .defers false, .loop .ready none w1.stS.T w1.rps w1.rasg w1.rbo 3]) (by subst hw1; kernel_rfl) ?_
    refine H_ask _ _ (by subst hw1; kernel_rfl) (ask_len (P := Tryz.prog) (M := [.cells [.pd (.int .i64 p0), .pd (.sl (p1.map elAI64I64Z))] 1 0 false, .cells [.pd (.bool false)] 1 0 false, .cells [.pd (.int .i64 p0), .pd (.sl (p1.map elAI64I64Z))] 1 0 false, .defers false, .loop .ready none w1.stS.T w1.rps w1.rasg w1.rbo 3]) (t := 23) (et := 53) (el := elAI64I64Z) (by kernel_rfl) (e := p1)) ?_
    refine H_loopP (F := stock_Wide_L1 p0 p1 r) (s0 := ((0 : Int), (0 : Int))) h () 30 5
      (fun ((s100, s101) : Int × Int) (() : Unit) => [(0, .yld 4), (3, .pd (.int .i64 s100)), (10, .pd (.sl (p1.map elAI64I64Z))), (11, .pd (.int .i64 (p1.length : Int))), (12, .pd (.int .i64 s101))])
      (fun ((s100, s101) : Int × Int) (() : Unit) => [.cells [.pd (.int .i64 p0), .pd (.sl (p1.map elAI64I64Z))] 1 0 false, .cells [.pd (.bool false)] 1 0 false, .cells [.pd (.int .i64 p0), .pd (.sl (p1.map elAI64I64Z))] 1 0 false, .defers false, .loop .ready none w1.stS.T w1.rps w1.rasg w1.rbo 3]) (fun ((s100, s101) : Int × Int) (() : Unit) => True) trivial [] mixedT (askG [9, 10, 11] false)
      (by subst hw1; kernel_rfl) (by subst hw1; kernel_rfl) (by subst hw1; kernel_rfl) (by subst hw1; kernel_rfl) (by subst hw1; kernel_rfl) (fun _ _ => rfl) ?_
    rintro X1 ⟨s100, s101⟩ ⟨⟩ - h
    dsimp only [stock_Wide_L1] at h
    refine H_split (decide (s101 < (p1.length : Int))) (by subst hw1; kernel_rfl) (fun hc => ?_) (fun hc => ?_)
    · replace h := h.t hc; clear hc
      obtain ⟨x3, x4, hx5, h⟩ := h
      refine H_ask _ _ (by subst hw1; kernel_rfl) (ask_idx (P := Tryz.prog) (M := [.cells [.pd (.int .i64 p0), .pd (.sl (p1.map elAI64I64Z))] 1 0 false, .cells [.pd (.bool false)] 1 0 false, .cells [.pd (.int .i64 p0), .pd (.sl (p1.map elAI64I64Z))] 1 0 false, .defers false, .loop .ready none w1.stS.T w1.rps w1.rasg w1.rbo 3]) (t := 23) (et := 53) (k := .i64) (lv := lvAI64I64Z) okAI64I64Z leAI64I64Z (by kernel_rfl) (by kernel_rfl) hx5) ?_
      refine H_askK (.agg [.pd (.int .i64 x3), .pd (.int .i64 x4)]) ([.cells [.pd (.int .i64 p0), .pd (.sl (p1.map elAI64I64Z))] 1 0 false, .cells [.pd (.bool false)] 1 0 false, .cells [.pd (.int .i64 p0), .pd (.sl (p1.map elAI64I64Z))] 1 0 false, .defers false, .loop .ready none w1.stS.T w1.rps w1.rasg w1.rbo 3]) (by subst hw1; kernel_rfl) ?_
      refine H_askK (.junk) ([.cells [.pd (.int .i64 p0), .pd (.sl (p1.map elAI64I64Z))] 1 0 false, .cells [.pd (.bool false)] 1 0 false, .cells [.pd (.int .i64 p0), .pd (.sl (p1.map elAI64I64Z))] 1 0 false, .defers false, .loop .ready none w1.stS.T w1.rps w1.rasg w1.rbo 3, .cells [.pd (.int .i64 x3), .pd (.int .i64 x4)] 1 0 false]) (by subst hw1; kernel_rfl) ?_
      refine H_askK (.ptr 5 1 0) ([.cells [.pd (.int .i64 p0), .pd (.sl (p1.map elAI64I64Z))] 1 0 false, .cells [.pd (.bool false)] 1 0 false, .cells [.pd (.int .i64 p0), .pd (.sl (p1.map elAI64I64Z))] 1 0 false, .defers false, .loop .ready none w1.stS.T w1.rps w1.rasg w1.rbo 3, .cells [.pd (.int .i64 x3), .pd (.int .i64 x4)] 1 0 false]) (by subst hw1; kernel_rfl) ?_
      refine H_askK (.pd (.int .i64 x4)) ([.cells [.pd (.int .i64 p0), .pd (.sl (p1.map elAI64I64Z))] 1 0 false, .cells [.pd (.bool false)] 1 0 false, .cells [.pd (.int .i64 p0), .pd (.sl (p1.map elAI64I64Z))] 1 0 false, .defers false, .loop .ready none w1.stS.T w1.rps w1.rasg w1.rbo 3, .cells [.pd (.int .i64 x3), .pd (.int .i64 x4)] 1 0 false]) (by subst hw1; kernel_rfl) ?_
      refine H_loopP (F := stock_Wide_L2 p0 s101 X1 x3 x4 r) (s0 := (s100, (0 : Int))) h () 30 6
        (fun ((s200, s201) : Int × Int) (() : Unit) => [(0, .yld 4), (3, .pd (.int .i64 s200)), (5, .ptr 5 0 0), (10, .pd (.sl (p1.map elAI64I64Z))), (11, .pd (.int .i64 (p1.length : Int))), (12, .pd (.int .i64 s101)), (17, .pd (.int .i64 x4)), (18, .pd (.int .i64 s201))])
        (fun ((s200, s201) : Int × Int) (() : Unit) => [.cells [.pd (.int .i64 p0), .pd (.sl (p1.map elAI64I64Z))] 1 0 false, .cells [.pd (.bool false)] 1 0 false, .cells [.pd (.int .i64 p0), .pd (.sl (p1.map elAI64I64Z))] 1 0 false, .defers false, .loop .ready none w1.stS.T w1.rps w1.rasg w1.rbo 3, .cells [.pd (.int .i64 x3), .pd (.int .i64 x4)] 1 0 false]) (fun ((s200, s201) : Int × Int) (() : Unit) => True) trivial [] mixedT (askG [9, 10, 11] false)
        (by subst hw1; kernel_rfl) (by subst hw1; kernel_rfl) (by subst hw1; kernel_rfl) (by subst hw1; kernel_rfl) (by subst hw1; kernel_rfl) (fun _ _ => rfl) ?_
      rintro X2 ⟨s200, s201⟩ ⟨⟩ - h
      dsimp only [stock_Wide_L2] at h
      refine H_split (decide (s201 < x4)) (by subst hw1; kernel_rfl) (fun hc => ?_) (fun hc => ?_)
      · replace h := h.t hc; clear hc
        refine H_askK (.ptr 5 0 0) ([.cells [.pd (.int .i64 p0), .pd (.sl (p1.map elAI64I64Z))] 1 0 false, .cells [.pd (.bool false)] 1 0 false, .cells [.pd (.int .i64 p0), .pd (.sl (p1.map elAI64I64Z))] 1 0 false, .defers false, .loop .ready none w1.stS.T w1.rps w1.rasg w1.rbo 3, .cells [.pd (.int .i64 x3), .pd (.int .i64 x4)] 1 0 false]) (by subst hw1; kernel_rfl) ?_
        refine H_askK (.pd (.int .i64 x3)) ([.cells [.pd (.int .i64 p0), .pd (.sl (p1.map elAI64I64Z))] 1 0 false, .cells [.pd (.bool false)] 1 0 false, .cells [.pd (.int .i64 p0), .pd (.sl (p1.map elAI64I64Z))] 1 0 false, .defers false, .loop .ready none w1.stS.T w1.rps w1.rasg w1.rbo 3, .cells [.pd (.int .i64 x3), .pd (.int .i64 x4)] 1 0 false]) (by subst hw1; kernel_rfl) ?_
        refine H_yld (l := 4) (args := [.pd (.int .i64 s200), .pd (.int .i64 x3)]) (M := [.cells [.pd (.int .i64 p0), .pd (.sl (p1.map elAI64I64Z))] 1 0 false, .cells [.pd (.bool false)] 1 0 false, .cells [.pd (.int .i64 p0), .pd (.sl (p1.map elAI64I64Z))] 1 0 false, .defers false, .loop .ready none w1.stS.T w1.rps w1.rasg w1.rbo 3, .cells [.pd (.int .i64 x3), .pd (.int .i64 x4)] 1 0 false]) (by subst hw1; kernel_rfl) ?_
        refine H_round mixedT (askG [9, 10, 11] false) (by subst hw1; kernel_rfl) ?_
        refine H_askK (.ptr 0 0 0) ([.cells [.pd (.int .i64 p0), .pd (.sl (p1.map elAI64I64Z))] 1 0 false, .cells [.pd (.bool false)] 1 0 false, .cells [.pd (.int .i64 p0), .pd (.sl (p1.map elAI64I64Z))] 1 0 false, .defers false, .loop .busy none w1.stS.T w1.rps w1.rasg w1.rbo 3, .cells [.pd (.int .i64 x3), .pd (.int .i64 x4)] 1 0 false]) (by subst hw1; kernel_rfl) ?_
        refine H_askK (.pd (.int .i64 p0)) ([.cells [.pd (.int .i64 p0), .pd (.sl (p1.map elAI64I64Z))] 1 0 false, .cells [.pd (.bool false)] 1 0 false, .cells [.pd (.int .i64 p0), .pd (.sl (p1.map elAI64I64Z))] 1 0 false, .defers false, .loop .busy none w1.stS.T w1.rps w1.rasg w1.rbo 3, .cells [.pd (.int .i64 x3), .pd (.int .i64 x4)] 1 0 false]) (by subst hw1; kernel_rfl) ?_
        refine H_split (decide (x3 > p0)) (by subst hw1; kernel_rfl) (fun hc => ?_) (fun hc => ?_)
        · replace h := h.t hc; clear hc
          refine H_askK (.junk) ([.cells [.pd (.int .i64 p0), .pd (.sl (p1.map elAI64I64Z))] 1 0 false, .cells [.pd (.bool true)] 1 0 false, .cells [.pd (.int .i64 p0), .pd (.sl (p1.map elAI64I64Z))] 1 0 false, .defers false, .loop .busy none w1.stS.T w1.rps w1.rasg w1.rbo 3, .cells [.pd (.int .i64 x3), .pd (.int .i64 x4)] 1 0 false]) (by subst hw1; kernel_rfl) ?_
          refine H_rnd .ret .done (some .ret) false ([.cells [.pd (.int .i64 p0), .pd (.sl (p1.map elAI64I64Z))] 1 0 false, .cells [.pd (.bool true)] 1 0 false, .cells [.pd (.int .i64 p0), .pd (.sl (p1.map elAI64I64Z))] 1 0 false, .defers false, .loop .done (some .ret) w1.stS.T w1.rps w1.rasg w1.rbo 3, .cells [.pd (.int .i64 x3), .pd (.int .i64 x4)] 1 0 false]) (by subst hw1; kernel_rfl) rfl (by subst hw1; kernel_rfl) ?_
          refine H_leaveP .ret (by subst hw1; kernel_rfl) rfl ?_
          refine H_leaveP .ret (by subst hw1; kernel_rfl) rfl ?_
          refine H_endM .ret (.tup []) ([.cells [.pd (.int .i64 p0), .pd (.sl (p1.map elAI64I64Z))] 1 0 false, .cells [.pd (.bool true)] 1 0 false, .cells [.pd (.int .i64 p0), .pd (.sl (p1.map elAI64I64Z))] 1 0 false, .defers false, .loop .done (some .ret) w1.stS.T w1.rps w1.rasg w1.rbo 3, .cells [.pd (.int .i64 x3), .pd (.int .i64 x4)] 1 0 false]) (by subst hw1; kernel_rfl) rfl (by subst hw1; kernel_rfl) (by subst hw1; kernel_rfl) (by subst hw1; kernel_rfl) ?_
          refine aft_pend (st := .done) (c := .ret) (M' := [.cells [.pd (.int .i64 p0), .pd (.sl (p1.map elAI64I64Z))] 1 0 false, .cells [.pd (.bool true)] 1 0 false, .cells [.pd (.int .i64 p0), .pd (.sl (p1.map elAI64I64Z))] 1 0 false, .defers false, .loop .exhausted (some .ret) w1.stS.T w1.rps w1.rasg w1.rbo 3, .cells [.pd (.int .i64 x3), .pd (.int .i64 x4)] 1 0 false]) (by subst hw1; kernel_rfl) (by simp) (by subst hw1; kernel_rfl) mixedT (askG [9, 10, 11] false) ?_
          refine H_done .ret (by subst hw1; kernel_rfl) ?_
          exact H_end .ret (.pd (.bool true)) (by subst hw1; kernel_rfl) rfl (by subst hw1; kernel_rfl) (by subst h; rfl)
        · replace h := h.f hc; clear hc
          refine H_rnd .normal .ready none true ([.cells [.pd (.int .i64 p0), .pd (.sl (p1.map elAI64I64Z))] 1 0 false, .cells [.pd (.bool false)] 1 0 false, .cells [.pd (.int .i64 p0), .pd (.sl (p1.map elAI64I64Z))] 1 0 false, .defers false, .loop .ready none w1.stS.T w1.rps w1.rasg w1.rbo 3, .cells [.pd (.int .i64 x3), .pd (.int .i64 x4)] 1 0 false]) (by subst hw1; kernel_rfl) rfl (by subst hw1; kernel_rfl) ?_
          exact H_againP (st := _) ((IntKind.i64.wrap (s200 + 1)), (IntKind.i64.wrap (s201 + 1))) () h trivial (by subst hw1; kernel_rfl) (by subst hw1; kernel_rfl) (by subst hw1; kernel_rfl) (by subst hw1; kernel_rfl) (by subst hw1; kernel_rfl)
      · replace h := h.f hc; clear hc
        refine H_leaveP (.exit 2) (by subst hw1; kernel_rfl) rfl ?_
        exact H_againC (st := _) (s200, (IntKind.i64.wrap (s101 + 1))) () h trivial (by subst hw1; kernel_rfl) (by subst hw1; kernel_rfl) (by subst hw1; kernel_rfl) (by subst hw1; kernel_rfl) (by subst hw1; kernel_rfl) (by subst hw1; kernel_rfl) (all_c (by subst hw1; kernel_rfl) (all_c (by subst hw1; kernel_rfl) (all_c (by subst hw1; kernel_rfl) (all_c (by subst hw1; kernel_rfl) (all_c (by subst hw1; kernel_rfl) all_n))))) (by subst hw1; kernel_rfl) (by kernel_rfl)
    · replace h := h.f hc; clear hc
      refine H_leaveP (.exit 0) (by subst hw1; kernel_rfl) rfl ?_
      refine H_endM .normal (.tup []) ([.cells [.pd (.int .i64 p0), .pd (.sl (p1.map elAI64I64Z))] 1 0 false, .cells [.pd (.bool false)] 1 0 false, .cells [.pd (.int .i64 p0), .pd (.sl (p1.map elAI64I64Z))] 1 0 false, .defers false, .loop .ready none w1.stS.T w1.rps w1.rasg w1.rbo 3]) (by subst hw1; kernel_rfl) rfl (by subst hw1; kernel_rfl) (by subst hw1; kernel_rfl) (by subst hw1; kernel_rfl) ?_
      refine aft_done (st := .ready) (M' := [.cells [.pd (.int .i64 p0), .pd (.sl (p1.map elAI64I64Z))] 1 0 false, .cells [.pd (.bool false)] 1 0 false, .cells [.pd (.int .i64 p0), .pd (.sl (p1.map elAI64I64Z))] 1 0 false, .defers false, .loop .exhausted none w1.stS.T w1.rps w1.rasg w1.rbo 3]) (by subst hw1; kernel_rfl) (by simp) (by subst hw1; kernel_rfl) ?_
      refine H_askK (.junk) ([.cells [.pd (.int .i64 p0), .pd (.sl (p1.map elAI64I64Z))] 1 0 false, .cells [.pd (.bool false)] 1 0 false, .cells [.pd (.int .i64 p0), .pd (.sl (p1.map elAI64I64Z))] 1 0 false, .defers false, .loop .exhausted none w1.stS.T w1.rps w1.rasg w1.rbo 3]) (by subst hw1; kernel_rfl) ?_
      exact H_end .ret (.pd (.bool false)) (by subst hw1; kernel_rfl) rfl (by subst hw1; kernel_rfl) (by subst h; rfl)

theorem offcutlaw10_StockPrints_ok (m : Tp) (p0 : Int) (p1 : List (Int × Int)) {r : Bool} (h : offcutlaw10_StockPrints p0 p1 r) : ASpec Tryz.prog (gtT m) 4 [.agg [.pd (.int .i64 p0), .pd (.sl (p1.map elAI64I64Z))]] (· = .pd (.bool r)) := by
  refine ASpec_tree Tryz.f4 mixedT (askG [9, 10, 11] false) (by kernel_rfl) ?_
  unfold offcutlaw10_StockPrints at h
  refine H_askK (.ptr 0 0 0) ([.cells [.pd (.int .i64 p0), .pd (.sl (p1.map elAI64I64Z))] 1 0 false]) (by kernel_rfl) ?_
  refine H_askK (.ptr 0 1 0) ([.cells [.pd (.int .i64 p0), .pd (.sl (p1.map elAI64I64Z))] 1 0 false]) (by kernel_rfl) ?_
  refine H_askK (.pd (.sl (p1.map elAI64I64Z))) ([.cells [.pd (.int .i64 p0), .pd (.sl (p1.map elAI64I64Z))] 1 0 false]) (by kernel_rfl) ?_
  refine H_ask _ _ (by kernel_rfl) (ask_len (P := Tryz.prog) (M := [.cells [.pd (.int .i64 p0), .pd (.sl (p1.map elAI64I64Z))] 1 0 false]) (t := 23) (et := 53) (el := elAI64I64Z) (by kernel_rfl) (e := p1)) ?_
  refine H_split (decide ((p1.length : Int) > (100 : Int))) (by kernel_rfl) (fun hc => ?_) (fun hc => ?_)
  · replace h := h.t hc; clear hc
    obtain ⟨x1, hx2, h⟩ := h
    refine H_valW (g := 5) (args := []) (M := [.cells [.pd (.int .i64 p0), .pd (.sl (p1.map elAI64I64Z))] 1 0 false]) (.pd (.bool x1)) (.inl (by kernel_rfl)) (by kernel_rfl) (offcutlaw10_awake_ok m  hx2) (by kernel_rfl) (hasT 5 (by kernel_rfl)) ?_
    cases x1
    · replace h := h.f rfl
      exact H_end .ret (.pd (.bool false)) (by kernel_rfl) rfl (by kernel_rfl) (by subst h; rfl)
    · replace h := h.t rfl
      exact H_end .ret (.pd (.bool true)) (by kernel_rfl) rfl (by kernel_rfl) (by subst h; rfl)
  · replace h := h.f hc; clear hc
    refine H_askK (.agg [.pd (.int .i64 p0), .pd (.sl (p1.map elAI64I64Z))]) ([.cells [.pd (.int .i64 p0), .pd (.sl (p1.map elAI64I64Z))] 1 0 false]) (by kernel_rfl) ?_
    obtain ⟨x3, x4, hx5, h⟩ := h
    refine H_valW (g := 10) (args := [.agg [.pd (.int .i64 p0), .pd (.sl (p1.map elAI64I64Z))]]) (M := [.cells [.pd (.int .i64 p0), .pd (.sl (p1.map elAI64I64Z))] 1 0 false]) (.tup [.pd (.str x3), .pd (.int .i64 x4)]) (.inl (by kernel_rfl)) (by kernel_rfl) (stock_Print_ok m _ _ hx5) (by kernel_rfl) (hasT 10 (by kernel_rfl)) ?_
    refine H_draw (by kernel_rfl) ?_
    refine H_askK (.agg [.pd (.int .i64 p0), .pd (.sl (p1.map elAI64I64Z))]) ([.cells [.pd (.int .i64 p0), .pd (.sl (p1.map elAI64I64Z))] 1 0 false]) (by kernel_rfl) ?_
    obtain ⟨x6, hx7, h⟩ := h
    refine H_valW (g := 11) (args := [.agg [.pd (.int .i64 p0), .pd (.sl (p1.map elAI64I64Z))]]) (M := [.cells [.pd (.int .i64 p0), .pd (.sl (p1.map elAI64I64Z))] 1 0 false]) (.pd (.bool x6)) (.inr (by kernel_rfl)) (by kernel_rfl) (stock_Right_ok m _ _ hx7) (by kernel_rfl) (hasT 11 (by kernel_rfl)) ?_
    cases x6
    · replace h := h.f rfl
      refine H_askK (.agg [.pd (.int .i64 p0), .pd (.sl (p1.map elAI64I64Z))]) ([.cells [.pd (.int .i64 p0), .pd (.sl (p1.map elAI64I64Z))] 1 0 false]) (by kernel_rfl) ?_
      obtain ⟨x39, x40, x41, hx42, h⟩ := h
      refine H_valW (g := 13) (args := [.agg [.pd (.int .i64 p0), .pd (.sl (p1.map elAI64I64Z))]]) (M := [.cells [.pd (.int .i64 p0), .pd (.sl (p1.map elAI64I64Z))] 1 0 false]) (.agg [.pd (.int .i64 x39), .pd (.sl (x40.map elI64)), .pd (.sl (x41.map elI64))]) (.inr (by kernel_rfl)) (by kernel_rfl) (offcutlaw10_Of_ok m _ _ hx42) (by kernel_rfl) (hasT 13 (by kernel_rfl)) ?_
      obtain ⟨x43, hx44, h⟩ := h
      refine H_valW (g := 12) (args := [.agg [.pd (.int .i64 x39), .pd (.sl (x40.map elI64)), .pd (.sl (x41.map elI64))]]) (M := [.cells [.pd (.int .i64 p0), .pd (.sl (p1.map elAI64I64Z))] 1 0 false]) (.pd (.bool x43)) (.inr (by kernel_rfl)) (by kernel_rfl) (offcutref10_Right_ok m _ _ _ hx44) (by kernel_rfl) (hasT 12 (by kernel_rfl)) ?_
      cases x43
      · replace h := h.f rfl
        refine H_split false (by kernel_rfl) (fun hc => by cases hc) (fun _ => ?_)
        refine H_askK (.agg [.pd (.int .i64 p0), .pd (.sl (p1.map elAI64I64Z))]) ([.cells [.pd (.int .i64 p0), .pd (.sl (p1.map elAI64I64Z))] 1 0 false]) (by kernel_rfl) ?_
        obtain ⟨x45, x46, x47, hx48, h⟩ := h
        refine H_valW (g := 13) (args := [.agg [.pd (.int .i64 p0), .pd (.sl (p1.map elAI64I64Z))]]) (M := [.cells [.pd (.int .i64 p0), .pd (.sl (p1.map elAI64I64Z))] 1 0 false]) (.agg [.pd (.int .i64 x45), .pd (.sl (x46.map elI64)), .pd (.sl (x47.map elI64))]) (.inl (by kernel_rfl)) (by kernel_rfl) (offcutlaw10_Of_ok m _ _ hx48) (by kernel_rfl) (hasT 13 (by kernel_rfl)) ?_
        obtain ⟨x49, hx50, h⟩ := h
        refine H_valW (g := 12) (args := [.agg [.pd (.int .i64 x45), .pd (.sl (x46.map elI64)), .pd (.sl (x47.map elI64))]]) (M := [.cells [.pd (.int .i64 p0), .pd (.sl (p1.map elAI64I64Z))] 1 0 false]) (.pd (.bool x49)) (.inl (by kernel_rfl)) (by kernel_rfl) (offcutref10_Right_ok m _ _ _ hx50) (by kernel_rfl) (hasT 12 (by kernel_rfl)) ?_
        cases x49
        · replace h := h.f rfl
          refine H_split (x3 == ([] : List UInt8)) (by kernel_rfl) (fun hc => ?_) (fun hc => ?_)
          · replace h := h.t hc; clear hc
            refine H_split (x4 == (1 : Int)) (by kernel_rfl) (fun hc => ?_) (fun hc => ?_)
            · replace h := h.t hc; clear hc
              refine H_askK (.agg [.pd (.int .i64 p0), .pd (.sl (p1.map elAI64I64Z))]) ([.cells [.pd (.int .i64 p0), .pd (.sl (p1.map elAI64I64Z))] 1 0 false]) (by kernel_rfl) ?_
              obtain ⟨x64, hx65, h⟩ := h
              refine H_valW (g := 14) (args := [.agg [.pd (.int .i64 p0), .pd (.sl (p1.map elAI64I64Z))]]) (M := [.cells [.pd (.int .i64 p0), .pd (.sl (p1.map elAI64I64Z))] 1 0 false]) (.pd (.int .i64 x64)) (.inl (by kernel_rfl)) (by kernel_rfl) (stock_Total_ok m _ _ hx65) (by kernel_rfl) (hasT 14 (by kernel_rfl)) ?_
              refine H_split (x64 == (0 : Int)) (by kernel_rfl) (fun hc => ?_) (fun hc => ?_)
              · replace h := h.t hc; clear hc
                refine H_askK (.agg [.pd (.int .i64 p0), .pd (.sl (p1.map elAI64I64Z))]) ([.cells [.pd (.int .i64 p0), .pd (.sl (p1.map elAI64I64Z))] 1 0 false]) (by kernel_rfl) ?_
                obtain ⟨x66, hx67, h⟩ := h
                refine H_valW (g := 15) (args := [.agg [.pd (.int .i64 p0), .pd (.sl (p1.map elAI64I64Z))]]) (M := [.cells [.pd (.int .i64 p0), .pd (.sl (p1.map elAI64I64Z))] 1 0 false]) (.pd (.bool x66)) (.inl (by kernel_rfl)) (by kernel_rfl) (stock_Wide_ok m _ _ hx67) (by kernel_rfl) (hasT 15 (by kernel_rfl)) ?_
                cases x66
                · replace h := h.f rfl
                  obtain ⟨x68, hx69, h⟩ := h
                  refine H_valW (g := 5) (args := []) (M := [.cells [.pd (.int .i64 p0), .pd (.sl (p1.map elAI64I64Z))] 1 0 false]) (.pd (.bool x68)) (.inl (by kernel_rfl)) (by kernel_rfl) (offcutlaw10_awake_ok m  hx69) (by kernel_rfl) (hasT 5 (by kernel_rfl)) ?_
                  cases x68
                  · replace h := h.f rfl
                    exact H_end .ret (.pd (.bool false)) (by kernel_rfl) rfl (by kernel_rfl) (by subst h; rfl)
                  · replace h := h.t rfl
                    exact H_end .ret (.pd (.bool true)) (by kernel_rfl) rfl (by kernel_rfl) (by subst h; rfl)
                · replace h := h.t rfl
                  exact H_end .ret (.pd (.bool false)) (by kernel_rfl) rfl (by kernel_rfl) (by subst h; rfl)
              · replace h := h.f hc; clear hc
                exact H_end .ret (.pd (.bool false)) (by kernel_rfl) rfl (by kernel_rfl) (by subst h; rfl)
            · replace h := h.f hc; clear hc
              exact H_end .ret (.pd (.bool false)) (by kernel_rfl) rfl (by kernel_rfl) (by subst h; rfl)
          · replace h := h.f hc; clear hc
            exact H_end .ret (.pd (.bool false)) (by kernel_rfl) rfl (by kernel_rfl) (by subst h; rfl)
        · replace h := h.t rfl
          obtain ⟨x51, x52, x53, x54, hx55, h⟩ := h
          refine H_valW (g := 6) (args := [.pd (.str x3)]) (M := [.cells [.pd (.int .i64 p0), .pd (.sl (p1.map elAI64I64Z))] 1 0 false]) (.tup [.agg [.pd (.int .i64 x51), .pd (.sl (x52.map elAI64I64Z))], .pd (.int .i64 x53), .pd (.int .i64 x54)]) (.inl (by kernel_rfl)) (by kernel_rfl) (stock_Parse_ok m _ hx55) (by kernel_rfl) (hasT 6 (by kernel_rfl)) ?_
          refine H_askK (.junk) ([.cells [.pd (.int .i64 p0), .pd (.sl (p1.map elAI64I64Z))] 1 0 false, .cells [.pd (.int .i64 x51), .pd (.sl (x52.map elAI64I64Z))] 1 0 false]) (by kernel_rfl) ?_
          refine H_draw (by kernel_rfl) ?_
          refine H_split (x4 == (0 : Int)) (by kernel_rfl) (fun hc => ?_) (fun hc => ?_)
          · replace h := h.t hc; clear hc
            refine H_split (x54 == (0 : Int)) (by kernel_rfl) (fun hc => ?_) (fun hc => ?_)
            · replace h := h.t hc; clear hc
              refine H_split (x53 == (0 : Int)) (by kernel_rfl) (fun hc => ?_) (fun hc => ?_)
              · replace h := h.t hc; clear hc
                refine H_askK (.agg [.pd (.int .i64 x51), .pd (.sl (x52.map elAI64I64Z))]) ([.cells [.pd (.int .i64 p0), .pd (.sl (p1.map elAI64I64Z))] 1 0 false, .cells [.pd (.int .i64 x51), .pd (.sl (x52.map elAI64I64Z))] 1 0 false]) (by kernel_rfl) ?_
                refine H_askK (.agg [.pd (.int .i64 p0), .pd (.sl (p1.map elAI64I64Z))]) ([.cells [.pd (.int .i64 p0), .pd (.sl (p1.map elAI64I64Z))] 1 0 false, .cells [.pd (.int .i64 x51), .pd (.sl (x52.map elAI64I64Z))] 1 0 false]) (by kernel_rfl) ?_
                obtain ⟨x56, x57, x58, hx59, h⟩ := h
                refine H_valW (g := 13) (args := [.agg [.pd (.int .i64 p0), .pd (.sl (p1.map elAI64I64Z))]]) (M := [.cells [.pd (.int .i64 p0), .pd (.sl (p1.map elAI64I64Z))] 1 0 false, .cells [.pd (.int .i64 x51), .pd (.sl (x52.map elAI64I64Z))] 1 0 false]) (.agg [.pd (.int .i64 x56), .pd (.sl (x57.map elI64)), .pd (.sl (x58.map elI64))]) (.inr (by kernel_rfl)) (by kernel_rfl) (offcutlaw10_Of_ok m _ _ hx59) (by kernel_rfl) (hasT 13 (by kernel_rfl)) ?_
                obtain ⟨x60, hx61, h⟩ := h
                refine H_valW (g := 8) (args := [.agg [.pd (.int .i64 x51), .pd (.sl (x52.map elAI64I64Z))], .agg [.pd (.int .i64 x56), .pd (.sl (x57.map elI64)), .pd (.sl (x58.map elI64))]]) (M := [.cells [.pd (.int .i64 p0), .pd (.sl (p1.map elAI64I64Z))] 1 0 false, .cells [.pd (.int .i64 x51), .pd (.sl (x52.map elAI64I64Z))] 1 0 false]) (.pd (.bool x60)) (.inr (by kernel_rfl)) (by kernel_rfl) (offcutlaw10_same_ok m _ _ _ _ _ hx61) (by kernel_rfl) (hasT 8 (by kernel_rfl)) ?_
                cases x60
                · replace h := h.f rfl
                  exact H_end .ret (.pd (.bool false)) (by kernel_rfl) rfl (by kernel_rfl) (by subst h; rfl)
                · replace h := h.t rfl
                  obtain ⟨x62, hx63, h⟩ := h
                  refine H_valW (g := 5) (args := []) (M := [.cells [.pd (.int .i64 p0), .pd (.sl (p1.map elAI64I64Z))] 1 0 false, .cells [.pd (.int .i64 x51), .pd (.sl (x52.map elAI64I64Z))] 1 0 false]) (.pd (.bool x62)) (.inr (by kernel_rfl)) (by kernel_rfl) (offcutlaw10_awake_ok m  hx63) (by kernel_rfl) (hasT 5 (by kernel_rfl)) ?_
                  cases x62
                  · replace h := h.f rfl
                    exact H_end .ret (.pd (.bool false)) (by kernel_rfl) rfl (by kernel_rfl) (by subst h; rfl)
                  · replace h := h.t rfl
                    exact H_end .ret (.pd (.bool true)) (by kernel_rfl) rfl (by kernel_rfl) (by subst h; rfl)
              · replace h := h.f hc; clear hc
                exact H_end .ret (.pd (.bool false)) (by kernel_rfl) rfl (by kernel_rfl) (by subst h; rfl)
            · replace h := h.f hc; clear hc
              exact H_end .ret (.pd (.bool false)) (by kernel_rfl) rfl (by kernel_rfl) (by subst h; rfl)
          · replace h := h.f hc; clear hc
            exact H_end .ret (.pd (.bool false)) (by kernel_rfl) rfl (by kernel_rfl) (by subst h; rfl)
      · replace h := h.t rfl
        refine H_split true (by kernel_rfl) (fun _ => ?_) (fun hc => by cases hc)
        exact H_end .ret (.pd (.bool false)) (by kernel_rfl) rfl (by kernel_rfl) (by subst h; rfl)
    · replace h := h.t rfl
      refine H_askK (.agg [.pd (.int .i64 p0), .pd (.sl (p1.map elAI64I64Z))]) ([.cells [.pd (.int .i64 p0), .pd (.sl (p1.map elAI64I64Z))] 1 0 false]) (by kernel_rfl) ?_
      obtain ⟨x8, x9, x10, hx11, h⟩ := h
      refine H_valW (g := 13) (args := [.agg [.pd (.int .i64 p0), .pd (.sl (p1.map elAI64I64Z))]]) (M := [.cells [.pd (.int .i64 p0), .pd (.sl (p1.map elAI64I64Z))] 1 0 false]) (.agg [.pd (.int .i64 x8), .pd (.sl (x9.map elI64)), .pd (.sl (x10.map elI64))]) (.inr (by kernel_rfl)) (by kernel_rfl) (offcutlaw10_Of_ok m _ _ hx11) (by kernel_rfl) (hasT 13 (by kernel_rfl)) ?_
      obtain ⟨x12, hx13, h⟩ := h
      refine H_valW (g := 12) (args := [.agg [.pd (.int .i64 x8), .pd (.sl (x9.map elI64)), .pd (.sl (x10.map elI64))]]) (M := [.cells [.pd (.int .i64 p0), .pd (.sl (p1.map elAI64I64Z))] 1 0 false]) (.pd (.bool x12)) (.inr (by kernel_rfl)) (by kernel_rfl) (offcutref10_Right_ok m _ _ _ hx13) (by kernel_rfl) (hasT 12 (by kernel_rfl)) ?_
      cases x12
      · replace h := h.f rfl
        refine H_split true (by kernel_rfl) (fun _ => ?_) (fun hc => by cases hc)
        exact H_end .ret (.pd (.bool false)) (by kernel_rfl) rfl (by kernel_rfl) (by subst h; rfl)
      · replace h := h.t rfl
        refine H_split false (by kernel_rfl) (fun hc => by cases hc) (fun _ => ?_)
        refine H_askK (.agg [.pd (.int .i64 p0), .pd (.sl (p1.map elAI64I64Z))]) ([.cells [.pd (.int .i64 p0), .pd (.sl (p1.map elAI64I64Z))] 1 0 false]) (by kernel_rfl) ?_
        obtain ⟨x14, x15, x16, hx17, h⟩ := h
        refine H_valW (g := 13) (args := [.agg [.pd (.int .i64 p0), .pd (.sl (p1.map elAI64I64Z))]]) (M := [.cells [.pd (.int .i64 p0), .pd (.sl (p1.map elAI64I64Z))] 1 0 false]) (.agg [.pd (.int .i64 x14), .pd (.sl (x15.map elI64)), .pd (.sl (x16.map elI64))]) (.inl (by kernel_rfl)) (by kernel_rfl) (offcutlaw10_Of_ok m _ _ hx17) (by kernel_rfl) (hasT 13 (by kernel_rfl)) ?_
        obtain ⟨x18, hx19, h⟩ := h
        refine H_valW (g := 12) (args := [.agg [.pd (.int .i64 x14), .pd (.sl (x15.map elI64)), .pd (.sl (x16.map elI64))]]) (M := [.cells [.pd (.int .i64 p0), .pd (.sl (p1.map elAI64I64Z))] 1 0 false]) (.pd (.bool x18)) (.inl (by kernel_rfl)) (by kernel_rfl) (offcutref10_Right_ok m _ _ _ hx19) (by kernel_rfl) (hasT 12 (by kernel_rfl)) ?_
        cases x18
        · replace h := h.f rfl
          refine H_split (x3 == ([] : List UInt8)) (by kernel_rfl) (fun hc => ?_) (fun hc => ?_)
          · replace h := h.t hc; clear hc
            refine H_split (x4 == (1 : Int)) (by kernel_rfl) (fun hc => ?_) (fun hc => ?_)
            · replace h := h.t hc; clear hc
              refine H_askK (.agg [.pd (.int .i64 p0), .pd (.sl (p1.map elAI64I64Z))]) ([.cells [.pd (.int .i64 p0), .pd (.sl (p1.map elAI64I64Z))] 1 0 false]) (by kernel_rfl) ?_
              obtain ⟨x33, hx34, h⟩ := h
              refine H_valW (g := 14) (args := [.agg [.pd (.int .i64 p0), .pd (.sl (p1.map elAI64I64Z))]]) (M := [.cells [.pd (.int .i64 p0), .pd (.sl (p1.map elAI64I64Z))] 1 0 false]) (.pd (.int .i64 x33)) (.inl (by kernel_rfl)) (by kernel_rfl) (stock_Total_ok m _ _ hx34) (by kernel_rfl) (hasT 14 (by kernel_rfl)) ?_
              refine H_split (x33 == (0 : Int)) (by kernel_rfl) (fun hc => ?_) (fun hc => ?_)
              · replace h := h.t hc; clear hc
                refine H_askK (.agg [.pd (.int .i64 p0), .pd (.sl (p1.map elAI64I64Z))]) ([.cells [.pd (.int .i64 p0), .pd (.sl (p1.map elAI64I64Z))] 1 0 false]) (by kernel_rfl) ?_
                obtain ⟨x35, hx36, h⟩ := h
                refine H_valW (g := 15) (args := [.agg [.pd (.int .i64 p0), .pd (.sl (p1.map elAI64I64Z))]]) (M := [.cells [.pd (.int .i64 p0), .pd (.sl (p1.map elAI64I64Z))] 1 0 false]) (.pd (.bool x35)) (.inl (by kernel_rfl)) (by kernel_rfl) (stock_Wide_ok m _ _ hx36) (by kernel_rfl) (hasT 15 (by kernel_rfl)) ?_
                cases x35
                · replace h := h.f rfl
                  obtain ⟨x37, hx38, h⟩ := h
                  refine H_valW (g := 5) (args := []) (M := [.cells [.pd (.int .i64 p0), .pd (.sl (p1.map elAI64I64Z))] 1 0 false]) (.pd (.bool x37)) (.inl (by kernel_rfl)) (by kernel_rfl) (offcutlaw10_awake_ok m  hx38) (by kernel_rfl) (hasT 5 (by kernel_rfl)) ?_
                  cases x37
                  · replace h := h.f rfl
                    exact H_end .ret (.pd (.bool false)) (by kernel_rfl) rfl (by kernel_rfl) (by subst h; rfl)
                  · replace h := h.t rfl
                    exact H_end .ret (.pd (.bool true)) (by kernel_rfl) rfl (by kernel_rfl) (by subst h; rfl)
                · replace h := h.t rfl
                  exact H_end .ret (.pd (.bool false)) (by kernel_rfl) rfl (by kernel_rfl) (by subst h; rfl)
              · replace h := h.f hc; clear hc
                exact H_end .ret (.pd (.bool false)) (by kernel_rfl) rfl (by kernel_rfl) (by subst h; rfl)
            · replace h := h.f hc; clear hc
              exact H_end .ret (.pd (.bool false)) (by kernel_rfl) rfl (by kernel_rfl) (by subst h; rfl)
          · replace h := h.f hc; clear hc
            exact H_end .ret (.pd (.bool false)) (by kernel_rfl) rfl (by kernel_rfl) (by subst h; rfl)
        · replace h := h.t rfl
          obtain ⟨x20, x21, x22, x23, hx24, h⟩ := h
          refine H_valW (g := 6) (args := [.pd (.str x3)]) (M := [.cells [.pd (.int .i64 p0), .pd (.sl (p1.map elAI64I64Z))] 1 0 false]) (.tup [.agg [.pd (.int .i64 x20), .pd (.sl (x21.map elAI64I64Z))], .pd (.int .i64 x22), .pd (.int .i64 x23)]) (.inl (by kernel_rfl)) (by kernel_rfl) (stock_Parse_ok m _ hx24) (by kernel_rfl) (hasT 6 (by kernel_rfl)) ?_
          refine H_askK (.junk) ([.cells [.pd (.int .i64 p0), .pd (.sl (p1.map elAI64I64Z))] 1 0 false, .cells [.pd (.int .i64 x20), .pd (.sl (x21.map elAI64I64Z))] 1 0 false]) (by kernel_rfl) ?_
          refine H_draw (by kernel_rfl) ?_
          refine H_split (x4 == (0 : Int)) (by kernel_rfl) (fun hc => ?_) (fun hc => ?_)
          · replace h := h.t hc; clear hc
            refine H_split (x23 == (0 : Int)) (by kernel_rfl) (fun hc => ?_) (fun hc => ?_)
            · replace h := h.t hc; clear hc
              refine H_split (x22 == (0 : Int)) (by kernel_rfl) (fun hc => ?_) (fun hc => ?_)
              · replace h := h.t hc; clear hc
                refine H_askK (.agg [.pd (.int .i64 x20), .pd (.sl (x21.map elAI64I64Z))]) ([.cells [.pd (.int .i64 p0), .pd (.sl (p1.map elAI64I64Z))] 1 0 false, .cells [.pd (.int .i64 x20), .pd (.sl (x21.map elAI64I64Z))] 1 0 false]) (by kernel_rfl) ?_
                refine H_askK (.agg [.pd (.int .i64 p0), .pd (.sl (p1.map elAI64I64Z))]) ([.cells [.pd (.int .i64 p0), .pd (.sl (p1.map elAI64I64Z))] 1 0 false, .cells [.pd (.int .i64 x20), .pd (.sl (x21.map elAI64I64Z))] 1 0 false]) (by kernel_rfl) ?_
                obtain ⟨x25, x26, x27, hx28, h⟩ := h
                refine H_valW (g := 13) (args := [.agg [.pd (.int .i64 p0), .pd (.sl (p1.map elAI64I64Z))]]) (M := [.cells [.pd (.int .i64 p0), .pd (.sl (p1.map elAI64I64Z))] 1 0 false, .cells [.pd (.int .i64 x20), .pd (.sl (x21.map elAI64I64Z))] 1 0 false]) (.agg [.pd (.int .i64 x25), .pd (.sl (x26.map elI64)), .pd (.sl (x27.map elI64))]) (.inr (by kernel_rfl)) (by kernel_rfl) (offcutlaw10_Of_ok m _ _ hx28) (by kernel_rfl) (hasT 13 (by kernel_rfl)) ?_
                obtain ⟨x29, hx30, h⟩ := h
                refine H_valW (g := 8) (args := [.agg [.pd (.int .i64 x20), .pd (.sl (x21.map elAI64I64Z))], .agg [.pd (.int .i64 x25), .pd (.sl (x26.map elI64)), .pd (.sl (x27.map elI64))]]) (M := [.cells [.pd (.int .i64 p0), .pd (.sl (p1.map elAI64I64Z))] 1 0 false, .cells [.pd (.int .i64 x20), .pd (.sl (x21.map elAI64I64Z))] 1 0 false]) (.pd (.bool x29)) (.inr (by kernel_rfl)) (by kernel_rfl) (offcutlaw10_same_ok m _ _ _ _ _ hx30) (by kernel_rfl) (hasT 8 (by kernel_rfl)) ?_
                cases x29
                · replace h := h.f rfl
                  exact H_end .ret (.pd (.bool false)) (by kernel_rfl) rfl (by kernel_rfl) (by subst h; rfl)
                · replace h := h.t rfl
                  obtain ⟨x31, hx32, h⟩ := h
                  refine H_valW (g := 5) (args := []) (M := [.cells [.pd (.int .i64 p0), .pd (.sl (p1.map elAI64I64Z))] 1 0 false, .cells [.pd (.int .i64 x20), .pd (.sl (x21.map elAI64I64Z))] 1 0 false]) (.pd (.bool x31)) (.inr (by kernel_rfl)) (by kernel_rfl) (offcutlaw10_awake_ok m  hx32) (by kernel_rfl) (hasT 5 (by kernel_rfl)) ?_
                  cases x31
                  · replace h := h.f rfl
                    exact H_end .ret (.pd (.bool false)) (by kernel_rfl) rfl (by kernel_rfl) (by subst h; rfl)
                  · replace h := h.t rfl
                    exact H_end .ret (.pd (.bool true)) (by kernel_rfl) rfl (by kernel_rfl) (by subst h; rfl)
              · replace h := h.f hc; clear hc
                exact H_end .ret (.pd (.bool false)) (by kernel_rfl) rfl (by kernel_rfl) (by subst h; rfl)
            · replace h := h.f hc; clear hc
              exact H_end .ret (.pd (.bool false)) (by kernel_rfl) rfl (by kernel_rfl) (by subst h; rfl)
          · replace h := h.f hc; clear hc
            exact H_end .ret (.pd (.bool false)) (by kernel_rfl) rfl (by kernel_rfl) (by subst h; rfl)

end Go.Abs
