/- Part of a proof, in few files: G13pW. -/
import Derived.Test.YtdbfgnpobfbfmaaGreatDoorLawProofParsesK30
import Derived.Test.YtdbfgnpobfbfmaaGreatDoorLawProofParsesK35
import Derived.Test.YtdbfgnpobfbfmaaGreatDoorLawProofParsesK39
import Derived.Test.YtdbfgnpobfbfmaaGreatDoorLawProofParsesK47
import Derived.Test.YtdbfgnpobfbfmaaGreatDoorLawProofParsesK41

section
/- Printed by gen.py: the functions do what these conditions say. -/
namespace Go.Abs
open Go.Proofs
set_option maxHeartbeats 4000000
set_option maxRecDepth 20000
set_option linter.unusedVariables false
set_option linter.unusedSimpArgs false
set_option linter.unnecessarySimpa false

def lvABLU32LU32Z (x : Bool × (List Int) × (List Int)) : List PD := [.bool x.1, .sl (x.2.1.map elU32), .sl (x.2.2.map elU32)]
def elABLU32LU32Z (x : Bool × (List Int) × (List Int)) : PD := .agg [.bool x.1, .sl (x.2.1.map elU32), .sl (x.2.2.map elU32)]
theorem okABLU32LU32Z : LVok lvABLU32LU32Z 3 := fun _ => ⟨rfl, rfl⟩
theorem leABLU32LU32Z : ELok elABLU32LU32Z lvABLU32LU32Z := fun _ => rfl
theorem lgABLU32LU32Z : ELg elABLU32LU32Z lvABLU32LU32Z 3 := fun _ => rfl

theorem proof_words_ok (m : Tp)  {r : (List UInt8) × (List UInt8) × (List UInt8) × (List UInt8)} (h : proof_words r) : ASpec Tryz.prog (gtT m) 58 [] (· = .agg [.pd (.str r.1), .pd (.str r.2.1), .pd (.str r.2.2.1), .pd (.str r.2.2.2)]) := by
  refine ASpec_tree Tryz.f58 mixedT (askG [9, 10, 11] false) (by kernel_rfl) ?_
  unfold proof_words at h
  refine H_askK (.agg [.pd (.str ([] : List UInt8)), .pd (.str ([111, 112, 116, 105, 109, 97, 108] : List UInt8)), .pd (.str ([105, 110, 102, 101, 97, 115, 105, 98, 108, 101] : List UInt8)), .pd (.str ([117, 110, 98, 111, 117, 110, 100, 101, 100] : List UInt8))]) ([.cells [.pd (.str ([] : List UInt8)), .pd (.str ([] : List UInt8)), .pd (.str ([] : List UInt8)), .pd (.str ([] : List UInt8))] 1 0 false]) (by kernel_rfl) ?_
  refine H_askK (.junk) ([.cells [.pd (.str ([] : List UInt8)), .pd (.str ([111, 112, 116, 105, 109, 97, 108] : List UInt8)), .pd (.str ([105, 110, 102, 101, 97, 115, 105, 98, 108, 101] : List UInt8)), .pd (.str ([117, 110, 98, 111, 117, 110, 100, 101, 100] : List UInt8))] 1 0 false]) (by kernel_rfl) ?_
  exact H_end .ret (.agg [.pd (.str ([] : List UInt8)), .pd (.str ([111, 112, 116, 105, 109, 97, 108] : List UInt8)), .pd (.str ([105, 110, 102, 101, 97, 115, 105, 98, 108, 101] : List UInt8)), .pd (.str ([117, 110, 98, 111, 117, 110, 100, 101, 100] : List UInt8))]) (by kernel_rfl) rfl (by kernel_rfl) (by subst h; rfl)

theorem lines_Number_ok (m : Tp) (p0 : List UInt8) {r : Bool × (List Int) × (List Int) × Bool} (h : lines_Number p0 r) : ASpec Tryz.prog (gtT m) 109 [.pd (.str p0)] (· = .tup [.agg [.pd (.bool r.1), .pd (.sl (r.2.1.map elU32)), .pd (.sl (r.2.2.1.map elU32))], .pd (.bool r.2.2.2)]) := by
  refine ASpec_tree Tryz.f109 mixedT (askG [9, 10, 11] false) (by kernel_rfl) ?_
  unfold lines_Number at h
  obtain ⟨x1, x2, x3, x4, hx5, h⟩ := h
  refine H_valW (g := 30) (args := [.pd (.str p0)]) (M := [.cells [.pd (.bool false), .fixed (([] : List Int).map elU32), .fixed (([] : List Int).map elU32)] 1 0 false]) (.tup [.agg [.pd (.bool x1), .pd (.sl (x2.map elU32)), .pd (.sl (x3.map elU32))], .pd (.int .i64 x4)]) (.inl (by kernel_rfl)) (by kernel_rfl) (rat_Parse_ok m _ hx5) (by kernel_rfl) (hasT 30 (by kernel_rfl)) ?_
  refine H_askK (.junk) ([.cells [.pd (.bool false), .fixed (([] : List Int).map elU32), .fixed (([] : List Int).map elU32)] 1 0 false, .cells [.pd (.bool x1), .pd (.sl (x2.map elU32)), .pd (.sl (x3.map elU32))] 1 0 false]) (by kernel_rfl) ?_
  refine H_split (x4 != (0 : Int)) (by kernel_rfl) (fun hp6 => ?_) (fun hp6 => ?_)
  · replace h := h.t hp6
    obtain ⟨x7, x8, x9, hx10, h⟩ := h
    refine H_valW (g := 49) (args := [.pd (.int .i64 0)]) (M := [.cells [.pd (.bool false), .fixed (([] : List Int).map elU32), .fixed (([] : List Int).map elU32)] 1 0 false, .cells [.pd (.bool x1), .pd (.sl (x2.map elU32)), .pd (.sl (x3.map elU32))] 1 0 false]) (.agg [.pd (.bool x7), .pd (.sl (x8.map elU32)), .pd (.sl (x9.map elU32))]) (.inl (by kernel_rfl)) (by kernel_rfl) (rat_Int_ok m _ hx10) (by kernel_rfl) (hasT 49 (by kernel_rfl)) ?_
    refine H_askK (.junk) ([.cells [.pd (.bool x7), .pd (.sl (x8.map elU32)), .pd (.sl (x9.map elU32))] 1 0 false, .cells [.pd (.bool x1), .pd (.sl (x2.map elU32)), .pd (.sl (x3.map elU32))] 1 0 false]) (by kernel_rfl) ?_
    exact H_end .ret (.tup [.agg [.pd (.bool x7), .pd (.sl (x8.map elU32)), .pd (.sl (x9.map elU32))], .pd (.bool false)]) (by kernel_rfl) rfl (by kernel_rfl) (by subst h; rfl)
  · replace h := h.f hp6
    refine H_askK (.agg [.pd (.bool x1), .pd (.sl (x2.map elU32)), .pd (.sl (x3.map elU32))]) ([.cells [.pd (.bool false), .fixed (([] : List Int).map elU32), .fixed (([] : List Int).map elU32)] 1 0 false, .cells [.pd (.bool x1), .pd (.sl (x2.map elU32)), .pd (.sl (x3.map elU32))] 1 0 false]) (by kernel_rfl) ?_
    refine H_askK (.junk) ([.cells [.pd (.bool x1), .pd (.sl (x2.map elU32)), .pd (.sl (x3.map elU32))] 1 0 false, .cells [.pd (.bool x1), .pd (.sl (x2.map elU32)), .pd (.sl (x3.map elU32))] 1 0 false]) (by kernel_rfl) ?_
    exact H_end .ret (.tup [.agg [.pd (.bool x1), .pd (.sl (x2.map elU32)), .pd (.sl (x3.map elU32))], .pd (.bool true)]) (by kernel_rfl) rfl (by kernel_rfl) (by subst h; rfl)

theorem proof_numbers_ok (m : Tp) (p0 : List (List UInt8)) {r : (List (Bool × (List Int) × (List Int))) × Bool} (h : proof_numbers p0 r) : ASpec Tryz.prog (gtT m) 62 [.pd (.sl (p0.map elS))] (· = .tup [.pd (.sl (r.1.map elABLU32LU32Z)), .pd (.bool r.2)]) := by
  refine ASpec_tree Tryz.f62 mixedT (askG [9, 10, 11] true) (by kernel_rfl) ?_
  unfold proof_numbers at h
  let o1 : Ob := rowV lvABLU32LU32Z 3 ([] : List (Bool × (List Int) × (List Int))) 0 false
  refine H_ask _ _ (by kernel_rfl) (ask_len (P := Tryz.prog) (M := [o1, o1]) (t := 57) (et := 9) (el := elS) (by kernel_rfl) (e := p0)) ?_
  refine H_loopP (F := proof_numbers_L1 p0 r) (s0 := ((0 : Int), ([] : List (Bool × (List Int) × (List Int))))) h (0, (([] : List (Bool × (List Int) × (List Int))).length)) 31 2
    (fun ((s100, s151) : Int × (List (Bool × (List Int) × (List Int)))) ((v101, n101) : Nat × Nat) => [(4, .own 1 n101 v101), (9, .pd (.sl (p0.map elS))), (10, .pd (.int .i64 (p0.length : Int))), (11, .pd (.int .i64 s100))])
    (fun ((s100, s151) : Int × (List (Bool × (List Int) × (List Int)))) ((v101, n101) : Nat × Nat) => [rowV lvABLU32LU32Z 3 ([] : List (Bool × (List Int) × (List Int))) 0 false, rowV lvABLU32LU32Z 3 s151 v101 false]) (fun ((s100, s151) : Int × (List (Bool × (List Int) × (List Int)))) ((v101, n101) : Nat × Nat) => n101 = s151.length) rfl [] mixedT (askG [9, 10, 11] true)
    (by kernel_rfl) (by kernel_rfl) (by kernel_rfl) (by kernel_rfl) (by kernel_rfl) (fun _ _ => rfl) ?_
  rintro X1 ⟨s100, s151⟩ ⟨v101, n101⟩ hn101 h
  dsimp only [proof_numbers_L1] at h
  refine H_split (decide (s100 < (p0.length : Int))) (by kernel_rfl) (fun hp1 => ?_) (fun hp1 => ?_)
  · replace h := h.t hp1
    obtain ⟨x2, hx3, h⟩ := h
    let o2 : Ob := rowV lvABLU32LU32Z 3 s151 v101 false
    refine H_ask _ _ (by kernel_rfl) (ask_idx (P := Tryz.prog) (M := [o1, o2]) (t := 57) (et := 9) (k := .i64) (lv := lvS) okS leS (by kernel_rfl) (by kernel_rfl) hx3) ?_
    refine H_askK (.pd (.str x2)) ([o1, o2]) (by kernel_rfl) ?_
    obtain ⟨x4, x5, x6, x7, hx8, h⟩ := h
    refine H_valW (g := 109) (args := [.pd (.str x2)]) (M := [o1, o2]) (.tup [.agg [.pd (.bool x4), .pd (.sl (x5.map elU32)), .pd (.sl (x6.map elU32))], .pd (.bool x7)]) (.inl (by kernel_rfl)) (by kernel_rfl) (lines_Number_ok m _ hx8) (by kernel_rfl) (hasT 109 (by kernel_rfl)) ?_
    cases x7
    · replace h := h.f rfl
      let o3 : Ob := .cells [.pd (.bool x4), .pd (.sl (x5.map elU32)), .pd (.sl (x6.map elU32))] 1 0 false
      refine H_askK (.junk) ([o1, o2, o3]) (by kernel_rfl) ?_
      refine H_leaveP .ret (by kernel_rfl) rfl ?_
      exact H_endX .ret (.tup [.own 3 (([] : List (Bool × (List Int) × (List Int))).length) 0, .pd (.bool false)]) (.tup [.pd (.sl (([] : List (Bool × (List Int) × (List Int))).map elABLU32LU32Z)), .pd (.bool false)]) ([o1, o2, o3, o1]) (by kernel_rfl) rfl (by kernel_rfl) (by kernel_rfl) (pure_tup (pl_cons (pure_1to2 (pure1_own okABLU32LU32Z (by decide) lgABLU32LU32Z (M := [o1, o2, o3, o1]) (b := 3) (o := rowV lvABLU32LU32Z 3 ([] : List (Bool × (List Int) × (List Int))) 0 false) (by kernel_rfl) (rowIs_v' (lv := lvABLU32LU32Z) (s := 3) (e := ([] : List (Bool × (List Int) × (List Int)))) (ver := 0) (z := false)) (n := ([] : List (Bool × (List Int) × (List Int))).length) rfl) rfl) (pl_cons rfl pl_nil))) (by subst h; rfl)
    replace h := h.t rfl
    let o4 : Ob := .cells [.pd (.bool x4), .pd (.sl (x5.map elU32)), .pd (.sl (x6.map elU32))] 1 0 false
    refine H_askK (.junk) ([o1, o2, o4]) (by kernel_rfl) ?_
    refine H_askK (.agg [.pd (.bool x4), .pd (.sl (x5.map elU32)), .pd (.sl (x6.map elU32))]) ([o1, o2, o4]) (by kernel_rfl) ?_
    obtain ⟨hx9, h⟩ := h
    refine H_ask _ _ (by kernel_rfl) (ask_appV (P := Tryz.prog) (M := [o1, o2, o4]) (lv := lvABLU32LU32Z) (s := 3) (b := 1) (e := s151) (e2 := [(x4, x5, x6)]) (ver := v101) (sT := 23) (xT := 23) (by_ := 56) okABLU32LU32Z (by kernel_rfl) (src_fixed (M := [o1, o2, o4]) okABLU32LU32Z leABLU32LU32Z) (by kernel_rfl) (n := n101) hn101 hx9) ?_
    exact H_againC (st := _) ((IntKind.i64.wrap (s100 + 1)), (s151 ++ [(x4, x5, x6)])) ((vnext s151 [(x4, x5, x6)] v101), ((s151 ++ [(x4, x5, x6)]).length)) h rfl (by kernel_rfl) (by kernel_rfl) (by kernel_rfl) (by kernel_rfl) (by kernel_rfl) (by kernel_rfl) (all_c (bel_rowV _) (all_c (bel_rowV _) all_n)) (by kernel_rfl) (by kernel_rfl)
  replace h := h.f hp1
  refine H_leaveP (.exit 0) (by kernel_rfl) rfl ?_
  let o5 : Ob := rowV lvABLU32LU32Z 3 s151 v101 false
  refine H_ask _ _ (by kernel_rfl) (ask_olen (P := Tryz.prog) (M := [o1, o5]) (t := 23) (et := 44) (lv := lvABLU32LU32Z) (e := s151) (b := 1) (n := n101) (by kernel_rfl) (by kernel_rfl) (rowIs_v' (lv := lvABLU32LU32Z) (s := 3) (e := s151) (ver := v101) (z := false)) hn101) ?_
  refine H_split (decide ((s151.length : Int) ≤ (180 : Int))) (by kernel_rfl) (fun hp10 => ?_) (fun hp10 => ?_)
  · replace h := h.t hp10
    exact H_endX .ret (.tup [.own 1 n101 v101, .pd (.bool true)]) (.tup [.pd (.sl (s151.map elABLU32LU32Z)), .pd (.bool true)]) ([o1, o5]) (by kernel_rfl) rfl (by kernel_rfl) (by kernel_rfl) (pure_tup (pl_cons (pure_1to2 (pure1_own okABLU32LU32Z (by decide) lgABLU32LU32Z (M := [o1, o5]) (b := 1) (o := rowV lvABLU32LU32Z 3 s151 v101 false) (by kernel_rfl) (rowIs_v' (lv := lvABLU32LU32Z) (s := 3) (e := s151) (ver := v101) (z := false)) (n := n101) hn101) rfl) (pl_cons rfl pl_nil))) (by subst h; rfl)
  replace h := h.f hp10
  exact H_endX .ret (.tup [.own 1 n101 v101, .pd (.bool false)]) (.tup [.pd (.sl (s151.map elABLU32LU32Z)), .pd (.bool false)]) ([o1, o5]) (by kernel_rfl) rfl (by kernel_rfl) (by kernel_rfl) (pure_tup (pl_cons (pure_1to2 (pure1_own okABLU32LU32Z (by decide) lgABLU32LU32Z (M := [o1, o5]) (b := 1) (o := rowV lvABLU32LU32Z 3 s151 v101 false) (by kernel_rfl) (rowIs_v' (lv := lvABLU32LU32Z) (s := 3) (e := s151) (ver := v101) (z := false)) (n := n101) hn101) rfl) (pl_cons rfl pl_nil))) (by subst h; rfl)

theorem proof_Parse_ok (m : Tp) (p0 : List UInt8) {r : Int × (List (Bool × (List Int) × (List Int))) × (List (Bool × (List Int) × (List Int))) × (List (Bool × (List Int) × (List Int))) × Int × Int} (h : proof_Parse p0 r) : ASpec Tryz.prog (gtT m) 26 [.pd (.str p0)] (· = .tup [.agg [.pd (.int .i64 r.1), .pd (.sl (r.2.1.map elABLU32LU32Z)), .pd (.sl (r.2.2.1.map elABLU32LU32Z)), .pd (.sl (r.2.2.2.1.map elABLU32LU32Z))], .pd (.int .i64 r.2.2.2.2.1), .pd (.int .i64 r.2.2.2.2.2)]) := by
  refine ASpec_tree Tryz.f26 mixedT (askG [9, 10, 11] false) (by kernel_rfl) ?_
  unfold proof_Parse at h
  obtain ⟨x1, x2, hx3, h⟩ := h
  let o1 : Ob := .cells [.pd (.int .i64 0), .fixed (([] : List (Bool × (List Int) × (List Int))).map elABLU32LU32Z), .fixed (([] : List (Bool × (List Int) × (List Int))).map elABLU32LU32Z), .fixed (([] : List (Bool × (List Int) × (List Int))).map elABLU32LU32Z)] 1 0 false
  refine H_valW (g := 61) (args := [.pd (.str p0)]) (M := [o1]) (.tup [.pd (.sl (x1.map elAI64LSZ)), .pd (.int .i64 x2)]) (.inl (by kernel_rfl)) (by kernel_rfl) (lines_All_ok m _ hx3) (by kernel_rfl) (hasT 61 (by kernel_rfl)) ?_
  refine H_split (x2 != (0 : Int)) (by kernel_rfl) (fun hp4 => ?_) (fun hp4 => ?_)
  · replace h := h.t hp4
    refine H_askK (.agg [.pd (.int .i64 0), .fixed (([] : List (Bool × (List Int) × (List Int))).map elABLU32LU32Z), .fixed (([] : List (Bool × (List Int) × (List Int))).map elABLU32LU32Z), .fixed (([] : List (Bool × (List Int) × (List Int))).map elABLU32LU32Z)]) ([o1]) (by kernel_rfl) ?_
    refine H_askK (.junk) ([o1]) (by kernel_rfl) ?_
    exact H_end .ret (.tup [.agg [.pd (.int .i64 0), .pd (.sl (([] : List (Bool × (List Int) × (List Int))).map elABLU32LU32Z)), .pd (.sl (([] : List (Bool × (List Int) × (List Int))).map elABLU32LU32Z)), .pd (.sl (([] : List (Bool × (List Int) × (List Int))).map elABLU32LU32Z))], .pd (.int .i64 0), .pd (.int .i64 x2)]) (by kernel_rfl) rfl (by kernel_rfl) (by subst h; rfl)
  replace h := h.f hp4
  refine H_ask _ _ (by kernel_rfl) (ask_len (P := Tryz.prog) (M := [o1]) (t := 105) (et := 109) (el := elAI64LSZ) (by kernel_rfl) (e := x1)) ?_
  refine H_split ((x1.length : Int) == (0 : Int)) (by kernel_rfl) (fun hp5 => ?_) (fun hp5 => ?_)
  · replace h := h.t hp5
    refine H_askK (.agg [.pd (.int .i64 0), .fixed (([] : List (Bool × (List Int) × (List Int))).map elABLU32LU32Z), .fixed (([] : List (Bool × (List Int) × (List Int))).map elABLU32LU32Z), .fixed (([] : List (Bool × (List Int) × (List Int))).map elABLU32LU32Z)]) ([o1]) (by kernel_rfl) ?_
    refine H_askK (.junk) ([o1]) (by kernel_rfl) ?_
    exact H_end .ret (.tup [.agg [.pd (.int .i64 0), .pd (.sl (([] : List (Bool × (List Int) × (List Int))).map elABLU32LU32Z)), .pd (.sl (([] : List (Bool × (List Int) × (List Int))).map elABLU32LU32Z)), .pd (.sl (([] : List (Bool × (List Int) × (List Int))).map elABLU32LU32Z))], .pd (.int .i64 0), .pd (.int .i64 2)]) (by kernel_rfl) rfl (by kernel_rfl) (by subst h; rfl)
  replace h := h.f hp5
  obtain ⟨x6, x7, x8, x9, hx10, h⟩ := h
  refine H_valW (g := 58) (args := []) (M := [o1, o1]) (.agg [.pd (.str x6), .pd (.str x7), .pd (.str x8), .pd (.str x9)]) (.inl (by kernel_rfl)) (by kernel_rfl) (proof_words_ok m  hx10) (by kernel_rfl) (hasT 58 (by kernel_rfl)) ?_
  refine H_loopP (F := proof_Parse_L1 x1 x6 x7 x8 x9 r) (s0 := ((0 : Int), (0 : Int))) h () 132 2
    (fun ((s100, s101) : Int × Int) (() : Unit) => [(2, .ptr 0 0 0), (5, .pd (.sl (x1.map elAI64LSZ))), (7, .ptr 1 0 0), (31, .agg [.pd (.str x6), .pd (.str x7), .pd (.str x8), .pd (.str x9)]), (32, .pd (.int .i64 s100))])
    (fun ((s100, s101) : Int × Int) (() : Unit) => [.cells [.pd (.int .i64 0), .fixed (([] : List (Bool × (List Int) × (List Int))).map elABLU32LU32Z), .fixed (([] : List (Bool × (List Int) × (List Int))).map elABLU32LU32Z), .fixed (([] : List (Bool × (List Int) × (List Int))).map elABLU32LU32Z)] 1 0 false, .cells [.pd (.int .i64 s101), .fixed (([] : List (Bool × (List Int) × (List Int))).map elABLU32LU32Z), .fixed (([] : List (Bool × (List Int) × (List Int))).map elABLU32LU32Z), .fixed (([] : List (Bool × (List Int) × (List Int))).map elABLU32LU32Z)] 1 0 false]) (fun ((s100, s101) : Int × Int) (() : Unit) => True) trivial [] mixedT (askG [9, 10, 11] false)
    (by kernel_rfl) (by kernel_rfl) (by kernel_rfl) (by kernel_rfl) (by kernel_rfl) (fun _ _ => rfl) ?_
  rintro X1 ⟨s100, s101⟩ ⟨⟩ - h
  dsimp only [proof_Parse_L1] at h
  refine H_split (decide (s100 < (4 : Int))) (by kernel_rfl) (fun hp11 => ?_) (fun hp11 => ?_)
  · replace h := h.t hp11
    obtain ⟨x12, hx13, h⟩ := h
    let o2 : Ob := .cells [.pd (.int .i64 s101), .fixed (([] : List (Bool × (List Int) × (List Int))).map elABLU32LU32Z), .fixed (([] : List (Bool × (List Int) × (List Int))).map elABLU32LU32Z), .fixed (([] : List (Bool × (List Int) × (List Int))).map elABLU32LU32Z)] 1 0 false
    refine H_ask _ _ (by kernel_rfl) (ask_aidx (P := Tryz.prog) (t := 101) (e := 9) (n := 4) (M := [o1, o2]) (k := .i64) PD.str ([x6, x7, x8, x9] : List (List UInt8)) (by kernel_rfl) (by kernel_rfl) (by kernel_rfl) rfl hx13) ?_
    refine H_split (decide (s100 > (0 : Int))) (by kernel_rfl) (fun hp14 => ?_) (fun hp14 => ?_)
    · replace h := h.t hp14
      obtain ⟨x15, x16, hx17, h⟩ := h
      refine H_ask _ _ (by kernel_rfl) (ask_idx (P := Tryz.prog) (M := [o1, o2]) (t := 105) (et := 109) (k := .i64) (lv := lvAI64LSZ) okAI64LSZ leAI64LSZ (by kernel_rfl) (by kernel_rfl) hx17) ?_
      refine H_askK (.rd [.sl (x16.map elS)]) ([o1, o2]) (by kernel_rfl) ?_
      refine H_askK (.pd (.sl (x16.map elS))) ([o1, o2]) (by kernel_rfl) ?_
      refine H_ask _ _ (by kernel_rfl) (ask_len (P := Tryz.prog) (M := [o1, o2]) (t := 57) (et := 9) (el := elS) (by kernel_rfl) (e := x16)) ?_
      refine H_split ((x16.length : Int) == (1 : Int)) (by kernel_rfl) (fun hp18 => ?_) (fun hp18 => ?_)
      · replace h := h.t hp18
        obtain ⟨x19, x20, hx21, h⟩ := h
        refine H_ask _ _ (by kernel_rfl) (ask_idx (P := Tryz.prog) (M := [o1, o2]) (t := 105) (et := 109) (k := .i64) (lv := lvAI64LSZ) okAI64LSZ leAI64LSZ (by kernel_rfl) (by kernel_rfl) hx21) ?_
        refine H_askK (.rd [.sl (x20.map elS)]) ([o1, o2]) (by kernel_rfl) ?_
        refine H_askK (.pd (.sl (x20.map elS))) ([o1, o2]) (by kernel_rfl) ?_
        obtain ⟨x22, hx23, h⟩ := h
        refine H_ask _ _ (by kernel_rfl) (ask_idx (P := Tryz.prog) (M := [o1, o2]) (t := 57) (et := 9) (k := .i64) (lv := lvS) okS leS (by kernel_rfl) (by kernel_rfl) hx23) ?_
        refine H_askK (.pd (.str x22)) ([o1, o2]) (by kernel_rfl) ?_
        refine H_split (x22 == x12) (by kernel_rfl) (fun hc => ?_) (fun hc => ?_)
        · replace h := h.t hc; clear hc
          refine H_askK (.ptr 1 0 0) ([o1, o2]) (by kernel_rfl) ?_
          let o3 : Ob := .cells [.pd (.int .i64 s100), .fixed (([] : List (Bool × (List Int) × (List Int))).map elABLU32LU32Z), .fixed (([] : List (Bool × (List Int) × (List Int))).map elABLU32LU32Z), .fixed (([] : List (Bool × (List Int) × (List Int))).map elABLU32LU32Z)] 1 0 false
          refine H_askK (.junk) ([o1, o3]) (by kernel_rfl) ?_
          exact H_againP (st := _) ((IntKind.i64.wrap (s100 + 1)), s100) () h trivial (by kernel_rfl) (by kernel_rfl) (by kernel_rfl) (by kernel_rfl) (by kernel_rfl)
        replace h := h.f hc; clear hc
        exact H_againP (st := _) ((IntKind.i64.wrap (s100 + 1)), s101) () h trivial (by kernel_rfl) (by kernel_rfl) (by kernel_rfl) (by kernel_rfl) (by kernel_rfl)
      replace h := h.f hp18
      exact H_againP (st := _) ((IntKind.i64.wrap (s100 + 1)), s101) () h trivial (by kernel_rfl) (by kernel_rfl) (by kernel_rfl) (by kernel_rfl) (by kernel_rfl)
    replace h := h.f hp14
    exact H_againP (st := _) ((IntKind.i64.wrap (s100 + 1)), s101) () h trivial (by kernel_rfl) (by kernel_rfl) (by kernel_rfl) (by kernel_rfl) (by kernel_rfl)
  replace h := h.f hp11
  refine H_leaveP (.exit 1) (by kernel_rfl) rfl ?_
  let o4 : Ob := .cells [.pd (.int .i64 s101), .fixed (([] : List (Bool × (List Int) × (List Int))).map elABLU32LU32Z), .fixed (([] : List (Bool × (List Int) × (List Int))).map elABLU32LU32Z), .fixed (([] : List (Bool × (List Int) × (List Int))).map elABLU32LU32Z)] 1 0 false
  refine H_askK (.ptr 1 0 0) ([o1, o4]) (by kernel_rfl) ?_
  refine H_askK (.pd (.int .i64 s101)) ([o1, o4]) (by kernel_rfl) ?_
  refine H_split (s101 == (0 : Int)) (by kernel_rfl) (fun hp24 => ?_) (fun hp24 => ?_)
  · replace h := h.t hp24
    refine H_drawF [2, 3, 4] (by kernel_rfl) ?_
    refine H_askK (.agg [.pd (.int .i64 0), .fixed (([] : List (Bool × (List Int) × (List Int))).map elABLU32LU32Z), .fixed (([] : List (Bool × (List Int) × (List Int))).map elABLU32LU32Z), .fixed (([] : List (Bool × (List Int) × (List Int))).map elABLU32LU32Z)]) ([o1, o4]) (by kernel_rfl) ?_
    obtain ⟨x25, x26, hx27, h⟩ := h
    refine H_askall _ (by kernel_rfl) (fun M' => ask_idx (P := Tryz.prog) (M := M') (t := 105) (et := 109) (k := .i64) (lv := lvAI64LSZ) okAI64LSZ leAI64LSZ (by kernel_rfl) (by kernel_rfl) hx27) ?_
    refine H_askall (.rd [.int .i64 x25, .sl (x26.map elS)]) (f := fun M' => some (.rd [.int .i64 x25, .sl (x26.map elS)], M')) (by kernel_rfl) (fun _ => rfl) ?_
    refine H_askall (.pd (.int .i64 x25)) (f := fun M' => some (.pd (.int .i64 x25), M')) (by kernel_rfl) (fun _ => rfl) ?_
    refine H_askK (.junk) ([o1, o4]) (by kernel_rfl) ?_
    exact H_end .ret (.tup [.agg [.pd (.int .i64 0), .pd (.sl (([] : List (Bool × (List Int) × (List Int))).map elABLU32LU32Z)), .pd (.sl (([] : List (Bool × (List Int) × (List Int))).map elABLU32LU32Z)), .pd (.sl (([] : List (Bool × (List Int) × (List Int))).map elABLU32LU32Z))], .pd (.int .i64 x25), .pd (.int .i64 2)]) (by kernel_rfl) rfl (by kernel_rfl) (by subst h; rfl)
  replace h := h.f hp24
  refine H_draw (by kernel_rfl) ?_
  obtain ⟨x28, x29, hx30, h⟩ := h
  refine H_ask _ _ (by kernel_rfl) (ask_idx (P := Tryz.prog) (M := [o1, o4]) (t := 105) (et := 109) (k := .i64) (lv := lvAI64LSZ) okAI64LSZ leAI64LSZ (by kernel_rfl) (by kernel_rfl) hx30) ?_
  refine H_askK (.rd [.int .i64 x28, .sl (x29.map elS)]) ([o1, o4]) (by kernel_rfl) ?_
  refine H_askK (.pd (.int .i64 x28)) ([o1, o4]) (by kernel_rfl) ?_
  obtain ⟨hx31, h⟩ := h
  refine H_ask _ _ (by kernel_rfl) (ask_sub (P := Tryz.prog) (M := [o1, o4]) (t := 105) (et := 109) (lv := lvAI64LSZ) (lo := (some (1 : Int))) (hi := none) okAI64LSZ leAI64LSZ (by kernel_rfl) (by kernel_rfl) hx31) ?_
  refine H_inl (g := 45) (args := [.ptr 1 0 0]) (M := [o1, o4]) Tryz.f45 mixedT (askG [9, 10, 11] false) (by kernel_rfl) (by kernel_rfl) (hasT 45 (by kernel_rfl)) ?_
  refine H_draw (by kernel_rfl) ?_
  let o5 : Ob := .cells [.pd (.str ([] : List UInt8)), .pd (.bool false), .nilp, .pd (.str ([] : List UInt8)), .pd (.bool false), .nilp, .pd (.str ([] : List UInt8)), .pd (.bool false), .nilp] 1 0 false
  refine H_askK (.ptr 1 0 0) ([o1, o4, o5]) (by kernel_rfl) ?_
  refine H_askK (.ptr 1 0 0) ([o1, o4, o5]) (by kernel_rfl) ?_
  refine H_askK (.pd (.int .i64 s101)) ([o1, o4, o5]) (by kernel_rfl) ?_
  refine H_split (s101 != (2 : Int)) (by kernel_rfl) (fun hp32 => ?_) (fun hp32 => ?_)
  · replace h := h.t hp32
    refine H_askK (.ptr 1 0 0) ([o1, o4, o5]) (by kernel_rfl) ?_
    refine H_askK (.ptr 1 1 0) ([o1, o4, o5]) (by kernel_rfl) ?_
    refine H_askK (.agg [.pd (.str ([120] : List UInt8)), .pd (.bool true), .ptr 1 1 0]) ([o1, o4, o5]) (by kernel_rfl) ?_
    refine H_askK (.ptr 1 0 0) ([o1, o4, o5]) (by kernel_rfl) ?_
    refine H_askK (.ptr 1 0 0) ([o1, o4, o5]) (by kernel_rfl) ?_
    refine H_askK (.pd (.int .i64 s101)) ([o1, o4, o5]) (by kernel_rfl) ?_
    refine H_split (s101 != (3 : Int)) (by kernel_rfl) (fun hp33 => ?_) (fun hp33 => ?_)
    · replace h := h.t hp33
      refine H_askK (.ptr 1 0 0) ([o1, o4, o5]) (by kernel_rfl) ?_
      refine H_askK (.ptr 1 2 0) ([o1, o4, o5]) (by kernel_rfl) ?_
      refine H_askK (.agg [.pd (.str ([121] : List UInt8)), .pd (.bool true), .ptr 1 2 0]) ([o1, o4, o5]) (by kernel_rfl) ?_
      refine H_askK (.ptr 1 0 0) ([o1, o4, o5]) (by kernel_rfl) ?_
      refine H_askK (.ptr 1 0 0) ([o1, o4, o5]) (by kernel_rfl) ?_
      refine H_askK (.pd (.int .i64 s101)) ([o1, o4, o5]) (by kernel_rfl) ?_
      refine H_split (s101 == (3 : Int)) (by kernel_rfl) (fun hc => by simp only [decide_eq_true_eq, decide_eq_false_iff_not, beq_iff_eq, bne_iff_ne, beq_eq_false_iff_ne, bne_eq_false_iff_eq, ne_eq] at hp33 hc; omega) (fun _ => ?_)
      refine H_askK (.ptr 1 0 0) ([o1, o4, o5]) (by kernel_rfl) ?_
      refine H_askK (.ptr 1 3 0) ([o1, o4, o5]) (by kernel_rfl) ?_
      refine H_askK (.agg [.pd (.str ([114, 97, 121] : List UInt8)), .pd (.bool false), .ptr 1 3 0]) ([o1, o4, o5]) (by kernel_rfl) ?_
      refine H_askK (.agg [.pd (.str ([120] : List UInt8)), .pd (.bool true), .ptr 1 1 0, .pd (.str ([121] : List UInt8)), .pd (.bool true), .ptr 1 2 0, .pd (.str ([114, 97, 121] : List UInt8)), .pd (.bool false), .ptr 1 3 0]) ([o1, o4, o5]) (by kernel_rfl) ?_
      let o6 : Ob := .cells [.pd (.str ([120] : List UInt8)), .pd (.bool true), .ptr 1 1 0, .pd (.str ([121] : List UInt8)), .pd (.bool true), .ptr 1 2 0, .pd (.str ([114, 97, 121] : List UInt8)), .pd (.bool false), .ptr 1 3 0] 1 0 false
      refine H_askK (.junk) ([o1, o4, o6]) (by kernel_rfl) ?_
      refine H_endM .ret (.agg [.pd (.str ([120] : List UInt8)), .pd (.bool true), .ptr 1 1 0, .pd (.str ([121] : List UInt8)), .pd (.bool true), .ptr 1 2 0, .pd (.str ([114, 97, 121] : List UInt8)), .pd (.bool false), .ptr 1 3 0]) ([o1, o4, o6]) (by kernel_rfl) rfl (by kernel_rfl) (by kernel_rfl) (by kernel_rfl) ?_
      refine H_unroll 4 mixedT (askG [9, 10, 11] false) (by kernel_rfl) ?_
      refine H_split true (by kernel_rfl) (fun _ => ?_) (fun hc => by cases hc)
      refine H_askK (.agg [.pd (.str ([120] : List UInt8)), .pd (.bool true), .ptr 1 1 0]) ([o1, o4, o6]) (by kernel_rfl) ?_
      let o7 : Ob := .cells [.pd (.str ([120] : List UInt8)), .pd (.bool true), .ptr 1 1 0] 1 0 false
      refine H_askK (.junk) ([o1, o4, o6, o7]) (by kernel_rfl) ?_
      refine H_askK (.ptr 3 1 0) ([o1, o4, o6, o7]) (by kernel_rfl) ?_
      refine H_askK (.pd (.bool true)) ([o1, o4, o6, o7]) (by kernel_rfl) ?_
      refine H_ask _ _ (by kernel_rfl) (ask_len (P := Tryz.prog) (M := [o1, o4, o6, o7]) (t := 105) (et := 109) (el := elAI64LSZ) (by kernel_rfl) (e := (sub x1 (1 : Int) (x1.length : Int)))) ?_
      refine H_split (((sub x1 (1 : Int) (x1.length : Int)).length : Int) == (0 : Int)) (by kernel_rfl) (fun hp34 => ?_) (fun hp34 => ?_)
      · replace h := h.t hp34
        refine H_askK (.agg [.pd (.int .i64 0), .fixed (([] : List (Bool × (List Int) × (List Int))).map elABLU32LU32Z), .fixed (([] : List (Bool × (List Int) × (List Int))).map elABLU32LU32Z), .fixed (([] : List (Bool × (List Int) × (List Int))).map elABLU32LU32Z)]) ([o1, o4, o6, o7]) (by kernel_rfl) ?_
        refine H_askK (.junk) ([o1, o4, o6, o7]) (by kernel_rfl) ?_
        exact H_end .ret (.tup [.agg [.pd (.int .i64 0), .pd (.sl (([] : List (Bool × (List Int) × (List Int))).map elABLU32LU32Z)), .pd (.sl (([] : List (Bool × (List Int) × (List Int))).map elABLU32LU32Z)), .pd (.sl (([] : List (Bool × (List Int) × (List Int))).map elABLU32LU32Z))], .pd (.int .i64 x28), .pd (.int .i64 2)]) (by kernel_rfl) rfl (by kernel_rfl) (by subst h; rfl)
      replace h := h.f hp34
      obtain ⟨x35, x36, hx37, h⟩ := h
      refine H_ask _ _ (by kernel_rfl) (ask_idx (P := Tryz.prog) (M := [o1, o4, o6, o7]) (t := 105) (et := 109) (k := .i64) (lv := lvAI64LSZ) okAI64LSZ leAI64LSZ (by kernel_rfl) (by kernel_rfl) hx37) ?_
      refine H_askK (.rd [.sl (x36.map elS)]) ([o1, o4, o6, o7]) (by kernel_rfl) ?_
      refine H_askK (.pd (.sl (x36.map elS))) ([o1, o4, o6, o7]) (by kernel_rfl) ?_
      obtain ⟨hx38, h⟩ := h
      refine H_ask _ _ (by kernel_rfl) (ask_sub (P := Tryz.prog) (M := [o1, o4, o6, o7]) (t := 57) (et := 9) (lv := lvS) (lo := (some (1 : Int))) (hi := none) okS leS (by kernel_rfl) (by kernel_rfl) hx38) ?_
      obtain ⟨x39, x40, hx41, h⟩ := h
      refine H_valW (g := 62) (args := [.pd (.sl ((sub x36 (1 : Int) (x36.length : Int)).map elS))]) (M := [o1, o4, o6, o7]) (.tup [.pd (.sl (x39.map elABLU32LU32Z)), .pd (.bool x40)]) (.inl (by kernel_rfl)) (by kernel_rfl) (proof_numbers_ok m _ hx41) (by kernel_rfl) (hasT 62 (by kernel_rfl)) ?_
      cases x40
      · replace h := h.f rfl
        refine H_draw (by kernel_rfl) ?_
        obtain ⟨x89, x90, hx91, h⟩ := h
        refine H_ask _ _ (by kernel_rfl) (ask_idx (P := Tryz.prog) (M := [o1, o4, o6, o7]) (t := 105) (et := 109) (k := .i64) (lv := lvAI64LSZ) okAI64LSZ leAI64LSZ (by kernel_rfl) (by kernel_rfl) hx91) ?_
        refine H_askK (.rd [.sl (x90.map elS)]) ([o1, o4, o6, o7]) (by kernel_rfl) ?_
        refine H_askK (.pd (.sl (x90.map elS))) ([o1, o4, o6, o7]) (by kernel_rfl) ?_
        obtain ⟨x92, hx93, h⟩ := h
        refine H_ask _ _ (by kernel_rfl) (ask_idx (P := Tryz.prog) (M := [o1, o4, o6, o7]) (t := 57) (et := 9) (k := .i64) (lv := lvS) okS leS (by kernel_rfl) (by kernel_rfl) hx93) ?_
        refine H_askK (.pd (.str x92)) ([o1, o4, o6, o7]) (by kernel_rfl) ?_
        refine H_askK (.ptr 3 0 0) ([o1, o4, o6, o7]) (by kernel_rfl) ?_
        refine H_askK (.pd (.str ([120] : List UInt8))) ([o1, o4, o6, o7]) (by kernel_rfl) ?_
        refine H_split (!(x92 == ([120] : List UInt8))) (by kernel_rfl) (fun hc => ?_) (fun hc => ?_)
        · replace h := h.t hc; clear hc
          refine H_drawF [2, 3, 4] (by kernel_rfl) ?_
          refine H_askK (.agg [.pd (.int .i64 0), .fixed (([] : List (Bool × (List Int) × (List Int))).map elABLU32LU32Z), .fixed (([] : List (Bool × (List Int) × (List Int))).map elABLU32LU32Z), .fixed (([] : List (Bool × (List Int) × (List Int))).map elABLU32LU32Z)]) ([o1, o4, o6, o7]) (by kernel_rfl) ?_
          obtain ⟨x94, x95, hx96, h⟩ := h
          refine H_askall _ (by kernel_rfl) (fun M' => ask_idx (P := Tryz.prog) (M := M') (t := 105) (et := 109) (k := .i64) (lv := lvAI64LSZ) okAI64LSZ leAI64LSZ (by kernel_rfl) (by kernel_rfl) hx96) ?_
          refine H_askall (.rd [.int .i64 x94, .sl (x95.map elS)]) (f := fun M' => some (.rd [.int .i64 x94, .sl (x95.map elS)], M')) (by kernel_rfl) (fun _ => rfl) ?_
          refine H_askall (.pd (.int .i64 x94)) (f := fun M' => some (.pd (.int .i64 x94), M')) (by kernel_rfl) (fun _ => rfl) ?_
          refine H_askK (.junk) ([o1, o4, o6, o7]) (by kernel_rfl) ?_
          exact H_end .ret (.tup [.agg [.pd (.int .i64 0), .pd (.sl (([] : List (Bool × (List Int) × (List Int))).map elABLU32LU32Z)), .pd (.sl (([] : List (Bool × (List Int) × (List Int))).map elABLU32LU32Z)), .pd (.sl (([] : List (Bool × (List Int) × (List Int))).map elABLU32LU32Z))], .pd (.int .i64 x94), .pd (.int .i64 2)]) (by kernel_rfl) rfl (by kernel_rfl) (by subst h; rfl)
        replace h := h.f hc; clear hc
        refine H_drawF [2, 3, 4] (by kernel_rfl) ?_
        refine H_askK (.agg [.pd (.int .i64 0), .fixed (([] : List (Bool × (List Int) × (List Int))).map elABLU32LU32Z), .fixed (([] : List (Bool × (List Int) × (List Int))).map elABLU32LU32Z), .fixed (([] : List (Bool × (List Int) × (List Int))).map elABLU32LU32Z)]) ([o1, o4, o6, o7]) (by kernel_rfl) ?_
        obtain ⟨x97, x98, hx99, h⟩ := h
        refine H_askall _ (by kernel_rfl) (fun M' => ask_idx (P := Tryz.prog) (M := M') (t := 105) (et := 109) (k := .i64) (lv := lvAI64LSZ) okAI64LSZ leAI64LSZ (by kernel_rfl) (by kernel_rfl) hx99) ?_
        refine H_askall (.rd [.int .i64 x97, .sl (x98.map elS)]) (f := fun M' => some (.rd [.int .i64 x97, .sl (x98.map elS)], M')) (by kernel_rfl) (fun _ => rfl) ?_
        refine H_askall (.pd (.int .i64 x97)) (f := fun M' => some (.pd (.int .i64 x97), M')) (by kernel_rfl) (fun _ => rfl) ?_
        refine H_askK (.junk) ([o1, o4, o6, o7]) (by kernel_rfl) ?_
        exact H_end .ret (.tup [.agg [.pd (.int .i64 0), .pd (.sl (([] : List (Bool × (List Int) × (List Int))).map elABLU32LU32Z)), .pd (.sl (([] : List (Bool × (List Int) × (List Int))).map elABLU32LU32Z)), .pd (.sl (([] : List (Bool × (List Int) × (List Int))).map elABLU32LU32Z))], .pd (.int .i64 x97), .pd (.int .i64 2)]) (by kernel_rfl) rfl (by kernel_rfl) (by subst h; rfl)
      replace h := h.t rfl
      refine H_draw (by kernel_rfl) ?_
      obtain ⟨x42, x43, hx44, h⟩ := h
      refine H_ask _ _ (by kernel_rfl) (ask_idx (P := Tryz.prog) (M := [o1, o4, o6, o7]) (t := 105) (et := 109) (k := .i64) (lv := lvAI64LSZ) okAI64LSZ leAI64LSZ (by kernel_rfl) (by kernel_rfl) hx44) ?_
      refine H_askK (.rd [.sl (x43.map elS)]) ([o1, o4, o6, o7]) (by kernel_rfl) ?_
      refine H_askK (.pd (.sl (x43.map elS))) ([o1, o4, o6, o7]) (by kernel_rfl) ?_
      obtain ⟨x45, hx46, h⟩ := h
      refine H_ask _ _ (by kernel_rfl) (ask_idx (P := Tryz.prog) (M := [o1, o4, o6, o7]) (t := 57) (et := 9) (k := .i64) (lv := lvS) okS leS (by kernel_rfl) (by kernel_rfl) hx46) ?_
      refine H_askK (.pd (.str x45)) ([o1, o4, o6, o7]) (by kernel_rfl) ?_
      refine H_askK (.ptr 3 0 0) ([o1, o4, o6, o7]) (by kernel_rfl) ?_
      refine H_askK (.pd (.str ([120] : List UInt8))) ([o1, o4, o6, o7]) (by kernel_rfl) ?_
      refine H_split (!(x45 == ([120] : List UInt8))) (by kernel_rfl) (fun hc => ?_) (fun hc => ?_)
      · replace h := h.t hc; clear hc
        refine H_drawF [2, 3, 4] (by kernel_rfl) ?_
        refine H_askK (.agg [.pd (.int .i64 0), .fixed (([] : List (Bool × (List Int) × (List Int))).map elABLU32LU32Z), .fixed (([] : List (Bool × (List Int) × (List Int))).map elABLU32LU32Z), .fixed (([] : List (Bool × (List Int) × (List Int))).map elABLU32LU32Z)]) ([o1, o4, o6, o7]) (by kernel_rfl) ?_
        obtain ⟨x47, x48, hx49, h⟩ := h
        refine H_askall _ (by kernel_rfl) (fun M' => ask_idx (P := Tryz.prog) (M := M') (t := 105) (et := 109) (k := .i64) (lv := lvAI64LSZ) okAI64LSZ leAI64LSZ (by kernel_rfl) (by kernel_rfl) hx49) ?_
        refine H_askall (.rd [.int .i64 x47, .sl (x48.map elS)]) (f := fun M' => some (.rd [.int .i64 x47, .sl (x48.map elS)], M')) (by kernel_rfl) (fun _ => rfl) ?_
        refine H_askall (.pd (.int .i64 x47)) (f := fun M' => some (.pd (.int .i64 x47), M')) (by kernel_rfl) (fun _ => rfl) ?_
        refine H_askK (.junk) ([o1, o4, o6, o7]) (by kernel_rfl) ?_
        exact H_end .ret (.tup [.agg [.pd (.int .i64 0), .pd (.sl (([] : List (Bool × (List Int) × (List Int))).map elABLU32LU32Z)), .pd (.sl (([] : List (Bool × (List Int) × (List Int))).map elABLU32LU32Z)), .pd (.sl (([] : List (Bool × (List Int) × (List Int))).map elABLU32LU32Z))], .pd (.int .i64 x47), .pd (.int .i64 2)]) (by kernel_rfl) rfl (by kernel_rfl) (by subst h; rfl)
      replace h := h.f hc; clear hc
      refine H_askK (.ptr 3 2 0) ([o1, o4, o6, o7]) (by kernel_rfl) ?_
      refine H_askK (.ptr 1 1 0) ([o1, o4, o6, o7]) (by kernel_rfl) ?_
      refine H_askK (.ptr 1 1 0) ([o1, o4, o6, o7]) (by kernel_rfl) ?_
      let o8 : Ob := .cells [.pd (.int .i64 s101), .pd (.sl (x39.map elABLU32LU32Z)), .fixed (([] : List (Bool × (List Int) × (List Int))).map elABLU32LU32Z), .fixed (([] : List (Bool × (List Int) × (List Int))).map elABLU32LU32Z)] 1 0 false
      refine H_askK (.junk) ([o1, o8, o6, o7]) (by kernel_rfl) ?_
      refine H_draw (by kernel_rfl) ?_
      obtain ⟨x50, x51, hx52, h⟩ := h
      refine H_ask _ _ (by kernel_rfl) (ask_idx (P := Tryz.prog) (M := [o1, o8, o6, o7]) (t := 105) (et := 109) (k := .i64) (lv := lvAI64LSZ) okAI64LSZ leAI64LSZ (by kernel_rfl) (by kernel_rfl) hx52) ?_
      refine H_askK (.rd [.int .i64 x50, .sl (x51.map elS)]) ([o1, o8, o6, o7]) (by kernel_rfl) ?_
      refine H_askK (.pd (.int .i64 x50)) ([o1, o8, o6, o7]) (by kernel_rfl) ?_
      obtain ⟨hx53, h⟩ := h
      refine H_ask _ _ (by kernel_rfl) (ask_sub (P := Tryz.prog) (M := [o1, o8, o6, o7]) (t := 105) (et := 109) (lv := lvAI64LSZ) (lo := (some (1 : Int))) (hi := none) okAI64LSZ leAI64LSZ (by kernel_rfl) (by kernel_rfl) hx53) ?_
      refine H_split true (by kernel_rfl) (fun _ => ?_) (fun hc => by cases hc)
      refine H_askK (.agg [.pd (.str ([121] : List UInt8)), .pd (.bool true), .ptr 1 2 0]) ([o1, o8, o6, o7]) (by kernel_rfl) ?_
      let o9 : Ob := .cells [.pd (.str ([121] : List UInt8)), .pd (.bool true), .ptr 1 2 0] 1 0 false
      refine H_askK (.junk) ([o1, o8, o6, o7, o9]) (by kernel_rfl) ?_
      refine H_askK (.ptr 4 1 0) ([o1, o8, o6, o7, o9]) (by kernel_rfl) ?_
      refine H_askK (.pd (.bool true)) ([o1, o8, o6, o7, o9]) (by kernel_rfl) ?_
      refine H_ask _ _ (by kernel_rfl) (ask_len (P := Tryz.prog) (M := [o1, o8, o6, o7, o9]) (t := 105) (et := 109) (el := elAI64LSZ) (by kernel_rfl) (e := (sub (sub x1 (1 : Int) (x1.length : Int)) (1 : Int) ((sub x1 (1 : Int) (x1.length : Int)).length : Int)))) ?_
      refine H_split (((sub (sub x1 (1 : Int) (x1.length : Int)) (1 : Int) ((sub x1 (1 : Int) (x1.length : Int)).length : Int)).length : Int) == (0 : Int)) (by kernel_rfl) (fun hp54 => ?_) (fun hp54 => ?_)
      · replace h := h.t hp54
        refine H_askK (.agg [.pd (.int .i64 0), .fixed (([] : List (Bool × (List Int) × (List Int))).map elABLU32LU32Z), .fixed (([] : List (Bool × (List Int) × (List Int))).map elABLU32LU32Z), .fixed (([] : List (Bool × (List Int) × (List Int))).map elABLU32LU32Z)]) ([o1, o8, o6, o7, o9]) (by kernel_rfl) ?_
        refine H_askK (.junk) ([o1, o8, o6, o7, o9]) (by kernel_rfl) ?_
        exact H_end .ret (.tup [.agg [.pd (.int .i64 0), .pd (.sl (([] : List (Bool × (List Int) × (List Int))).map elABLU32LU32Z)), .pd (.sl (([] : List (Bool × (List Int) × (List Int))).map elABLU32LU32Z)), .pd (.sl (([] : List (Bool × (List Int) × (List Int))).map elABLU32LU32Z))], .pd (.int .i64 x50), .pd (.int .i64 2)]) (by kernel_rfl) rfl (by kernel_rfl) (by subst h; rfl)
      replace h := h.f hp54
      obtain ⟨x55, x56, hx57, h⟩ := h
      refine H_ask _ _ (by kernel_rfl) (ask_idx (P := Tryz.prog) (M := [o1, o8, o6, o7, o9]) (t := 105) (et := 109) (k := .i64) (lv := lvAI64LSZ) okAI64LSZ leAI64LSZ (by kernel_rfl) (by kernel_rfl) hx57) ?_
      refine H_askK (.rd [.sl (x56.map elS)]) ([o1, o8, o6, o7, o9]) (by kernel_rfl) ?_
      refine H_askK (.pd (.sl (x56.map elS))) ([o1, o8, o6, o7, o9]) (by kernel_rfl) ?_
      obtain ⟨hx58, h⟩ := h
      refine H_ask _ _ (by kernel_rfl) (ask_sub (P := Tryz.prog) (M := [o1, o8, o6, o7, o9]) (t := 57) (et := 9) (lv := lvS) (lo := (some (1 : Int))) (hi := none) okS leS (by kernel_rfl) (by kernel_rfl) hx58) ?_
      obtain ⟨x59, x60, hx61, h⟩ := h
      refine H_valW (g := 62) (args := [.pd (.sl ((sub x56 (1 : Int) (x56.length : Int)).map elS))]) (M := [o1, o8, o6, o7, o9]) (.tup [.pd (.sl (x59.map elABLU32LU32Z)), .pd (.bool x60)]) (.inl (by kernel_rfl)) (by kernel_rfl) (proof_numbers_ok m _ hx61) (by kernel_rfl) (hasT 62 (by kernel_rfl)) ?_
      cases x60
      · replace h := h.f rfl
        refine H_draw (by kernel_rfl) ?_
        obtain ⟨x78, x79, hx80, h⟩ := h
        refine H_ask _ _ (by kernel_rfl) (ask_idx (P := Tryz.prog) (M := [o1, o8, o6, o7, o9]) (t := 105) (et := 109) (k := .i64) (lv := lvAI64LSZ) okAI64LSZ leAI64LSZ (by kernel_rfl) (by kernel_rfl) hx80) ?_
        refine H_askK (.rd [.sl (x79.map elS)]) ([o1, o8, o6, o7, o9]) (by kernel_rfl) ?_
        refine H_askK (.pd (.sl (x79.map elS))) ([o1, o8, o6, o7, o9]) (by kernel_rfl) ?_
        obtain ⟨x81, hx82, h⟩ := h
        refine H_ask _ _ (by kernel_rfl) (ask_idx (P := Tryz.prog) (M := [o1, o8, o6, o7, o9]) (t := 57) (et := 9) (k := .i64) (lv := lvS) okS leS (by kernel_rfl) (by kernel_rfl) hx82) ?_
        refine H_askK (.pd (.str x81)) ([o1, o8, o6, o7, o9]) (by kernel_rfl) ?_
        refine H_askK (.ptr 4 0 0) ([o1, o8, o6, o7, o9]) (by kernel_rfl) ?_
        refine H_askK (.pd (.str ([121] : List UInt8))) ([o1, o8, o6, o7, o9]) (by kernel_rfl) ?_
        refine H_split (!(x81 == ([121] : List UInt8))) (by kernel_rfl) (fun hc => ?_) (fun hc => ?_)
        · replace h := h.t hc; clear hc
          refine H_drawF [2, 3, 4] (by kernel_rfl) ?_
          refine H_askK (.agg [.pd (.int .i64 0), .fixed (([] : List (Bool × (List Int) × (List Int))).map elABLU32LU32Z), .fixed (([] : List (Bool × (List Int) × (List Int))).map elABLU32LU32Z), .fixed (([] : List (Bool × (List Int) × (List Int))).map elABLU32LU32Z)]) ([o1, o8, o6, o7, o9]) (by kernel_rfl) ?_
          obtain ⟨x83, x84, hx85, h⟩ := h
          refine H_askall _ (by kernel_rfl) (fun M' => ask_idx (P := Tryz.prog) (M := M') (t := 105) (et := 109) (k := .i64) (lv := lvAI64LSZ) okAI64LSZ leAI64LSZ (by kernel_rfl) (by kernel_rfl) hx85) ?_
          refine H_askall (.rd [.int .i64 x83, .sl (x84.map elS)]) (f := fun M' => some (.rd [.int .i64 x83, .sl (x84.map elS)], M')) (by kernel_rfl) (fun _ => rfl) ?_
          refine H_askall (.pd (.int .i64 x83)) (f := fun M' => some (.pd (.int .i64 x83), M')) (by kernel_rfl) (fun _ => rfl) ?_
          refine H_askK (.junk) ([o1, o8, o6, o7, o9]) (by kernel_rfl) ?_
          exact H_end .ret (.tup [.agg [.pd (.int .i64 0), .pd (.sl (([] : List (Bool × (List Int) × (List Int))).map elABLU32LU32Z)), .pd (.sl (([] : List (Bool × (List Int) × (List Int))).map elABLU32LU32Z)), .pd (.sl (([] : List (Bool × (List Int) × (List Int))).map elABLU32LU32Z))], .pd (.int .i64 x83), .pd (.int .i64 2)]) (by kernel_rfl) rfl (by kernel_rfl) (by subst h; rfl)
        replace h := h.f hc; clear hc
        refine H_drawF [2, 3, 4] (by kernel_rfl) ?_
        refine H_askK (.agg [.pd (.int .i64 0), .fixed (([] : List (Bool × (List Int) × (List Int))).map elABLU32LU32Z), .fixed (([] : List (Bool × (List Int) × (List Int))).map elABLU32LU32Z), .fixed (([] : List (Bool × (List Int) × (List Int))).map elABLU32LU32Z)]) ([o1, o8, o6, o7, o9]) (by kernel_rfl) ?_
        obtain ⟨x86, x87, hx88, h⟩ := h
        refine H_askall _ (by kernel_rfl) (fun M' => ask_idx (P := Tryz.prog) (M := M') (t := 105) (et := 109) (k := .i64) (lv := lvAI64LSZ) okAI64LSZ leAI64LSZ (by kernel_rfl) (by kernel_rfl) hx88) ?_
        refine H_askall (.rd [.int .i64 x86, .sl (x87.map elS)]) (f := fun M' => some (.rd [.int .i64 x86, .sl (x87.map elS)], M')) (by kernel_rfl) (fun _ => rfl) ?_
        refine H_askall (.pd (.int .i64 x86)) (f := fun M' => some (.pd (.int .i64 x86), M')) (by kernel_rfl) (fun _ => rfl) ?_
        refine H_askK (.junk) ([o1, o8, o6, o7, o9]) (by kernel_rfl) ?_
        exact H_end .ret (.tup [.agg [.pd (.int .i64 0), .pd (.sl (([] : List (Bool × (List Int) × (List Int))).map elABLU32LU32Z)), .pd (.sl (([] : List (Bool × (List Int) × (List Int))).map elABLU32LU32Z)), .pd (.sl (([] : List (Bool × (List Int) × (List Int))).map elABLU32LU32Z))], .pd (.int .i64 x86), .pd (.int .i64 2)]) (by kernel_rfl) rfl (by kernel_rfl) (by subst h; rfl)
      replace h := h.t rfl
      refine H_draw (by kernel_rfl) ?_
      obtain ⟨x62, x63, hx64, h⟩ := h
      refine H_ask _ _ (by kernel_rfl) (ask_idx (P := Tryz.prog) (M := [o1, o8, o6, o7, o9]) (t := 105) (et := 109) (k := .i64) (lv := lvAI64LSZ) okAI64LSZ leAI64LSZ (by kernel_rfl) (by kernel_rfl) hx64) ?_
      refine H_askK (.rd [.sl (x63.map elS)]) ([o1, o8, o6, o7, o9]) (by kernel_rfl) ?_
      refine H_askK (.pd (.sl (x63.map elS))) ([o1, o8, o6, o7, o9]) (by kernel_rfl) ?_
      obtain ⟨x65, hx66, h⟩ := h
      refine H_ask _ _ (by kernel_rfl) (ask_idx (P := Tryz.prog) (M := [o1, o8, o6, o7, o9]) (t := 57) (et := 9) (k := .i64) (lv := lvS) okS leS (by kernel_rfl) (by kernel_rfl) hx66) ?_
      refine H_askK (.pd (.str x65)) ([o1, o8, o6, o7, o9]) (by kernel_rfl) ?_
      refine H_askK (.ptr 4 0 0) ([o1, o8, o6, o7, o9]) (by kernel_rfl) ?_
      refine H_askK (.pd (.str ([121] : List UInt8))) ([o1, o8, o6, o7, o9]) (by kernel_rfl) ?_
      refine H_split (!(x65 == ([121] : List UInt8))) (by kernel_rfl) (fun hc => ?_) (fun hc => ?_)
      · replace h := h.t hc; clear hc
        refine H_drawF [2, 3, 4] (by kernel_rfl) ?_
        refine H_askK (.agg [.pd (.int .i64 0), .fixed (([] : List (Bool × (List Int) × (List Int))).map elABLU32LU32Z), .fixed (([] : List (Bool × (List Int) × (List Int))).map elABLU32LU32Z), .fixed (([] : List (Bool × (List Int) × (List Int))).map elABLU32LU32Z)]) ([o1, o8, o6, o7, o9]) (by kernel_rfl) ?_
        obtain ⟨x67, x68, hx69, h⟩ := h
        refine H_askall _ (by kernel_rfl) (fun M' => ask_idx (P := Tryz.prog) (M := M') (t := 105) (et := 109) (k := .i64) (lv := lvAI64LSZ) okAI64LSZ leAI64LSZ (by kernel_rfl) (by kernel_rfl) hx69) ?_
        refine H_askall (.rd [.int .i64 x67, .sl (x68.map elS)]) (f := fun M' => some (.rd [.int .i64 x67, .sl (x68.map elS)], M')) (by kernel_rfl) (fun _ => rfl) ?_
        refine H_askall (.pd (.int .i64 x67)) (f := fun M' => some (.pd (.int .i64 x67), M')) (by kernel_rfl) (fun _ => rfl) ?_
        refine H_askK (.junk) ([o1, o8, o6, o7, o9]) (by kernel_rfl) ?_
        exact H_end .ret (.tup [.agg [.pd (.int .i64 0), .pd (.sl (([] : List (Bool × (List Int) × (List Int))).map elABLU32LU32Z)), .pd (.sl (([] : List (Bool × (List Int) × (List Int))).map elABLU32LU32Z)), .pd (.sl (([] : List (Bool × (List Int) × (List Int))).map elABLU32LU32Z))], .pd (.int .i64 x67), .pd (.int .i64 2)]) (by kernel_rfl) rfl (by kernel_rfl) (by subst h; rfl)
      replace h := h.f hc; clear hc
      refine H_askK (.ptr 4 2 0) ([o1, o8, o6, o7, o9]) (by kernel_rfl) ?_
      refine H_askK (.ptr 1 2 0) ([o1, o8, o6, o7, o9]) (by kernel_rfl) ?_
      refine H_askK (.ptr 1 2 0) ([o1, o8, o6, o7, o9]) (by kernel_rfl) ?_
      let o10 : Ob := .cells [.pd (.int .i64 s101), .pd (.sl (x39.map elABLU32LU32Z)), .pd (.sl (x59.map elABLU32LU32Z)), .fixed (([] : List (Bool × (List Int) × (List Int))).map elABLU32LU32Z)] 1 0 false
      refine H_askK (.junk) ([o1, o10, o6, o7, o9]) (by kernel_rfl) ?_
      refine H_draw (by kernel_rfl) ?_
      obtain ⟨x70, x71, hx72, h⟩ := h
      refine H_ask _ _ (by kernel_rfl) (ask_idx (P := Tryz.prog) (M := [o1, o10, o6, o7, o9]) (t := 105) (et := 109) (k := .i64) (lv := lvAI64LSZ) okAI64LSZ leAI64LSZ (by kernel_rfl) (by kernel_rfl) hx72) ?_
      refine H_askK (.rd [.int .i64 x70, .sl (x71.map elS)]) ([o1, o10, o6, o7, o9]) (by kernel_rfl) ?_
      refine H_askK (.pd (.int .i64 x70)) ([o1, o10, o6, o7, o9]) (by kernel_rfl) ?_
      obtain ⟨hx73, h⟩ := h
      refine H_ask _ _ (by kernel_rfl) (ask_sub (P := Tryz.prog) (M := [o1, o10, o6, o7, o9]) (t := 105) (et := 109) (lv := lvAI64LSZ) (lo := (some (1 : Int))) (hi := none) okAI64LSZ leAI64LSZ (by kernel_rfl) (by kernel_rfl) hx73) ?_
      refine H_split true (by kernel_rfl) (fun _ => ?_) (fun hc => by cases hc)
      refine H_askK (.agg [.pd (.str ([114, 97, 121] : List UInt8)), .pd (.bool false), .ptr 1 3 0]) ([o1, o10, o6, o7, o9]) (by kernel_rfl) ?_
      let o11 : Ob := .cells [.pd (.str ([114, 97, 121] : List UInt8)), .pd (.bool false), .ptr 1 3 0] 1 0 false
      let m12 : Mem := [o1, o10, o6, o7, o9, o11]
      refine H_askK (.junk) (m12) (by kernel_rfl) ?_
      refine H_askK (.ptr 5 1 0) (m12) (by kernel_rfl) ?_
      refine H_askK (.pd (.bool false)) (m12) (by kernel_rfl) ?_
      refine H_split false (by kernel_rfl) (fun hc => by cases hc) (fun _ => ?_)
      refine H_ask _ _ (by kernel_rfl) (ask_len (P := Tryz.prog) (M := m12) (t := 105) (et := 109) (el := elAI64LSZ) (by kernel_rfl) (e := (sub (sub (sub x1 (1 : Int) (x1.length : Int)) (1 : Int) ((sub x1 (1 : Int) (x1.length : Int)).length : Int)) (1 : Int) ((sub (sub x1 (1 : Int) (x1.length : Int)) (1 : Int) ((sub x1 (1 : Int) (x1.length : Int)).length : Int)).length : Int)))) ?_
      refine H_split (decide (((sub (sub (sub x1 (1 : Int) (x1.length : Int)) (1 : Int) ((sub x1 (1 : Int) (x1.length : Int)).length : Int)) (1 : Int) ((sub (sub x1 (1 : Int) (x1.length : Int)) (1 : Int) ((sub x1 (1 : Int) (x1.length : Int)).length : Int)).length : Int)).length : Int) > (0 : Int))) (by kernel_rfl) (fun hp74 => ?_) (fun hp74 => ?_)
      · replace h := h.t hp74
        refine H_drawF [2, 3, 4] (by kernel_rfl) ?_
        refine H_askK (.agg [.pd (.int .i64 0), .fixed (([] : List (Bool × (List Int) × (List Int))).map elABLU32LU32Z), .fixed (([] : List (Bool × (List Int) × (List Int))).map elABLU32LU32Z), .fixed (([] : List (Bool × (List Int) × (List Int))).map elABLU32LU32Z)]) (m12) (by kernel_rfl) ?_
        obtain ⟨x75, x76, hx77, h⟩ := h
        refine H_askall _ (by kernel_rfl) (fun M' => ask_idx (P := Tryz.prog) (M := M') (t := 105) (et := 109) (k := .i64) (lv := lvAI64LSZ) okAI64LSZ leAI64LSZ (by kernel_rfl) (by kernel_rfl) hx77) ?_
        refine H_askall (.rd [.int .i64 x75, .sl (x76.map elS)]) (f := fun M' => some (.rd [.int .i64 x75, .sl (x76.map elS)], M')) (by kernel_rfl) (fun _ => rfl) ?_
        refine H_askall (.pd (.int .i64 x75)) (f := fun M' => some (.pd (.int .i64 x75), M')) (by kernel_rfl) (fun _ => rfl) ?_
        refine H_askK (.junk) (m12) (by kernel_rfl) ?_
        exact H_end .ret (.tup [.agg [.pd (.int .i64 0), .pd (.sl (([] : List (Bool × (List Int) × (List Int))).map elABLU32LU32Z)), .pd (.sl (([] : List (Bool × (List Int) × (List Int))).map elABLU32LU32Z)), .pd (.sl (([] : List (Bool × (List Int) × (List Int))).map elABLU32LU32Z))], .pd (.int .i64 x75), .pd (.int .i64 2)]) (by kernel_rfl) rfl (by kernel_rfl) (by subst h; rfl)
      replace h := h.f hp74
      refine H_askK (.agg [.pd (.int .i64 s101), .pd (.sl (x39.map elABLU32LU32Z)), .pd (.sl (x59.map elABLU32LU32Z)), .fixed (([] : List (Bool × (List Int) × (List Int))).map elABLU32LU32Z)]) (m12) (by kernel_rfl) ?_
      let m13 : Mem := [o10, o10, o6, o7, o9, o11]
      refine H_askK (.junk) (m13) (by kernel_rfl) ?_
      exact H_end .ret (.tup [.agg [.pd (.int .i64 s101), .pd (.sl (x39.map elABLU32LU32Z)), .pd (.sl (x59.map elABLU32LU32Z)), .pd (.sl (([] : List (Bool × (List Int) × (List Int))).map elABLU32LU32Z))], .pd (.int .i64 0), .pd (.int .i64 0)]) (by kernel_rfl) rfl (by kernel_rfl) (by subst h; rfl)
    replace h := h.f hp33
    refine H_askK (.ptr 1 0 0) ([o1, o4, o5]) (by kernel_rfl) ?_
    refine H_askK (.ptr 1 2 0) ([o1, o4, o5]) (by kernel_rfl) ?_
    refine H_askK (.agg [.pd (.str ([121] : List UInt8)), .pd (.bool false), .ptr 1 2 0]) ([o1, o4, o5]) (by kernel_rfl) ?_
    refine H_askK (.ptr 1 0 0) ([o1, o4, o5]) (by kernel_rfl) ?_
    refine H_askK (.ptr 1 0 0) ([o1, o4, o5]) (by kernel_rfl) ?_
    refine H_askK (.pd (.int .i64 s101)) ([o1, o4, o5]) (by kernel_rfl) ?_
    refine H_split (s101 == (3 : Int)) (by kernel_rfl) (fun _ => ?_) (fun hc => by simp only [decide_eq_true_eq, decide_eq_false_iff_not, beq_iff_eq, bne_iff_ne, beq_eq_false_iff_ne, bne_eq_false_iff_eq, ne_eq] at hp33 hc; omega)
    refine H_askK (.ptr 1 0 0) ([o1, o4, o5]) (by kernel_rfl) ?_
    refine H_askK (.ptr 1 3 0) ([o1, o4, o5]) (by kernel_rfl) ?_
    refine H_askK (.agg [.pd (.str ([114, 97, 121] : List UInt8)), .pd (.bool true), .ptr 1 3 0]) ([o1, o4, o5]) (by kernel_rfl) ?_
    refine H_askK (.agg [.pd (.str ([120] : List UInt8)), .pd (.bool true), .ptr 1 1 0, .pd (.str ([121] : List UInt8)), .pd (.bool false), .ptr 1 2 0, .pd (.str ([114, 97, 121] : List UInt8)), .pd (.bool true), .ptr 1 3 0]) ([o1, o4, o5]) (by kernel_rfl) ?_
    let o14 : Ob := .cells [.pd (.str ([120] : List UInt8)), .pd (.bool true), .ptr 1 1 0, .pd (.str ([121] : List UInt8)), .pd (.bool false), .ptr 1 2 0, .pd (.str ([114, 97, 121] : List UInt8)), .pd (.bool true), .ptr 1 3 0] 1 0 false
    refine H_askK (.junk) ([o1, o4, o14]) (by kernel_rfl) ?_
    refine H_endM .ret (.agg [.pd (.str ([120] : List UInt8)), .pd (.bool true), .ptr 1 1 0, .pd (.str ([121] : List UInt8)), .pd (.bool false), .ptr 1 2 0, .pd (.str ([114, 97, 121] : List UInt8)), .pd (.bool true), .ptr 1 3 0]) ([o1, o4, o14]) (by kernel_rfl) rfl (by kernel_rfl) (by kernel_rfl) (by kernel_rfl) ?_
    refine H_unroll 4 mixedT (askG [9, 10, 11] false) (by kernel_rfl) ?_
    refine H_split true (by kernel_rfl) (fun _ => ?_) (fun hc => by cases hc)
    refine H_askK (.agg [.pd (.str ([120] : List UInt8)), .pd (.bool true), .ptr 1 1 0]) ([o1, o4, o14]) (by kernel_rfl) ?_
    let o15 : Ob := .cells [.pd (.str ([120] : List UInt8)), .pd (.bool true), .ptr 1 1 0] 1 0 false
    refine H_askK (.junk) ([o1, o4, o14, o15]) (by kernel_rfl) ?_
    refine H_askK (.ptr 3 1 0) ([o1, o4, o14, o15]) (by kernel_rfl) ?_
    refine H_askK (.pd (.bool true)) ([o1, o4, o14, o15]) (by kernel_rfl) ?_
    refine H_ask _ _ (by kernel_rfl) (ask_len (P := Tryz.prog) (M := [o1, o4, o14, o15]) (t := 105) (et := 109) (el := elAI64LSZ) (by kernel_rfl) (e := (sub x1 (1 : Int) (x1.length : Int)))) ?_
    refine H_split (((sub x1 (1 : Int) (x1.length : Int)).length : Int) == (0 : Int)) (by kernel_rfl) (fun hp100 => ?_) (fun hp100 => ?_)
    · replace h := h.t hp100
      refine H_askK (.agg [.pd (.int .i64 0), .fixed (([] : List (Bool × (List Int) × (List Int))).map elABLU32LU32Z), .fixed (([] : List (Bool × (List Int) × (List Int))).map elABLU32LU32Z), .fixed (([] : List (Bool × (List Int) × (List Int))).map elABLU32LU32Z)]) ([o1, o4, o14, o15]) (by kernel_rfl) ?_
      refine H_askK (.junk) ([o1, o4, o14, o15]) (by kernel_rfl) ?_
      exact H_end .ret (.tup [.agg [.pd (.int .i64 0), .pd (.sl (([] : List (Bool × (List Int) × (List Int))).map elABLU32LU32Z)), .pd (.sl (([] : List (Bool × (List Int) × (List Int))).map elABLU32LU32Z)), .pd (.sl (([] : List (Bool × (List Int) × (List Int))).map elABLU32LU32Z))], .pd (.int .i64 x28), .pd (.int .i64 2)]) (by kernel_rfl) rfl (by kernel_rfl) (by subst h; rfl)
    replace h := h.f hp100
    obtain ⟨x101, x102, hx103, h⟩ := h
    refine H_ask _ _ (by kernel_rfl) (ask_idx (P := Tryz.prog) (M := [o1, o4, o14, o15]) (t := 105) (et := 109) (k := .i64) (lv := lvAI64LSZ) okAI64LSZ leAI64LSZ (by kernel_rfl) (by kernel_rfl) hx103) ?_
    refine H_askK (.rd [.sl (x102.map elS)]) ([o1, o4, o14, o15]) (by kernel_rfl) ?_
    refine H_askK (.pd (.sl (x102.map elS))) ([o1, o4, o14, o15]) (by kernel_rfl) ?_
    obtain ⟨hx104, h⟩ := h
    refine H_ask _ _ (by kernel_rfl) (ask_sub (P := Tryz.prog) (M := [o1, o4, o14, o15]) (t := 57) (et := 9) (lv := lvS) (lo := (some (1 : Int))) (hi := none) okS leS (by kernel_rfl) (by kernel_rfl) hx104) ?_
    obtain ⟨x105, x106, hx107, h⟩ := h
    refine H_valW (g := 62) (args := [.pd (.sl ((sub x102 (1 : Int) (x102.length : Int)).map elS))]) (M := [o1, o4, o14, o15]) (.tup [.pd (.sl (x105.map elABLU32LU32Z)), .pd (.bool x106)]) (.inl (by kernel_rfl)) (by kernel_rfl) (proof_numbers_ok m _ hx107) (by kernel_rfl) (hasT 62 (by kernel_rfl)) ?_
    cases x106
    · replace h := h.f rfl
      refine H_draw (by kernel_rfl) ?_
      obtain ⟨x155, x156, hx157, h⟩ := h
      refine H_ask _ _ (by kernel_rfl) (ask_idx (P := Tryz.prog) (M := [o1, o4, o14, o15]) (t := 105) (et := 109) (k := .i64) (lv := lvAI64LSZ) okAI64LSZ leAI64LSZ (by kernel_rfl) (by kernel_rfl) hx157) ?_
      refine H_askK (.rd [.sl (x156.map elS)]) ([o1, o4, o14, o15]) (by kernel_rfl) ?_
      refine H_askK (.pd (.sl (x156.map elS))) ([o1, o4, o14, o15]) (by kernel_rfl) ?_
      obtain ⟨x158, hx159, h⟩ := h
      refine H_ask _ _ (by kernel_rfl) (ask_idx (P := Tryz.prog) (M := [o1, o4, o14, o15]) (t := 57) (et := 9) (k := .i64) (lv := lvS) okS leS (by kernel_rfl) (by kernel_rfl) hx159) ?_
      refine H_askK (.pd (.str x158)) ([o1, o4, o14, o15]) (by kernel_rfl) ?_
      refine H_askK (.ptr 3 0 0) ([o1, o4, o14, o15]) (by kernel_rfl) ?_
      refine H_askK (.pd (.str ([120] : List UInt8))) ([o1, o4, o14, o15]) (by kernel_rfl) ?_
      refine H_split (!(x158 == ([120] : List UInt8))) (by kernel_rfl) (fun hc => ?_) (fun hc => ?_)
      · replace h := h.t hc; clear hc
        refine H_drawF [2, 3, 4] (by kernel_rfl) ?_
        refine H_askK (.agg [.pd (.int .i64 0), .fixed (([] : List (Bool × (List Int) × (List Int))).map elABLU32LU32Z), .fixed (([] : List (Bool × (List Int) × (List Int))).map elABLU32LU32Z), .fixed (([] : List (Bool × (List Int) × (List Int))).map elABLU32LU32Z)]) ([o1, o4, o14, o15]) (by kernel_rfl) ?_
        obtain ⟨x160, x161, hx162, h⟩ := h
        refine H_askall _ (by kernel_rfl) (fun M' => ask_idx (P := Tryz.prog) (M := M') (t := 105) (et := 109) (k := .i64) (lv := lvAI64LSZ) okAI64LSZ leAI64LSZ (by kernel_rfl) (by kernel_rfl) hx162) ?_
        refine H_askall (.rd [.int .i64 x160, .sl (x161.map elS)]) (f := fun M' => some (.rd [.int .i64 x160, .sl (x161.map elS)], M')) (by kernel_rfl) (fun _ => rfl) ?_
        refine H_askall (.pd (.int .i64 x160)) (f := fun M' => some (.pd (.int .i64 x160), M')) (by kernel_rfl) (fun _ => rfl) ?_
        refine H_askK (.junk) ([o1, o4, o14, o15]) (by kernel_rfl) ?_
        exact H_end .ret (.tup [.agg [.pd (.int .i64 0), .pd (.sl (([] : List (Bool × (List Int) × (List Int))).map elABLU32LU32Z)), .pd (.sl (([] : List (Bool × (List Int) × (List Int))).map elABLU32LU32Z)), .pd (.sl (([] : List (Bool × (List Int) × (List Int))).map elABLU32LU32Z))], .pd (.int .i64 x160), .pd (.int .i64 2)]) (by kernel_rfl) rfl (by kernel_rfl) (by subst h; rfl)
      replace h := h.f hc; clear hc
      refine H_drawF [2, 3, 4] (by kernel_rfl) ?_
      refine H_askK (.agg [.pd (.int .i64 0), .fixed (([] : List (Bool × (List Int) × (List Int))).map elABLU32LU32Z), .fixed (([] : List (Bool × (List Int) × (List Int))).map elABLU32LU32Z), .fixed (([] : List (Bool × (List Int) × (List Int))).map elABLU32LU32Z)]) ([o1, o4, o14, o15]) (by kernel_rfl) ?_
      obtain ⟨x163, x164, hx165, h⟩ := h
      refine H_askall _ (by kernel_rfl) (fun M' => ask_idx (P := Tryz.prog) (M := M') (t := 105) (et := 109) (k := .i64) (lv := lvAI64LSZ) okAI64LSZ leAI64LSZ (by kernel_rfl) (by kernel_rfl) hx165) ?_
      refine H_askall (.rd [.int .i64 x163, .sl (x164.map elS)]) (f := fun M' => some (.rd [.int .i64 x163, .sl (x164.map elS)], M')) (by kernel_rfl) (fun _ => rfl) ?_
      refine H_askall (.pd (.int .i64 x163)) (f := fun M' => some (.pd (.int .i64 x163), M')) (by kernel_rfl) (fun _ => rfl) ?_
      refine H_askK (.junk) ([o1, o4, o14, o15]) (by kernel_rfl) ?_
      exact H_end .ret (.tup [.agg [.pd (.int .i64 0), .pd (.sl (([] : List (Bool × (List Int) × (List Int))).map elABLU32LU32Z)), .pd (.sl (([] : List (Bool × (List Int) × (List Int))).map elABLU32LU32Z)), .pd (.sl (([] : List (Bool × (List Int) × (List Int))).map elABLU32LU32Z))], .pd (.int .i64 x163), .pd (.int .i64 2)]) (by kernel_rfl) rfl (by kernel_rfl) (by subst h; rfl)
    replace h := h.t rfl
    refine H_draw (by kernel_rfl) ?_
    obtain ⟨x108, x109, hx110, h⟩ := h
    refine H_ask _ _ (by kernel_rfl) (ask_idx (P := Tryz.prog) (M := [o1, o4, o14, o15]) (t := 105) (et := 109) (k := .i64) (lv := lvAI64LSZ) okAI64LSZ leAI64LSZ (by kernel_rfl) (by kernel_rfl) hx110) ?_
    refine H_askK (.rd [.sl (x109.map elS)]) ([o1, o4, o14, o15]) (by kernel_rfl) ?_
    refine H_askK (.pd (.sl (x109.map elS))) ([o1, o4, o14, o15]) (by kernel_rfl) ?_
    obtain ⟨x111, hx112, h⟩ := h
    refine H_ask _ _ (by kernel_rfl) (ask_idx (P := Tryz.prog) (M := [o1, o4, o14, o15]) (t := 57) (et := 9) (k := .i64) (lv := lvS) okS leS (by kernel_rfl) (by kernel_rfl) hx112) ?_
    refine H_askK (.pd (.str x111)) ([o1, o4, o14, o15]) (by kernel_rfl) ?_
    refine H_askK (.ptr 3 0 0) ([o1, o4, o14, o15]) (by kernel_rfl) ?_
    refine H_askK (.pd (.str ([120] : List UInt8))) ([o1, o4, o14, o15]) (by kernel_rfl) ?_
    refine H_split (!(x111 == ([120] : List UInt8))) (by kernel_rfl) (fun hc => ?_) (fun hc => ?_)
    · replace h := h.t hc; clear hc
      refine H_drawF [2, 3, 4] (by kernel_rfl) ?_
      refine H_askK (.agg [.pd (.int .i64 0), .fixed (([] : List (Bool × (List Int) × (List Int))).map elABLU32LU32Z), .fixed (([] : List (Bool × (List Int) × (List Int))).map elABLU32LU32Z), .fixed (([] : List (Bool × (List Int) × (List Int))).map elABLU32LU32Z)]) ([o1, o4, o14, o15]) (by kernel_rfl) ?_
      obtain ⟨x113, x114, hx115, h⟩ := h
      refine H_askall _ (by kernel_rfl) (fun M' => ask_idx (P := Tryz.prog) (M := M') (t := 105) (et := 109) (k := .i64) (lv := lvAI64LSZ) okAI64LSZ leAI64LSZ (by kernel_rfl) (by kernel_rfl) hx115) ?_
      refine H_askall (.rd [.int .i64 x113, .sl (x114.map elS)]) (f := fun M' => some (.rd [.int .i64 x113, .sl (x114.map elS)], M')) (by kernel_rfl) (fun _ => rfl) ?_
      refine H_askall (.pd (.int .i64 x113)) (f := fun M' => some (.pd (.int .i64 x113), M')) (by kernel_rfl) (fun _ => rfl) ?_
      refine H_askK (.junk) ([o1, o4, o14, o15]) (by kernel_rfl) ?_
      exact H_end .ret (.tup [.agg [.pd (.int .i64 0), .pd (.sl (([] : List (Bool × (List Int) × (List Int))).map elABLU32LU32Z)), .pd (.sl (([] : List (Bool × (List Int) × (List Int))).map elABLU32LU32Z)), .pd (.sl (([] : List (Bool × (List Int) × (List Int))).map elABLU32LU32Z))], .pd (.int .i64 x113), .pd (.int .i64 2)]) (by kernel_rfl) rfl (by kernel_rfl) (by subst h; rfl)
    replace h := h.f hc; clear hc
    refine H_askK (.ptr 3 2 0) ([o1, o4, o14, o15]) (by kernel_rfl) ?_
    refine H_askK (.ptr 1 1 0) ([o1, o4, o14, o15]) (by kernel_rfl) ?_
    refine H_askK (.ptr 1 1 0) ([o1, o4, o14, o15]) (by kernel_rfl) ?_
    let o16 : Ob := .cells [.pd (.int .i64 s101), .pd (.sl (x105.map elABLU32LU32Z)), .fixed (([] : List (Bool × (List Int) × (List Int))).map elABLU32LU32Z), .fixed (([] : List (Bool × (List Int) × (List Int))).map elABLU32LU32Z)] 1 0 false
    refine H_askK (.junk) ([o1, o16, o14, o15]) (by kernel_rfl) ?_
    refine H_draw (by kernel_rfl) ?_
    obtain ⟨x116, x117, hx118, h⟩ := h
    refine H_ask _ _ (by kernel_rfl) (ask_idx (P := Tryz.prog) (M := [o1, o16, o14, o15]) (t := 105) (et := 109) (k := .i64) (lv := lvAI64LSZ) okAI64LSZ leAI64LSZ (by kernel_rfl) (by kernel_rfl) hx118) ?_
    refine H_askK (.rd [.int .i64 x116, .sl (x117.map elS)]) ([o1, o16, o14, o15]) (by kernel_rfl) ?_
    refine H_askK (.pd (.int .i64 x116)) ([o1, o16, o14, o15]) (by kernel_rfl) ?_
    obtain ⟨hx119, h⟩ := h
    refine H_ask _ _ (by kernel_rfl) (ask_sub (P := Tryz.prog) (M := [o1, o16, o14, o15]) (t := 105) (et := 109) (lv := lvAI64LSZ) (lo := (some (1 : Int))) (hi := none) okAI64LSZ leAI64LSZ (by kernel_rfl) (by kernel_rfl) hx119) ?_
    refine H_split true (by kernel_rfl) (fun _ => ?_) (fun hc => by cases hc)
    refine H_askK (.agg [.pd (.str ([121] : List UInt8)), .pd (.bool false), .ptr 1 2 0]) ([o1, o16, o14, o15]) (by kernel_rfl) ?_
    let o17 : Ob := .cells [.pd (.str ([121] : List UInt8)), .pd (.bool false), .ptr 1 2 0] 1 0 false
    let m18 : Mem := [o1, o16, o14, o15, o17]
    refine H_askK (.junk) (m18) (by kernel_rfl) ?_
    refine H_askK (.ptr 4 1 0) (m18) (by kernel_rfl) ?_
    refine H_askK (.pd (.bool false)) (m18) (by kernel_rfl) ?_
    refine H_split true (by kernel_rfl) (fun _ => ?_) (fun hc => by cases hc)
    refine H_askK (.agg [.pd (.str ([114, 97, 121] : List UInt8)), .pd (.bool true), .ptr 1 3 0]) (m18) (by kernel_rfl) ?_
    let o19 : Ob := .cells [.pd (.str ([114, 97, 121] : List UInt8)), .pd (.bool true), .ptr 1 3 0] 1 0 false
    let m20 : Mem := [o1, o16, o14, o15, o17, o19]
    refine H_askK (.junk) (m20) (by kernel_rfl) ?_
    refine H_askK (.ptr 5 1 0) (m20) (by kernel_rfl) ?_
    refine H_askK (.pd (.bool true)) (m20) (by kernel_rfl) ?_
    refine H_ask _ _ (by kernel_rfl) (ask_len (P := Tryz.prog) (M := m20) (t := 105) (et := 109) (el := elAI64LSZ) (by kernel_rfl) (e := (sub (sub x1 (1 : Int) (x1.length : Int)) (1 : Int) ((sub x1 (1 : Int) (x1.length : Int)).length : Int)))) ?_
    refine H_split (((sub (sub x1 (1 : Int) (x1.length : Int)) (1 : Int) ((sub x1 (1 : Int) (x1.length : Int)).length : Int)).length : Int) == (0 : Int)) (by kernel_rfl) (fun hp120 => ?_) (fun hp120 => ?_)
    · replace h := h.t hp120
      refine H_askK (.agg [.pd (.int .i64 0), .fixed (([] : List (Bool × (List Int) × (List Int))).map elABLU32LU32Z), .fixed (([] : List (Bool × (List Int) × (List Int))).map elABLU32LU32Z), .fixed (([] : List (Bool × (List Int) × (List Int))).map elABLU32LU32Z)]) (m20) (by kernel_rfl) ?_
      refine H_askK (.junk) (m20) (by kernel_rfl) ?_
      exact H_end .ret (.tup [.agg [.pd (.int .i64 0), .pd (.sl (([] : List (Bool × (List Int) × (List Int))).map elABLU32LU32Z)), .pd (.sl (([] : List (Bool × (List Int) × (List Int))).map elABLU32LU32Z)), .pd (.sl (([] : List (Bool × (List Int) × (List Int))).map elABLU32LU32Z))], .pd (.int .i64 x116), .pd (.int .i64 2)]) (by kernel_rfl) rfl (by kernel_rfl) (by subst h; rfl)
    replace h := h.f hp120
    obtain ⟨x121, x122, hx123, h⟩ := h
    refine H_ask _ _ (by kernel_rfl) (ask_idx (P := Tryz.prog) (M := m20) (t := 105) (et := 109) (k := .i64) (lv := lvAI64LSZ) okAI64LSZ leAI64LSZ (by kernel_rfl) (by kernel_rfl) hx123) ?_
    refine H_askK (.rd [.sl (x122.map elS)]) (m20) (by kernel_rfl) ?_
    refine H_askK (.pd (.sl (x122.map elS))) (m20) (by kernel_rfl) ?_
    obtain ⟨hx124, h⟩ := h
    refine H_ask _ _ (by kernel_rfl) (ask_sub (P := Tryz.prog) (M := m20) (t := 57) (et := 9) (lv := lvS) (lo := (some (1 : Int))) (hi := none) okS leS (by kernel_rfl) (by kernel_rfl) hx124) ?_
    obtain ⟨x125, x126, hx127, h⟩ := h
    refine H_valW (g := 62) (args := [.pd (.sl ((sub x122 (1 : Int) (x122.length : Int)).map elS))]) (M := m20) (.tup [.pd (.sl (x125.map elABLU32LU32Z)), .pd (.bool x126)]) (.inl (by kernel_rfl)) (by kernel_rfl) (proof_numbers_ok m _ hx127) (by kernel_rfl) (hasT 62 (by kernel_rfl)) ?_
    cases x126
    · replace h := h.f rfl
      refine H_draw (by kernel_rfl) ?_
      obtain ⟨x144, x145, hx146, h⟩ := h
      refine H_ask _ _ (by kernel_rfl) (ask_idx (P := Tryz.prog) (M := m20) (t := 105) (et := 109) (k := .i64) (lv := lvAI64LSZ) okAI64LSZ leAI64LSZ (by kernel_rfl) (by kernel_rfl) hx146) ?_
      refine H_askK (.rd [.sl (x145.map elS)]) (m20) (by kernel_rfl) ?_
      refine H_askK (.pd (.sl (x145.map elS))) (m20) (by kernel_rfl) ?_
      obtain ⟨x147, hx148, h⟩ := h
      refine H_ask _ _ (by kernel_rfl) (ask_idx (P := Tryz.prog) (M := m20) (t := 57) (et := 9) (k := .i64) (lv := lvS) okS leS (by kernel_rfl) (by kernel_rfl) hx148) ?_
      refine H_askK (.pd (.str x147)) (m20) (by kernel_rfl) ?_
      refine H_askK (.ptr 5 0 0) (m20) (by kernel_rfl) ?_
      refine H_askK (.pd (.str ([114, 97, 121] : List UInt8))) (m20) (by kernel_rfl) ?_
      refine H_split (!(x147 == ([114, 97, 121] : List UInt8))) (by kernel_rfl) (fun hc => ?_) (fun hc => ?_)
      · replace h := h.t hc; clear hc
        refine H_drawF [2, 3, 4] (by kernel_rfl) ?_
        refine H_askK (.agg [.pd (.int .i64 0), .fixed (([] : List (Bool × (List Int) × (List Int))).map elABLU32LU32Z), .fixed (([] : List (Bool × (List Int) × (List Int))).map elABLU32LU32Z), .fixed (([] : List (Bool × (List Int) × (List Int))).map elABLU32LU32Z)]) (m20) (by kernel_rfl) ?_
        obtain ⟨x149, x150, hx151, h⟩ := h
        refine H_askall _ (by kernel_rfl) (fun M' => ask_idx (P := Tryz.prog) (M := M') (t := 105) (et := 109) (k := .i64) (lv := lvAI64LSZ) okAI64LSZ leAI64LSZ (by kernel_rfl) (by kernel_rfl) hx151) ?_
        refine H_askall (.rd [.int .i64 x149, .sl (x150.map elS)]) (f := fun M' => some (.rd [.int .i64 x149, .sl (x150.map elS)], M')) (by kernel_rfl) (fun _ => rfl) ?_
        refine H_askall (.pd (.int .i64 x149)) (f := fun M' => some (.pd (.int .i64 x149), M')) (by kernel_rfl) (fun _ => rfl) ?_
        refine H_askK (.junk) (m20) (by kernel_rfl) ?_
        exact H_end .ret (.tup [.agg [.pd (.int .i64 0), .pd (.sl (([] : List (Bool × (List Int) × (List Int))).map elABLU32LU32Z)), .pd (.sl (([] : List (Bool × (List Int) × (List Int))).map elABLU32LU32Z)), .pd (.sl (([] : List (Bool × (List Int) × (List Int))).map elABLU32LU32Z))], .pd (.int .i64 x149), .pd (.int .i64 2)]) (by kernel_rfl) rfl (by kernel_rfl) (by subst h; rfl)
      replace h := h.f hc; clear hc
      refine H_drawF [2, 3, 4] (by kernel_rfl) ?_
      refine H_askK (.agg [.pd (.int .i64 0), .fixed (([] : List (Bool × (List Int) × (List Int))).map elABLU32LU32Z), .fixed (([] : List (Bool × (List Int) × (List Int))).map elABLU32LU32Z), .fixed (([] : List (Bool × (List Int) × (List Int))).map elABLU32LU32Z)]) (m20) (by kernel_rfl) ?_
      obtain ⟨x152, x153, hx154, h⟩ := h
      refine H_askall _ (by kernel_rfl) (fun M' => ask_idx (P := Tryz.prog) (M := M') (t := 105) (et := 109) (k := .i64) (lv := lvAI64LSZ) okAI64LSZ leAI64LSZ (by kernel_rfl) (by kernel_rfl) hx154) ?_
      refine H_askall (.rd [.int .i64 x152, .sl (x153.map elS)]) (f := fun M' => some (.rd [.int .i64 x152, .sl (x153.map elS)], M')) (by kernel_rfl) (fun _ => rfl) ?_
      refine H_askall (.pd (.int .i64 x152)) (f := fun M' => some (.pd (.int .i64 x152), M')) (by kernel_rfl) (fun _ => rfl) ?_
      refine H_askK (.junk) (m20) (by kernel_rfl) ?_
      exact H_end .ret (.tup [.agg [.pd (.int .i64 0), .pd (.sl (([] : List (Bool × (List Int) × (List Int))).map elABLU32LU32Z)), .pd (.sl (([] : List (Bool × (List Int) × (List Int))).map elABLU32LU32Z)), .pd (.sl (([] : List (Bool × (List Int) × (List Int))).map elABLU32LU32Z))], .pd (.int .i64 x152), .pd (.int .i64 2)]) (by kernel_rfl) rfl (by kernel_rfl) (by subst h; rfl)
    replace h := h.t rfl
    refine H_draw (by kernel_rfl) ?_
    obtain ⟨x128, x129, hx130, h⟩ := h
    refine H_ask _ _ (by kernel_rfl) (ask_idx (P := Tryz.prog) (M := m20) (t := 105) (et := 109) (k := .i64) (lv := lvAI64LSZ) okAI64LSZ leAI64LSZ (by kernel_rfl) (by kernel_rfl) hx130) ?_
    refine H_askK (.rd [.sl (x129.map elS)]) (m20) (by kernel_rfl) ?_
    refine H_askK (.pd (.sl (x129.map elS))) (m20) (by kernel_rfl) ?_
    obtain ⟨x131, hx132, h⟩ := h
    refine H_ask _ _ (by kernel_rfl) (ask_idx (P := Tryz.prog) (M := m20) (t := 57) (et := 9) (k := .i64) (lv := lvS) okS leS (by kernel_rfl) (by kernel_rfl) hx132) ?_
    refine H_askK (.pd (.str x131)) (m20) (by kernel_rfl) ?_
    refine H_askK (.ptr 5 0 0) (m20) (by kernel_rfl) ?_
    refine H_askK (.pd (.str ([114, 97, 121] : List UInt8))) (m20) (by kernel_rfl) ?_
    refine H_split (!(x131 == ([114, 97, 121] : List UInt8))) (by kernel_rfl) (fun hc => ?_) (fun hc => ?_)
    · replace h := h.t hc; clear hc
      refine H_drawF [2, 3, 4] (by kernel_rfl) ?_
      refine H_askK (.agg [.pd (.int .i64 0), .fixed (([] : List (Bool × (List Int) × (List Int))).map elABLU32LU32Z), .fixed (([] : List (Bool × (List Int) × (List Int))).map elABLU32LU32Z), .fixed (([] : List (Bool × (List Int) × (List Int))).map elABLU32LU32Z)]) (m20) (by kernel_rfl) ?_
      obtain ⟨x133, x134, hx135, h⟩ := h
      refine H_askall _ (by kernel_rfl) (fun M' => ask_idx (P := Tryz.prog) (M := M') (t := 105) (et := 109) (k := .i64) (lv := lvAI64LSZ) okAI64LSZ leAI64LSZ (by kernel_rfl) (by kernel_rfl) hx135) ?_
      refine H_askall (.rd [.int .i64 x133, .sl (x134.map elS)]) (f := fun M' => some (.rd [.int .i64 x133, .sl (x134.map elS)], M')) (by kernel_rfl) (fun _ => rfl) ?_
      refine H_askall (.pd (.int .i64 x133)) (f := fun M' => some (.pd (.int .i64 x133), M')) (by kernel_rfl) (fun _ => rfl) ?_
      refine H_askK (.junk) (m20) (by kernel_rfl) ?_
      exact H_end .ret (.tup [.agg [.pd (.int .i64 0), .pd (.sl (([] : List (Bool × (List Int) × (List Int))).map elABLU32LU32Z)), .pd (.sl (([] : List (Bool × (List Int) × (List Int))).map elABLU32LU32Z)), .pd (.sl (([] : List (Bool × (List Int) × (List Int))).map elABLU32LU32Z))], .pd (.int .i64 x133), .pd (.int .i64 2)]) (by kernel_rfl) rfl (by kernel_rfl) (by subst h; rfl)
    replace h := h.f hc; clear hc
    refine H_askK (.ptr 5 2 0) (m20) (by kernel_rfl) ?_
    refine H_askK (.ptr 1 3 0) (m20) (by kernel_rfl) ?_
    refine H_askK (.ptr 1 3 0) (m20) (by kernel_rfl) ?_
    let o21 : Ob := .cells [.pd (.int .i64 s101), .pd (.sl (x105.map elABLU32LU32Z)), .fixed (([] : List (Bool × (List Int) × (List Int))).map elABLU32LU32Z), .pd (.sl (x125.map elABLU32LU32Z))] 1 0 false
    let m22 : Mem := [o1, o21, o14, o15, o17, o19]
    refine H_askK (.junk) (m22) (by kernel_rfl) ?_
    refine H_draw (by kernel_rfl) ?_
    obtain ⟨x136, x137, hx138, h⟩ := h
    refine H_ask _ _ (by kernel_rfl) (ask_idx (P := Tryz.prog) (M := m22) (t := 105) (et := 109) (k := .i64) (lv := lvAI64LSZ) okAI64LSZ leAI64LSZ (by kernel_rfl) (by kernel_rfl) hx138) ?_
    refine H_askK (.rd [.int .i64 x136, .sl (x137.map elS)]) (m22) (by kernel_rfl) ?_
    refine H_askK (.pd (.int .i64 x136)) (m22) (by kernel_rfl) ?_
    obtain ⟨hx139, h⟩ := h
    refine H_ask _ _ (by kernel_rfl) (ask_sub (P := Tryz.prog) (M := m22) (t := 105) (et := 109) (lv := lvAI64LSZ) (lo := (some (1 : Int))) (hi := none) okAI64LSZ leAI64LSZ (by kernel_rfl) (by kernel_rfl) hx139) ?_
    refine H_split false (by kernel_rfl) (fun hc => by cases hc) (fun _ => ?_)
    refine H_ask _ _ (by kernel_rfl) (ask_len (P := Tryz.prog) (M := m22) (t := 105) (et := 109) (el := elAI64LSZ) (by kernel_rfl) (e := (sub (sub (sub x1 (1 : Int) (x1.length : Int)) (1 : Int) ((sub x1 (1 : Int) (x1.length : Int)).length : Int)) (1 : Int) ((sub (sub x1 (1 : Int) (x1.length : Int)) (1 : Int) ((sub x1 (1 : Int) (x1.length : Int)).length : Int)).length : Int)))) ?_
    refine H_split (decide (((sub (sub (sub x1 (1 : Int) (x1.length : Int)) (1 : Int) ((sub x1 (1 : Int) (x1.length : Int)).length : Int)) (1 : Int) ((sub (sub x1 (1 : Int) (x1.length : Int)) (1 : Int) ((sub x1 (1 : Int) (x1.length : Int)).length : Int)).length : Int)).length : Int) > (0 : Int))) (by kernel_rfl) (fun hp140 => ?_) (fun hp140 => ?_)
    · replace h := h.t hp140
      refine H_drawF [2, 3, 4] (by kernel_rfl) ?_
      refine H_askK (.agg [.pd (.int .i64 0), .fixed (([] : List (Bool × (List Int) × (List Int))).map elABLU32LU32Z), .fixed (([] : List (Bool × (List Int) × (List Int))).map elABLU32LU32Z), .fixed (([] : List (Bool × (List Int) × (List Int))).map elABLU32LU32Z)]) (m22) (by kernel_rfl) ?_
      obtain ⟨x141, x142, hx143, h⟩ := h
      refine H_askall _ (by kernel_rfl) (fun M' => ask_idx (P := Tryz.prog) (M := M') (t := 105) (et := 109) (k := .i64) (lv := lvAI64LSZ) okAI64LSZ leAI64LSZ (by kernel_rfl) (by kernel_rfl) hx143) ?_
      refine H_askall (.rd [.int .i64 x141, .sl (x142.map elS)]) (f := fun M' => some (.rd [.int .i64 x141, .sl (x142.map elS)], M')) (by kernel_rfl) (fun _ => rfl) ?_
      refine H_askall (.pd (.int .i64 x141)) (f := fun M' => some (.pd (.int .i64 x141), M')) (by kernel_rfl) (fun _ => rfl) ?_
      refine H_askK (.junk) (m22) (by kernel_rfl) ?_
      exact H_end .ret (.tup [.agg [.pd (.int .i64 0), .pd (.sl (([] : List (Bool × (List Int) × (List Int))).map elABLU32LU32Z)), .pd (.sl (([] : List (Bool × (List Int) × (List Int))).map elABLU32LU32Z)), .pd (.sl (([] : List (Bool × (List Int) × (List Int))).map elABLU32LU32Z))], .pd (.int .i64 x141), .pd (.int .i64 2)]) (by kernel_rfl) rfl (by kernel_rfl) (by subst h; rfl)
    replace h := h.f hp140
    refine H_askK (.agg [.pd (.int .i64 s101), .pd (.sl (x105.map elABLU32LU32Z)), .fixed (([] : List (Bool × (List Int) × (List Int))).map elABLU32LU32Z), .pd (.sl (x125.map elABLU32LU32Z))]) (m22) (by kernel_rfl) ?_
    let m23 : Mem := [o21, o21, o14, o15, o17, o19]
    refine H_askK (.junk) (m23) (by kernel_rfl) ?_
    exact H_end .ret (.tup [.agg [.pd (.int .i64 s101), .pd (.sl (x105.map elABLU32LU32Z)), .pd (.sl (([] : List (Bool × (List Int) × (List Int))).map elABLU32LU32Z)), .pd (.sl (x125.map elABLU32LU32Z))], .pd (.int .i64 0), .pd (.int .i64 0)]) (by kernel_rfl) rfl (by kernel_rfl) (by subst h; rfl)
  replace h := h.f hp32
  refine H_askK (.ptr 1 0 0) ([o1, o4, o5]) (by kernel_rfl) ?_
  refine H_askK (.ptr 1 1 0) ([o1, o4, o5]) (by kernel_rfl) ?_
  refine H_askK (.agg [.pd (.str ([120] : List UInt8)), .pd (.bool false), .ptr 1 1 0]) ([o1, o4, o5]) (by kernel_rfl) ?_
  refine H_askK (.ptr 1 0 0) ([o1, o4, o5]) (by kernel_rfl) ?_
  refine H_askK (.ptr 1 0 0) ([o1, o4, o5]) (by kernel_rfl) ?_
  refine H_askK (.pd (.int .i64 s101)) ([o1, o4, o5]) (by kernel_rfl) ?_
  refine H_split (s101 != (3 : Int)) (by kernel_rfl) (fun _ => ?_) (fun hc => by simp only [decide_eq_true_eq, decide_eq_false_iff_not, beq_iff_eq, bne_iff_ne, beq_eq_false_iff_ne, bne_eq_false_iff_eq, ne_eq] at hp32 hc; omega)
  refine H_askK (.ptr 1 0 0) ([o1, o4, o5]) (by kernel_rfl) ?_
  refine H_askK (.ptr 1 2 0) ([o1, o4, o5]) (by kernel_rfl) ?_
  refine H_askK (.agg [.pd (.str ([121] : List UInt8)), .pd (.bool true), .ptr 1 2 0]) ([o1, o4, o5]) (by kernel_rfl) ?_
  refine H_askK (.ptr 1 0 0) ([o1, o4, o5]) (by kernel_rfl) ?_
  refine H_askK (.ptr 1 0 0) ([o1, o4, o5]) (by kernel_rfl) ?_
  refine H_askK (.pd (.int .i64 s101)) ([o1, o4, o5]) (by kernel_rfl) ?_
  refine H_split (s101 == (3 : Int)) (by kernel_rfl) (fun hc => by simp only [decide_eq_true_eq, decide_eq_false_iff_not, beq_iff_eq, bne_iff_ne, beq_eq_false_iff_ne, bne_eq_false_iff_eq, ne_eq] at hp32 hc; omega) (fun _ => ?_)
  refine H_askK (.ptr 1 0 0) ([o1, o4, o5]) (by kernel_rfl) ?_
  refine H_askK (.ptr 1 3 0) ([o1, o4, o5]) (by kernel_rfl) ?_
  refine H_askK (.agg [.pd (.str ([114, 97, 121] : List UInt8)), .pd (.bool false), .ptr 1 3 0]) ([o1, o4, o5]) (by kernel_rfl) ?_
  refine H_askK (.agg [.pd (.str ([120] : List UInt8)), .pd (.bool false), .ptr 1 1 0, .pd (.str ([121] : List UInt8)), .pd (.bool true), .ptr 1 2 0, .pd (.str ([114, 97, 121] : List UInt8)), .pd (.bool false), .ptr 1 3 0]) ([o1, o4, o5]) (by kernel_rfl) ?_
  let o24 : Ob := .cells [.pd (.str ([120] : List UInt8)), .pd (.bool false), .ptr 1 1 0, .pd (.str ([121] : List UInt8)), .pd (.bool true), .ptr 1 2 0, .pd (.str ([114, 97, 121] : List UInt8)), .pd (.bool false), .ptr 1 3 0] 1 0 false
  refine H_askK (.junk) ([o1, o4, o24]) (by kernel_rfl) ?_
  refine H_endM .ret (.agg [.pd (.str ([120] : List UInt8)), .pd (.bool false), .ptr 1 1 0, .pd (.str ([121] : List UInt8)), .pd (.bool true), .ptr 1 2 0, .pd (.str ([114, 97, 121] : List UInt8)), .pd (.bool false), .ptr 1 3 0]) ([o1, o4, o24]) (by kernel_rfl) rfl (by kernel_rfl) (by kernel_rfl) (by kernel_rfl) ?_
  refine H_unroll 4 mixedT (askG [9, 10, 11] false) (by kernel_rfl) ?_
  refine H_split true (by kernel_rfl) (fun _ => ?_) (fun hc => by cases hc)
  refine H_askK (.agg [.pd (.str ([120] : List UInt8)), .pd (.bool false), .ptr 1 1 0]) ([o1, o4, o24]) (by kernel_rfl) ?_
  let o25 : Ob := .cells [.pd (.str ([120] : List UInt8)), .pd (.bool false), .ptr 1 1 0] 1 0 false
  refine H_askK (.junk) ([o1, o4, o24, o25]) (by kernel_rfl) ?_
  refine H_askK (.ptr 3 1 0) ([o1, o4, o24, o25]) (by kernel_rfl) ?_
  refine H_askK (.pd (.bool false)) ([o1, o4, o24, o25]) (by kernel_rfl) ?_
  refine H_split true (by kernel_rfl) (fun _ => ?_) (fun hc => by cases hc)
  refine H_askK (.agg [.pd (.str ([121] : List UInt8)), .pd (.bool true), .ptr 1 2 0]) ([o1, o4, o24, o25]) (by kernel_rfl) ?_
  let o26 : Ob := .cells [.pd (.str ([121] : List UInt8)), .pd (.bool true), .ptr 1 2 0] 1 0 false
  refine H_askK (.junk) ([o1, o4, o24, o25, o26]) (by kernel_rfl) ?_
  refine H_askK (.ptr 4 1 0) ([o1, o4, o24, o25, o26]) (by kernel_rfl) ?_
  refine H_askK (.pd (.bool true)) ([o1, o4, o24, o25, o26]) (by kernel_rfl) ?_
  refine H_ask _ _ (by kernel_rfl) (ask_len (P := Tryz.prog) (M := [o1, o4, o24, o25, o26]) (t := 105) (et := 109) (el := elAI64LSZ) (by kernel_rfl) (e := (sub x1 (1 : Int) (x1.length : Int)))) ?_
  refine H_split (((sub x1 (1 : Int) (x1.length : Int)).length : Int) == (0 : Int)) (by kernel_rfl) (fun hp166 => ?_) (fun hp166 => ?_)
  · replace h := h.t hp166
    refine H_askK (.agg [.pd (.int .i64 0), .fixed (([] : List (Bool × (List Int) × (List Int))).map elABLU32LU32Z), .fixed (([] : List (Bool × (List Int) × (List Int))).map elABLU32LU32Z), .fixed (([] : List (Bool × (List Int) × (List Int))).map elABLU32LU32Z)]) ([o1, o4, o24, o25, o26]) (by kernel_rfl) ?_
    refine H_askK (.junk) ([o1, o4, o24, o25, o26]) (by kernel_rfl) ?_
    exact H_end .ret (.tup [.agg [.pd (.int .i64 0), .pd (.sl (([] : List (Bool × (List Int) × (List Int))).map elABLU32LU32Z)), .pd (.sl (([] : List (Bool × (List Int) × (List Int))).map elABLU32LU32Z)), .pd (.sl (([] : List (Bool × (List Int) × (List Int))).map elABLU32LU32Z))], .pd (.int .i64 x28), .pd (.int .i64 2)]) (by kernel_rfl) rfl (by kernel_rfl) (by subst h; rfl)
  replace h := h.f hp166
  obtain ⟨x167, x168, hx169, h⟩ := h
  refine H_ask _ _ (by kernel_rfl) (ask_idx (P := Tryz.prog) (M := [o1, o4, o24, o25, o26]) (t := 105) (et := 109) (k := .i64) (lv := lvAI64LSZ) okAI64LSZ leAI64LSZ (by kernel_rfl) (by kernel_rfl) hx169) ?_
  refine H_askK (.rd [.sl (x168.map elS)]) ([o1, o4, o24, o25, o26]) (by kernel_rfl) ?_
  refine H_askK (.pd (.sl (x168.map elS))) ([o1, o4, o24, o25, o26]) (by kernel_rfl) ?_
  obtain ⟨hx170, h⟩ := h
  refine H_ask _ _ (by kernel_rfl) (ask_sub (P := Tryz.prog) (M := [o1, o4, o24, o25, o26]) (t := 57) (et := 9) (lv := lvS) (lo := (some (1 : Int))) (hi := none) okS leS (by kernel_rfl) (by kernel_rfl) hx170) ?_
  obtain ⟨x171, x172, hx173, h⟩ := h
  refine H_valW (g := 62) (args := [.pd (.sl ((sub x168 (1 : Int) (x168.length : Int)).map elS))]) (M := [o1, o4, o24, o25, o26]) (.tup [.pd (.sl (x171.map elABLU32LU32Z)), .pd (.bool x172)]) (.inl (by kernel_rfl)) (by kernel_rfl) (proof_numbers_ok m _ hx173) (by kernel_rfl) (hasT 62 (by kernel_rfl)) ?_
  cases x172
  · replace h := h.f rfl
    refine H_draw (by kernel_rfl) ?_
    obtain ⟨x190, x191, hx192, h⟩ := h
    refine H_ask _ _ (by kernel_rfl) (ask_idx (P := Tryz.prog) (M := [o1, o4, o24, o25, o26]) (t := 105) (et := 109) (k := .i64) (lv := lvAI64LSZ) okAI64LSZ leAI64LSZ (by kernel_rfl) (by kernel_rfl) hx192) ?_
    refine H_askK (.rd [.sl (x191.map elS)]) ([o1, o4, o24, o25, o26]) (by kernel_rfl) ?_
    refine H_askK (.pd (.sl (x191.map elS))) ([o1, o4, o24, o25, o26]) (by kernel_rfl) ?_
    obtain ⟨x193, hx194, h⟩ := h
    refine H_ask _ _ (by kernel_rfl) (ask_idx (P := Tryz.prog) (M := [o1, o4, o24, o25, o26]) (t := 57) (et := 9) (k := .i64) (lv := lvS) okS leS (by kernel_rfl) (by kernel_rfl) hx194) ?_
    refine H_askK (.pd (.str x193)) ([o1, o4, o24, o25, o26]) (by kernel_rfl) ?_
    refine H_askK (.ptr 4 0 0) ([o1, o4, o24, o25, o26]) (by kernel_rfl) ?_
    refine H_askK (.pd (.str ([121] : List UInt8))) ([o1, o4, o24, o25, o26]) (by kernel_rfl) ?_
    refine H_split (!(x193 == ([121] : List UInt8))) (by kernel_rfl) (fun hc => ?_) (fun hc => ?_)
    · replace h := h.t hc; clear hc
      refine H_drawF [2, 3, 4] (by kernel_rfl) ?_
      refine H_askK (.agg [.pd (.int .i64 0), .fixed (([] : List (Bool × (List Int) × (List Int))).map elABLU32LU32Z), .fixed (([] : List (Bool × (List Int) × (List Int))).map elABLU32LU32Z), .fixed (([] : List (Bool × (List Int) × (List Int))).map elABLU32LU32Z)]) ([o1, o4, o24, o25, o26]) (by kernel_rfl) ?_
      obtain ⟨x195, x196, hx197, h⟩ := h
      refine H_askall _ (by kernel_rfl) (fun M' => ask_idx (P := Tryz.prog) (M := M') (t := 105) (et := 109) (k := .i64) (lv := lvAI64LSZ) okAI64LSZ leAI64LSZ (by kernel_rfl) (by kernel_rfl) hx197) ?_
      refine H_askall (.rd [.int .i64 x195, .sl (x196.map elS)]) (f := fun M' => some (.rd [.int .i64 x195, .sl (x196.map elS)], M')) (by kernel_rfl) (fun _ => rfl) ?_
      refine H_askall (.pd (.int .i64 x195)) (f := fun M' => some (.pd (.int .i64 x195), M')) (by kernel_rfl) (fun _ => rfl) ?_
      refine H_askK (.junk) ([o1, o4, o24, o25, o26]) (by kernel_rfl) ?_
      exact H_end .ret (.tup [.agg [.pd (.int .i64 0), .pd (.sl (([] : List (Bool × (List Int) × (List Int))).map elABLU32LU32Z)), .pd (.sl (([] : List (Bool × (List Int) × (List Int))).map elABLU32LU32Z)), .pd (.sl (([] : List (Bool × (List Int) × (List Int))).map elABLU32LU32Z))], .pd (.int .i64 x195), .pd (.int .i64 2)]) (by kernel_rfl) rfl (by kernel_rfl) (by subst h; rfl)
    replace h := h.f hc; clear hc
    refine H_drawF [2, 3, 4] (by kernel_rfl) ?_
    refine H_askK (.agg [.pd (.int .i64 0), .fixed (([] : List (Bool × (List Int) × (List Int))).map elABLU32LU32Z), .fixed (([] : List (Bool × (List Int) × (List Int))).map elABLU32LU32Z), .fixed (([] : List (Bool × (List Int) × (List Int))).map elABLU32LU32Z)]) ([o1, o4, o24, o25, o26]) (by kernel_rfl) ?_
    obtain ⟨x198, x199, hx200, h⟩ := h
    refine H_askall _ (by kernel_rfl) (fun M' => ask_idx (P := Tryz.prog) (M := M') (t := 105) (et := 109) (k := .i64) (lv := lvAI64LSZ) okAI64LSZ leAI64LSZ (by kernel_rfl) (by kernel_rfl) hx200) ?_
    refine H_askall (.rd [.int .i64 x198, .sl (x199.map elS)]) (f := fun M' => some (.rd [.int .i64 x198, .sl (x199.map elS)], M')) (by kernel_rfl) (fun _ => rfl) ?_
    refine H_askall (.pd (.int .i64 x198)) (f := fun M' => some (.pd (.int .i64 x198), M')) (by kernel_rfl) (fun _ => rfl) ?_
    refine H_askK (.junk) ([o1, o4, o24, o25, o26]) (by kernel_rfl) ?_
    exact H_end .ret (.tup [.agg [.pd (.int .i64 0), .pd (.sl (([] : List (Bool × (List Int) × (List Int))).map elABLU32LU32Z)), .pd (.sl (([] : List (Bool × (List Int) × (List Int))).map elABLU32LU32Z)), .pd (.sl (([] : List (Bool × (List Int) × (List Int))).map elABLU32LU32Z))], .pd (.int .i64 x198), .pd (.int .i64 2)]) (by kernel_rfl) rfl (by kernel_rfl) (by subst h; rfl)
  replace h := h.t rfl
  refine H_draw (by kernel_rfl) ?_
  obtain ⟨x174, x175, hx176, h⟩ := h
  refine H_ask _ _ (by kernel_rfl) (ask_idx (P := Tryz.prog) (M := [o1, o4, o24, o25, o26]) (t := 105) (et := 109) (k := .i64) (lv := lvAI64LSZ) okAI64LSZ leAI64LSZ (by kernel_rfl) (by kernel_rfl) hx176) ?_
  refine H_askK (.rd [.sl (x175.map elS)]) ([o1, o4, o24, o25, o26]) (by kernel_rfl) ?_
  refine H_askK (.pd (.sl (x175.map elS))) ([o1, o4, o24, o25, o26]) (by kernel_rfl) ?_
  obtain ⟨x177, hx178, h⟩ := h
  refine H_ask _ _ (by kernel_rfl) (ask_idx (P := Tryz.prog) (M := [o1, o4, o24, o25, o26]) (t := 57) (et := 9) (k := .i64) (lv := lvS) okS leS (by kernel_rfl) (by kernel_rfl) hx178) ?_
  refine H_askK (.pd (.str x177)) ([o1, o4, o24, o25, o26]) (by kernel_rfl) ?_
  refine H_askK (.ptr 4 0 0) ([o1, o4, o24, o25, o26]) (by kernel_rfl) ?_
  refine H_askK (.pd (.str ([121] : List UInt8))) ([o1, o4, o24, o25, o26]) (by kernel_rfl) ?_
  refine H_split (!(x177 == ([121] : List UInt8))) (by kernel_rfl) (fun hc => ?_) (fun hc => ?_)
  · replace h := h.t hc; clear hc
    refine H_drawF [2, 3, 4] (by kernel_rfl) ?_
    refine H_askK (.agg [.pd (.int .i64 0), .fixed (([] : List (Bool × (List Int) × (List Int))).map elABLU32LU32Z), .fixed (([] : List (Bool × (List Int) × (List Int))).map elABLU32LU32Z), .fixed (([] : List (Bool × (List Int) × (List Int))).map elABLU32LU32Z)]) ([o1, o4, o24, o25, o26]) (by kernel_rfl) ?_
    obtain ⟨x179, x180, hx181, h⟩ := h
    refine H_askall _ (by kernel_rfl) (fun M' => ask_idx (P := Tryz.prog) (M := M') (t := 105) (et := 109) (k := .i64) (lv := lvAI64LSZ) okAI64LSZ leAI64LSZ (by kernel_rfl) (by kernel_rfl) hx181) ?_
    refine H_askall (.rd [.int .i64 x179, .sl (x180.map elS)]) (f := fun M' => some (.rd [.int .i64 x179, .sl (x180.map elS)], M')) (by kernel_rfl) (fun _ => rfl) ?_
    refine H_askall (.pd (.int .i64 x179)) (f := fun M' => some (.pd (.int .i64 x179), M')) (by kernel_rfl) (fun _ => rfl) ?_
    refine H_askK (.junk) ([o1, o4, o24, o25, o26]) (by kernel_rfl) ?_
    exact H_end .ret (.tup [.agg [.pd (.int .i64 0), .pd (.sl (([] : List (Bool × (List Int) × (List Int))).map elABLU32LU32Z)), .pd (.sl (([] : List (Bool × (List Int) × (List Int))).map elABLU32LU32Z)), .pd (.sl (([] : List (Bool × (List Int) × (List Int))).map elABLU32LU32Z))], .pd (.int .i64 x179), .pd (.int .i64 2)]) (by kernel_rfl) rfl (by kernel_rfl) (by subst h; rfl)
  replace h := h.f hc; clear hc
  refine H_askK (.ptr 4 2 0) ([o1, o4, o24, o25, o26]) (by kernel_rfl) ?_
  refine H_askK (.ptr 1 2 0) ([o1, o4, o24, o25, o26]) (by kernel_rfl) ?_
  refine H_askK (.ptr 1 2 0) ([o1, o4, o24, o25, o26]) (by kernel_rfl) ?_
  let o27 : Ob := .cells [.pd (.int .i64 s101), .fixed (([] : List (Bool × (List Int) × (List Int))).map elABLU32LU32Z), .pd (.sl (x171.map elABLU32LU32Z)), .fixed (([] : List (Bool × (List Int) × (List Int))).map elABLU32LU32Z)] 1 0 false
  let m28 : Mem := [o1, o27, o24, o25, o26]
  refine H_askK (.junk) (m28) (by kernel_rfl) ?_
  refine H_draw (by kernel_rfl) ?_
  obtain ⟨x182, x183, hx184, h⟩ := h
  refine H_ask _ _ (by kernel_rfl) (ask_idx (P := Tryz.prog) (M := m28) (t := 105) (et := 109) (k := .i64) (lv := lvAI64LSZ) okAI64LSZ leAI64LSZ (by kernel_rfl) (by kernel_rfl) hx184) ?_
  refine H_askK (.rd [.int .i64 x182, .sl (x183.map elS)]) (m28) (by kernel_rfl) ?_
  refine H_askK (.pd (.int .i64 x182)) (m28) (by kernel_rfl) ?_
  obtain ⟨hx185, h⟩ := h
  refine H_ask _ _ (by kernel_rfl) (ask_sub (P := Tryz.prog) (M := m28) (t := 105) (et := 109) (lv := lvAI64LSZ) (lo := (some (1 : Int))) (hi := none) okAI64LSZ leAI64LSZ (by kernel_rfl) (by kernel_rfl) hx185) ?_
  refine H_split true (by kernel_rfl) (fun _ => ?_) (fun hc => by cases hc)
  refine H_askK (.agg [.pd (.str ([114, 97, 121] : List UInt8)), .pd (.bool false), .ptr 1 3 0]) (m28) (by kernel_rfl) ?_
  let o29 : Ob := .cells [.pd (.str ([114, 97, 121] : List UInt8)), .pd (.bool false), .ptr 1 3 0] 1 0 false
  let m30 : Mem := [o1, o27, o24, o25, o26, o29]
  refine H_askK (.junk) (m30) (by kernel_rfl) ?_
  refine H_askK (.ptr 5 1 0) (m30) (by kernel_rfl) ?_
  refine H_askK (.pd (.bool false)) (m30) (by kernel_rfl) ?_
  refine H_split false (by kernel_rfl) (fun hc => by cases hc) (fun _ => ?_)
  refine H_ask _ _ (by kernel_rfl) (ask_len (P := Tryz.prog) (M := m30) (t := 105) (et := 109) (el := elAI64LSZ) (by kernel_rfl) (e := (sub (sub x1 (1 : Int) (x1.length : Int)) (1 : Int) ((sub x1 (1 : Int) (x1.length : Int)).length : Int)))) ?_
  refine H_split (decide (((sub (sub x1 (1 : Int) (x1.length : Int)) (1 : Int) ((sub x1 (1 : Int) (x1.length : Int)).length : Int)).length : Int) > (0 : Int))) (by kernel_rfl) (fun hp186 => ?_) (fun hp186 => ?_)
  · replace h := h.t hp186
    refine H_drawF [2, 3, 4] (by kernel_rfl) ?_
    refine H_askK (.agg [.pd (.int .i64 0), .fixed (([] : List (Bool × (List Int) × (List Int))).map elABLU32LU32Z), .fixed (([] : List (Bool × (List Int) × (List Int))).map elABLU32LU32Z), .fixed (([] : List (Bool × (List Int) × (List Int))).map elABLU32LU32Z)]) (m30) (by kernel_rfl) ?_
    obtain ⟨x187, x188, hx189, h⟩ := h
    refine H_askall _ (by kernel_rfl) (fun M' => ask_idx (P := Tryz.prog) (M := M') (t := 105) (et := 109) (k := .i64) (lv := lvAI64LSZ) okAI64LSZ leAI64LSZ (by kernel_rfl) (by kernel_rfl) hx189) ?_
    refine H_askall (.rd [.int .i64 x187, .sl (x188.map elS)]) (f := fun M' => some (.rd [.int .i64 x187, .sl (x188.map elS)], M')) (by kernel_rfl) (fun _ => rfl) ?_
    refine H_askall (.pd (.int .i64 x187)) (f := fun M' => some (.pd (.int .i64 x187), M')) (by kernel_rfl) (fun _ => rfl) ?_
    refine H_askK (.junk) (m30) (by kernel_rfl) ?_
    exact H_end .ret (.tup [.agg [.pd (.int .i64 0), .pd (.sl (([] : List (Bool × (List Int) × (List Int))).map elABLU32LU32Z)), .pd (.sl (([] : List (Bool × (List Int) × (List Int))).map elABLU32LU32Z)), .pd (.sl (([] : List (Bool × (List Int) × (List Int))).map elABLU32LU32Z))], .pd (.int .i64 x187), .pd (.int .i64 2)]) (by kernel_rfl) rfl (by kernel_rfl) (by subst h; rfl)
  replace h := h.f hp186
  refine H_askK (.agg [.pd (.int .i64 s101), .fixed (([] : List (Bool × (List Int) × (List Int))).map elABLU32LU32Z), .pd (.sl (x171.map elABLU32LU32Z)), .fixed (([] : List (Bool × (List Int) × (List Int))).map elABLU32LU32Z)]) (m30) (by kernel_rfl) ?_
  let m31 : Mem := [o27, o27, o24, o25, o26, o29]
  refine H_askK (.junk) (m31) (by kernel_rfl) ?_
  exact H_end .ret (.tup [.agg [.pd (.int .i64 s101), .pd (.sl (([] : List (Bool × (List Int) × (List Int))).map elABLU32LU32Z)), .pd (.sl (x171.map elABLU32LU32Z)), .pd (.sl (([] : List (Bool × (List Int) × (List Int))).map elABLU32LU32Z))], .pd (.int .i64 0), .pd (.int .i64 0)]) (by kernel_rfl) rfl (by kernel_rfl) (by subst h; rfl)

theorem vec_Same_1_ok (m : Tp) (p0 : Bool) (p1 : List Int) (p2 : List Int) (p3 : Bool) (p4 : List Int) (p5 : List Int) {r : Bool} (h : vec_Same_1 p0 p1 p2 p3 p4 p5 r) : ASpec Tryz.prog (gtT m) 77 [.agg [.pd (.bool p0), .pd (.sl (p1.map elU32)), .pd (.sl (p2.map elU32))], .agg [.pd (.bool p3), .pd (.sl (p4.map elU32)), .pd (.sl (p5.map elU32))]] (· = .pd (.bool r)) := by
  refine ASpec_tree Tryz.f77 mixedT (askG [9, 10, 11] false) (by kernel_rfl) ?_
  unfold vec_Same_1 at h
  refine H_askK (.ptr 0 0 0) ([.cells [.pd (.bool p0), .pd (.sl (p1.map elU32)), .pd (.sl (p2.map elU32))] 1 0 false]) (by kernel_rfl) ?_
  refine H_askK (.ptr 1 0 0) ([.cells [.pd (.bool p0), .pd (.sl (p1.map elU32)), .pd (.sl (p2.map elU32))] 1 0 false, .cells [.pd (.bool p3), .pd (.sl (p4.map elU32)), .pd (.sl (p5.map elU32))] 1 0 false]) (by kernel_rfl) ?_
  refine H_askK (.agg [.pd (.bool p0), .pd (.sl (p1.map elU32)), .pd (.sl (p2.map elU32))]) ([.cells [.pd (.bool p0), .pd (.sl (p1.map elU32)), .pd (.sl (p2.map elU32))] 1 0 false, .cells [.pd (.bool p3), .pd (.sl (p4.map elU32)), .pd (.sl (p5.map elU32))] 1 0 false]) (by kernel_rfl) ?_
  refine H_askK (.agg [.pd (.bool p3), .pd (.sl (p4.map elU32)), .pd (.sl (p5.map elU32))]) ([.cells [.pd (.bool p0), .pd (.sl (p1.map elU32)), .pd (.sl (p2.map elU32))] 1 0 false, .cells [.pd (.bool p3), .pd (.sl (p4.map elU32)), .pd (.sl (p5.map elU32))] 1 0 false]) (by kernel_rfl) ?_
  obtain ⟨x1, hx2, h⟩ := h
  refine H_valW (g := 20) (args := [.agg [.pd (.bool p0), .pd (.sl (p1.map elU32)), .pd (.sl (p2.map elU32))], .agg [.pd (.bool p3), .pd (.sl (p4.map elU32)), .pd (.sl (p5.map elU32))]]) (M := [.cells [.pd (.bool p0), .pd (.sl (p1.map elU32)), .pd (.sl (p2.map elU32))] 1 0 false, .cells [.pd (.bool p3), .pd (.sl (p4.map elU32)), .pd (.sl (p5.map elU32))] 1 0 false]) (.pd (.int .i64 x1)) (.inl (by kernel_rfl)) (by kernel_rfl) (rat_Compare_ok m _ _ _ _ _ _ hx2) (by kernel_rfl) (hasT 20 (by kernel_rfl)) ?_
  refine H_split (x1 == (0 : Int)) (by kernel_rfl) (fun hp3 => ?_) (fun hp3 => ?_)
  · replace h := h.t hp3
    exact H_end .ret (.pd (.bool true)) (by kernel_rfl) rfl (by kernel_rfl) (by subst h; rfl)
  · replace h := h.f hp3
    exact H_end .ret (.pd (.bool false)) (by kernel_rfl) rfl (by kernel_rfl) (by subst h; rfl)

theorem vec_Same_ok (m : Tp) (p0 : List (Bool × (List Int) × (List Int))) (p1 : List (Bool × (List Int) × (List Int))) {r : Bool} (h : vec_Same p0 p1 r) : ASpec Tryz.prog (gtT m) 34 [.pd (.sl (p0.map elABLU32LU32Z)), .pd (.sl (p1.map elABLU32LU32Z))] (· = .pd (.bool r)) := by
  refine ASpec_tree Tryz.f34 mixedT (askG [9, 10, 11] false) (by kernel_rfl) ?_
  unfold vec_Same at h
  refine H_inl (g := 76) (args := [.pd (.sl (p0.map elABLU32LU32Z)), .pd (.sl (p1.map elABLU32LU32Z)), .fn (.func 77) [] []]) (M := []) Tryz.f76 mixedT (askG [9, 10, 11] false) (by kernel_rfl) (by kernel_rfl) (hasT 76 (by kernel_rfl)) ?_
  refine H_ask _ _ (by kernel_rfl) (ask_len (P := Tryz.prog) (M := []) (t := 23) (et := 44) (el := elABLU32LU32Z) (by kernel_rfl) (e := p0)) ?_
  refine H_ask _ _ (by kernel_rfl) (ask_len (P := Tryz.prog) (M := []) (t := 23) (et := 44) (el := elABLU32LU32Z) (by kernel_rfl) (e := p1)) ?_
  refine H_split ((p0.length : Int) != (p1.length : Int)) (by kernel_rfl) (fun hp1 => ?_) (fun hp1 => ?_)
  · replace h := h.t hp1
    refine H_endM .ret (.pd (.bool false)) ([]) (by kernel_rfl) rfl (by kernel_rfl) (by kernel_rfl) (by kernel_rfl) ?_
    exact H_end .ret (.pd (.bool false)) (by kernel_rfl) rfl (by kernel_rfl) (by subst h; rfl)
  · replace h := h.f hp1
    refine H_ask _ _ (by kernel_rfl) (ask_len (P := Tryz.prog) (M := []) (t := 23) (et := 44) (el := elABLU32LU32Z) (by kernel_rfl) (e := p0)) ?_
    refine H_loopP (F := vec_Same_L1 p0 p1 r) (s0 := (0 : Int)) h () 32 0
      (fun (s100 : Int) (() : Unit) => [(1, .pd (.sl (p1.map elABLU32LU32Z))), (2, .fn (.func 77) [] []), (15, .pd (.sl (p0.map elABLU32LU32Z))), (16, .pd (.int .i64 (p0.length : Int))), (17, .pd (.int .i64 s100))])
      (fun (s100 : Int) (() : Unit) => []) (fun (s100 : Int) (() : Unit) => True) trivial [] mixedT (askG [9, 10, 11] false)
      (by kernel_rfl) (by kernel_rfl) (by kernel_rfl) (by kernel_rfl) (by kernel_rfl) (fun _ _ => rfl) ?_
    rintro X1 s100 ⟨⟩ - h
    dsimp only [vec_Same_L1] at h
    refine H_split (decide (s100 < (p0.length : Int))) (by kernel_rfl) (fun hp2 => ?_) (fun hp2 => ?_)
    · replace h := h.t hp2
      obtain ⟨x3, x4, x5, hx6, h⟩ := h
      refine H_ask _ _ (by kernel_rfl) (ask_idx (P := Tryz.prog) (M := []) (t := 23) (et := 44) (k := .i64) (lv := lvABLU32LU32Z) okABLU32LU32Z leABLU32LU32Z (by kernel_rfl) (by kernel_rfl) hx6) ?_
      refine H_askK (.agg [.pd (.bool x3), .pd (.sl (x4.map elU32)), .pd (.sl (x5.map elU32))]) ([]) (by kernel_rfl) ?_
      refine H_askK (.junk) ([.cells [.pd (.bool x3), .pd (.sl (x4.map elU32)), .pd (.sl (x5.map elU32))] 1 0 false]) (by kernel_rfl) ?_
      obtain ⟨x7, x8, x9, hx10, h⟩ := h
      refine H_ask _ _ (by kernel_rfl) (ask_idx (P := Tryz.prog) (M := [.cells [.pd (.bool x3), .pd (.sl (x4.map elU32)), .pd (.sl (x5.map elU32))] 1 0 false]) (t := 23) (et := 44) (k := .i64) (lv := lvABLU32LU32Z) okABLU32LU32Z leABLU32LU32Z (by kernel_rfl) (by kernel_rfl) hx10) ?_
      refine H_askK (.agg [.pd (.bool x7), .pd (.sl (x8.map elU32)), .pd (.sl (x9.map elU32))]) ([.cells [.pd (.bool x3), .pd (.sl (x4.map elU32)), .pd (.sl (x5.map elU32))] 1 0 false]) (by kernel_rfl) ?_
      refine H_askK (.junk) ([.cells [.pd (.bool x3), .pd (.sl (x4.map elU32)), .pd (.sl (x5.map elU32))] 1 0 false, .cells [.pd (.bool x7), .pd (.sl (x8.map elU32)), .pd (.sl (x9.map elU32))] 1 0 false]) (by kernel_rfl) ?_
      refine H_askK (.agg [.pd (.bool x3), .pd (.sl (x4.map elU32)), .pd (.sl (x5.map elU32))]) ([.cells [.pd (.bool x3), .pd (.sl (x4.map elU32)), .pd (.sl (x5.map elU32))] 1 0 false, .cells [.pd (.bool x7), .pd (.sl (x8.map elU32)), .pd (.sl (x9.map elU32))] 1 0 false]) (by kernel_rfl) ?_
      refine H_askK (.agg [.pd (.bool x7), .pd (.sl (x8.map elU32)), .pd (.sl (x9.map elU32))]) ([.cells [.pd (.bool x3), .pd (.sl (x4.map elU32)), .pd (.sl (x5.map elU32))] 1 0 false, .cells [.pd (.bool x7), .pd (.sl (x8.map elU32)), .pd (.sl (x9.map elU32))] 1 0 false]) (by kernel_rfl) ?_
      obtain ⟨x11, hx12, h⟩ := h
      refine H_valW (g := 77) (args := [.agg [.pd (.bool x3), .pd (.sl (x4.map elU32)), .pd (.sl (x5.map elU32))], .agg [.pd (.bool x7), .pd (.sl (x8.map elU32)), .pd (.sl (x9.map elU32))]]) (M := [.cells [.pd (.bool x3), .pd (.sl (x4.map elU32)), .pd (.sl (x5.map elU32))] 1 0 false, .cells [.pd (.bool x7), .pd (.sl (x8.map elU32)), .pd (.sl (x9.map elU32))] 1 0 false]) (.pd (.bool x11)) (.inl (by kernel_rfl)) (by kernel_rfl) (vec_Same_1_ok m _ _ _ _ _ _ hx12) (by kernel_rfl) (hasT 77 (by kernel_rfl)) ?_
      cases x11
      · replace h := h.f rfl
        refine H_leaveP .ret (by kernel_rfl) rfl ?_
        refine H_endM .ret (.pd (.bool false)) ([.cells [.pd (.bool x3), .pd (.sl (x4.map elU32)), .pd (.sl (x5.map elU32))] 1 0 false, .cells [.pd (.bool x7), .pd (.sl (x8.map elU32)), .pd (.sl (x9.map elU32))] 1 0 false]) (by kernel_rfl) rfl (by kernel_rfl) (by kernel_rfl) (by kernel_rfl) ?_
        exact H_end .ret (.pd (.bool false)) (by kernel_rfl) rfl (by kernel_rfl) (by subst h; rfl)
      · replace h := h.t rfl
        exact H_againC (st := _) (IntKind.i64.wrap (s100 + 1)) () h trivial (by kernel_rfl) (by kernel_rfl) (by kernel_rfl) (by kernel_rfl) (by kernel_rfl) (by kernel_rfl) all_n (by kernel_rfl) (by kernel_rfl)
    · replace h := h.f hp2
      refine H_leaveP (.exit 0) (by kernel_rfl) rfl ?_
      refine H_endM .ret (.pd (.bool true)) ([]) (by kernel_rfl) rfl (by kernel_rfl) (by kernel_rfl) (by kernel_rfl) ?_
      exact H_end .ret (.pd (.bool true)) (by kernel_rfl) rfl (by kernel_rfl) (by subst h; rfl)

theorem proof_Same_ok (m : Tp) (p0 : Int) (p1 : List (Bool × (List Int) × (List Int))) (p2 : List (Bool × (List Int) × (List Int))) (p3 : List (Bool × (List Int) × (List Int))) (p4 : Int) (p5 : List (Bool × (List Int) × (List Int))) (p6 : List (Bool × (List Int) × (List Int))) (p7 : List (Bool × (List Int) × (List Int))) {r : Bool} (h : proof_Same p0 p1 p2 p3 p4 p5 p6 p7 r) : ASpec Tryz.prog (gtT m) 27 [.agg [.pd (.int .i64 p0), .pd (.sl (p1.map elABLU32LU32Z)), .pd (.sl (p2.map elABLU32LU32Z)), .pd (.sl (p3.map elABLU32LU32Z))], .agg [.pd (.int .i64 p4), .pd (.sl (p5.map elABLU32LU32Z)), .pd (.sl (p6.map elABLU32LU32Z)), .pd (.sl (p7.map elABLU32LU32Z))]] (· = .pd (.bool r)) := by
  refine ASpec_tree Tryz.f27 mixedT (askG [9, 10, 11] false) (by kernel_rfl) ?_
  unfold proof_Same at h
  let o1 : Ob := .cells [.pd (.int .i64 p0), .pd (.sl (p1.map elABLU32LU32Z)), .pd (.sl (p2.map elABLU32LU32Z)), .pd (.sl (p3.map elABLU32LU32Z))] 1 0 false
  refine H_askK (.ptr 0 0 0) ([o1]) (by kernel_rfl) ?_
  let o2 : Ob := .cells [.pd (.int .i64 p4), .pd (.sl (p5.map elABLU32LU32Z)), .pd (.sl (p6.map elABLU32LU32Z)), .pd (.sl (p7.map elABLU32LU32Z))] 1 0 false
  refine H_askK (.ptr 1 0 0) ([o1, o2]) (by kernel_rfl) ?_
  refine H_askK (.ptr 0 0 0) ([o1, o2]) (by kernel_rfl) ?_
  refine H_askK (.pd (.int .i64 p0)) ([o1, o2]) (by kernel_rfl) ?_
  refine H_askK (.ptr 1 0 0) ([o1, o2]) (by kernel_rfl) ?_
  refine H_askK (.pd (.int .i64 p4)) ([o1, o2]) (by kernel_rfl) ?_
  refine H_split (p0 == p4) (by kernel_rfl) (fun hp1 => ?_) (fun hp1 => ?_)
  · replace h := h.t hp1
    refine H_askK (.ptr 0 1 0) ([o1, o2]) (by kernel_rfl) ?_
    refine H_askK (.pd (.sl (p1.map elABLU32LU32Z))) ([o1, o2]) (by kernel_rfl) ?_
    refine H_askK (.ptr 1 1 0) ([o1, o2]) (by kernel_rfl) ?_
    refine H_askK (.pd (.sl (p5.map elABLU32LU32Z))) ([o1, o2]) (by kernel_rfl) ?_
    obtain ⟨x2, hx3, h⟩ := h
    refine H_valW (g := 34) (args := [.pd (.sl (p1.map elABLU32LU32Z)), .pd (.sl (p5.map elABLU32LU32Z))]) (M := [o1, o2]) (.pd (.bool x2)) (.inl (by kernel_rfl)) (by kernel_rfl) (vec_Same_ok m _ _ hx3) (by kernel_rfl) (hasT 34 (by kernel_rfl)) ?_
    cases x2
    · replace h := h.f rfl
      exact H_end .ret (.pd (.bool false)) (by kernel_rfl) rfl (by kernel_rfl) (by subst h; rfl)
    replace h := h.t rfl
    refine H_askK (.ptr 0 2 0) ([o1, o2]) (by kernel_rfl) ?_
    refine H_askK (.pd (.sl (p2.map elABLU32LU32Z))) ([o1, o2]) (by kernel_rfl) ?_
    refine H_askK (.ptr 1 2 0) ([o1, o2]) (by kernel_rfl) ?_
    refine H_askK (.pd (.sl (p6.map elABLU32LU32Z))) ([o1, o2]) (by kernel_rfl) ?_
    obtain ⟨x4, hx5, h⟩ := h
    refine H_valW (g := 34) (args := [.pd (.sl (p2.map elABLU32LU32Z)), .pd (.sl (p6.map elABLU32LU32Z))]) (M := [o1, o2]) (.pd (.bool x4)) (.inl (by kernel_rfl)) (by kernel_rfl) (vec_Same_ok m _ _ hx5) (by kernel_rfl) (hasT 34 (by kernel_rfl)) ?_
    cases x4
    · replace h := h.f rfl
      exact H_end .ret (.pd (.bool false)) (by kernel_rfl) rfl (by kernel_rfl) (by subst h; rfl)
    replace h := h.t rfl
    refine H_askK (.ptr 0 3 0) ([o1, o2]) (by kernel_rfl) ?_
    refine H_askK (.pd (.sl (p3.map elABLU32LU32Z))) ([o1, o2]) (by kernel_rfl) ?_
    refine H_askK (.ptr 1 3 0) ([o1, o2]) (by kernel_rfl) ?_
    refine H_askK (.pd (.sl (p7.map elABLU32LU32Z))) ([o1, o2]) (by kernel_rfl) ?_
    obtain ⟨x6, hx7, h⟩ := h
    refine H_valW (g := 34) (args := [.pd (.sl (p3.map elABLU32LU32Z)), .pd (.sl (p7.map elABLU32LU32Z))]) (M := [o1, o2]) (.pd (.bool x6)) (.inl (by kernel_rfl)) (by kernel_rfl) (vec_Same_ok m _ _ hx7) (by kernel_rfl) (hasT 34 (by kernel_rfl)) ?_
    cases x6
    · replace h := h.f rfl
      exact H_end .ret (.pd (.bool false)) (by kernel_rfl) rfl (by kernel_rfl) (by subst h; rfl)
    replace h := h.t rfl
    exact H_end .ret (.pd (.bool true)) (by kernel_rfl) rfl (by kernel_rfl) (by subst h; rfl)
  replace h := h.f hp1
  exact H_end .ret (.pd (.bool false)) (by kernel_rfl) rfl (by kernel_rfl) (by subst h; rfl)

theorem offcutref08_digits_ok (m : Tp) (p0 : List UInt8) {r : Bool} (h : offcutref08_digits p0 r) : ASpec Tryz.prog (gtT m) 110 [.pd (.str p0)] (· = .pd (.bool r)) := by
  refine ASpec_tree Tryz.f110 mixedT (askG [9, 10, 11] false) (by kernel_rfl) ?_
  unfold offcutref08_digits at h
  refine H_loopP (F := offcutref08_digits_L1 p0 r) (s0 := (0 : Int)) h () 28 0
    (fun (s100 : Int) (() : Unit) => [(0, .pd (.str p0)), (3, .pd (.int .i64 s100))])
    (fun (s100 : Int) (() : Unit) => []) (fun (s100 : Int) (() : Unit) => True) trivial [] mixedT (askG [9, 10, 11] false)
    (by kernel_rfl) (by kernel_rfl) (by kernel_rfl) (by kernel_rfl) (by kernel_rfl) (fun _ _ => rfl) ?_
  rintro X1 s100 ⟨⟩ - h
  dsimp only [offcutref08_digits_L1] at h
  refine H_askK (.pd (.int .i64 (p0.length : Int))) ([]) (by kernel_rfl) ?_
  refine H_split (decide (s100 < (p0.length : Int))) (by kernel_rfl) (fun hp1 => ?_) (fun hp1 => ?_)
  · replace h := h.t hp1
    obtain ⟨c2, hx3, h⟩ := h
    refine H_ask _ _ (by kernel_rfl) (ask_sidx (P := Tryz.prog) (M := []) (t := 9) (k := .i64) (by kernel_rfl) hx3) ?_
    refine H_split (decide (((c2.toNat : Nat) : Int) < (48 : Int))) (by kernel_rfl) (fun hp4 => ?_) (fun hp4 => ?_)
    · replace h := h.t hp4
      refine H_leaveP .ret (by kernel_rfl) rfl ?_
      exact H_end .ret (.pd (.bool false)) (by kernel_rfl) rfl (by kernel_rfl) (by subst h; rfl)
    · replace h := h.f hp4
      obtain ⟨c5, hx6, h⟩ := h
      refine H_ask _ _ (by kernel_rfl) (ask_sidx (P := Tryz.prog) (M := []) (t := 9) (k := .i64) (by kernel_rfl) hx6) ?_
      refine H_split (decide (((c5.toNat : Nat) : Int) > (57 : Int))) (by kernel_rfl) (fun hp7 => ?_) (fun hp7 => ?_)
      · replace h := h.t hp7
        refine H_leaveP .ret (by kernel_rfl) rfl ?_
        exact H_end .ret (.pd (.bool false)) (by kernel_rfl) rfl (by kernel_rfl) (by subst h; rfl)
      · replace h := h.f hp7
        exact H_againP (st := _) (IntKind.i64.wrap (s100 + 1)) () h trivial (by kernel_rfl) (by kernel_rfl) (by kernel_rfl) (by kernel_rfl) (by kernel_rfl)
  · replace h := h.f hp1
    refine H_leaveP (.exit 0) (by kernel_rfl) rfl ?_
    refine H_askK (.pd (.int .i64 (p0.length : Int))) ([]) (by kernel_rfl) ?_
    refine H_split (decide ((p0.length : Int) > (0 : Int))) (by kernel_rfl) (fun hp8 => ?_) (fun hp8 => ?_)
    · replace h := h.t hp8
      refine H_askK (.pd (.int .i64 (p0.length : Int))) ([]) (by kernel_rfl) ?_
      refine H_split (decide ((p0.length : Int) ≤ (400 : Int))) (by kernel_rfl) (fun hp9 => ?_) (fun hp9 => ?_)
      · replace h := h.t hp9
        exact H_end .ret (.pd (.bool true)) (by kernel_rfl) rfl (by kernel_rfl) (by subst h; rfl)
      · replace h := h.f hp9
        exact H_end .ret (.pd (.bool false)) (by kernel_rfl) rfl (by kernel_rfl) (by subst h; rfl)
    · replace h := h.f hp8
      exact H_end .ret (.pd (.bool false)) (by kernel_rfl) rfl (by kernel_rfl) (by subst h; rfl)

theorem offcutref08_Number_ok (m : Tp) (p0 : List UInt8) (p1 : Bool) {r : Bool} (h : offcutref08_Number p0 p1 r) : ASpec Tryz.prog (gtT m) 64 [.pd (.str p0), .pd (.bool p1)] (· = .pd (.bool r)) := by
  refine ASpec_tree Tryz.f64 mixedT (askG [9, 10, 11] false) (by kernel_rfl) ?_
  unfold offcutref08_Number at h
  cases p1
  · replace h := h.f rfl
    refine H_loopP (F := offcutref08_Number_L7 p0 r) (s0 := (0 : Int)) h () 60 0
      (fun (s700 : Int) (() : Unit) => [(0, .pd (.str p0)), (5, .pd (.int .i64 s700))])
      (fun (s700 : Int) (() : Unit) => []) (fun (s700 : Int) (() : Unit) => True) trivial [] mixedT (askG [9, 10, 11] false)
      (by kernel_rfl) (by kernel_rfl) (by kernel_rfl) (by kernel_rfl) (by kernel_rfl) (fun _ _ => rfl) ?_
    rintro X7 s700 ⟨⟩ - h
    dsimp only [offcutref08_Number_L7] at h
    refine H_askK (.pd (.int .i64 (p0.length : Int))) ([]) (by kernel_rfl) ?_
    refine H_split (decide (s700 < (p0.length : Int))) (by kernel_rfl) (fun hp81 => ?_) (fun hp81 => ?_)
    · replace h := h.t hp81
      obtain ⟨c82, hx83, h⟩ := h
      refine H_ask _ _ (by kernel_rfl) (ask_sidx (P := Tryz.prog) (M := []) (t := 9) (k := .i64) (by kernel_rfl) hx83) ?_
      refine H_split (((c82.toNat : Nat) : Int) == (47 : Int)) (by kernel_rfl) (fun hp84 => ?_) (fun hp84 => ?_)
      · replace h := h.t hp84
        obtain ⟨hx85, h⟩ := h
        refine H_ask _ _ (by kernel_rfl) (ask_subS (P := Tryz.prog) (M := []) (t := 9) (lo := (some (IntKind.i64.wrap (s700 + 1)))) (hi := none) (by kernel_rfl) hx85) ?_
        refine H_loopP (F := offcutref08_Number_L8 p0 s700 r) (s0 := (true, (0 : Int))) h () 60 0
          (fun ((s800, s801) : Bool × Int) (() : Unit) => [(0, .pd (.str p0)), (5, .pd (.int .i64 s700)), (6, .pd (.str (sub p0 (IntKind.i64.wrap (s700 + 1)) (p0.length : Int)))), (7, .pd (.bool s800)), (8, .pd (.int .i64 s801))])
          (fun ((s800, s801) : Bool × Int) (() : Unit) => []) (fun ((s800, s801) : Bool × Int) (() : Unit) => True) trivial [] mixedT (askG [9, 10, 11] false)
          (by kernel_rfl) (by kernel_rfl) (by kernel_rfl) (by kernel_rfl) (by kernel_rfl) (fun _ _ => rfl) ?_
        rintro X8 ⟨s800, s801⟩ ⟨⟩ - h
        dsimp only [offcutref08_Number_L8] at h
        cases s800
        · replace h := h.f rfl
          refine H_askK (.pd (.int .i64 ((sub p0 (IntKind.i64.wrap (s700 + 1)) (p0.length : Int)).length : Int))) ([]) (by kernel_rfl) ?_
          refine H_split (decide (s801 < ((sub p0 (IntKind.i64.wrap (s700 + 1)) (p0.length : Int)).length : Int))) (by kernel_rfl) (fun hp95 => ?_) (fun hp95 => ?_)
          · replace h := h.t hp95
            obtain ⟨c96, hx97, h⟩ := h
            refine H_ask _ _ (by kernel_rfl) (ask_sidx (P := Tryz.prog) (M := []) (t := 9) (k := .i64) (by kernel_rfl) hx97) ?_
            refine H_split (((c96.toNat : Nat) : Int) != (48 : Int)) (by kernel_rfl) (fun hp98 => ?_) (fun hp98 => ?_)
            · replace h := h.t hp98
              exact H_againP (st := _) (false, (IntKind.i64.wrap (s801 + 1))) () h trivial (by kernel_rfl) (by kernel_rfl) (by kernel_rfl) (by kernel_rfl) (by kernel_rfl)
            replace h := h.f hp98
            exact H_againP (st := _) (false, (IntKind.i64.wrap (s801 + 1))) () h trivial (by kernel_rfl) (by kernel_rfl) (by kernel_rfl) (by kernel_rfl) (by kernel_rfl)
          replace h := h.f hp95
          refine H_leaveP (.exit 2) (by kernel_rfl) rfl ?_
          obtain ⟨hx99, h⟩ := h
          refine H_ask _ _ (by kernel_rfl) (ask_subS (P := Tryz.prog) (M := []) (t := 9) (lo := none) (hi := (some s700)) (by kernel_rfl) hx99) ?_
          obtain ⟨x100, hx101, h⟩ := h
          refine H_valW (g := 110) (args := [.pd (.str (sub p0 0 s700))]) (M := []) (.pd (.bool x100)) (.inl (by kernel_rfl)) (by kernel_rfl) (offcutref08_digits_ok m _ hx101) (by kernel_rfl) (hasT 110 (by kernel_rfl)) ?_
          cases x100
          · replace h := h.f rfl
            refine H_leaveP .ret (by kernel_rfl) rfl ?_
            exact H_end .ret (.pd (.bool false)) (by kernel_rfl) rfl (by kernel_rfl) (by subst h; rfl)
          replace h := h.t rfl
          obtain ⟨x102, hx103, h⟩ := h
          refine H_valW (g := 110) (args := [.pd (.str (sub p0 (IntKind.i64.wrap (s700 + 1)) (p0.length : Int)))]) (M := []) (.pd (.bool x102)) (.inl (by kernel_rfl)) (by kernel_rfl) (offcutref08_digits_ok m _ hx103) (by kernel_rfl) (hasT 110 (by kernel_rfl)) ?_
          cases x102
          · replace h := h.f rfl
            refine H_leaveP .ret (by kernel_rfl) rfl ?_
            exact H_end .ret (.pd (.bool false)) (by kernel_rfl) rfl (by kernel_rfl) (by subst h; rfl)
          replace h := h.t rfl
          refine H_leaveP .ret (by kernel_rfl) rfl ?_
          exact H_end .ret (.pd (.bool true)) (by kernel_rfl) rfl (by kernel_rfl) (by subst h; rfl)
        replace h := h.t rfl
        refine H_askK (.pd (.int .i64 ((sub p0 (IntKind.i64.wrap (s700 + 1)) (p0.length : Int)).length : Int))) ([]) (by kernel_rfl) ?_
        refine H_split (decide (s801 < ((sub p0 (IntKind.i64.wrap (s700 + 1)) (p0.length : Int)).length : Int))) (by kernel_rfl) (fun hp86 => ?_) (fun hp86 => ?_)
        · replace h := h.t hp86
          obtain ⟨c87, hx88, h⟩ := h
          refine H_ask _ _ (by kernel_rfl) (ask_sidx (P := Tryz.prog) (M := []) (t := 9) (k := .i64) (by kernel_rfl) hx88) ?_
          refine H_split (((c87.toNat : Nat) : Int) != (48 : Int)) (by kernel_rfl) (fun hp89 => ?_) (fun hp89 => ?_)
          · replace h := h.t hp89
            exact H_againP (st := _) (false, (IntKind.i64.wrap (s801 + 1))) () h trivial (by kernel_rfl) (by kernel_rfl) (by kernel_rfl) (by kernel_rfl) (by kernel_rfl)
          replace h := h.f hp89
          exact H_againP (st := _) (true, (IntKind.i64.wrap (s801 + 1))) () h trivial (by kernel_rfl) (by kernel_rfl) (by kernel_rfl) (by kernel_rfl) (by kernel_rfl)
        replace h := h.f hp86
        refine H_leaveP (.exit 2) (by kernel_rfl) rfl ?_
        obtain ⟨hx90, h⟩ := h
        refine H_ask _ _ (by kernel_rfl) (ask_subS (P := Tryz.prog) (M := []) (t := 9) (lo := none) (hi := (some s700)) (by kernel_rfl) hx90) ?_
        obtain ⟨x91, hx92, h⟩ := h
        refine H_valW (g := 110) (args := [.pd (.str (sub p0 0 s700))]) (M := []) (.pd (.bool x91)) (.inl (by kernel_rfl)) (by kernel_rfl) (offcutref08_digits_ok m _ hx92) (by kernel_rfl) (hasT 110 (by kernel_rfl)) ?_
        cases x91
        · replace h := h.f rfl
          refine H_leaveP .ret (by kernel_rfl) rfl ?_
          exact H_end .ret (.pd (.bool false)) (by kernel_rfl) rfl (by kernel_rfl) (by subst h; rfl)
        replace h := h.t rfl
        obtain ⟨x93, hx94, h⟩ := h
        refine H_valW (g := 110) (args := [.pd (.str (sub p0 (IntKind.i64.wrap (s700 + 1)) (p0.length : Int)))]) (M := []) (.pd (.bool x93)) (.inl (by kernel_rfl)) (by kernel_rfl) (offcutref08_digits_ok m _ hx94) (by kernel_rfl) (hasT 110 (by kernel_rfl)) ?_
        cases x93
        · replace h := h.f rfl
          refine H_leaveP .ret (by kernel_rfl) rfl ?_
          exact H_end .ret (.pd (.bool false)) (by kernel_rfl) rfl (by kernel_rfl) (by subst h; rfl)
        replace h := h.t rfl
        refine H_leaveP .ret (by kernel_rfl) rfl ?_
        exact H_end .ret (.pd (.bool false)) (by kernel_rfl) rfl (by kernel_rfl) (by subst h; rfl)
      replace h := h.f hp84
      exact H_againP (st := _) (IntKind.i64.wrap (s700 + 1)) () h trivial (by kernel_rfl) (by kernel_rfl) (by kernel_rfl) (by kernel_rfl) (by kernel_rfl)
    replace h := h.f hp81
    refine H_leaveP (.exit 0) (by kernel_rfl) rfl ?_
    obtain ⟨x104, hx105, h⟩ := h
    refine H_valW (g := 110) (args := [.pd (.str p0)]) (M := []) (.pd (.bool x104)) (.inl (by kernel_rfl)) (by kernel_rfl) (offcutref08_digits_ok m _ hx105) (by kernel_rfl) (hasT 110 (by kernel_rfl)) ?_
    cases x104
    · replace h := h.f rfl
      exact H_end .ret (.pd (.bool false)) (by kernel_rfl) rfl (by kernel_rfl) (by subst h; rfl)
    replace h := h.t rfl
    exact H_end .ret (.pd (.bool true)) (by kernel_rfl) rfl (by kernel_rfl) (by subst h; rfl)
  replace h := h.t rfl
  refine H_askK (.pd (.int .i64 (p0.length : Int))) ([]) (by kernel_rfl) ?_
  refine H_split (decide ((p0.length : Int) > (0 : Int))) (by kernel_rfl) (fun hp1 => ?_) (fun hp1 => ?_)
  · replace h := h.t hp1
    obtain ⟨c2, hx3, h⟩ := h
    refine H_ask _ _ (by kernel_rfl) (ask_sidx (P := Tryz.prog) (M := []) (t := 9) (k := .i64) (by kernel_rfl) hx3) ?_
    refine H_split (((c2.toNat : Nat) : Int) == (45 : Int)) (by kernel_rfl) (fun hp4 => ?_) (fun hp4 => ?_)
    · replace h := h.t hp4
      obtain ⟨hx5, h⟩ := h
      refine H_ask _ _ (by kernel_rfl) (ask_subS (P := Tryz.prog) (M := []) (t := 9) (lo := (some (1 : Int))) (hi := none) (by kernel_rfl) hx5) ?_
      refine H_loopP (F := offcutref08_Number_L1 p0 r) (s0 := (0 : Int)) h () 60 0
        (fun (s100 : Int) (() : Unit) => [(0, .pd (.str (sub p0 (1 : Int) (p0.length : Int)))), (5, .pd (.int .i64 s100))])
        (fun (s100 : Int) (() : Unit) => []) (fun (s100 : Int) (() : Unit) => True) trivial [] mixedT (askG [9, 10, 11] false)
        (by kernel_rfl) (by kernel_rfl) (by kernel_rfl) (by kernel_rfl) (by kernel_rfl) (fun _ _ => rfl) ?_
      rintro X1 s100 ⟨⟩ - h
      dsimp only [offcutref08_Number_L1] at h
      refine H_askK (.pd (.int .i64 ((sub p0 (1 : Int) (p0.length : Int)).length : Int))) ([]) (by kernel_rfl) ?_
      refine H_split (decide (s100 < ((sub p0 (1 : Int) (p0.length : Int)).length : Int))) (by kernel_rfl) (fun hp6 => ?_) (fun hp6 => ?_)
      · replace h := h.t hp6
        obtain ⟨c7, hx8, h⟩ := h
        refine H_ask _ _ (by kernel_rfl) (ask_sidx (P := Tryz.prog) (M := []) (t := 9) (k := .i64) (by kernel_rfl) hx8) ?_
        refine H_split (((c7.toNat : Nat) : Int) == (47 : Int)) (by kernel_rfl) (fun hp9 => ?_) (fun hp9 => ?_)
        · replace h := h.t hp9
          obtain ⟨hx10, h⟩ := h
          refine H_ask _ _ (by kernel_rfl) (ask_subS (P := Tryz.prog) (M := []) (t := 9) (lo := (some (IntKind.i64.wrap (s100 + 1)))) (hi := none) (by kernel_rfl) hx10) ?_
          refine H_loopP (F := offcutref08_Number_L2 p0 s100 r) (s0 := (true, (0 : Int))) h () 60 0
            (fun ((s200, s201) : Bool × Int) (() : Unit) => [(0, .pd (.str (sub p0 (1 : Int) (p0.length : Int)))), (5, .pd (.int .i64 s100)), (6, .pd (.str (sub (sub p0 (1 : Int) (p0.length : Int)) (IntKind.i64.wrap (s100 + 1)) ((sub p0 (1 : Int) (p0.length : Int)).length : Int)))), (7, .pd (.bool s200)), (8, .pd (.int .i64 s201))])
            (fun ((s200, s201) : Bool × Int) (() : Unit) => []) (fun ((s200, s201) : Bool × Int) (() : Unit) => True) trivial [] mixedT (askG [9, 10, 11] false)
            (by kernel_rfl) (by kernel_rfl) (by kernel_rfl) (by kernel_rfl) (by kernel_rfl) (fun _ _ => rfl) ?_
          rintro X2 ⟨s200, s201⟩ ⟨⟩ - h
          dsimp only [offcutref08_Number_L2] at h
          cases s200
          · replace h := h.f rfl
            refine H_askK (.pd (.int .i64 ((sub (sub p0 (1 : Int) (p0.length : Int)) (IntKind.i64.wrap (s100 + 1)) ((sub p0 (1 : Int) (p0.length : Int)).length : Int)).length : Int))) ([]) (by kernel_rfl) ?_
            refine H_split (decide (s201 < ((sub (sub p0 (1 : Int) (p0.length : Int)) (IntKind.i64.wrap (s100 + 1)) ((sub p0 (1 : Int) (p0.length : Int)).length : Int)).length : Int))) (by kernel_rfl) (fun hp20 => ?_) (fun hp20 => ?_)
            · replace h := h.t hp20
              obtain ⟨c21, hx22, h⟩ := h
              refine H_ask _ _ (by kernel_rfl) (ask_sidx (P := Tryz.prog) (M := []) (t := 9) (k := .i64) (by kernel_rfl) hx22) ?_
              refine H_split (((c21.toNat : Nat) : Int) != (48 : Int)) (by kernel_rfl) (fun hp23 => ?_) (fun hp23 => ?_)
              · replace h := h.t hp23
                exact H_againP (st := _) (false, (IntKind.i64.wrap (s201 + 1))) () h trivial (by kernel_rfl) (by kernel_rfl) (by kernel_rfl) (by kernel_rfl) (by kernel_rfl)
              replace h := h.f hp23
              exact H_againP (st := _) (false, (IntKind.i64.wrap (s201 + 1))) () h trivial (by kernel_rfl) (by kernel_rfl) (by kernel_rfl) (by kernel_rfl) (by kernel_rfl)
            replace h := h.f hp20
            refine H_leaveP (.exit 2) (by kernel_rfl) rfl ?_
            obtain ⟨hx24, h⟩ := h
            refine H_ask _ _ (by kernel_rfl) (ask_subS (P := Tryz.prog) (M := []) (t := 9) (lo := none) (hi := (some s100)) (by kernel_rfl) hx24) ?_
            obtain ⟨x25, hx26, h⟩ := h
            refine H_valW (g := 110) (args := [.pd (.str (sub (sub p0 (1 : Int) (p0.length : Int)) 0 s100))]) (M := []) (.pd (.bool x25)) (.inl (by kernel_rfl)) (by kernel_rfl) (offcutref08_digits_ok m _ hx26) (by kernel_rfl) (hasT 110 (by kernel_rfl)) ?_
            cases x25
            · replace h := h.f rfl
              refine H_leaveP .ret (by kernel_rfl) rfl ?_
              exact H_end .ret (.pd (.bool false)) (by kernel_rfl) rfl (by kernel_rfl) (by subst h; rfl)
            replace h := h.t rfl
            obtain ⟨x27, hx28, h⟩ := h
            refine H_valW (g := 110) (args := [.pd (.str (sub (sub p0 (1 : Int) (p0.length : Int)) (IntKind.i64.wrap (s100 + 1)) ((sub p0 (1 : Int) (p0.length : Int)).length : Int)))]) (M := []) (.pd (.bool x27)) (.inl (by kernel_rfl)) (by kernel_rfl) (offcutref08_digits_ok m _ hx28) (by kernel_rfl) (hasT 110 (by kernel_rfl)) ?_
            cases x27
            · replace h := h.f rfl
              refine H_leaveP .ret (by kernel_rfl) rfl ?_
              exact H_end .ret (.pd (.bool false)) (by kernel_rfl) rfl (by kernel_rfl) (by subst h; rfl)
            replace h := h.t rfl
            refine H_leaveP .ret (by kernel_rfl) rfl ?_
            exact H_end .ret (.pd (.bool true)) (by kernel_rfl) rfl (by kernel_rfl) (by subst h; rfl)
          replace h := h.t rfl
          refine H_askK (.pd (.int .i64 ((sub (sub p0 (1 : Int) (p0.length : Int)) (IntKind.i64.wrap (s100 + 1)) ((sub p0 (1 : Int) (p0.length : Int)).length : Int)).length : Int))) ([]) (by kernel_rfl) ?_
          refine H_split (decide (s201 < ((sub (sub p0 (1 : Int) (p0.length : Int)) (IntKind.i64.wrap (s100 + 1)) ((sub p0 (1 : Int) (p0.length : Int)).length : Int)).length : Int))) (by kernel_rfl) (fun hp11 => ?_) (fun hp11 => ?_)
          · replace h := h.t hp11
            obtain ⟨c12, hx13, h⟩ := h
            refine H_ask _ _ (by kernel_rfl) (ask_sidx (P := Tryz.prog) (M := []) (t := 9) (k := .i64) (by kernel_rfl) hx13) ?_
            refine H_split (((c12.toNat : Nat) : Int) != (48 : Int)) (by kernel_rfl) (fun hp14 => ?_) (fun hp14 => ?_)
            · replace h := h.t hp14
              exact H_againP (st := _) (false, (IntKind.i64.wrap (s201 + 1))) () h trivial (by kernel_rfl) (by kernel_rfl) (by kernel_rfl) (by kernel_rfl) (by kernel_rfl)
            replace h := h.f hp14
            exact H_againP (st := _) (true, (IntKind.i64.wrap (s201 + 1))) () h trivial (by kernel_rfl) (by kernel_rfl) (by kernel_rfl) (by kernel_rfl) (by kernel_rfl)
          replace h := h.f hp11
          refine H_leaveP (.exit 2) (by kernel_rfl) rfl ?_
          obtain ⟨hx15, h⟩ := h
          refine H_ask _ _ (by kernel_rfl) (ask_subS (P := Tryz.prog) (M := []) (t := 9) (lo := none) (hi := (some s100)) (by kernel_rfl) hx15) ?_
          obtain ⟨x16, hx17, h⟩ := h
          refine H_valW (g := 110) (args := [.pd (.str (sub (sub p0 (1 : Int) (p0.length : Int)) 0 s100))]) (M := []) (.pd (.bool x16)) (.inl (by kernel_rfl)) (by kernel_rfl) (offcutref08_digits_ok m _ hx17) (by kernel_rfl) (hasT 110 (by kernel_rfl)) ?_
          cases x16
          · replace h := h.f rfl
            refine H_leaveP .ret (by kernel_rfl) rfl ?_
            exact H_end .ret (.pd (.bool false)) (by kernel_rfl) rfl (by kernel_rfl) (by subst h; rfl)
          replace h := h.t rfl
          obtain ⟨x18, hx19, h⟩ := h
          refine H_valW (g := 110) (args := [.pd (.str (sub (sub p0 (1 : Int) (p0.length : Int)) (IntKind.i64.wrap (s100 + 1)) ((sub p0 (1 : Int) (p0.length : Int)).length : Int)))]) (M := []) (.pd (.bool x18)) (.inl (by kernel_rfl)) (by kernel_rfl) (offcutref08_digits_ok m _ hx19) (by kernel_rfl) (hasT 110 (by kernel_rfl)) ?_
          cases x18
          · replace h := h.f rfl
            refine H_leaveP .ret (by kernel_rfl) rfl ?_
            exact H_end .ret (.pd (.bool false)) (by kernel_rfl) rfl (by kernel_rfl) (by subst h; rfl)
          replace h := h.t rfl
          refine H_leaveP .ret (by kernel_rfl) rfl ?_
          exact H_end .ret (.pd (.bool false)) (by kernel_rfl) rfl (by kernel_rfl) (by subst h; rfl)
        replace h := h.f hp9
        exact H_againP (st := _) (IntKind.i64.wrap (s100 + 1)) () h trivial (by kernel_rfl) (by kernel_rfl) (by kernel_rfl) (by kernel_rfl) (by kernel_rfl)
      replace h := h.f hp6
      refine H_leaveP (.exit 0) (by kernel_rfl) rfl ?_
      obtain ⟨x29, hx30, h⟩ := h
      refine H_valW (g := 110) (args := [.pd (.str (sub p0 (1 : Int) (p0.length : Int)))]) (M := []) (.pd (.bool x29)) (.inl (by kernel_rfl)) (by kernel_rfl) (offcutref08_digits_ok m _ hx30) (by kernel_rfl) (hasT 110 (by kernel_rfl)) ?_
      cases x29
      · replace h := h.f rfl
        exact H_end .ret (.pd (.bool false)) (by kernel_rfl) rfl (by kernel_rfl) (by subst h; rfl)
      replace h := h.t rfl
      exact H_end .ret (.pd (.bool true)) (by kernel_rfl) rfl (by kernel_rfl) (by subst h; rfl)
    replace h := h.f hp4
    refine H_loopP (F := offcutref08_Number_L3 p0 r) (s0 := (0 : Int)) h () 60 0
      (fun (s300 : Int) (() : Unit) => [(0, .pd (.str p0)), (5, .pd (.int .i64 s300))])
      (fun (s300 : Int) (() : Unit) => []) (fun (s300 : Int) (() : Unit) => True) trivial [] mixedT (askG [9, 10, 11] false)
      (by kernel_rfl) (by kernel_rfl) (by kernel_rfl) (by kernel_rfl) (by kernel_rfl) (fun _ _ => rfl) ?_
    rintro X3 s300 ⟨⟩ - h
    dsimp only [offcutref08_Number_L3] at h
    refine H_askK (.pd (.int .i64 (p0.length : Int))) ([]) (by kernel_rfl) ?_
    refine H_split (decide (s300 < (p0.length : Int))) (by kernel_rfl) (fun hp31 => ?_) (fun hp31 => ?_)
    · replace h := h.t hp31
      obtain ⟨c32, hx33, h⟩ := h
      refine H_ask _ _ (by kernel_rfl) (ask_sidx (P := Tryz.prog) (M := []) (t := 9) (k := .i64) (by kernel_rfl) hx33) ?_
      refine H_split (((c32.toNat : Nat) : Int) == (47 : Int)) (by kernel_rfl) (fun hp34 => ?_) (fun hp34 => ?_)
      · replace h := h.t hp34
        obtain ⟨hx35, h⟩ := h
        refine H_ask _ _ (by kernel_rfl) (ask_subS (P := Tryz.prog) (M := []) (t := 9) (lo := (some (IntKind.i64.wrap (s300 + 1)))) (hi := none) (by kernel_rfl) hx35) ?_
        refine H_loopP (F := offcutref08_Number_L4 p0 s300 r) (s0 := (true, (0 : Int))) h () 60 0
          (fun ((s400, s401) : Bool × Int) (() : Unit) => [(0, .pd (.str p0)), (5, .pd (.int .i64 s300)), (6, .pd (.str (sub p0 (IntKind.i64.wrap (s300 + 1)) (p0.length : Int)))), (7, .pd (.bool s400)), (8, .pd (.int .i64 s401))])
          (fun ((s400, s401) : Bool × Int) (() : Unit) => []) (fun ((s400, s401) : Bool × Int) (() : Unit) => True) trivial [] mixedT (askG [9, 10, 11] false)
          (by kernel_rfl) (by kernel_rfl) (by kernel_rfl) (by kernel_rfl) (by kernel_rfl) (fun _ _ => rfl) ?_
        rintro X4 ⟨s400, s401⟩ ⟨⟩ - h
        dsimp only [offcutref08_Number_L4] at h
        cases s400
        · replace h := h.f rfl
          refine H_askK (.pd (.int .i64 ((sub p0 (IntKind.i64.wrap (s300 + 1)) (p0.length : Int)).length : Int))) ([]) (by kernel_rfl) ?_
          refine H_split (decide (s401 < ((sub p0 (IntKind.i64.wrap (s300 + 1)) (p0.length : Int)).length : Int))) (by kernel_rfl) (fun hp45 => ?_) (fun hp45 => ?_)
          · replace h := h.t hp45
            obtain ⟨c46, hx47, h⟩ := h
            refine H_ask _ _ (by kernel_rfl) (ask_sidx (P := Tryz.prog) (M := []) (t := 9) (k := .i64) (by kernel_rfl) hx47) ?_
            refine H_split (((c46.toNat : Nat) : Int) != (48 : Int)) (by kernel_rfl) (fun hp48 => ?_) (fun hp48 => ?_)
            · replace h := h.t hp48
              exact H_againP (st := _) (false, (IntKind.i64.wrap (s401 + 1))) () h trivial (by kernel_rfl) (by kernel_rfl) (by kernel_rfl) (by kernel_rfl) (by kernel_rfl)
            replace h := h.f hp48
            exact H_againP (st := _) (false, (IntKind.i64.wrap (s401 + 1))) () h trivial (by kernel_rfl) (by kernel_rfl) (by kernel_rfl) (by kernel_rfl) (by kernel_rfl)
          replace h := h.f hp45
          refine H_leaveP (.exit 2) (by kernel_rfl) rfl ?_
          obtain ⟨hx49, h⟩ := h
          refine H_ask _ _ (by kernel_rfl) (ask_subS (P := Tryz.prog) (M := []) (t := 9) (lo := none) (hi := (some s300)) (by kernel_rfl) hx49) ?_
          obtain ⟨x50, hx51, h⟩ := h
          refine H_valW (g := 110) (args := [.pd (.str (sub p0 0 s300))]) (M := []) (.pd (.bool x50)) (.inl (by kernel_rfl)) (by kernel_rfl) (offcutref08_digits_ok m _ hx51) (by kernel_rfl) (hasT 110 (by kernel_rfl)) ?_
          cases x50
          · replace h := h.f rfl
            refine H_leaveP .ret (by kernel_rfl) rfl ?_
            exact H_end .ret (.pd (.bool false)) (by kernel_rfl) rfl (by kernel_rfl) (by subst h; rfl)
          replace h := h.t rfl
          obtain ⟨x52, hx53, h⟩ := h
          refine H_valW (g := 110) (args := [.pd (.str (sub p0 (IntKind.i64.wrap (s300 + 1)) (p0.length : Int)))]) (M := []) (.pd (.bool x52)) (.inl (by kernel_rfl)) (by kernel_rfl) (offcutref08_digits_ok m _ hx53) (by kernel_rfl) (hasT 110 (by kernel_rfl)) ?_
          cases x52
          · replace h := h.f rfl
            refine H_leaveP .ret (by kernel_rfl) rfl ?_
            exact H_end .ret (.pd (.bool false)) (by kernel_rfl) rfl (by kernel_rfl) (by subst h; rfl)
          replace h := h.t rfl
          refine H_leaveP .ret (by kernel_rfl) rfl ?_
          exact H_end .ret (.pd (.bool true)) (by kernel_rfl) rfl (by kernel_rfl) (by subst h; rfl)
        replace h := h.t rfl
        refine H_askK (.pd (.int .i64 ((sub p0 (IntKind.i64.wrap (s300 + 1)) (p0.length : Int)).length : Int))) ([]) (by kernel_rfl) ?_
        refine H_split (decide (s401 < ((sub p0 (IntKind.i64.wrap (s300 + 1)) (p0.length : Int)).length : Int))) (by kernel_rfl) (fun hp36 => ?_) (fun hp36 => ?_)
        · replace h := h.t hp36
          obtain ⟨c37, hx38, h⟩ := h
          refine H_ask _ _ (by kernel_rfl) (ask_sidx (P := Tryz.prog) (M := []) (t := 9) (k := .i64) (by kernel_rfl) hx38) ?_
          refine H_split (((c37.toNat : Nat) : Int) != (48 : Int)) (by kernel_rfl) (fun hp39 => ?_) (fun hp39 => ?_)
          · replace h := h.t hp39
            exact H_againP (st := _) (false, (IntKind.i64.wrap (s401 + 1))) () h trivial (by kernel_rfl) (by kernel_rfl) (by kernel_rfl) (by kernel_rfl) (by kernel_rfl)
          replace h := h.f hp39
          exact H_againP (st := _) (true, (IntKind.i64.wrap (s401 + 1))) () h trivial (by kernel_rfl) (by kernel_rfl) (by kernel_rfl) (by kernel_rfl) (by kernel_rfl)
        replace h := h.f hp36
        refine H_leaveP (.exit 2) (by kernel_rfl) rfl ?_
        obtain ⟨hx40, h⟩ := h
        refine H_ask _ _ (by kernel_rfl) (ask_subS (P := Tryz.prog) (M := []) (t := 9) (lo := none) (hi := (some s300)) (by kernel_rfl) hx40) ?_
        obtain ⟨x41, hx42, h⟩ := h
        refine H_valW (g := 110) (args := [.pd (.str (sub p0 0 s300))]) (M := []) (.pd (.bool x41)) (.inl (by kernel_rfl)) (by kernel_rfl) (offcutref08_digits_ok m _ hx42) (by kernel_rfl) (hasT 110 (by kernel_rfl)) ?_
        cases x41
        · replace h := h.f rfl
          refine H_leaveP .ret (by kernel_rfl) rfl ?_
          exact H_end .ret (.pd (.bool false)) (by kernel_rfl) rfl (by kernel_rfl) (by subst h; rfl)
        replace h := h.t rfl
        obtain ⟨x43, hx44, h⟩ := h
        refine H_valW (g := 110) (args := [.pd (.str (sub p0 (IntKind.i64.wrap (s300 + 1)) (p0.length : Int)))]) (M := []) (.pd (.bool x43)) (.inl (by kernel_rfl)) (by kernel_rfl) (offcutref08_digits_ok m _ hx44) (by kernel_rfl) (hasT 110 (by kernel_rfl)) ?_
        cases x43
        · replace h := h.f rfl
          refine H_leaveP .ret (by kernel_rfl) rfl ?_
          exact H_end .ret (.pd (.bool false)) (by kernel_rfl) rfl (by kernel_rfl) (by subst h; rfl)
        replace h := h.t rfl
        refine H_leaveP .ret (by kernel_rfl) rfl ?_
        exact H_end .ret (.pd (.bool false)) (by kernel_rfl) rfl (by kernel_rfl) (by subst h; rfl)
      replace h := h.f hp34
      exact H_againP (st := _) (IntKind.i64.wrap (s300 + 1)) () h trivial (by kernel_rfl) (by kernel_rfl) (by kernel_rfl) (by kernel_rfl) (by kernel_rfl)
    replace h := h.f hp31
    refine H_leaveP (.exit 0) (by kernel_rfl) rfl ?_
    obtain ⟨x54, hx55, h⟩ := h
    refine H_valW (g := 110) (args := [.pd (.str p0)]) (M := []) (.pd (.bool x54)) (.inl (by kernel_rfl)) (by kernel_rfl) (offcutref08_digits_ok m _ hx55) (by kernel_rfl) (hasT 110 (by kernel_rfl)) ?_
    cases x54
    · replace h := h.f rfl
      exact H_end .ret (.pd (.bool false)) (by kernel_rfl) rfl (by kernel_rfl) (by subst h; rfl)
    replace h := h.t rfl
    exact H_end .ret (.pd (.bool true)) (by kernel_rfl) rfl (by kernel_rfl) (by subst h; rfl)
  replace h := h.f hp1
  refine H_loopP (F := offcutref08_Number_L5 p0 r) (s0 := (0 : Int)) h () 60 0
    (fun (s500 : Int) (() : Unit) => [(0, .pd (.str p0)), (5, .pd (.int .i64 s500))])
    (fun (s500 : Int) (() : Unit) => []) (fun (s500 : Int) (() : Unit) => True) trivial [] mixedT (askG [9, 10, 11] false)
    (by kernel_rfl) (by kernel_rfl) (by kernel_rfl) (by kernel_rfl) (by kernel_rfl) (fun _ _ => rfl) ?_
  rintro X5 s500 ⟨⟩ - h
  dsimp only [offcutref08_Number_L5] at h
  refine H_askK (.pd (.int .i64 (p0.length : Int))) ([]) (by kernel_rfl) ?_
  refine H_split (decide (s500 < (p0.length : Int))) (by kernel_rfl) (fun hp56 => ?_) (fun hp56 => ?_)
  · replace h := h.t hp56
    obtain ⟨c57, hx58, h⟩ := h
    refine H_ask _ _ (by kernel_rfl) (ask_sidx (P := Tryz.prog) (M := []) (t := 9) (k := .i64) (by kernel_rfl) hx58) ?_
    refine H_split (((c57.toNat : Nat) : Int) == (47 : Int)) (by kernel_rfl) (fun hp59 => ?_) (fun hp59 => ?_)
    · replace h := h.t hp59
      obtain ⟨hx60, h⟩ := h
      refine H_ask _ _ (by kernel_rfl) (ask_subS (P := Tryz.prog) (M := []) (t := 9) (lo := (some (IntKind.i64.wrap (s500 + 1)))) (hi := none) (by kernel_rfl) hx60) ?_
      refine H_loopP (F := offcutref08_Number_L6 p0 s500 r) (s0 := (true, (0 : Int))) h () 60 0
        (fun ((s600, s601) : Bool × Int) (() : Unit) => [(0, .pd (.str p0)), (5, .pd (.int .i64 s500)), (6, .pd (.str (sub p0 (IntKind.i64.wrap (s500 + 1)) (p0.length : Int)))), (7, .pd (.bool s600)), (8, .pd (.int .i64 s601))])
        (fun ((s600, s601) : Bool × Int) (() : Unit) => []) (fun ((s600, s601) : Bool × Int) (() : Unit) => True) trivial [] mixedT (askG [9, 10, 11] false)
        (by kernel_rfl) (by kernel_rfl) (by kernel_rfl) (by kernel_rfl) (by kernel_rfl) (fun _ _ => rfl) ?_
      rintro X6 ⟨s600, s601⟩ ⟨⟩ - h
      dsimp only [offcutref08_Number_L6] at h
      cases s600
      · replace h := h.f rfl
        refine H_askK (.pd (.int .i64 ((sub p0 (IntKind.i64.wrap (s500 + 1)) (p0.length : Int)).length : Int))) ([]) (by kernel_rfl) ?_
        refine H_split (decide (s601 < ((sub p0 (IntKind.i64.wrap (s500 + 1)) (p0.length : Int)).length : Int))) (by kernel_rfl) (fun hp70 => ?_) (fun hp70 => ?_)
        · replace h := h.t hp70
          obtain ⟨c71, hx72, h⟩ := h
          refine H_ask _ _ (by kernel_rfl) (ask_sidx (P := Tryz.prog) (M := []) (t := 9) (k := .i64) (by kernel_rfl) hx72) ?_
          refine H_split (((c71.toNat : Nat) : Int) != (48 : Int)) (by kernel_rfl) (fun hp73 => ?_) (fun hp73 => ?_)
          · replace h := h.t hp73
            exact H_againP (st := _) (false, (IntKind.i64.wrap (s601 + 1))) () h trivial (by kernel_rfl) (by kernel_rfl) (by kernel_rfl) (by kernel_rfl) (by kernel_rfl)
          replace h := h.f hp73
          exact H_againP (st := _) (false, (IntKind.i64.wrap (s601 + 1))) () h trivial (by kernel_rfl) (by kernel_rfl) (by kernel_rfl) (by kernel_rfl) (by kernel_rfl)
        replace h := h.f hp70
        refine H_leaveP (.exit 2) (by kernel_rfl) rfl ?_
        obtain ⟨hx74, h⟩ := h
        refine H_ask _ _ (by kernel_rfl) (ask_subS (P := Tryz.prog) (M := []) (t := 9) (lo := none) (hi := (some s500)) (by kernel_rfl) hx74) ?_
        obtain ⟨x75, hx76, h⟩ := h
        refine H_valW (g := 110) (args := [.pd (.str (sub p0 0 s500))]) (M := []) (.pd (.bool x75)) (.inl (by kernel_rfl)) (by kernel_rfl) (offcutref08_digits_ok m _ hx76) (by kernel_rfl) (hasT 110 (by kernel_rfl)) ?_
        cases x75
        · replace h := h.f rfl
          refine H_leaveP .ret (by kernel_rfl) rfl ?_
          exact H_end .ret (.pd (.bool false)) (by kernel_rfl) rfl (by kernel_rfl) (by subst h; rfl)
        replace h := h.t rfl
        obtain ⟨x77, hx78, h⟩ := h
        refine H_valW (g := 110) (args := [.pd (.str (sub p0 (IntKind.i64.wrap (s500 + 1)) (p0.length : Int)))]) (M := []) (.pd (.bool x77)) (.inl (by kernel_rfl)) (by kernel_rfl) (offcutref08_digits_ok m _ hx78) (by kernel_rfl) (hasT 110 (by kernel_rfl)) ?_
        cases x77
        · replace h := h.f rfl
          refine H_leaveP .ret (by kernel_rfl) rfl ?_
          exact H_end .ret (.pd (.bool false)) (by kernel_rfl) rfl (by kernel_rfl) (by subst h; rfl)
        replace h := h.t rfl
        refine H_leaveP .ret (by kernel_rfl) rfl ?_
        exact H_end .ret (.pd (.bool true)) (by kernel_rfl) rfl (by kernel_rfl) (by subst h; rfl)
      replace h := h.t rfl
      refine H_askK (.pd (.int .i64 ((sub p0 (IntKind.i64.wrap (s500 + 1)) (p0.length : Int)).length : Int))) ([]) (by kernel_rfl) ?_
      refine H_split (decide (s601 < ((sub p0 (IntKind.i64.wrap (s500 + 1)) (p0.length : Int)).length : Int))) (by kernel_rfl) (fun hp61 => ?_) (fun hp61 => ?_)
      · replace h := h.t hp61
        obtain ⟨c62, hx63, h⟩ := h
        refine H_ask _ _ (by kernel_rfl) (ask_sidx (P := Tryz.prog) (M := []) (t := 9) (k := .i64) (by kernel_rfl) hx63) ?_
        refine H_split (((c62.toNat : Nat) : Int) != (48 : Int)) (by kernel_rfl) (fun hp64 => ?_) (fun hp64 => ?_)
        · replace h := h.t hp64
          exact H_againP (st := _) (false, (IntKind.i64.wrap (s601 + 1))) () h trivial (by kernel_rfl) (by kernel_rfl) (by kernel_rfl) (by kernel_rfl) (by kernel_rfl)
        replace h := h.f hp64
        exact H_againP (st := _) (true, (IntKind.i64.wrap (s601 + 1))) () h trivial (by kernel_rfl) (by kernel_rfl) (by kernel_rfl) (by kernel_rfl) (by kernel_rfl)
      replace h := h.f hp61
      refine H_leaveP (.exit 2) (by kernel_rfl) rfl ?_
      obtain ⟨hx65, h⟩ := h
      refine H_ask _ _ (by kernel_rfl) (ask_subS (P := Tryz.prog) (M := []) (t := 9) (lo := none) (hi := (some s500)) (by kernel_rfl) hx65) ?_
      obtain ⟨x66, hx67, h⟩ := h
      refine H_valW (g := 110) (args := [.pd (.str (sub p0 0 s500))]) (M := []) (.pd (.bool x66)) (.inl (by kernel_rfl)) (by kernel_rfl) (offcutref08_digits_ok m _ hx67) (by kernel_rfl) (hasT 110 (by kernel_rfl)) ?_
      cases x66
      · replace h := h.f rfl
        refine H_leaveP .ret (by kernel_rfl) rfl ?_
        exact H_end .ret (.pd (.bool false)) (by kernel_rfl) rfl (by kernel_rfl) (by subst h; rfl)
      replace h := h.t rfl
      obtain ⟨x68, hx69, h⟩ := h
      refine H_valW (g := 110) (args := [.pd (.str (sub p0 (IntKind.i64.wrap (s500 + 1)) (p0.length : Int)))]) (M := []) (.pd (.bool x68)) (.inl (by kernel_rfl)) (by kernel_rfl) (offcutref08_digits_ok m _ hx69) (by kernel_rfl) (hasT 110 (by kernel_rfl)) ?_
      cases x68
      · replace h := h.f rfl
        refine H_leaveP .ret (by kernel_rfl) rfl ?_
        exact H_end .ret (.pd (.bool false)) (by kernel_rfl) rfl (by kernel_rfl) (by subst h; rfl)
      replace h := h.t rfl
      refine H_leaveP .ret (by kernel_rfl) rfl ?_
      exact H_end .ret (.pd (.bool false)) (by kernel_rfl) rfl (by kernel_rfl) (by subst h; rfl)
    replace h := h.f hp59
    exact H_againP (st := _) (IntKind.i64.wrap (s500 + 1)) () h trivial (by kernel_rfl) (by kernel_rfl) (by kernel_rfl) (by kernel_rfl) (by kernel_rfl)
  replace h := h.f hp56
  refine H_leaveP (.exit 0) (by kernel_rfl) rfl ?_
  obtain ⟨x79, hx80, h⟩ := h
  refine H_valW (g := 110) (args := [.pd (.str p0)]) (M := []) (.pd (.bool x79)) (.inl (by kernel_rfl)) (by kernel_rfl) (offcutref08_digits_ok m _ hx80) (by kernel_rfl) (hasT 110 (by kernel_rfl)) ?_
  cases x79
  · replace h := h.f rfl
    exact H_end .ret (.pd (.bool false)) (by kernel_rfl) rfl (by kernel_rfl) (by subst h; rfl)
  replace h := h.t rfl
  exact H_end .ret (.pd (.bool true)) (by kernel_rfl) rfl (by kernel_rfl) (by subst h; rfl)

theorem offcutref13_Parse_ok (m : Tp) (p0 : List UInt8) {r : Int × Int × (List (List UInt8)) × (List (List UInt8)) × (List (List UInt8))} (h : offcutref13_Parse p0 r) : ASpec Tryz.prog (gtT m) 29 [.pd (.str p0)] (· = .tup [.pd (.int .i64 r.1), .pd (.int .i64 r.2.1), .agg [.pd (.sl (r.2.2.1.map elS)), .pd (.sl (r.2.2.2.1.map elS)), .pd (.sl (r.2.2.2.2.map elS))]]) := by
  refine ASpec_tree Tryz.f29 mixedT (askO [9, 10, 11] false [58]) (by kernel_rfl) ?_
  unfold offcutref13_Parse at h
  refine H_allocL (t := 58) (M0 := []) (M1 := []) (M2 := [.cells [.fixed (([] : List (List UInt8)).map elS), .fixed (([] : List (List UInt8)).map elS), .fixed (([] : List (List UInt8)).map elS)] 1 0 false]) [] [.fixed (([] : List (List UInt8)).map elS), .fixed (([] : List (List UInt8)).map elS), .fixed (([] : List (List UInt8)).map elS)] (by kernel_rfl) (VStep.refl _) (by kernel_rfl) (by kernel_rfl) ?_
  let o1 : Ob := .cells [.fixed (([] : List (List UInt8)).map elS), .fixed (([] : List (List UInt8)).map elS), .fixed (([] : List (List UInt8)).map elS)] 1 0 false
  refine H_allocL (t := 58) (M0 := [o1]) (M1 := [o1]) (M2 := [.cells [.fixed (([] : List (List UInt8)).map elS), .fixed (([] : List (List UInt8)).map elS), .fixed (([] : List (List UInt8)).map elS)] 1 0 false, .cells [.pd (.sl (([] : List (List UInt8)).map elS)), .pd (.sl (([] : List (List UInt8)).map elS)), .pd (.sl (([] : List (List UInt8)).map elS))] 1 0 false]) [(0, none), (1, none), (2, none)] [.pd (.sl (([] : List (List UInt8)).map elS)), .pd (.sl (([] : List (List UInt8)).map elS)), .pd (.sl (([] : List (List UInt8)).map elS))] (by kernel_rfl) (VStep.refl _) (by kernel_rfl) (by kernel_rfl) ?_
  obtain ⟨x1, hx2, h⟩ := h
  let o2 : Ob := .cells [.pd (.sl (([] : List (List UInt8)).map elS)), .pd (.sl (([] : List (List UInt8)).map elS)), .pd (.sl (([] : List (List UInt8)).map elS))] 1 0 false
  refine H_valW (g := 63) (args := [.pd (.str p0)]) (M := [o1, o2]) (.pd (.sl (x1.map elAI64LSZ))) (.inl (by kernel_rfl)) (by kernel_rfl) (offcutref07_All_ok m _ hx2) (by kernel_rfl) (hasT 63 (by kernel_rfl)) ?_
  refine H_ask _ _ (by kernel_rfl) (ask_len (P := Tryz.prog) (M := [o1, o2]) (t := 112) (et := 114) (el := elAI64LSZ) (by kernel_rfl) (e := x1)) ?_
  refine H_split ((x1.length : Int) == (0 : Int)) (by kernel_rfl) (fun hp3 => ?_) (fun hp3 => ?_)
  · replace h := h.t hp3
    refine H_draw (by kernel_rfl) ?_
    refine H_askK (.agg [.pd (.sl (([] : List (List UInt8)).map elS)), .pd (.sl (([] : List (List UInt8)).map elS)), .pd (.sl (([] : List (List UInt8)).map elS))]) ([o1, o2]) (by kernel_rfl) ?_
    refine H_askK (.junk) ([o2, o2]) (by kernel_rfl) ?_
    exact H_end .ret (.tup [.pd (.int .i64 0), .pd (.int .i64 0), .agg [.pd (.sl (([] : List (List UInt8)).map elS)), .pd (.sl (([] : List (List UInt8)).map elS)), .pd (.sl (([] : List (List UInt8)).map elS))]]) (by kernel_rfl) rfl (by kernel_rfl) (by subst h; rfl)
  replace h := h.f hp3
  obtain ⟨x4, x5, hx6, h⟩ := h
  refine H_ask _ _ (by kernel_rfl) (ask_idx (P := Tryz.prog) (M := [o1, o2]) (t := 112) (et := 114) (k := .i64) (lv := lvAI64LSZ) okAI64LSZ leAI64LSZ (by kernel_rfl) (by kernel_rfl) hx6) ?_
  refine H_askK (.rd [.sl (x5.map elS)]) ([o1, o2]) (by kernel_rfl) ?_
  refine H_askK (.pd (.sl (x5.map elS))) ([o1, o2]) (by kernel_rfl) ?_
  refine H_ask _ _ (by kernel_rfl) (ask_len (P := Tryz.prog) (M := [o1, o2]) (t := 57) (et := 9) (el := elS) (by kernel_rfl) (e := x5)) ?_
  refine H_split ((x5.length : Int) == (1 : Int)) (by kernel_rfl) (fun hp7 => ?_) (fun hp7 => ?_)
  · replace h := h.t hp7
    obtain ⟨x8, x9, hx10, h⟩ := h
    refine H_ask _ _ (by kernel_rfl) (ask_idx (P := Tryz.prog) (M := [o1, o2]) (t := 112) (et := 114) (k := .i64) (lv := lvAI64LSZ) okAI64LSZ leAI64LSZ (by kernel_rfl) (by kernel_rfl) hx10) ?_
    refine H_askK (.rd [.sl (x9.map elS)]) ([o1, o2]) (by kernel_rfl) ?_
    refine H_askK (.pd (.sl (x9.map elS))) ([o1, o2]) (by kernel_rfl) ?_
    obtain ⟨x11, hx12, h⟩ := h
    refine H_ask _ _ (by kernel_rfl) (ask_idx (P := Tryz.prog) (M := [o1, o2]) (t := 57) (et := 9) (k := .i64) (lv := lvS) okS leS (by kernel_rfl) (by kernel_rfl) hx12) ?_
    refine H_askK (.pd (.str x11)) ([o1, o2]) (by kernel_rfl) ?_
    refine H_split (x11 == ([111, 112, 116, 105, 109, 97, 108] : List UInt8)) (by kernel_rfl) (fun hc => ?_) (fun hc => ?_)
    · replace h := h.t hc; clear hc
      refine H_split false (by kernel_rfl) (fun hc => by cases hc) (fun _ => ?_)
      refine H_loopP (F := offcutref13_Parse_L1 x1 r) (s0 := ((0 : Int), ([] : List (List UInt8)), ([] : List (List UInt8)), ([] : List (List UInt8)))) h () 137 2
        (fun ((s100, s101, s102, s103) : Int × (List (List UInt8)) × (List (List UInt8)) × (List (List UInt8))) (() : Unit) => [(4, .ptr 0 0 0), (5, .ptr 1 0 0), (6, .pd (.sl (x1.map elAI64LSZ))), (7, .pd (.int .i64 1)), (8, .pd (.sl ([([120] : List UInt8), ([121] : List UInt8)].map elS))), (9, .pd (.int .i64 s100))])
        (fun ((s100, s101, s102, s103) : Int × (List (List UInt8)) × (List (List UInt8)) × (List (List UInt8))) (() : Unit) => [.cells [.fixed (([] : List (List UInt8)).map elS), .fixed (([] : List (List UInt8)).map elS), .fixed (([] : List (List UInt8)).map elS)] 1 0 false, .cells [.pd (.sl (s101.map elS)), .pd (.sl (s102.map elS)), .pd (.sl (s103.map elS))] 1 0 false]) (fun ((s100, s101, s102, s103) : Int × (List (List UInt8)) × (List (List UInt8)) × (List (List UInt8))) (() : Unit) => True) trivial [] mixedT (askO [9, 10, 11] false [58])
        (by kernel_rfl) (by kernel_rfl) (by kernel_rfl) (by kernel_rfl) (by kernel_rfl) (fun _ _ => rfl) ?_
      rintro X1 ⟨s100, s101, s102, s103⟩ ⟨⟩ - h
      dsimp only [offcutref13_Parse_L1] at h
      let o3 : Ob := .cells [.pd (.sl (s101.map elS)), .pd (.sl (s102.map elS)), .pd (.sl (s103.map elS))] 1 0 false
      refine H_ask _ _ (by kernel_rfl) (ask_len (P := Tryz.prog) (M := [o1, o3]) (t := 57) (et := 9) (el := elS) (by kernel_rfl) (e := [([120] : List UInt8), ([121] : List UInt8)])) ?_
      refine H_split (decide (s100 < ([([120] : List UInt8), ([121] : List UInt8)].length : Int))) (by kernel_rfl) (fun hp13 => ?_) (fun hp13 => ?_)
      · replace h := h.t hp13
        refine H_ask _ _ (by kernel_rfl) (ask_len (P := Tryz.prog) (M := [o1, o3]) (t := 112) (et := 114) (el := elAI64LSZ) (by kernel_rfl) (e := x1)) ?_
        refine H_split (decide ((IntKind.i64.wrap (s100 + 1)) ≥ (x1.length : Int))) (by kernel_rfl) (fun hp14 => ?_) (fun hp14 => ?_)
        · replace h := h.t hp14
          refine H_draw (by kernel_rfl) ?_
          refine H_ask _ _ (by kernel_rfl) (ask_len (P := Tryz.prog) (M := [o1, o3]) (t := 112) (et := 114) (el := elAI64LSZ) (by kernel_rfl) (e := x1)) ?_
          obtain ⟨x15, x16, hx17, h⟩ := h
          refine H_ask _ _ (by kernel_rfl) (ask_idx (P := Tryz.prog) (M := [o1, o3]) (t := 112) (et := 114) (k := .i64) (lv := lvAI64LSZ) okAI64LSZ leAI64LSZ (by kernel_rfl) (by kernel_rfl) hx17) ?_
          refine H_askK (.rd [.int .i64 x15, .sl (x16.map elS)]) ([o1, o3]) (by kernel_rfl) ?_
          refine H_askK (.pd (.int .i64 x15)) ([o1, o3]) (by kernel_rfl) ?_
          refine H_askK (.agg [.fixed (([] : List (List UInt8)).map elS), .fixed (([] : List (List UInt8)).map elS), .fixed (([] : List (List UInt8)).map elS)]) ([o1, o3]) (by kernel_rfl) ?_
          refine H_askK (.junk) ([o1, o3]) (by kernel_rfl) ?_
          refine H_leaveP .ret (by kernel_rfl) rfl ?_
          exact H_end .ret (.tup [.pd (.int .i64 0), .pd (.int .i64 x15), .agg [.pd (.sl (([] : List (List UInt8)).map elS)), .pd (.sl (([] : List (List UInt8)).map elS)), .pd (.sl (([] : List (List UInt8)).map elS))]]) (by kernel_rfl) rfl (by kernel_rfl) (by subst h; rfl)
        replace h := h.f hp14
        obtain ⟨x18, x19, hx20, h⟩ := h
        refine H_ask _ _ (by kernel_rfl) (ask_idx (P := Tryz.prog) (M := [o1, o3]) (t := 112) (et := 114) (k := .i64) (lv := lvAI64LSZ) okAI64LSZ leAI64LSZ (by kernel_rfl) (by kernel_rfl) hx20) ?_
        refine H_askK (.agg [.pd (.int .i64 x18), .pd (.sl (x19.map elS))]) ([o1, o3]) (by kernel_rfl) ?_
        let o4 : Ob := .cells [.pd (.int .i64 x18), .pd (.sl (x19.map elS))] 1 0 false
        refine H_askK (.junk) ([o1, o3, o4]) (by kernel_rfl) ?_
        refine H_draw (by kernel_rfl) ?_
        refine H_askK (.ptr 2 1 0) ([o1, o3, o4]) (by kernel_rfl) ?_
        refine H_askK (.pd (.sl (x19.map elS))) ([o1, o3, o4]) (by kernel_rfl) ?_
        obtain ⟨x21, hx22, h⟩ := h
        refine H_ask _ _ (by kernel_rfl) (ask_idx (P := Tryz.prog) (M := [o1, o3, o4]) (t := 57) (et := 9) (k := .i64) (lv := lvS) okS leS (by kernel_rfl) (by kernel_rfl) hx22) ?_
        refine H_askK (.pd (.str x21)) ([o1, o3, o4]) (by kernel_rfl) ?_
        obtain ⟨x23, hx24, h⟩ := h
        refine H_ask _ _ (by kernel_rfl) (ask_idx (P := Tryz.prog) (M := [o1, o3, o4]) (t := 57) (et := 9) (k := .i64) (lv := lvS) okS leS (by kernel_rfl) (by kernel_rfl) hx24) ?_
        refine H_askK (.pd (.str x23)) ([o1, o3, o4]) (by kernel_rfl) ?_
        refine H_split (!(x21 == x23)) (by kernel_rfl) (fun hc => ?_) (fun hc => ?_)
        · replace h := h.t hc; clear hc
          refine H_draw (by kernel_rfl) ?_
          refine H_askK (.ptr 2 0 0) ([o1, o3, o4]) (by kernel_rfl) ?_
          refine H_askK (.pd (.int .i64 x18)) ([o1, o3, o4]) (by kernel_rfl) ?_
          refine H_askK (.agg [.fixed (([] : List (List UInt8)).map elS), .fixed (([] : List (List UInt8)).map elS), .fixed (([] : List (List UInt8)).map elS)]) ([o1, o3, o4]) (by kernel_rfl) ?_
          refine H_askK (.junk) ([o1, o3, o4]) (by kernel_rfl) ?_
          refine H_leaveP .ret (by kernel_rfl) rfl ?_
          exact H_end .ret (.tup [.pd (.int .i64 0), .pd (.int .i64 x18), .agg [.pd (.sl (([] : List (List UInt8)).map elS)), .pd (.sl (([] : List (List UInt8)).map elS)), .pd (.sl (([] : List (List UInt8)).map elS))]]) (by kernel_rfl) rfl (by kernel_rfl) (by subst h; rfl)
        replace h := h.f hc; clear hc
        refine H_askK (.ptr 2 1 0) ([o1, o3, o4]) (by kernel_rfl) ?_
        refine H_askK (.pd (.sl (x19.map elS))) ([o1, o3, o4]) (by kernel_rfl) ?_
        refine H_ask _ _ (by kernel_rfl) (ask_len (P := Tryz.prog) (M := [o1, o3, o4]) (t := 57) (et := 9) (el := elS) (by kernel_rfl) (e := x19)) ?_
        refine H_split (decide ((x19.length : Int) > (181 : Int))) (by kernel_rfl) (fun hp25 => ?_) (fun hp25 => ?_)
        · replace h := h.t hp25
          refine H_draw (by kernel_rfl) ?_
          refine H_askK (.ptr 2 0 0) ([o1, o3, o4]) (by kernel_rfl) ?_
          refine H_askK (.pd (.int .i64 x18)) ([o1, o3, o4]) (by kernel_rfl) ?_
          refine H_askK (.agg [.fixed (([] : List (List UInt8)).map elS), .fixed (([] : List (List UInt8)).map elS), .fixed (([] : List (List UInt8)).map elS)]) ([o1, o3, o4]) (by kernel_rfl) ?_
          refine H_askK (.junk) ([o1, o3, o4]) (by kernel_rfl) ?_
          refine H_leaveP .ret (by kernel_rfl) rfl ?_
          exact H_end .ret (.tup [.pd (.int .i64 0), .pd (.int .i64 x18), .agg [.pd (.sl (([] : List (List UInt8)).map elS)), .pd (.sl (([] : List (List UInt8)).map elS)), .pd (.sl (([] : List (List UInt8)).map elS))]]) (by kernel_rfl) rfl (by kernel_rfl) (by subst h; rfl)
        replace h := h.f hp25
        refine H_loopP (F := offcutref13_Parse_L2 s100 s101 s102 s103 X1 x18 x19 r) (s0 := (1 : Int)) h () 137 3
          (fun (s200 : Int) (() : Unit) => [(4, .ptr 0 0 0), (5, .ptr 1 0 0), (6, .pd (.sl (x1.map elAI64LSZ))), (7, .pd (.int .i64 1)), (8, .pd (.sl ([([120] : List UInt8), ([121] : List UInt8)].map elS))), (9, .pd (.int .i64 s100)), (10, .ptr 2 0 0), (11, .pd (.int .i64 s200))])
          (fun (s200 : Int) (() : Unit) => [.cells [.fixed (([] : List (List UInt8)).map elS), .fixed (([] : List (List UInt8)).map elS), .fixed (([] : List (List UInt8)).map elS)] 1 0 false, .cells [.pd (.sl (s101.map elS)), .pd (.sl (s102.map elS)), .pd (.sl (s103.map elS))] 1 0 false, .cells [.pd (.int .i64 x18), .pd (.sl (x19.map elS))] 1 0 false]) (fun (s200 : Int) (() : Unit) => True) trivial [] mixedT (askO [9, 10, 11] false [58])
          (by kernel_rfl) (by kernel_rfl) (by kernel_rfl) (by kernel_rfl) (by kernel_rfl) (fun _ _ => rfl) ?_
        rintro X2 s200 ⟨⟩ - h
        dsimp only [offcutref13_Parse_L2] at h
        refine H_askK (.ptr 2 1 0) ([o1, o3, o4]) (by kernel_rfl) ?_
        refine H_askK (.pd (.sl (x19.map elS))) ([o1, o3, o4]) (by kernel_rfl) ?_
        refine H_ask _ _ (by kernel_rfl) (ask_len (P := Tryz.prog) (M := [o1, o3, o4]) (t := 57) (et := 9) (el := elS) (by kernel_rfl) (e := x19)) ?_
        refine H_split (decide (s200 < (x19.length : Int))) (by kernel_rfl) (fun hp26 => ?_) (fun hp26 => ?_)
        · replace h := h.t hp26
          refine H_askK (.ptr 2 1 0) ([o1, o3, o4]) (by kernel_rfl) ?_
          refine H_askK (.pd (.sl (x19.map elS))) ([o1, o3, o4]) (by kernel_rfl) ?_
          obtain ⟨x27, hx28, h⟩ := h
          refine H_ask _ _ (by kernel_rfl) (ask_idx (P := Tryz.prog) (M := [o1, o3, o4]) (t := 57) (et := 9) (k := .i64) (lv := lvS) okS leS (by kernel_rfl) (by kernel_rfl) hx28) ?_
          refine H_askK (.pd (.str x27)) ([o1, o3, o4]) (by kernel_rfl) ?_
          obtain ⟨x29, hx30, h⟩ := h
          refine H_valW (g := 64) (args := [.pd (.str x27), .pd (.bool true)]) (M := [o1, o3, o4]) (.pd (.bool x29)) (.inl (by kernel_rfl)) (by kernel_rfl) (offcutref08_Number_ok m _ _ hx30) (by kernel_rfl) (hasT 64 (by kernel_rfl)) ?_
          cases x29
          · replace h := h.f rfl
            refine H_draw (by kernel_rfl) ?_
            refine H_askK (.ptr 2 0 0) ([o1, o3, o4]) (by kernel_rfl) ?_
            refine H_askK (.pd (.int .i64 x18)) ([o1, o3, o4]) (by kernel_rfl) ?_
            refine H_askK (.agg [.fixed (([] : List (List UInt8)).map elS), .fixed (([] : List (List UInt8)).map elS), .fixed (([] : List (List UInt8)).map elS)]) ([o1, o3, o4]) (by kernel_rfl) ?_
            refine H_askK (.junk) ([o1, o3, o4]) (by kernel_rfl) ?_
            refine H_leaveP .ret (by kernel_rfl) rfl ?_
            refine H_leaveP .ret (by kernel_rfl) rfl ?_
            exact H_end .ret (.tup [.pd (.int .i64 0), .pd (.int .i64 x18), .agg [.pd (.sl (([] : List (List UInt8)).map elS)), .pd (.sl (([] : List (List UInt8)).map elS)), .pd (.sl (([] : List (List UInt8)).map elS))]]) (by kernel_rfl) rfl (by kernel_rfl) (by subst h; rfl)
          replace h := h.t rfl
          exact H_againP (st := _) (IntKind.i64.wrap (s200 + 1)) () h trivial (by kernel_rfl) (by kernel_rfl) (by kernel_rfl) (by kernel_rfl) (by kernel_rfl)
        replace h := h.f hp26
        refine H_leaveP (.exit 3) (by kernel_rfl) rfl ?_
        obtain ⟨x31, hx32, h⟩ := h
        refine H_ask _ _ (by kernel_rfl) (ask_idx (P := Tryz.prog) (M := [o1, o3, o4]) (t := 57) (et := 9) (k := .i64) (lv := lvS) okS leS (by kernel_rfl) (by kernel_rfl) hx32) ?_
        refine H_askK (.pd (.str x31)) ([o1, o3, o4]) (by kernel_rfl) ?_
        refine H_split (x31 == ([121] : List UInt8)) (by kernel_rfl) (fun hc => ?_) (fun hc => ?_)
        · replace h := h.t hc; clear hc
          obtain ⟨x33, hx34, h⟩ := h
          refine H_ask _ _ (by kernel_rfl) (ask_idx (P := Tryz.prog) (M := [o1, o3, o4]) (t := 57) (et := 9) (k := .i64) (lv := lvS) okS leS (by kernel_rfl) (by kernel_rfl) hx34) ?_
          refine H_askK (.pd (.str x33)) ([o1, o3, o4]) (by kernel_rfl) ?_
          refine H_split (x33 == ([114, 97, 121] : List UInt8)) (by kernel_rfl) (fun hc => ?_) (fun hc => ?_)
          · replace h := h.t hc; clear hc
            refine H_askK (.ptr 2 1 0) ([o1, o3, o4]) (by kernel_rfl) ?_
            refine H_askK (.pd (.sl (x19.map elS))) ([o1, o3, o4]) (by kernel_rfl) ?_
            obtain ⟨hx35, h⟩ := h
            refine H_ask _ _ (by kernel_rfl) (ask_sub (P := Tryz.prog) (M := [o1, o3, o4]) (t := 57) (et := 9) (lv := lvS) (lo := (some (1 : Int))) (hi := none) okS leS (by kernel_rfl) (by kernel_rfl) hx35) ?_
            refine H_askK (.ptr 1 2 0) ([o1, o3, o4]) (by kernel_rfl) ?_
            let o5 : Ob := .cells [.pd (.sl (s101.map elS)), .pd (.sl (s102.map elS)), .pd (.sl ((sub x19 (1 : Int) (x19.length : Int)).map elS))] 1 0 false
            refine H_askK (.junk) ([o1, o5, o4]) (by kernel_rfl) ?_
            exact H_againC (st := _) ((IntKind.i64.wrap (s100 + 1)), s101, s102, (sub x19 (1 : Int) (x19.length : Int))) () h trivial (by kernel_rfl) (by kernel_rfl) (by kernel_rfl) (by kernel_rfl) (by kernel_rfl) (by kernel_rfl) (all_c (by kernel_rfl) (all_c (by kernel_rfl) all_n)) (by kernel_rfl) (by kernel_rfl)
          replace h := h.f hc; clear hc
          refine H_askK (.ptr 2 1 0) ([o1, o3, o4]) (by kernel_rfl) ?_
          refine H_askK (.pd (.sl (x19.map elS))) ([o1, o3, o4]) (by kernel_rfl) ?_
          obtain ⟨hx36, h⟩ := h
          refine H_ask _ _ (by kernel_rfl) (ask_sub (P := Tryz.prog) (M := [o1, o3, o4]) (t := 57) (et := 9) (lv := lvS) (lo := (some (1 : Int))) (hi := none) okS leS (by kernel_rfl) (by kernel_rfl) hx36) ?_
          refine H_askK (.ptr 1 1 0) ([o1, o3, o4]) (by kernel_rfl) ?_
          let o6 : Ob := .cells [.pd (.sl (s101.map elS)), .pd (.sl ((sub x19 (1 : Int) (x19.length : Int)).map elS)), .pd (.sl (s103.map elS))] 1 0 false
          refine H_askK (.junk) ([o1, o6, o4]) (by kernel_rfl) ?_
          exact H_againC (st := _) ((IntKind.i64.wrap (s100 + 1)), s101, (sub x19 (1 : Int) (x19.length : Int)), s103) () h trivial (by kernel_rfl) (by kernel_rfl) (by kernel_rfl) (by kernel_rfl) (by kernel_rfl) (by kernel_rfl) (all_c (by kernel_rfl) (all_c (by kernel_rfl) all_n)) (by kernel_rfl) (by kernel_rfl)
        replace h := h.f hc; clear hc
        obtain ⟨x37, hx38, h⟩ := h
        refine H_ask _ _ (by kernel_rfl) (ask_idx (P := Tryz.prog) (M := [o1, o3, o4]) (t := 57) (et := 9) (k := .i64) (lv := lvS) okS leS (by kernel_rfl) (by kernel_rfl) hx38) ?_
        refine H_askK (.pd (.str x37)) ([o1, o3, o4]) (by kernel_rfl) ?_
        refine H_split (x37 == ([114, 97, 121] : List UInt8)) (by kernel_rfl) (fun hc => ?_) (fun hc => ?_)
        · replace h := h.t hc; clear hc
          refine H_askK (.ptr 2 1 0) ([o1, o3, o4]) (by kernel_rfl) ?_
          refine H_askK (.pd (.sl (x19.map elS))) ([o1, o3, o4]) (by kernel_rfl) ?_
          obtain ⟨hx39, h⟩ := h
          refine H_ask _ _ (by kernel_rfl) (ask_sub (P := Tryz.prog) (M := [o1, o3, o4]) (t := 57) (et := 9) (lv := lvS) (lo := (some (1 : Int))) (hi := none) okS leS (by kernel_rfl) (by kernel_rfl) hx39) ?_
          refine H_askK (.ptr 1 2 0) ([o1, o3, o4]) (by kernel_rfl) ?_
          let o7 : Ob := .cells [.pd (.sl (s101.map elS)), .pd (.sl (s102.map elS)), .pd (.sl ((sub x19 (1 : Int) (x19.length : Int)).map elS))] 1 0 false
          refine H_askK (.junk) ([o1, o7, o4]) (by kernel_rfl) ?_
          exact H_againC (st := _) ((IntKind.i64.wrap (s100 + 1)), s101, s102, (sub x19 (1 : Int) (x19.length : Int))) () h trivial (by kernel_rfl) (by kernel_rfl) (by kernel_rfl) (by kernel_rfl) (by kernel_rfl) (by kernel_rfl) (all_c (by kernel_rfl) (all_c (by kernel_rfl) all_n)) (by kernel_rfl) (by kernel_rfl)
        replace h := h.f hc; clear hc
        refine H_askK (.ptr 2 1 0) ([o1, o3, o4]) (by kernel_rfl) ?_
        refine H_askK (.pd (.sl (x19.map elS))) ([o1, o3, o4]) (by kernel_rfl) ?_
        obtain ⟨hx40, h⟩ := h
        refine H_ask _ _ (by kernel_rfl) (ask_sub (P := Tryz.prog) (M := [o1, o3, o4]) (t := 57) (et := 9) (lv := lvS) (lo := (some (1 : Int))) (hi := none) okS leS (by kernel_rfl) (by kernel_rfl) hx40) ?_
        refine H_askK (.ptr 1 0 0) ([o1, o3, o4]) (by kernel_rfl) ?_
        let o8 : Ob := .cells [.pd (.sl ((sub x19 (1 : Int) (x19.length : Int)).map elS)), .pd (.sl (s102.map elS)), .pd (.sl (s103.map elS))] 1 0 false
        refine H_askK (.junk) ([o1, o8, o4]) (by kernel_rfl) ?_
        exact H_againC (st := _) ((IntKind.i64.wrap (s100 + 1)), (sub x19 (1 : Int) (x19.length : Int)), s102, s103) () h trivial (by kernel_rfl) (by kernel_rfl) (by kernel_rfl) (by kernel_rfl) (by kernel_rfl) (by kernel_rfl) (all_c (by kernel_rfl) (all_c (by kernel_rfl) all_n)) (by kernel_rfl) (by kernel_rfl)
      replace h := h.f hp13
      refine H_leaveP (.exit 1) (by kernel_rfl) rfl ?_
      refine H_ask _ _ (by kernel_rfl) (ask_len (P := Tryz.prog) (M := [o1, o3]) (t := 112) (et := 114) (el := elAI64LSZ) (by kernel_rfl) (e := x1)) ?_
      refine H_ask _ _ (by kernel_rfl) (ask_len (P := Tryz.prog) (M := [o1, o3]) (t := 57) (et := 9) (el := elS) (by kernel_rfl) (e := [([120] : List UInt8), ([121] : List UInt8)])) ?_
      refine H_split (decide ((x1.length : Int) > (IntKind.i64.wrap (([([120] : List UInt8), ([121] : List UInt8)].length : Int) + 1)))) (by kernel_rfl) (fun hp41 => ?_) (fun hp41 => ?_)
      · replace h := h.t hp41
        refine H_draw (by kernel_rfl) ?_
        refine H_ask _ _ (by kernel_rfl) (ask_len (P := Tryz.prog) (M := [o1, o3]) (t := 57) (et := 9) (el := elS) (by kernel_rfl) (e := [([120] : List UInt8), ([121] : List UInt8)])) ?_
        obtain ⟨x42, x43, hx44, h⟩ := h
        refine H_ask _ _ (by kernel_rfl) (ask_idx (P := Tryz.prog) (M := [o1, o3]) (t := 112) (et := 114) (k := .i64) (lv := lvAI64LSZ) okAI64LSZ leAI64LSZ (by kernel_rfl) (by kernel_rfl) hx44) ?_
        refine H_askK (.rd [.int .i64 x42, .sl (x43.map elS)]) ([o1, o3]) (by kernel_rfl) ?_
        refine H_askK (.pd (.int .i64 x42)) ([o1, o3]) (by kernel_rfl) ?_
        refine H_askK (.agg [.fixed (([] : List (List UInt8)).map elS), .fixed (([] : List (List UInt8)).map elS), .fixed (([] : List (List UInt8)).map elS)]) ([o1, o3]) (by kernel_rfl) ?_
        refine H_askK (.junk) ([o1, o3]) (by kernel_rfl) ?_
        exact H_end .ret (.tup [.pd (.int .i64 0), .pd (.int .i64 x42), .agg [.pd (.sl (([] : List (List UInt8)).map elS)), .pd (.sl (([] : List (List UInt8)).map elS)), .pd (.sl (([] : List (List UInt8)).map elS))]]) (by kernel_rfl) rfl (by kernel_rfl) (by subst h; rfl)
      replace h := h.f hp41
      refine H_draw (by kernel_rfl) ?_
      refine H_askK (.agg [.pd (.sl (s101.map elS)), .pd (.sl (s102.map elS)), .pd (.sl (s103.map elS))]) ([o1, o3]) (by kernel_rfl) ?_
      refine H_askK (.junk) ([o3, o3]) (by kernel_rfl) ?_
      exact H_end .ret (.tup [.pd (.int .i64 1), .pd (.int .i64 0), .agg [.pd (.sl (s101.map elS)), .pd (.sl (s102.map elS)), .pd (.sl (s103.map elS))]]) (by kernel_rfl) rfl (by kernel_rfl) (by subst h; rfl)
    replace h := h.f hc; clear hc
    refine H_split (x11 == ([105, 110, 102, 101, 97, 115, 105, 98, 108, 101] : List UInt8)) (by kernel_rfl) (fun hc => ?_) (fun hc => ?_)
    · replace h := h.t hc; clear hc
      refine H_split false (by kernel_rfl) (fun hc => by cases hc) (fun _ => ?_)
      refine H_loopP (F := offcutref13_Parse_L3 x1 r) (s0 := ((0 : Int), ([] : List (List UInt8)), ([] : List (List UInt8)), ([] : List (List UInt8)))) h () 137 2
        (fun ((s300, s301, s302, s303) : Int × (List (List UInt8)) × (List (List UInt8)) × (List (List UInt8))) (() : Unit) => [(4, .ptr 0 0 0), (5, .ptr 1 0 0), (6, .pd (.sl (x1.map elAI64LSZ))), (7, .pd (.int .i64 2)), (8, .pd (.sl ([([121] : List UInt8)].map elS))), (9, .pd (.int .i64 s300))])
        (fun ((s300, s301, s302, s303) : Int × (List (List UInt8)) × (List (List UInt8)) × (List (List UInt8))) (() : Unit) => [.cells [.fixed (([] : List (List UInt8)).map elS), .fixed (([] : List (List UInt8)).map elS), .fixed (([] : List (List UInt8)).map elS)] 1 0 false, .cells [.pd (.sl (s301.map elS)), .pd (.sl (s302.map elS)), .pd (.sl (s303.map elS))] 1 0 false]) (fun ((s300, s301, s302, s303) : Int × (List (List UInt8)) × (List (List UInt8)) × (List (List UInt8))) (() : Unit) => True) trivial [] mixedT (askO [9, 10, 11] false [58])
        (by kernel_rfl) (by kernel_rfl) (by kernel_rfl) (by kernel_rfl) (by kernel_rfl) (fun _ _ => rfl) ?_
      rintro X3 ⟨s300, s301, s302, s303⟩ ⟨⟩ - h
      dsimp only [offcutref13_Parse_L3] at h
      let o9 : Ob := .cells [.pd (.sl (s301.map elS)), .pd (.sl (s302.map elS)), .pd (.sl (s303.map elS))] 1 0 false
      refine H_ask _ _ (by kernel_rfl) (ask_len (P := Tryz.prog) (M := [o1, o9]) (t := 57) (et := 9) (el := elS) (by kernel_rfl) (e := [([121] : List UInt8)])) ?_
      refine H_split (decide (s300 < ([([121] : List UInt8)].length : Int))) (by kernel_rfl) (fun hp45 => ?_) (fun hp45 => ?_)
      · replace h := h.t hp45
        refine H_ask _ _ (by kernel_rfl) (ask_len (P := Tryz.prog) (M := [o1, o9]) (t := 112) (et := 114) (el := elAI64LSZ) (by kernel_rfl) (e := x1)) ?_
        refine H_split (decide ((IntKind.i64.wrap (s300 + 1)) ≥ (x1.length : Int))) (by kernel_rfl) (fun hp46 => ?_) (fun hp46 => ?_)
        · replace h := h.t hp46
          refine H_draw (by kernel_rfl) ?_
          refine H_ask _ _ (by kernel_rfl) (ask_len (P := Tryz.prog) (M := [o1, o9]) (t := 112) (et := 114) (el := elAI64LSZ) (by kernel_rfl) (e := x1)) ?_
          obtain ⟨x47, x48, hx49, h⟩ := h
          refine H_ask _ _ (by kernel_rfl) (ask_idx (P := Tryz.prog) (M := [o1, o9]) (t := 112) (et := 114) (k := .i64) (lv := lvAI64LSZ) okAI64LSZ leAI64LSZ (by kernel_rfl) (by kernel_rfl) hx49) ?_
          refine H_askK (.rd [.int .i64 x47, .sl (x48.map elS)]) ([o1, o9]) (by kernel_rfl) ?_
          refine H_askK (.pd (.int .i64 x47)) ([o1, o9]) (by kernel_rfl) ?_
          refine H_askK (.agg [.fixed (([] : List (List UInt8)).map elS), .fixed (([] : List (List UInt8)).map elS), .fixed (([] : List (List UInt8)).map elS)]) ([o1, o9]) (by kernel_rfl) ?_
          refine H_askK (.junk) ([o1, o9]) (by kernel_rfl) ?_
          refine H_leaveP .ret (by kernel_rfl) rfl ?_
          exact H_end .ret (.tup [.pd (.int .i64 0), .pd (.int .i64 x47), .agg [.pd (.sl (([] : List (List UInt8)).map elS)), .pd (.sl (([] : List (List UInt8)).map elS)), .pd (.sl (([] : List (List UInt8)).map elS))]]) (by kernel_rfl) rfl (by kernel_rfl) (by subst h; rfl)
        replace h := h.f hp46
        obtain ⟨x50, x51, hx52, h⟩ := h
        refine H_ask _ _ (by kernel_rfl) (ask_idx (P := Tryz.prog) (M := [o1, o9]) (t := 112) (et := 114) (k := .i64) (lv := lvAI64LSZ) okAI64LSZ leAI64LSZ (by kernel_rfl) (by kernel_rfl) hx52) ?_
        refine H_askK (.agg [.pd (.int .i64 x50), .pd (.sl (x51.map elS))]) ([o1, o9]) (by kernel_rfl) ?_
        let o10 : Ob := .cells [.pd (.int .i64 x50), .pd (.sl (x51.map elS))] 1 0 false
        refine H_askK (.junk) ([o1, o9, o10]) (by kernel_rfl) ?_
        refine H_draw (by kernel_rfl) ?_
        refine H_askK (.ptr 2 1 0) ([o1, o9, o10]) (by kernel_rfl) ?_
        refine H_askK (.pd (.sl (x51.map elS))) ([o1, o9, o10]) (by kernel_rfl) ?_
        obtain ⟨x53, hx54, h⟩ := h
        refine H_ask _ _ (by kernel_rfl) (ask_idx (P := Tryz.prog) (M := [o1, o9, o10]) (t := 57) (et := 9) (k := .i64) (lv := lvS) okS leS (by kernel_rfl) (by kernel_rfl) hx54) ?_
        refine H_askK (.pd (.str x53)) ([o1, o9, o10]) (by kernel_rfl) ?_
        obtain ⟨x55, hx56, h⟩ := h
        refine H_ask _ _ (by kernel_rfl) (ask_idx (P := Tryz.prog) (M := [o1, o9, o10]) (t := 57) (et := 9) (k := .i64) (lv := lvS) okS leS (by kernel_rfl) (by kernel_rfl) hx56) ?_
        refine H_askK (.pd (.str x55)) ([o1, o9, o10]) (by kernel_rfl) ?_
        refine H_split (!(x53 == x55)) (by kernel_rfl) (fun hc => ?_) (fun hc => ?_)
        · replace h := h.t hc; clear hc
          refine H_draw (by kernel_rfl) ?_
          refine H_askK (.ptr 2 0 0) ([o1, o9, o10]) (by kernel_rfl) ?_
          refine H_askK (.pd (.int .i64 x50)) ([o1, o9, o10]) (by kernel_rfl) ?_
          refine H_askK (.agg [.fixed (([] : List (List UInt8)).map elS), .fixed (([] : List (List UInt8)).map elS), .fixed (([] : List (List UInt8)).map elS)]) ([o1, o9, o10]) (by kernel_rfl) ?_
          refine H_askK (.junk) ([o1, o9, o10]) (by kernel_rfl) ?_
          refine H_leaveP .ret (by kernel_rfl) rfl ?_
          exact H_end .ret (.tup [.pd (.int .i64 0), .pd (.int .i64 x50), .agg [.pd (.sl (([] : List (List UInt8)).map elS)), .pd (.sl (([] : List (List UInt8)).map elS)), .pd (.sl (([] : List (List UInt8)).map elS))]]) (by kernel_rfl) rfl (by kernel_rfl) (by subst h; rfl)
        replace h := h.f hc; clear hc
        refine H_askK (.ptr 2 1 0) ([o1, o9, o10]) (by kernel_rfl) ?_
        refine H_askK (.pd (.sl (x51.map elS))) ([o1, o9, o10]) (by kernel_rfl) ?_
        refine H_ask _ _ (by kernel_rfl) (ask_len (P := Tryz.prog) (M := [o1, o9, o10]) (t := 57) (et := 9) (el := elS) (by kernel_rfl) (e := x51)) ?_
        refine H_split (decide ((x51.length : Int) > (181 : Int))) (by kernel_rfl) (fun hp57 => ?_) (fun hp57 => ?_)
        · replace h := h.t hp57
          refine H_draw (by kernel_rfl) ?_
          refine H_askK (.ptr 2 0 0) ([o1, o9, o10]) (by kernel_rfl) ?_
          refine H_askK (.pd (.int .i64 x50)) ([o1, o9, o10]) (by kernel_rfl) ?_
          refine H_askK (.agg [.fixed (([] : List (List UInt8)).map elS), .fixed (([] : List (List UInt8)).map elS), .fixed (([] : List (List UInt8)).map elS)]) ([o1, o9, o10]) (by kernel_rfl) ?_
          refine H_askK (.junk) ([o1, o9, o10]) (by kernel_rfl) ?_
          refine H_leaveP .ret (by kernel_rfl) rfl ?_
          exact H_end .ret (.tup [.pd (.int .i64 0), .pd (.int .i64 x50), .agg [.pd (.sl (([] : List (List UInt8)).map elS)), .pd (.sl (([] : List (List UInt8)).map elS)), .pd (.sl (([] : List (List UInt8)).map elS))]]) (by kernel_rfl) rfl (by kernel_rfl) (by subst h; rfl)
        replace h := h.f hp57
        refine H_loopP (F := offcutref13_Parse_L4 s300 s301 s302 s303 X3 x50 x51 r) (s0 := (1 : Int)) h () 137 3
          (fun (s400 : Int) (() : Unit) => [(4, .ptr 0 0 0), (5, .ptr 1 0 0), (6, .pd (.sl (x1.map elAI64LSZ))), (7, .pd (.int .i64 2)), (8, .pd (.sl ([([121] : List UInt8)].map elS))), (9, .pd (.int .i64 s300)), (10, .ptr 2 0 0), (11, .pd (.int .i64 s400))])
          (fun (s400 : Int) (() : Unit) => [.cells [.fixed (([] : List (List UInt8)).map elS), .fixed (([] : List (List UInt8)).map elS), .fixed (([] : List (List UInt8)).map elS)] 1 0 false, .cells [.pd (.sl (s301.map elS)), .pd (.sl (s302.map elS)), .pd (.sl (s303.map elS))] 1 0 false, .cells [.pd (.int .i64 x50), .pd (.sl (x51.map elS))] 1 0 false]) (fun (s400 : Int) (() : Unit) => True) trivial [] mixedT (askO [9, 10, 11] false [58])
          (by kernel_rfl) (by kernel_rfl) (by kernel_rfl) (by kernel_rfl) (by kernel_rfl) (fun _ _ => rfl) ?_
        rintro X4 s400 ⟨⟩ - h
        dsimp only [offcutref13_Parse_L4] at h
        refine H_askK (.ptr 2 1 0) ([o1, o9, o10]) (by kernel_rfl) ?_
        refine H_askK (.pd (.sl (x51.map elS))) ([o1, o9, o10]) (by kernel_rfl) ?_
        refine H_ask _ _ (by kernel_rfl) (ask_len (P := Tryz.prog) (M := [o1, o9, o10]) (t := 57) (et := 9) (el := elS) (by kernel_rfl) (e := x51)) ?_
        refine H_split (decide (s400 < (x51.length : Int))) (by kernel_rfl) (fun hp58 => ?_) (fun hp58 => ?_)
        · replace h := h.t hp58
          refine H_askK (.ptr 2 1 0) ([o1, o9, o10]) (by kernel_rfl) ?_
          refine H_askK (.pd (.sl (x51.map elS))) ([o1, o9, o10]) (by kernel_rfl) ?_
          obtain ⟨x59, hx60, h⟩ := h
          refine H_ask _ _ (by kernel_rfl) (ask_idx (P := Tryz.prog) (M := [o1, o9, o10]) (t := 57) (et := 9) (k := .i64) (lv := lvS) okS leS (by kernel_rfl) (by kernel_rfl) hx60) ?_
          refine H_askK (.pd (.str x59)) ([o1, o9, o10]) (by kernel_rfl) ?_
          obtain ⟨x61, hx62, h⟩ := h
          refine H_valW (g := 64) (args := [.pd (.str x59), .pd (.bool true)]) (M := [o1, o9, o10]) (.pd (.bool x61)) (.inl (by kernel_rfl)) (by kernel_rfl) (offcutref08_Number_ok m _ _ hx62) (by kernel_rfl) (hasT 64 (by kernel_rfl)) ?_
          cases x61
          · replace h := h.f rfl
            refine H_draw (by kernel_rfl) ?_
            refine H_askK (.ptr 2 0 0) ([o1, o9, o10]) (by kernel_rfl) ?_
            refine H_askK (.pd (.int .i64 x50)) ([o1, o9, o10]) (by kernel_rfl) ?_
            refine H_askK (.agg [.fixed (([] : List (List UInt8)).map elS), .fixed (([] : List (List UInt8)).map elS), .fixed (([] : List (List UInt8)).map elS)]) ([o1, o9, o10]) (by kernel_rfl) ?_
            refine H_askK (.junk) ([o1, o9, o10]) (by kernel_rfl) ?_
            refine H_leaveP .ret (by kernel_rfl) rfl ?_
            refine H_leaveP .ret (by kernel_rfl) rfl ?_
            exact H_end .ret (.tup [.pd (.int .i64 0), .pd (.int .i64 x50), .agg [.pd (.sl (([] : List (List UInt8)).map elS)), .pd (.sl (([] : List (List UInt8)).map elS)), .pd (.sl (([] : List (List UInt8)).map elS))]]) (by kernel_rfl) rfl (by kernel_rfl) (by subst h; rfl)
          replace h := h.t rfl
          exact H_againP (st := _) (IntKind.i64.wrap (s400 + 1)) () h trivial (by kernel_rfl) (by kernel_rfl) (by kernel_rfl) (by kernel_rfl) (by kernel_rfl)
        replace h := h.f hp58
        refine H_leaveP (.exit 3) (by kernel_rfl) rfl ?_
        obtain ⟨x63, hx64, h⟩ := h
        refine H_ask _ _ (by kernel_rfl) (ask_idx (P := Tryz.prog) (M := [o1, o9, o10]) (t := 57) (et := 9) (k := .i64) (lv := lvS) okS leS (by kernel_rfl) (by kernel_rfl) hx64) ?_
        refine H_askK (.pd (.str x63)) ([o1, o9, o10]) (by kernel_rfl) ?_
        refine H_split (x63 == ([121] : List UInt8)) (by kernel_rfl) (fun hc => ?_) (fun hc => ?_)
        · replace h := h.t hc; clear hc
          obtain ⟨x65, hx66, h⟩ := h
          refine H_ask _ _ (by kernel_rfl) (ask_idx (P := Tryz.prog) (M := [o1, o9, o10]) (t := 57) (et := 9) (k := .i64) (lv := lvS) okS leS (by kernel_rfl) (by kernel_rfl) hx66) ?_
          refine H_askK (.pd (.str x65)) ([o1, o9, o10]) (by kernel_rfl) ?_
          refine H_split (x65 == ([114, 97, 121] : List UInt8)) (by kernel_rfl) (fun hc => ?_) (fun hc => ?_)
          · replace h := h.t hc; clear hc
            refine H_askK (.ptr 2 1 0) ([o1, o9, o10]) (by kernel_rfl) ?_
            refine H_askK (.pd (.sl (x51.map elS))) ([o1, o9, o10]) (by kernel_rfl) ?_
            obtain ⟨hx67, h⟩ := h
            refine H_ask _ _ (by kernel_rfl) (ask_sub (P := Tryz.prog) (M := [o1, o9, o10]) (t := 57) (et := 9) (lv := lvS) (lo := (some (1 : Int))) (hi := none) okS leS (by kernel_rfl) (by kernel_rfl) hx67) ?_
            refine H_askK (.ptr 1 2 0) ([o1, o9, o10]) (by kernel_rfl) ?_
            let o11 : Ob := .cells [.pd (.sl (s301.map elS)), .pd (.sl (s302.map elS)), .pd (.sl ((sub x51 (1 : Int) (x51.length : Int)).map elS))] 1 0 false
            refine H_askK (.junk) ([o1, o11, o10]) (by kernel_rfl) ?_
            exact H_againC (st := _) ((IntKind.i64.wrap (s300 + 1)), s301, s302, (sub x51 (1 : Int) (x51.length : Int))) () h trivial (by kernel_rfl) (by kernel_rfl) (by kernel_rfl) (by kernel_rfl) (by kernel_rfl) (by kernel_rfl) (all_c (by kernel_rfl) (all_c (by kernel_rfl) all_n)) (by kernel_rfl) (by kernel_rfl)
          replace h := h.f hc; clear hc
          refine H_askK (.ptr 2 1 0) ([o1, o9, o10]) (by kernel_rfl) ?_
          refine H_askK (.pd (.sl (x51.map elS))) ([o1, o9, o10]) (by kernel_rfl) ?_
          obtain ⟨hx68, h⟩ := h
          refine H_ask _ _ (by kernel_rfl) (ask_sub (P := Tryz.prog) (M := [o1, o9, o10]) (t := 57) (et := 9) (lv := lvS) (lo := (some (1 : Int))) (hi := none) okS leS (by kernel_rfl) (by kernel_rfl) hx68) ?_
          refine H_askK (.ptr 1 1 0) ([o1, o9, o10]) (by kernel_rfl) ?_
          let o12 : Ob := .cells [.pd (.sl (s301.map elS)), .pd (.sl ((sub x51 (1 : Int) (x51.length : Int)).map elS)), .pd (.sl (s303.map elS))] 1 0 false
          refine H_askK (.junk) ([o1, o12, o10]) (by kernel_rfl) ?_
          exact H_againC (st := _) ((IntKind.i64.wrap (s300 + 1)), s301, (sub x51 (1 : Int) (x51.length : Int)), s303) () h trivial (by kernel_rfl) (by kernel_rfl) (by kernel_rfl) (by kernel_rfl) (by kernel_rfl) (by kernel_rfl) (all_c (by kernel_rfl) (all_c (by kernel_rfl) all_n)) (by kernel_rfl) (by kernel_rfl)
        replace h := h.f hc; clear hc
        obtain ⟨x69, hx70, h⟩ := h
        refine H_ask _ _ (by kernel_rfl) (ask_idx (P := Tryz.prog) (M := [o1, o9, o10]) (t := 57) (et := 9) (k := .i64) (lv := lvS) okS leS (by kernel_rfl) (by kernel_rfl) hx70) ?_
        refine H_askK (.pd (.str x69)) ([o1, o9, o10]) (by kernel_rfl) ?_
        refine H_split (x69 == ([114, 97, 121] : List UInt8)) (by kernel_rfl) (fun hc => ?_) (fun hc => ?_)
        · replace h := h.t hc; clear hc
          refine H_askK (.ptr 2 1 0) ([o1, o9, o10]) (by kernel_rfl) ?_
          refine H_askK (.pd (.sl (x51.map elS))) ([o1, o9, o10]) (by kernel_rfl) ?_
          obtain ⟨hx71, h⟩ := h
          refine H_ask _ _ (by kernel_rfl) (ask_sub (P := Tryz.prog) (M := [o1, o9, o10]) (t := 57) (et := 9) (lv := lvS) (lo := (some (1 : Int))) (hi := none) okS leS (by kernel_rfl) (by kernel_rfl) hx71) ?_
          refine H_askK (.ptr 1 2 0) ([o1, o9, o10]) (by kernel_rfl) ?_
          let o13 : Ob := .cells [.pd (.sl (s301.map elS)), .pd (.sl (s302.map elS)), .pd (.sl ((sub x51 (1 : Int) (x51.length : Int)).map elS))] 1 0 false
          refine H_askK (.junk) ([o1, o13, o10]) (by kernel_rfl) ?_
          exact H_againC (st := _) ((IntKind.i64.wrap (s300 + 1)), s301, s302, (sub x51 (1 : Int) (x51.length : Int))) () h trivial (by kernel_rfl) (by kernel_rfl) (by kernel_rfl) (by kernel_rfl) (by kernel_rfl) (by kernel_rfl) (all_c (by kernel_rfl) (all_c (by kernel_rfl) all_n)) (by kernel_rfl) (by kernel_rfl)
        replace h := h.f hc; clear hc
        refine H_askK (.ptr 2 1 0) ([o1, o9, o10]) (by kernel_rfl) ?_
        refine H_askK (.pd (.sl (x51.map elS))) ([o1, o9, o10]) (by kernel_rfl) ?_
        obtain ⟨hx72, h⟩ := h
        refine H_ask _ _ (by kernel_rfl) (ask_sub (P := Tryz.prog) (M := [o1, o9, o10]) (t := 57) (et := 9) (lv := lvS) (lo := (some (1 : Int))) (hi := none) okS leS (by kernel_rfl) (by kernel_rfl) hx72) ?_
        refine H_askK (.ptr 1 0 0) ([o1, o9, o10]) (by kernel_rfl) ?_
        let o14 : Ob := .cells [.pd (.sl ((sub x51 (1 : Int) (x51.length : Int)).map elS)), .pd (.sl (s302.map elS)), .pd (.sl (s303.map elS))] 1 0 false
        refine H_askK (.junk) ([o1, o14, o10]) (by kernel_rfl) ?_
        exact H_againC (st := _) ((IntKind.i64.wrap (s300 + 1)), (sub x51 (1 : Int) (x51.length : Int)), s302, s303) () h trivial (by kernel_rfl) (by kernel_rfl) (by kernel_rfl) (by kernel_rfl) (by kernel_rfl) (by kernel_rfl) (all_c (by kernel_rfl) (all_c (by kernel_rfl) all_n)) (by kernel_rfl) (by kernel_rfl)
      replace h := h.f hp45
      refine H_leaveP (.exit 1) (by kernel_rfl) rfl ?_
      refine H_ask _ _ (by kernel_rfl) (ask_len (P := Tryz.prog) (M := [o1, o9]) (t := 112) (et := 114) (el := elAI64LSZ) (by kernel_rfl) (e := x1)) ?_
      refine H_ask _ _ (by kernel_rfl) (ask_len (P := Tryz.prog) (M := [o1, o9]) (t := 57) (et := 9) (el := elS) (by kernel_rfl) (e := [([121] : List UInt8)])) ?_
      refine H_split (decide ((x1.length : Int) > (IntKind.i64.wrap (([([121] : List UInt8)].length : Int) + 1)))) (by kernel_rfl) (fun hp73 => ?_) (fun hp73 => ?_)
      · replace h := h.t hp73
        refine H_draw (by kernel_rfl) ?_
        refine H_ask _ _ (by kernel_rfl) (ask_len (P := Tryz.prog) (M := [o1, o9]) (t := 57) (et := 9) (el := elS) (by kernel_rfl) (e := [([121] : List UInt8)])) ?_
        obtain ⟨x74, x75, hx76, h⟩ := h
        refine H_ask _ _ (by kernel_rfl) (ask_idx (P := Tryz.prog) (M := [o1, o9]) (t := 112) (et := 114) (k := .i64) (lv := lvAI64LSZ) okAI64LSZ leAI64LSZ (by kernel_rfl) (by kernel_rfl) hx76) ?_
        refine H_askK (.rd [.int .i64 x74, .sl (x75.map elS)]) ([o1, o9]) (by kernel_rfl) ?_
        refine H_askK (.pd (.int .i64 x74)) ([o1, o9]) (by kernel_rfl) ?_
        refine H_askK (.agg [.fixed (([] : List (List UInt8)).map elS), .fixed (([] : List (List UInt8)).map elS), .fixed (([] : List (List UInt8)).map elS)]) ([o1, o9]) (by kernel_rfl) ?_
        refine H_askK (.junk) ([o1, o9]) (by kernel_rfl) ?_
        exact H_end .ret (.tup [.pd (.int .i64 0), .pd (.int .i64 x74), .agg [.pd (.sl (([] : List (List UInt8)).map elS)), .pd (.sl (([] : List (List UInt8)).map elS)), .pd (.sl (([] : List (List UInt8)).map elS))]]) (by kernel_rfl) rfl (by kernel_rfl) (by subst h; rfl)
      replace h := h.f hp73
      refine H_draw (by kernel_rfl) ?_
      refine H_askK (.agg [.pd (.sl (s301.map elS)), .pd (.sl (s302.map elS)), .pd (.sl (s303.map elS))]) ([o1, o9]) (by kernel_rfl) ?_
      refine H_askK (.junk) ([o9, o9]) (by kernel_rfl) ?_
      exact H_end .ret (.tup [.pd (.int .i64 2), .pd (.int .i64 0), .agg [.pd (.sl (s301.map elS)), .pd (.sl (s302.map elS)), .pd (.sl (s303.map elS))]]) (by kernel_rfl) rfl (by kernel_rfl) (by subst h; rfl)
    replace h := h.f hc; clear hc
    refine H_split (x11 == ([117, 110, 98, 111, 117, 110, 100, 101, 100] : List UInt8)) (by kernel_rfl) (fun hc => ?_) (fun hc => ?_)
    · replace h := h.t hc; clear hc
      refine H_split false (by kernel_rfl) (fun hc => by cases hc) (fun _ => ?_)
      refine H_loopP (F := offcutref13_Parse_L5 x1 r) (s0 := ((0 : Int), ([] : List (List UInt8)), ([] : List (List UInt8)), ([] : List (List UInt8)))) h () 137 2
        (fun ((s500, s501, s502, s503) : Int × (List (List UInt8)) × (List (List UInt8)) × (List (List UInt8))) (() : Unit) => [(4, .ptr 0 0 0), (5, .ptr 1 0 0), (6, .pd (.sl (x1.map elAI64LSZ))), (7, .pd (.int .i64 3)), (8, .pd (.sl ([([120] : List UInt8), ([114, 97, 121] : List UInt8)].map elS))), (9, .pd (.int .i64 s500))])
        (fun ((s500, s501, s502, s503) : Int × (List (List UInt8)) × (List (List UInt8)) × (List (List UInt8))) (() : Unit) => [.cells [.fixed (([] : List (List UInt8)).map elS), .fixed (([] : List (List UInt8)).map elS), .fixed (([] : List (List UInt8)).map elS)] 1 0 false, .cells [.pd (.sl (s501.map elS)), .pd (.sl (s502.map elS)), .pd (.sl (s503.map elS))] 1 0 false]) (fun ((s500, s501, s502, s503) : Int × (List (List UInt8)) × (List (List UInt8)) × (List (List UInt8))) (() : Unit) => True) trivial [] mixedT (askO [9, 10, 11] false [58])
        (by kernel_rfl) (by kernel_rfl) (by kernel_rfl) (by kernel_rfl) (by kernel_rfl) (fun _ _ => rfl) ?_
      rintro X5 ⟨s500, s501, s502, s503⟩ ⟨⟩ - h
      dsimp only [offcutref13_Parse_L5] at h
      let o15 : Ob := .cells [.pd (.sl (s501.map elS)), .pd (.sl (s502.map elS)), .pd (.sl (s503.map elS))] 1 0 false
      refine H_ask _ _ (by kernel_rfl) (ask_len (P := Tryz.prog) (M := [o1, o15]) (t := 57) (et := 9) (el := elS) (by kernel_rfl) (e := [([120] : List UInt8), ([114, 97, 121] : List UInt8)])) ?_
      refine H_split (decide (s500 < ([([120] : List UInt8), ([114, 97, 121] : List UInt8)].length : Int))) (by kernel_rfl) (fun hp77 => ?_) (fun hp77 => ?_)
      · replace h := h.t hp77
        refine H_ask _ _ (by kernel_rfl) (ask_len (P := Tryz.prog) (M := [o1, o15]) (t := 112) (et := 114) (el := elAI64LSZ) (by kernel_rfl) (e := x1)) ?_
        refine H_split (decide ((IntKind.i64.wrap (s500 + 1)) ≥ (x1.length : Int))) (by kernel_rfl) (fun hp78 => ?_) (fun hp78 => ?_)
        · replace h := h.t hp78
          refine H_draw (by kernel_rfl) ?_
          refine H_ask _ _ (by kernel_rfl) (ask_len (P := Tryz.prog) (M := [o1, o15]) (t := 112) (et := 114) (el := elAI64LSZ) (by kernel_rfl) (e := x1)) ?_
          obtain ⟨x79, x80, hx81, h⟩ := h
          refine H_ask _ _ (by kernel_rfl) (ask_idx (P := Tryz.prog) (M := [o1, o15]) (t := 112) (et := 114) (k := .i64) (lv := lvAI64LSZ) okAI64LSZ leAI64LSZ (by kernel_rfl) (by kernel_rfl) hx81) ?_
          refine H_askK (.rd [.int .i64 x79, .sl (x80.map elS)]) ([o1, o15]) (by kernel_rfl) ?_
          refine H_askK (.pd (.int .i64 x79)) ([o1, o15]) (by kernel_rfl) ?_
          refine H_askK (.agg [.fixed (([] : List (List UInt8)).map elS), .fixed (([] : List (List UInt8)).map elS), .fixed (([] : List (List UInt8)).map elS)]) ([o1, o15]) (by kernel_rfl) ?_
          refine H_askK (.junk) ([o1, o15]) (by kernel_rfl) ?_
          refine H_leaveP .ret (by kernel_rfl) rfl ?_
          exact H_end .ret (.tup [.pd (.int .i64 0), .pd (.int .i64 x79), .agg [.pd (.sl (([] : List (List UInt8)).map elS)), .pd (.sl (([] : List (List UInt8)).map elS)), .pd (.sl (([] : List (List UInt8)).map elS))]]) (by kernel_rfl) rfl (by kernel_rfl) (by subst h; rfl)
        replace h := h.f hp78
        obtain ⟨x82, x83, hx84, h⟩ := h
        refine H_ask _ _ (by kernel_rfl) (ask_idx (P := Tryz.prog) (M := [o1, o15]) (t := 112) (et := 114) (k := .i64) (lv := lvAI64LSZ) okAI64LSZ leAI64LSZ (by kernel_rfl) (by kernel_rfl) hx84) ?_
        refine H_askK (.agg [.pd (.int .i64 x82), .pd (.sl (x83.map elS))]) ([o1, o15]) (by kernel_rfl) ?_
        let o16 : Ob := .cells [.pd (.int .i64 x82), .pd (.sl (x83.map elS))] 1 0 false
        refine H_askK (.junk) ([o1, o15, o16]) (by kernel_rfl) ?_
        refine H_draw (by kernel_rfl) ?_
        refine H_askK (.ptr 2 1 0) ([o1, o15, o16]) (by kernel_rfl) ?_
        refine H_askK (.pd (.sl (x83.map elS))) ([o1, o15, o16]) (by kernel_rfl) ?_
        obtain ⟨x85, hx86, h⟩ := h
        refine H_ask _ _ (by kernel_rfl) (ask_idx (P := Tryz.prog) (M := [o1, o15, o16]) (t := 57) (et := 9) (k := .i64) (lv := lvS) okS leS (by kernel_rfl) (by kernel_rfl) hx86) ?_
        refine H_askK (.pd (.str x85)) ([o1, o15, o16]) (by kernel_rfl) ?_
        obtain ⟨x87, hx88, h⟩ := h
        refine H_ask _ _ (by kernel_rfl) (ask_idx (P := Tryz.prog) (M := [o1, o15, o16]) (t := 57) (et := 9) (k := .i64) (lv := lvS) okS leS (by kernel_rfl) (by kernel_rfl) hx88) ?_
        refine H_askK (.pd (.str x87)) ([o1, o15, o16]) (by kernel_rfl) ?_
        refine H_split (!(x85 == x87)) (by kernel_rfl) (fun hc => ?_) (fun hc => ?_)
        · replace h := h.t hc; clear hc
          refine H_draw (by kernel_rfl) ?_
          refine H_askK (.ptr 2 0 0) ([o1, o15, o16]) (by kernel_rfl) ?_
          refine H_askK (.pd (.int .i64 x82)) ([o1, o15, o16]) (by kernel_rfl) ?_
          refine H_askK (.agg [.fixed (([] : List (List UInt8)).map elS), .fixed (([] : List (List UInt8)).map elS), .fixed (([] : List (List UInt8)).map elS)]) ([o1, o15, o16]) (by kernel_rfl) ?_
          refine H_askK (.junk) ([o1, o15, o16]) (by kernel_rfl) ?_
          refine H_leaveP .ret (by kernel_rfl) rfl ?_
          exact H_end .ret (.tup [.pd (.int .i64 0), .pd (.int .i64 x82), .agg [.pd (.sl (([] : List (List UInt8)).map elS)), .pd (.sl (([] : List (List UInt8)).map elS)), .pd (.sl (([] : List (List UInt8)).map elS))]]) (by kernel_rfl) rfl (by kernel_rfl) (by subst h; rfl)
        replace h := h.f hc; clear hc
        refine H_askK (.ptr 2 1 0) ([o1, o15, o16]) (by kernel_rfl) ?_
        refine H_askK (.pd (.sl (x83.map elS))) ([o1, o15, o16]) (by kernel_rfl) ?_
        refine H_ask _ _ (by kernel_rfl) (ask_len (P := Tryz.prog) (M := [o1, o15, o16]) (t := 57) (et := 9) (el := elS) (by kernel_rfl) (e := x83)) ?_
        refine H_split (decide ((x83.length : Int) > (181 : Int))) (by kernel_rfl) (fun hp89 => ?_) (fun hp89 => ?_)
        · replace h := h.t hp89
          refine H_draw (by kernel_rfl) ?_
          refine H_askK (.ptr 2 0 0) ([o1, o15, o16]) (by kernel_rfl) ?_
          refine H_askK (.pd (.int .i64 x82)) ([o1, o15, o16]) (by kernel_rfl) ?_
          refine H_askK (.agg [.fixed (([] : List (List UInt8)).map elS), .fixed (([] : List (List UInt8)).map elS), .fixed (([] : List (List UInt8)).map elS)]) ([o1, o15, o16]) (by kernel_rfl) ?_
          refine H_askK (.junk) ([o1, o15, o16]) (by kernel_rfl) ?_
          refine H_leaveP .ret (by kernel_rfl) rfl ?_
          exact H_end .ret (.tup [.pd (.int .i64 0), .pd (.int .i64 x82), .agg [.pd (.sl (([] : List (List UInt8)).map elS)), .pd (.sl (([] : List (List UInt8)).map elS)), .pd (.sl (([] : List (List UInt8)).map elS))]]) (by kernel_rfl) rfl (by kernel_rfl) (by subst h; rfl)
        replace h := h.f hp89
        refine H_loopP (F := offcutref13_Parse_L6 s500 s501 s502 s503 X5 x82 x83 r) (s0 := (1 : Int)) h () 137 3
          (fun (s600 : Int) (() : Unit) => [(4, .ptr 0 0 0), (5, .ptr 1 0 0), (6, .pd (.sl (x1.map elAI64LSZ))), (7, .pd (.int .i64 3)), (8, .pd (.sl ([([120] : List UInt8), ([114, 97, 121] : List UInt8)].map elS))), (9, .pd (.int .i64 s500)), (10, .ptr 2 0 0), (11, .pd (.int .i64 s600))])
          (fun (s600 : Int) (() : Unit) => [.cells [.fixed (([] : List (List UInt8)).map elS), .fixed (([] : List (List UInt8)).map elS), .fixed (([] : List (List UInt8)).map elS)] 1 0 false, .cells [.pd (.sl (s501.map elS)), .pd (.sl (s502.map elS)), .pd (.sl (s503.map elS))] 1 0 false, .cells [.pd (.int .i64 x82), .pd (.sl (x83.map elS))] 1 0 false]) (fun (s600 : Int) (() : Unit) => True) trivial [] mixedT (askO [9, 10, 11] false [58])
          (by kernel_rfl) (by kernel_rfl) (by kernel_rfl) (by kernel_rfl) (by kernel_rfl) (fun _ _ => rfl) ?_
        rintro X6 s600 ⟨⟩ - h
        dsimp only [offcutref13_Parse_L6] at h
        refine H_askK (.ptr 2 1 0) ([o1, o15, o16]) (by kernel_rfl) ?_
        refine H_askK (.pd (.sl (x83.map elS))) ([o1, o15, o16]) (by kernel_rfl) ?_
        refine H_ask _ _ (by kernel_rfl) (ask_len (P := Tryz.prog) (M := [o1, o15, o16]) (t := 57) (et := 9) (el := elS) (by kernel_rfl) (e := x83)) ?_
        refine H_split (decide (s600 < (x83.length : Int))) (by kernel_rfl) (fun hp90 => ?_) (fun hp90 => ?_)
        · replace h := h.t hp90
          refine H_askK (.ptr 2 1 0) ([o1, o15, o16]) (by kernel_rfl) ?_
          refine H_askK (.pd (.sl (x83.map elS))) ([o1, o15, o16]) (by kernel_rfl) ?_
          obtain ⟨x91, hx92, h⟩ := h
          refine H_ask _ _ (by kernel_rfl) (ask_idx (P := Tryz.prog) (M := [o1, o15, o16]) (t := 57) (et := 9) (k := .i64) (lv := lvS) okS leS (by kernel_rfl) (by kernel_rfl) hx92) ?_
          refine H_askK (.pd (.str x91)) ([o1, o15, o16]) (by kernel_rfl) ?_
          obtain ⟨x93, hx94, h⟩ := h
          refine H_valW (g := 64) (args := [.pd (.str x91), .pd (.bool true)]) (M := [o1, o15, o16]) (.pd (.bool x93)) (.inl (by kernel_rfl)) (by kernel_rfl) (offcutref08_Number_ok m _ _ hx94) (by kernel_rfl) (hasT 64 (by kernel_rfl)) ?_
          cases x93
          · replace h := h.f rfl
            refine H_draw (by kernel_rfl) ?_
            refine H_askK (.ptr 2 0 0) ([o1, o15, o16]) (by kernel_rfl) ?_
            refine H_askK (.pd (.int .i64 x82)) ([o1, o15, o16]) (by kernel_rfl) ?_
            refine H_askK (.agg [.fixed (([] : List (List UInt8)).map elS), .fixed (([] : List (List UInt8)).map elS), .fixed (([] : List (List UInt8)).map elS)]) ([o1, o15, o16]) (by kernel_rfl) ?_
            refine H_askK (.junk) ([o1, o15, o16]) (by kernel_rfl) ?_
            refine H_leaveP .ret (by kernel_rfl) rfl ?_
            refine H_leaveP .ret (by kernel_rfl) rfl ?_
            exact H_end .ret (.tup [.pd (.int .i64 0), .pd (.int .i64 x82), .agg [.pd (.sl (([] : List (List UInt8)).map elS)), .pd (.sl (([] : List (List UInt8)).map elS)), .pd (.sl (([] : List (List UInt8)).map elS))]]) (by kernel_rfl) rfl (by kernel_rfl) (by subst h; rfl)
          replace h := h.t rfl
          exact H_againP (st := _) (IntKind.i64.wrap (s600 + 1)) () h trivial (by kernel_rfl) (by kernel_rfl) (by kernel_rfl) (by kernel_rfl) (by kernel_rfl)
        replace h := h.f hp90
        refine H_leaveP (.exit 3) (by kernel_rfl) rfl ?_
        obtain ⟨x95, hx96, h⟩ := h
        refine H_ask _ _ (by kernel_rfl) (ask_idx (P := Tryz.prog) (M := [o1, o15, o16]) (t := 57) (et := 9) (k := .i64) (lv := lvS) okS leS (by kernel_rfl) (by kernel_rfl) hx96) ?_
        refine H_askK (.pd (.str x95)) ([o1, o15, o16]) (by kernel_rfl) ?_
        refine H_split (x95 == ([121] : List UInt8)) (by kernel_rfl) (fun hc => ?_) (fun hc => ?_)
        · replace h := h.t hc; clear hc
          obtain ⟨x97, hx98, h⟩ := h
          refine H_ask _ _ (by kernel_rfl) (ask_idx (P := Tryz.prog) (M := [o1, o15, o16]) (t := 57) (et := 9) (k := .i64) (lv := lvS) okS leS (by kernel_rfl) (by kernel_rfl) hx98) ?_
          refine H_askK (.pd (.str x97)) ([o1, o15, o16]) (by kernel_rfl) ?_
          refine H_split (x97 == ([114, 97, 121] : List UInt8)) (by kernel_rfl) (fun hc => ?_) (fun hc => ?_)
          · replace h := h.t hc; clear hc
            refine H_askK (.ptr 2 1 0) ([o1, o15, o16]) (by kernel_rfl) ?_
            refine H_askK (.pd (.sl (x83.map elS))) ([o1, o15, o16]) (by kernel_rfl) ?_
            obtain ⟨hx99, h⟩ := h
            refine H_ask _ _ (by kernel_rfl) (ask_sub (P := Tryz.prog) (M := [o1, o15, o16]) (t := 57) (et := 9) (lv := lvS) (lo := (some (1 : Int))) (hi := none) okS leS (by kernel_rfl) (by kernel_rfl) hx99) ?_
            refine H_askK (.ptr 1 2 0) ([o1, o15, o16]) (by kernel_rfl) ?_
            let o17 : Ob := .cells [.pd (.sl (s501.map elS)), .pd (.sl (s502.map elS)), .pd (.sl ((sub x83 (1 : Int) (x83.length : Int)).map elS))] 1 0 false
            refine H_askK (.junk) ([o1, o17, o16]) (by kernel_rfl) ?_
            exact H_againC (st := _) ((IntKind.i64.wrap (s500 + 1)), s501, s502, (sub x83 (1 : Int) (x83.length : Int))) () h trivial (by kernel_rfl) (by kernel_rfl) (by kernel_rfl) (by kernel_rfl) (by kernel_rfl) (by kernel_rfl) (all_c (by kernel_rfl) (all_c (by kernel_rfl) all_n)) (by kernel_rfl) (by kernel_rfl)
          replace h := h.f hc; clear hc
          refine H_askK (.ptr 2 1 0) ([o1, o15, o16]) (by kernel_rfl) ?_
          refine H_askK (.pd (.sl (x83.map elS))) ([o1, o15, o16]) (by kernel_rfl) ?_
          obtain ⟨hx100, h⟩ := h
          refine H_ask _ _ (by kernel_rfl) (ask_sub (P := Tryz.prog) (M := [o1, o15, o16]) (t := 57) (et := 9) (lv := lvS) (lo := (some (1 : Int))) (hi := none) okS leS (by kernel_rfl) (by kernel_rfl) hx100) ?_
          refine H_askK (.ptr 1 1 0) ([o1, o15, o16]) (by kernel_rfl) ?_
          let o18 : Ob := .cells [.pd (.sl (s501.map elS)), .pd (.sl ((sub x83 (1 : Int) (x83.length : Int)).map elS)), .pd (.sl (s503.map elS))] 1 0 false
          refine H_askK (.junk) ([o1, o18, o16]) (by kernel_rfl) ?_
          exact H_againC (st := _) ((IntKind.i64.wrap (s500 + 1)), s501, (sub x83 (1 : Int) (x83.length : Int)), s503) () h trivial (by kernel_rfl) (by kernel_rfl) (by kernel_rfl) (by kernel_rfl) (by kernel_rfl) (by kernel_rfl) (all_c (by kernel_rfl) (all_c (by kernel_rfl) all_n)) (by kernel_rfl) (by kernel_rfl)
        replace h := h.f hc; clear hc
        obtain ⟨x101, hx102, h⟩ := h
        refine H_ask _ _ (by kernel_rfl) (ask_idx (P := Tryz.prog) (M := [o1, o15, o16]) (t := 57) (et := 9) (k := .i64) (lv := lvS) okS leS (by kernel_rfl) (by kernel_rfl) hx102) ?_
        refine H_askK (.pd (.str x101)) ([o1, o15, o16]) (by kernel_rfl) ?_
        refine H_split (x101 == ([114, 97, 121] : List UInt8)) (by kernel_rfl) (fun hc => ?_) (fun hc => ?_)
        · replace h := h.t hc; clear hc
          refine H_askK (.ptr 2 1 0) ([o1, o15, o16]) (by kernel_rfl) ?_
          refine H_askK (.pd (.sl (x83.map elS))) ([o1, o15, o16]) (by kernel_rfl) ?_
          obtain ⟨hx103, h⟩ := h
          refine H_ask _ _ (by kernel_rfl) (ask_sub (P := Tryz.prog) (M := [o1, o15, o16]) (t := 57) (et := 9) (lv := lvS) (lo := (some (1 : Int))) (hi := none) okS leS (by kernel_rfl) (by kernel_rfl) hx103) ?_
          refine H_askK (.ptr 1 2 0) ([o1, o15, o16]) (by kernel_rfl) ?_
          let o19 : Ob := .cells [.pd (.sl (s501.map elS)), .pd (.sl (s502.map elS)), .pd (.sl ((sub x83 (1 : Int) (x83.length : Int)).map elS))] 1 0 false
          refine H_askK (.junk) ([o1, o19, o16]) (by kernel_rfl) ?_
          exact H_againC (st := _) ((IntKind.i64.wrap (s500 + 1)), s501, s502, (sub x83 (1 : Int) (x83.length : Int))) () h trivial (by kernel_rfl) (by kernel_rfl) (by kernel_rfl) (by kernel_rfl) (by kernel_rfl) (by kernel_rfl) (all_c (by kernel_rfl) (all_c (by kernel_rfl) all_n)) (by kernel_rfl) (by kernel_rfl)
        replace h := h.f hc; clear hc
        refine H_askK (.ptr 2 1 0) ([o1, o15, o16]) (by kernel_rfl) ?_
        refine H_askK (.pd (.sl (x83.map elS))) ([o1, o15, o16]) (by kernel_rfl) ?_
        obtain ⟨hx104, h⟩ := h
        refine H_ask _ _ (by kernel_rfl) (ask_sub (P := Tryz.prog) (M := [o1, o15, o16]) (t := 57) (et := 9) (lv := lvS) (lo := (some (1 : Int))) (hi := none) okS leS (by kernel_rfl) (by kernel_rfl) hx104) ?_
        refine H_askK (.ptr 1 0 0) ([o1, o15, o16]) (by kernel_rfl) ?_
        let o20 : Ob := .cells [.pd (.sl ((sub x83 (1 : Int) (x83.length : Int)).map elS)), .pd (.sl (s502.map elS)), .pd (.sl (s503.map elS))] 1 0 false
        refine H_askK (.junk) ([o1, o20, o16]) (by kernel_rfl) ?_
        exact H_againC (st := _) ((IntKind.i64.wrap (s500 + 1)), (sub x83 (1 : Int) (x83.length : Int)), s502, s503) () h trivial (by kernel_rfl) (by kernel_rfl) (by kernel_rfl) (by kernel_rfl) (by kernel_rfl) (by kernel_rfl) (all_c (by kernel_rfl) (all_c (by kernel_rfl) all_n)) (by kernel_rfl) (by kernel_rfl)
      replace h := h.f hp77
      refine H_leaveP (.exit 1) (by kernel_rfl) rfl ?_
      refine H_ask _ _ (by kernel_rfl) (ask_len (P := Tryz.prog) (M := [o1, o15]) (t := 112) (et := 114) (el := elAI64LSZ) (by kernel_rfl) (e := x1)) ?_
      refine H_ask _ _ (by kernel_rfl) (ask_len (P := Tryz.prog) (M := [o1, o15]) (t := 57) (et := 9) (el := elS) (by kernel_rfl) (e := [([120] : List UInt8), ([114, 97, 121] : List UInt8)])) ?_
      refine H_split (decide ((x1.length : Int) > (IntKind.i64.wrap (([([120] : List UInt8), ([114, 97, 121] : List UInt8)].length : Int) + 1)))) (by kernel_rfl) (fun hp105 => ?_) (fun hp105 => ?_)
      · replace h := h.t hp105
        refine H_draw (by kernel_rfl) ?_
        refine H_ask _ _ (by kernel_rfl) (ask_len (P := Tryz.prog) (M := [o1, o15]) (t := 57) (et := 9) (el := elS) (by kernel_rfl) (e := [([120] : List UInt8), ([114, 97, 121] : List UInt8)])) ?_
        obtain ⟨x106, x107, hx108, h⟩ := h
        refine H_ask _ _ (by kernel_rfl) (ask_idx (P := Tryz.prog) (M := [o1, o15]) (t := 112) (et := 114) (k := .i64) (lv := lvAI64LSZ) okAI64LSZ leAI64LSZ (by kernel_rfl) (by kernel_rfl) hx108) ?_
        refine H_askK (.rd [.int .i64 x106, .sl (x107.map elS)]) ([o1, o15]) (by kernel_rfl) ?_
        refine H_askK (.pd (.int .i64 x106)) ([o1, o15]) (by kernel_rfl) ?_
        refine H_askK (.agg [.fixed (([] : List (List UInt8)).map elS), .fixed (([] : List (List UInt8)).map elS), .fixed (([] : List (List UInt8)).map elS)]) ([o1, o15]) (by kernel_rfl) ?_
        refine H_askK (.junk) ([o1, o15]) (by kernel_rfl) ?_
        exact H_end .ret (.tup [.pd (.int .i64 0), .pd (.int .i64 x106), .agg [.pd (.sl (([] : List (List UInt8)).map elS)), .pd (.sl (([] : List (List UInt8)).map elS)), .pd (.sl (([] : List (List UInt8)).map elS))]]) (by kernel_rfl) rfl (by kernel_rfl) (by subst h; rfl)
      replace h := h.f hp105
      refine H_draw (by kernel_rfl) ?_
      refine H_askK (.agg [.pd (.sl (s501.map elS)), .pd (.sl (s502.map elS)), .pd (.sl (s503.map elS))]) ([o1, o15]) (by kernel_rfl) ?_
      refine H_askK (.junk) ([o15, o15]) (by kernel_rfl) ?_
      exact H_end .ret (.tup [.pd (.int .i64 3), .pd (.int .i64 0), .agg [.pd (.sl (s501.map elS)), .pd (.sl (s502.map elS)), .pd (.sl (s503.map elS))]]) (by kernel_rfl) rfl (by kernel_rfl) (by subst h; rfl)
    replace h := h.f hc; clear hc
    refine H_split true (by kernel_rfl) (fun _ => ?_) (fun hc => by cases hc)
    refine H_draw (by kernel_rfl) ?_
    obtain ⟨x109, x110, hx111, h⟩ := h
    refine H_ask _ _ (by kernel_rfl) (ask_idx (P := Tryz.prog) (M := [o1, o2]) (t := 112) (et := 114) (k := .i64) (lv := lvAI64LSZ) okAI64LSZ leAI64LSZ (by kernel_rfl) (by kernel_rfl) hx111) ?_
    refine H_askK (.rd [.int .i64 x109, .sl (x110.map elS)]) ([o1, o2]) (by kernel_rfl) ?_
    refine H_askK (.pd (.int .i64 x109)) ([o1, o2]) (by kernel_rfl) ?_
    refine H_askK (.agg [.pd (.sl (([] : List (List UInt8)).map elS)), .pd (.sl (([] : List (List UInt8)).map elS)), .pd (.sl (([] : List (List UInt8)).map elS))]) ([o1, o2]) (by kernel_rfl) ?_
    refine H_askK (.junk) ([o2, o2]) (by kernel_rfl) ?_
    exact H_end .ret (.tup [.pd (.int .i64 0), .pd (.int .i64 x109), .agg [.pd (.sl (([] : List (List UInt8)).map elS)), .pd (.sl (([] : List (List UInt8)).map elS)), .pd (.sl (([] : List (List UInt8)).map elS))]]) (by kernel_rfl) rfl (by kernel_rfl) (by subst h; rfl)
  replace h := h.f hp7
  refine H_split true (by kernel_rfl) (fun _ => ?_) (fun hc => by cases hc)
  refine H_draw (by kernel_rfl) ?_
  obtain ⟨x112, x113, hx114, h⟩ := h
  refine H_ask _ _ (by kernel_rfl) (ask_idx (P := Tryz.prog) (M := [o1, o2]) (t := 112) (et := 114) (k := .i64) (lv := lvAI64LSZ) okAI64LSZ leAI64LSZ (by kernel_rfl) (by kernel_rfl) hx114) ?_
  refine H_askK (.rd [.int .i64 x112, .sl (x113.map elS)]) ([o1, o2]) (by kernel_rfl) ?_
  refine H_askK (.pd (.int .i64 x112)) ([o1, o2]) (by kernel_rfl) ?_
  refine H_askK (.agg [.pd (.sl (([] : List (List UInt8)).map elS)), .pd (.sl (([] : List (List UInt8)).map elS)), .pd (.sl (([] : List (List UInt8)).map elS))]) ([o1, o2]) (by kernel_rfl) ?_
  refine H_askK (.junk) ([o2, o2]) (by kernel_rfl) ?_
  exact H_end .ret (.tup [.pd (.int .i64 0), .pd (.int .i64 x112), .agg [.pd (.sl (([] : List (List UInt8)).map elS)), .pd (.sl (([] : List (List UInt8)).map elS)), .pd (.sl (([] : List (List UInt8)).map elS))]]) (by kernel_rfl) rfl (by kernel_rfl) (by subst h; rfl)

theorem offcutlaw13_ProofParses_ok (m : Tp) (p0 : List UInt8) {r : Bool} (h : offcutlaw13_ProofParses p0 r) : ASpec Tryz.prog (gtT m) 7 [.pd (.str p0)] (· = .pd (.bool r)) := by
  refine ASpec_tree Tryz.f7 mixedT (askO [9, 10, 11] false [27]) (by kernel_rfl) ?_
  unfold offcutlaw13_ProofParses at h
  refine H_askK (.pd (.int .i64 (p0.length : Int))) ([]) (by kernel_rfl) ?_
  refine H_split (decide ((p0.length : Int) > (3000 : Int))) (by kernel_rfl) (fun hp1 => ?_) (fun hp1 => ?_)
  · replace h := h.t hp1
    obtain ⟨x2, hx3, h⟩ := h
    refine H_valW (g := 14) (args := []) (M := []) (.pd (.bool x2)) (.inl (by kernel_rfl)) (by kernel_rfl) (offcutlaw13_awake_ok m  hx3) (by kernel_rfl) (hasT 14 (by kernel_rfl)) ?_
    cases x2
    · replace h := h.f rfl
      exact H_end .ret (.pd (.bool false)) (by kernel_rfl) rfl (by kernel_rfl) (by subst h; rfl)
    replace h := h.t rfl
    exact H_end .ret (.pd (.bool true)) (by kernel_rfl) rfl (by kernel_rfl) (by subst h; rfl)
  replace h := h.f hp1
  obtain ⟨x4, x5, x6, x7, x8, x9, hx10, h⟩ := h
  refine H_valW (g := 26) (args := [.pd (.str p0)]) (M := []) (.tup [.agg [.pd (.int .i64 x4), .pd (.sl (x5.map elABLU32LU32Z)), .pd (.sl (x6.map elABLU32LU32Z)), .pd (.sl (x7.map elABLU32LU32Z))], .pd (.int .i64 x8), .pd (.int .i64 x9)]) (.inl (by kernel_rfl)) (by kernel_rfl) (proof_Parse_ok m _ hx10) (by kernel_rfl) (hasT 26 (by kernel_rfl)) ?_
  refine H_allocL (t := 27) (M0 := []) (M1 := []) (M2 := [.cells [.pd (.int .i64 0), .fixed (([] : List (Bool × (List Int) × (List Int))).map elABLU32LU32Z), .fixed (([] : List (Bool × (List Int) × (List Int))).map elABLU32LU32Z), .fixed (([] : List (Bool × (List Int) × (List Int))).map elABLU32LU32Z)] 1 0 false]) [] [.pd (.int .i64 0), .fixed (([] : List (Bool × (List Int) × (List Int))).map elABLU32LU32Z), .fixed (([] : List (Bool × (List Int) × (List Int))).map elABLU32LU32Z), .fixed (([] : List (Bool × (List Int) × (List Int))).map elABLU32LU32Z)] (by kernel_rfl) (VStep.refl _) (by kernel_rfl) (by kernel_rfl) ?_
  let o1 : Ob := .cells [.pd (.int .i64 x4), .pd (.sl (x5.map elABLU32LU32Z)), .pd (.sl (x6.map elABLU32LU32Z)), .pd (.sl (x7.map elABLU32LU32Z))] 1 0 false
  refine H_askK (.junk) ([o1]) (by kernel_rfl) ?_
  obtain ⟨x11, hx12, h⟩ := h
  refine H_valW (g := 28) (args := [.pd (.str p0)]) (M := [o1]) (.pd (.bool x11)) (.inl (by kernel_rfl)) (by kernel_rfl) (offcutref07_Right_ok m _ hx12) (by kernel_rfl) (hasT 28 (by kernel_rfl)) ?_
  cases x11
  · replace h := h.f rfl
    refine H_askK (.agg [.pd (.int .i64 x4), .pd (.sl (x5.map elABLU32LU32Z)), .pd (.sl (x6.map elABLU32LU32Z)), .pd (.sl (x7.map elABLU32LU32Z))]) ([o1]) (by kernel_rfl) ?_
    refine H_bldL (t := 27) (parts := []) (M0 := [o1]) (M1 := [o1]) [] (.agg [.pd (.int .i64 0), .fixed (([] : List (Bool × (List Int) × (List Int))).map elABLU32LU32Z), .fixed (([] : List (Bool × (List Int) × (List Int))).map elABLU32LU32Z), .fixed (([] : List (Bool × (List Int) × (List Int))).map elABLU32LU32Z)]) (by kernel_rfl) (VStep.refl _) (by kernel_rfl) ?_
    obtain ⟨x59, hx60, h⟩ := h
    refine H_valW (g := 27) (args := [.agg [.pd (.int .i64 x4), .pd (.sl (x5.map elABLU32LU32Z)), .pd (.sl (x6.map elABLU32LU32Z)), .pd (.sl (x7.map elABLU32LU32Z))], .agg [.pd (.int .i64 0), .fixed (([] : List (Bool × (List Int) × (List Int))).map elABLU32LU32Z), .fixed (([] : List (Bool × (List Int) × (List Int))).map elABLU32LU32Z), .fixed (([] : List (Bool × (List Int) × (List Int))).map elABLU32LU32Z)]]) (M := [o1]) (.pd (.bool x59)) (.inl (by kernel_rfl)) (by kernel_rfl) (proof_Same_ok m _ _ _ _ _ _ _ _ hx60) (by kernel_rfl) (hasT 27 (by kernel_rfl)) ?_
    cases x59
    · replace h := h.f rfl
      exact H_end .ret (.pd (.bool false)) (by kernel_rfl) rfl (by kernel_rfl) (by subst h; rfl)
    replace h := h.t rfl
    refine H_split (x8 == (0 : Int)) (by kernel_rfl) (fun hp61 => ?_) (fun hp61 => ?_)
    · replace h := h.t hp61
      refine H_split (x9 == (2 : Int)) (by kernel_rfl) (fun hp62 => ?_) (fun hp62 => ?_)
      · replace h := h.t hp62
        obtain ⟨x63, hx64, h⟩ := h
        refine H_valW (g := 14) (args := []) (M := [o1]) (.pd (.bool x63)) (.inl (by kernel_rfl)) (by kernel_rfl) (offcutlaw13_awake_ok m  hx64) (by kernel_rfl) (hasT 14 (by kernel_rfl)) ?_
        cases x63
        · replace h := h.f rfl
          exact H_end .ret (.pd (.bool false)) (by kernel_rfl) rfl (by kernel_rfl) (by subst h; rfl)
        replace h := h.t rfl
        exact H_end .ret (.pd (.bool true)) (by kernel_rfl) rfl (by kernel_rfl) (by subst h; rfl)
      replace h := h.f hp62
      exact H_end .ret (.pd (.bool false)) (by kernel_rfl) rfl (by kernel_rfl) (by subst h; rfl)
    replace h := h.f hp61
    exact H_end .ret (.pd (.bool false)) (by kernel_rfl) rfl (by kernel_rfl) (by subst h; rfl)
  replace h := h.t rfl
  obtain ⟨x13, x14, x15, x16, x17, hx18, h⟩ := h
  refine H_valW (g := 29) (args := [.pd (.str p0)]) (M := [o1]) (.tup [.pd (.int .i64 x13), .pd (.int .i64 x14), .agg [.pd (.sl (x15.map elS)), .pd (.sl (x16.map elS)), .pd (.sl (x17.map elS))]]) (.inl (by kernel_rfl)) (by kernel_rfl) (offcutref13_Parse_ok m _ hx18) (by kernel_rfl) (hasT 29 (by kernel_rfl)) ?_
  let o2 : Ob := .cells [.pd (.sl (x15.map elS)), .pd (.sl (x16.map elS)), .pd (.sl (x17.map elS))] 1 0 false
  refine H_askK (.junk) ([o1, o2]) (by kernel_rfl) ?_
  refine H_split (x13 == (0 : Int)) (by kernel_rfl) (fun hp19 => ?_) (fun hp19 => ?_)
  · replace h := h.t hp19
    refine H_askK (.agg [.pd (.int .i64 x4), .pd (.sl (x5.map elABLU32LU32Z)), .pd (.sl (x6.map elABLU32LU32Z)), .pd (.sl (x7.map elABLU32LU32Z))]) ([o1, o2]) (by kernel_rfl) ?_
    refine H_bldL (t := 27) (parts := []) (M0 := [o1, o2]) (M1 := [o1, o2]) [] (.agg [.pd (.int .i64 0), .fixed (([] : List (Bool × (List Int) × (List Int))).map elABLU32LU32Z), .fixed (([] : List (Bool × (List Int) × (List Int))).map elABLU32LU32Z), .fixed (([] : List (Bool × (List Int) × (List Int))).map elABLU32LU32Z)]) (by kernel_rfl) (VStep.refl _) (by kernel_rfl) ?_
    obtain ⟨x20, hx21, h⟩ := h
    refine H_valW (g := 27) (args := [.agg [.pd (.int .i64 x4), .pd (.sl (x5.map elABLU32LU32Z)), .pd (.sl (x6.map elABLU32LU32Z)), .pd (.sl (x7.map elABLU32LU32Z))], .agg [.pd (.int .i64 0), .fixed (([] : List (Bool × (List Int) × (List Int))).map elABLU32LU32Z), .fixed (([] : List (Bool × (List Int) × (List Int))).map elABLU32LU32Z), .fixed (([] : List (Bool × (List Int) × (List Int))).map elABLU32LU32Z)]]) (M := [o1, o2]) (.pd (.bool x20)) (.inl (by kernel_rfl)) (by kernel_rfl) (proof_Same_ok m _ _ _ _ _ _ _ _ hx21) (by kernel_rfl) (hasT 27 (by kernel_rfl)) ?_
    cases x20
    · replace h := h.f rfl
      exact H_end .ret (.pd (.bool false)) (by kernel_rfl) rfl (by kernel_rfl) (by subst h; rfl)
    replace h := h.t rfl
    refine H_split (x8 == x14) (by kernel_rfl) (fun hp22 => ?_) (fun hp22 => ?_)
    · replace h := h.t hp22
      refine H_split (x9 == (2 : Int)) (by kernel_rfl) (fun hp23 => ?_) (fun hp23 => ?_)
      · replace h := h.t hp23
        obtain ⟨x24, hx25, h⟩ := h
        refine H_valW (g := 14) (args := []) (M := [o1, o2]) (.pd (.bool x24)) (.inl (by kernel_rfl)) (by kernel_rfl) (offcutlaw13_awake_ok m  hx25) (by kernel_rfl) (hasT 14 (by kernel_rfl)) ?_
        cases x24
        · replace h := h.f rfl
          exact H_end .ret (.pd (.bool false)) (by kernel_rfl) rfl (by kernel_rfl) (by subst h; rfl)
        replace h := h.t rfl
        exact H_end .ret (.pd (.bool true)) (by kernel_rfl) rfl (by kernel_rfl) (by subst h; rfl)
      replace h := h.f hp23
      exact H_end .ret (.pd (.bool false)) (by kernel_rfl) rfl (by kernel_rfl) (by subst h; rfl)
    replace h := h.f hp22
    exact H_end .ret (.pd (.bool false)) (by kernel_rfl) rfl (by kernel_rfl) (by subst h; rfl)
  replace h := h.f hp19
  let o3 : Ob := rowV lvABLU32LU32Z 3 ([] : List (Bool × (List Int) × (List Int))) 0 false
  refine H_bldL (t := 27) (parts := [(0, .pd (.int .i64 x13))]) (M0 := [o1, o2]) (M1 := [o1, o2, o3, o3, o3]) [(1, some 2), (2, some 3), (3, some 4)] (.agg [.pd (.int .i64 x13), .own 2 (([] : List (Bool × (List Int) × (List Int))).length) 0, .own 3 (([] : List (Bool × (List Int) × (List Int))).length) 0, .own 4 (([] : List (Bool × (List Int) × (List Int))).length) 0]) (by kernel_rfl) (VStep.trans (VStep.trans (VStep.new [.cells [.pd (.int .i64 x4), .pd (.sl (x5.map elABLU32LU32Z)), .pd (.sl (x6.map elABLU32LU32Z)), .pd (.sl (x7.map elABLU32LU32Z))] 1 0 false, .cells [.pd (.sl (x15.map elS)), .pd (.sl (x16.map elS)), .pd (.sl (x17.map elS))] 1 0 false] 3) (VStep.new [.cells [.pd (.int .i64 x4), .pd (.sl (x5.map elABLU32LU32Z)), .pd (.sl (x6.map elABLU32LU32Z)), .pd (.sl (x7.map elABLU32LU32Z))] 1 0 false, .cells [.pd (.sl (x15.map elS)), .pd (.sl (x16.map elS)), .pd (.sl (x17.map elS))] 1 0 false, rowV lvABLU32LU32Z 3 ([] : List (Bool × (List Int) × (List Int))) 0 false] 3)) (VStep.new [.cells [.pd (.int .i64 x4), .pd (.sl (x5.map elABLU32LU32Z)), .pd (.sl (x6.map elABLU32LU32Z)), .pd (.sl (x7.map elABLU32LU32Z))] 1 0 false, .cells [.pd (.sl (x15.map elS)), .pd (.sl (x16.map elS)), .pd (.sl (x17.map elS))] 1 0 false, rowV lvABLU32LU32Z 3 ([] : List (Bool × (List Int) × (List Int))) 0 false, rowV lvABLU32LU32Z 3 ([] : List (Bool × (List Int) × (List Int))) 0 false] 3)) (by kernel_rfl) ?_
  refine H_allocL (t := 27) (M0 := [o1, o2, o3, o3, o3]) (M1 := [o1, o2, o3, o3, o3]) (M2 := [.cells [.pd (.int .i64 x4), .pd (.sl (x5.map elABLU32LU32Z)), .pd (.sl (x6.map elABLU32LU32Z)), .pd (.sl (x7.map elABLU32LU32Z))] 1 0 false, .cells [.pd (.sl (x15.map elS)), .pd (.sl (x16.map elS)), .pd (.sl (x17.map elS))] 1 0 false, rowV lvABLU32LU32Z 3 ([] : List (Bool × (List Int) × (List Int))) 0 false, rowV lvABLU32LU32Z 3 ([] : List (Bool × (List Int) × (List Int))) 0 false, rowV lvABLU32LU32Z 3 ([] : List (Bool × (List Int) × (List Int))) 0 false, .cells [.pd (.int .i64 0), .fixed (([] : List (Bool × (List Int) × (List Int))).map elABLU32LU32Z), .fixed (([] : List (Bool × (List Int) × (List Int))).map elABLU32LU32Z), .fixed (([] : List (Bool × (List Int) × (List Int))).map elABLU32LU32Z)] 1 0 false]) [] [.pd (.int .i64 0), .fixed (([] : List (Bool × (List Int) × (List Int))).map elABLU32LU32Z), .fixed (([] : List (Bool × (List Int) × (List Int))).map elABLU32LU32Z), .fixed (([] : List (Bool × (List Int) × (List Int))).map elABLU32LU32Z)] (by kernel_rfl) (VStep.refl _) (by kernel_rfl) (by kernel_rfl) ?_
  let o4 : Ob := .cells [.pd (.int .i64 0), .fixed (([] : List (Bool × (List Int) × (List Int))).map elABLU32LU32Z), .fixed (([] : List (Bool × (List Int) × (List Int))).map elABLU32LU32Z), .fixed (([] : List (Bool × (List Int) × (List Int))).map elABLU32LU32Z)] 1 0 false
  let m5 : Mem := [o1, o2, o3, o3, o3, o4]
  refine H_ask _ _ (by kernel_rfl) (ask_storeC (P := Tryz.prog) (M := m5) (M2 := [.cells [.pd (.int .i64 x4), .pd (.sl (x5.map elABLU32LU32Z)), .pd (.sl (x6.map elABLU32LU32Z)), .pd (.sl (x7.map elABLU32LU32Z))] 1 0 false, .cells [.pd (.sl (x15.map elS)), .pd (.sl (x16.map elS)), .pd (.sl (x17.map elS))] 1 0 false, rowV lvABLU32LU32Z 3 ([] : List (Bool × (List Int) × (List Int))) 0 false, rowV lvABLU32LU32Z 3 ([] : List (Bool × (List Int) × (List Int))) 0 false, rowV lvABLU32LU32Z 3 ([] : List (Bool × (List Int) × (List Int))) 0 false, .cells [.pd (.int .i64 x13), .own 2 (([] : List (Bool × (List Int) × (List Int))).length) 0, .own 3 (([] : List (Bool × (List Int) × (List Int))).length) 0, .own 4 (([] : List (Bool × (List Int) × (List Int))).length) 0] 1 0 false]) (t := 27) (b := 5) (off := 0) (v := 0) (n := 4) (s := 1) (l := [.pd (.int .i64 0), .fixed (([] : List (Bool × (List Int) × (List Int))).map elABLU32LU32Z), .fixed (([] : List (Bool × (List Int) × (List Int))).map elABLU32LU32Z), .fixed (([] : List (Bool × (List Int) × (List Int))).map elABLU32LU32Z)]) (xs := [.pd (.int .i64 x13), .own 2 (([] : List (Bool × (List Int) × (List Int))).length) 0, .own 3 (([] : List (Bool × (List Int) × (List Int))).length) 0, .own 4 (([] : List (Bool × (List Int) × (List Int))).length) 0]) (x := .agg [.pd (.int .i64 x13), .own 2 (([] : List (Bool × (List Int) × (List Int))).length) 0, .own 3 (([] : List (Bool × (List Int) × (List Int))).length) 0, .own 4 (([] : List (Bool × (List Int) × (List Int))).length) 0]) (by kernel_rfl) (by kernel_rfl) rfl (by kernel_rfl) (all_c (by kernel_rfl) (all_c (ok_own (o := rowV lvABLU32LU32Z 3 ([] : List (Bool × (List Int) × (List Int))) 0 false) (by kernel_rfl) (rowIs_v' (lv := lvABLU32LU32Z) (s := 3) (e := ([] : List (Bool × (List Int) × (List Int)))) (ver := 0) (z := false))) (all_c (ok_own (o := rowV lvABLU32LU32Z 3 ([] : List (Bool × (List Int) × (List Int))) 0 false) (by kernel_rfl) (rowIs_v' (lv := lvABLU32LU32Z) (s := 3) (e := ([] : List (Bool × (List Int) × (List Int)))) (ver := 0) (z := false))) (all_c (ok_own (o := rowV lvABLU32LU32Z 3 ([] : List (Bool × (List Int) × (List Int))) 0 false) (by kernel_rfl) (rowIs_v' (lv := lvABLU32LU32Z) (s := 3) (e := ([] : List (Bool × (List Int) × (List Int)))) (ver := 0) (z := false))) all_n)))) rfl) ?_
  let o6 : Ob := .cells [.pd (.int .i64 x13), .own 2 (([] : List (Bool × (List Int) × (List Int))).length) 0, .own 3 (([] : List (Bool × (List Int) × (List Int))).length) 0, .own 4 (([] : List (Bool × (List Int) × (List Int))).length) 0] 1 0 false
  let m7 : Mem := [o1, o2, o3, o3, o3, o6]
  refine H_askK (.agg [.pd (.sl (x15.map elS)), .pd (.sl (x16.map elS)), .pd (.sl (x17.map elS))]) (m7) (by kernel_rfl) ?_
  refine H_unroll 4 mixedT (askO [9, 10, 11] false [27]) (by kernel_rfl) ?_
  refine H_split true (by kernel_rfl) (fun _ => ?_) (fun hc => by cases hc)
  refine H_askK (.pd (.sl (x15.map elS))) (m7) (by kernel_rfl) ?_
  refine H_ask _ _ (by kernel_rfl) (ask_len (P := Tryz.prog) (M := m7) (t := 57) (et := 9) (el := elS) (by kernel_rfl) (e := x15)) ?_
  refine H_loopP (F := offcutlaw13_ProofParses_L1 x4 x5 x6 x7 x8 x9 x13 x15 x16 x17 r) (s0 := ((0 : Int), ([] : List (Bool × (List Int) × (List Int))))) h (0, (([] : List (Bool × (List Int) × (List Int))).length)) 125 6
    (fun ((s100, s152) : Int × (List (Bool × (List Int) × (List Int)))) ((v102, n102) : Nat × Nat) => [(3, .ptr 0 0 0), (4, .pd (.int .i64 x8)), (5, .pd (.int .i64 x9)), (9, .ptr 5 0 0), (10, .pd (.int .i64 0)), (68, .agg [.pd (.sl (x15.map elS)), .pd (.sl (x16.map elS)), .pd (.sl (x17.map elS))]), (69, .pd (.int .i64 0)), (73, .pd (.sl (x15.map elS))), (74, .pd (.int .i64 (x15.length : Int))), (75, .pd (.int .i64 s100))])
    (fun ((s100, s152) : Int × (List (Bool × (List Int) × (List Int)))) ((v102, n102) : Nat × Nat) => [.cells [.pd (.int .i64 x4), .pd (.sl (x5.map elABLU32LU32Z)), .pd (.sl (x6.map elABLU32LU32Z)), .pd (.sl (x7.map elABLU32LU32Z))] 1 0 false, .cells [.pd (.sl (x15.map elS)), .pd (.sl (x16.map elS)), .pd (.sl (x17.map elS))] 1 0 false, rowV lvABLU32LU32Z 3 s152 v102 false, rowV lvABLU32LU32Z 3 ([] : List (Bool × (List Int) × (List Int))) 0 false, rowV lvABLU32LU32Z 3 ([] : List (Bool × (List Int) × (List Int))) 0 false, .cells [.pd (.int .i64 x13), .own 2 n102 v102, .own 3 (([] : List (Bool × (List Int) × (List Int))).length) 0, .own 4 (([] : List (Bool × (List Int) × (List Int))).length) 0] 1 0 false]) (fun ((s100, s152) : Int × (List (Bool × (List Int) × (List Int)))) ((v102, n102) : Nat × Nat) => n102 = s152.length) rfl [] mixedT (askO [9, 10, 11] false [27])
    (by kernel_rfl) (by kernel_rfl) (by kernel_rfl) (by kernel_rfl) (by kernel_rfl) (fun _ _ => rfl) ?_
  rintro X1 ⟨s100, s152⟩ ⟨v102, n102⟩ hn102 h
  dsimp only [offcutlaw13_ProofParses_L1] at h
  refine H_split (decide (s100 < (x15.length : Int))) (by kernel_rfl) (fun hp26 => ?_) (fun hp26 => ?_)
  · replace h := h.t hp26
    obtain ⟨x27, hx28, h⟩ := h
    let o8 : Ob := rowV lvABLU32LU32Z 3 s152 v102 false
    let o9 : Ob := .cells [.pd (.int .i64 x13), .own 2 n102 v102, .own 3 (([] : List (Bool × (List Int) × (List Int))).length) 0, .own 4 (([] : List (Bool × (List Int) × (List Int))).length) 0] 1 0 false
    let m10 : Mem := [o1, o2, o8, o3, o3, o9]
    refine H_ask _ _ (by kernel_rfl) (ask_idx (P := Tryz.prog) (M := m10) (t := 57) (et := 9) (k := .i64) (lv := lvS) okS leS (by kernel_rfl) (by kernel_rfl) hx28) ?_
    refine H_askK (.pd (.str x27)) (m10) (by kernel_rfl) ?_
    obtain ⟨x29, x30, x31, x32, hx33, h⟩ := h
    refine H_valW (g := 30) (args := [.pd (.str x27)]) (M := m10) (.tup [.agg [.pd (.bool x29), .pd (.sl (x30.map elU32)), .pd (.sl (x31.map elU32))], .pd (.int .i64 x32)]) (.inl (by kernel_rfl)) (by kernel_rfl) (rat_Parse_ok m _ hx33) (by kernel_rfl) (hasT 30 (by kernel_rfl)) ?_
    let o11 : Ob := .cells [.pd (.bool x29), .pd (.sl (x30.map elU32)), .pd (.sl (x31.map elU32))] 1 0 false
    let m12 : Mem := [o1, o2, o8, o3, o3, o9, o11]
    refine H_askK (.junk) (m12) (by kernel_rfl) ?_
    refine H_split true (by kernel_rfl) (fun _ => ?_) (fun hc => by cases hc)
    refine H_askK (.ptr 5 1 0) (m12) (by kernel_rfl) ?_
    refine H_askK (.own 2 n102 v102) (m12) (by kernel_rfl) ?_
    refine H_askK (.agg [.pd (.bool x29), .pd (.sl (x30.map elU32)), .pd (.sl (x31.map elU32))]) (m12) (by kernel_rfl) ?_
    obtain ⟨hx34, h⟩ := h
    refine H_ask _ _ (by kernel_rfl) (ask_appV (P := Tryz.prog) (M := m12) (lv := lvABLU32LU32Z) (s := 3) (b := 2) (e := s152) (e2 := [(x29, x30, x31)]) (ver := v102) (sT := 23) (xT := 23) (by_ := 56) okABLU32LU32Z (by kernel_rfl) (src_fixed (M := m12) okABLU32LU32Z leABLU32LU32Z) (by kernel_rfl) (n := n102) hn102 hx34) ?_
    let o13 : Ob := rowV lvABLU32LU32Z 3 (s152 ++ [(x29, x30, x31)]) (vnext s152 [(x29, x30, x31)] v102) false
    let m14 : Mem := [o1, o2, o13, o3, o3, o9, o11]
    refine H_askK (.ptr 5 1 0) (m14) (by kernel_rfl) ?_
    refine H_ask _ _ (by kernel_rfl) (ask_storeC (P := Tryz.prog) (M := m14) (M2 := [.cells [.pd (.int .i64 x4), .pd (.sl (x5.map elABLU32LU32Z)), .pd (.sl (x6.map elABLU32LU32Z)), .pd (.sl (x7.map elABLU32LU32Z))] 1 0 false, .cells [.pd (.sl (x15.map elS)), .pd (.sl (x16.map elS)), .pd (.sl (x17.map elS))] 1 0 false, rowV lvABLU32LU32Z 3 (s152 ++ [(x29, x30, x31)]) (vnext s152 [(x29, x30, x31)] v102) false, rowV lvABLU32LU32Z 3 ([] : List (Bool × (List Int) × (List Int))) 0 false, rowV lvABLU32LU32Z 3 ([] : List (Bool × (List Int) × (List Int))) 0 false, .cells [.pd (.int .i64 x13), .own 2 ((s152 ++ [(x29, x30, x31)]).length) (vnext s152 [(x29, x30, x31)] v102), .own 3 (([] : List (Bool × (List Int) × (List Int))).length) 0, .own 4 (([] : List (Bool × (List Int) × (List Int))).length) 0] 1 0 false, .cells [.pd (.bool x29), .pd (.sl (x30.map elU32)), .pd (.sl (x31.map elU32))] 1 0 false]) (t := 23) (b := 5) (off := 1) (v := 0) (n := 1) (s := 1) (l := [.pd (.int .i64 x13), .own 2 n102 v102, .own 3 (([] : List (Bool × (List Int) × (List Int))).length) 0, .own 4 (([] : List (Bool × (List Int) × (List Int))).length) 0]) (xs := [.own 2 ((s152 ++ [(x29, x30, x31)]).length) (vnext s152 [(x29, x30, x31)] v102)]) (x := .own 2 ((s152 ++ [(x29, x30, x31)]).length) (vnext s152 [(x29, x30, x31)] v102)) (by kernel_rfl) (by kernel_rfl) rfl (by kernel_rfl) (all_c (ok_own (o := rowV lvABLU32LU32Z 3 (s152 ++ [(x29, x30, x31)]) (vnext s152 [(x29, x30, x31)] v102) false) (by kernel_rfl) (rowIs_v' (lv := lvABLU32LU32Z) (s := 3) (e := (s152 ++ [(x29, x30, x31)])) (ver := (vnext s152 [(x29, x30, x31)] v102)) (z := false))) all_n) rfl) ?_
    exact H_againC (st := _) ((IntKind.i64.wrap (s100 + 1)), (s152 ++ [(x29, x30, x31)])) ((vnext s152 [(x29, x30, x31)] v102), ((s152 ++ [(x29, x30, x31)]).length)) h rfl (by kernel_rfl) (by kernel_rfl) (by kernel_rfl) (by kernel_rfl) (by kernel_rfl) (by kernel_rfl) (all_c (by kernel_rfl) (all_c (by kernel_rfl) (all_c (bel_rowV _) (all_c (bel_rowV _) (all_c (bel_rowV _) (all_c (by kernel_rfl) all_n)))))) (by kernel_rfl) (by kernel_rfl)
  replace h := h.f hp26
  refine H_leaveP (.exit 2) (by kernel_rfl) rfl ?_
  refine H_split true (by kernel_rfl) (fun _ => ?_) (fun hc => by cases hc)
  let o15 : Ob := rowV lvABLU32LU32Z 3 s152 v102 false
  let o16 : Ob := .cells [.pd (.int .i64 x13), .own 2 n102 v102, .own 3 (([] : List (Bool × (List Int) × (List Int))).length) 0, .own 4 (([] : List (Bool × (List Int) × (List Int))).length) 0] 1 0 false
  let m17 : Mem := [o1, o2, o15, o3, o3, o16]
  refine H_askK (.pd (.sl (x16.map elS))) (m17) (by kernel_rfl) ?_
  refine H_ask _ _ (by kernel_rfl) (ask_len (P := Tryz.prog) (M := m17) (t := 57) (et := 9) (el := elS) (by kernel_rfl) (e := x16)) ?_
  refine H_loopP (F := offcutlaw13_ProofParses_L2 x4 x5 x6 x7 x8 x9 x13 x16 x17 s152 r) (s0 := ((0 : Int), ([] : List (Bool × (List Int) × (List Int))))) h (0, (([] : List (Bool × (List Int) × (List Int))).length)) 125 6
    (fun ((s200, s253) : Int × (List (Bool × (List Int) × (List Int)))) ((v203, n203) : Nat × Nat) => [(3, .ptr 0 0 0), (4, .pd (.int .i64 x8)), (5, .pd (.int .i64 x9)), (9, .ptr 5 0 0), (10, .pd (.int .i64 1)), (68, .agg [.pd (.sl (x15.map elS)), .pd (.sl (x16.map elS)), .pd (.sl (x17.map elS))]), (69, .pd (.int .i64 1)), (73, .pd (.sl (x16.map elS))), (74, .pd (.int .i64 (x16.length : Int))), (75, .pd (.int .i64 s200))])
    (fun ((s200, s253) : Int × (List (Bool × (List Int) × (List Int)))) ((v203, n203) : Nat × Nat) => [.cells [.pd (.int .i64 x4), .pd (.sl (x5.map elABLU32LU32Z)), .pd (.sl (x6.map elABLU32LU32Z)), .pd (.sl (x7.map elABLU32LU32Z))] 1 0 false, .cells [.pd (.sl (x15.map elS)), .pd (.sl (x16.map elS)), .pd (.sl (x17.map elS))] 1 0 false, rowV lvABLU32LU32Z 3 s152 v102 false, rowV lvABLU32LU32Z 3 s253 v203 false, rowV lvABLU32LU32Z 3 ([] : List (Bool × (List Int) × (List Int))) 0 false, .cells [.pd (.int .i64 x13), .own 2 n102 v102, .own 3 n203 v203, .own 4 (([] : List (Bool × (List Int) × (List Int))).length) 0] 1 0 false]) (fun ((s200, s253) : Int × (List (Bool × (List Int) × (List Int)))) ((v203, n203) : Nat × Nat) => n203 = s253.length) rfl [] mixedT (askO [9, 10, 11] false [27])
    (by kernel_rfl) (by kernel_rfl) (by kernel_rfl) (by kernel_rfl) (by kernel_rfl) (fun _ _ => rfl) ?_
  rintro X2 ⟨s200, s253⟩ ⟨v203, n203⟩ hn203 h
  dsimp only [offcutlaw13_ProofParses_L2] at h
  refine H_split (decide (s200 < (x16.length : Int))) (by kernel_rfl) (fun hp35 => ?_) (fun hp35 => ?_)
  · replace h := h.t hp35
    obtain ⟨x36, hx37, h⟩ := h
    let o18 : Ob := rowV lvABLU32LU32Z 3 s253 v203 false
    let o19 : Ob := .cells [.pd (.int .i64 x13), .own 2 n102 v102, .own 3 n203 v203, .own 4 (([] : List (Bool × (List Int) × (List Int))).length) 0] 1 0 false
    let m20 : Mem := [o1, o2, o15, o18, o3, o19]
    refine H_ask _ _ (by kernel_rfl) (ask_idx (P := Tryz.prog) (M := m20) (t := 57) (et := 9) (k := .i64) (lv := lvS) okS leS (by kernel_rfl) (by kernel_rfl) hx37) ?_
    refine H_askK (.pd (.str x36)) (m20) (by kernel_rfl) ?_
    obtain ⟨x38, x39, x40, x41, hx42, h⟩ := h
    refine H_valW (g := 30) (args := [.pd (.str x36)]) (M := m20) (.tup [.agg [.pd (.bool x38), .pd (.sl (x39.map elU32)), .pd (.sl (x40.map elU32))], .pd (.int .i64 x41)]) (.inl (by kernel_rfl)) (by kernel_rfl) (rat_Parse_ok m _ hx42) (by kernel_rfl) (hasT 30 (by kernel_rfl)) ?_
    let o21 : Ob := .cells [.pd (.bool x38), .pd (.sl (x39.map elU32)), .pd (.sl (x40.map elU32))] 1 0 false
    let m22 : Mem := [o1, o2, o15, o18, o3, o19, o21]
    refine H_askK (.junk) (m22) (by kernel_rfl) ?_
    refine H_split false (by kernel_rfl) (fun hc => by cases hc) (fun _ => ?_)
    refine H_split true (by kernel_rfl) (fun _ => ?_) (fun hc => by cases hc)
    refine H_askK (.ptr 5 2 0) (m22) (by kernel_rfl) ?_
    refine H_askK (.own 3 n203 v203) (m22) (by kernel_rfl) ?_
    refine H_askK (.agg [.pd (.bool x38), .pd (.sl (x39.map elU32)), .pd (.sl (x40.map elU32))]) (m22) (by kernel_rfl) ?_
    obtain ⟨hx43, h⟩ := h
    refine H_ask _ _ (by kernel_rfl) (ask_appV (P := Tryz.prog) (M := m22) (lv := lvABLU32LU32Z) (s := 3) (b := 3) (e := s253) (e2 := [(x38, x39, x40)]) (ver := v203) (sT := 23) (xT := 23) (by_ := 56) okABLU32LU32Z (by kernel_rfl) (src_fixed (M := m22) okABLU32LU32Z leABLU32LU32Z) (by kernel_rfl) (n := n203) hn203 hx43) ?_
    let o23 : Ob := rowV lvABLU32LU32Z 3 (s253 ++ [(x38, x39, x40)]) (vnext s253 [(x38, x39, x40)] v203) false
    let m24 : Mem := [o1, o2, o15, o23, o3, o19, o21]
    refine H_askK (.ptr 5 2 0) (m24) (by kernel_rfl) ?_
    refine H_ask _ _ (by kernel_rfl) (ask_storeC (P := Tryz.prog) (M := m24) (M2 := [.cells [.pd (.int .i64 x4), .pd (.sl (x5.map elABLU32LU32Z)), .pd (.sl (x6.map elABLU32LU32Z)), .pd (.sl (x7.map elABLU32LU32Z))] 1 0 false, .cells [.pd (.sl (x15.map elS)), .pd (.sl (x16.map elS)), .pd (.sl (x17.map elS))] 1 0 false, rowV lvABLU32LU32Z 3 s152 v102 false, rowV lvABLU32LU32Z 3 (s253 ++ [(x38, x39, x40)]) (vnext s253 [(x38, x39, x40)] v203) false, rowV lvABLU32LU32Z 3 ([] : List (Bool × (List Int) × (List Int))) 0 false, .cells [.pd (.int .i64 x13), .own 2 n102 v102, .own 3 ((s253 ++ [(x38, x39, x40)]).length) (vnext s253 [(x38, x39, x40)] v203), .own 4 (([] : List (Bool × (List Int) × (List Int))).length) 0] 1 0 false, .cells [.pd (.bool x38), .pd (.sl (x39.map elU32)), .pd (.sl (x40.map elU32))] 1 0 false]) (t := 23) (b := 5) (off := 2) (v := 0) (n := 1) (s := 1) (l := [.pd (.int .i64 x13), .own 2 n102 v102, .own 3 n203 v203, .own 4 (([] : List (Bool × (List Int) × (List Int))).length) 0]) (xs := [.own 3 ((s253 ++ [(x38, x39, x40)]).length) (vnext s253 [(x38, x39, x40)] v203)]) (x := .own 3 ((s253 ++ [(x38, x39, x40)]).length) (vnext s253 [(x38, x39, x40)] v203)) (by kernel_rfl) (by kernel_rfl) rfl (by kernel_rfl) (all_c (ok_own (o := rowV lvABLU32LU32Z 3 (s253 ++ [(x38, x39, x40)]) (vnext s253 [(x38, x39, x40)] v203) false) (by kernel_rfl) (rowIs_v' (lv := lvABLU32LU32Z) (s := 3) (e := (s253 ++ [(x38, x39, x40)])) (ver := (vnext s253 [(x38, x39, x40)] v203)) (z := false))) all_n) rfl) ?_
    exact H_againC (st := _) ((IntKind.i64.wrap (s200 + 1)), (s253 ++ [(x38, x39, x40)])) ((vnext s253 [(x38, x39, x40)] v203), ((s253 ++ [(x38, x39, x40)]).length)) h rfl (by kernel_rfl) (by kernel_rfl) (by kernel_rfl) (by kernel_rfl) (by kernel_rfl) (by kernel_rfl) (all_c (by kernel_rfl) (all_c (by kernel_rfl) (all_c (bel_rowV _) (all_c (bel_rowV _) (all_c (bel_rowV _) (all_c (by kernel_rfl) all_n)))))) (by kernel_rfl) (by kernel_rfl)
  replace h := h.f hp35
  refine H_leaveP (.exit 2) (by kernel_rfl) rfl ?_
  refine H_split true (by kernel_rfl) (fun _ => ?_) (fun hc => by cases hc)
  let o25 : Ob := rowV lvABLU32LU32Z 3 s253 v203 false
  let o26 : Ob := .cells [.pd (.int .i64 x13), .own 2 n102 v102, .own 3 n203 v203, .own 4 (([] : List (Bool × (List Int) × (List Int))).length) 0] 1 0 false
  let m27 : Mem := [o1, o2, o15, o25, o3, o26]
  refine H_askK (.pd (.sl (x17.map elS))) (m27) (by kernel_rfl) ?_
  refine H_ask _ _ (by kernel_rfl) (ask_len (P := Tryz.prog) (M := m27) (t := 57) (et := 9) (el := elS) (by kernel_rfl) (e := x17)) ?_
  refine H_loopP (F := offcutlaw13_ProofParses_L3 x4 x5 x6 x7 x8 x9 x13 x17 s152 s253 r) (s0 := ((0 : Int), ([] : List (Bool × (List Int) × (List Int))))) h (0, (([] : List (Bool × (List Int) × (List Int))).length)) 125 6
    (fun ((s300, s354) : Int × (List (Bool × (List Int) × (List Int)))) ((v304, n304) : Nat × Nat) => [(3, .ptr 0 0 0), (4, .pd (.int .i64 x8)), (5, .pd (.int .i64 x9)), (9, .ptr 5 0 0), (10, .pd (.int .i64 2)), (68, .agg [.pd (.sl (x15.map elS)), .pd (.sl (x16.map elS)), .pd (.sl (x17.map elS))]), (69, .pd (.int .i64 2)), (73, .pd (.sl (x17.map elS))), (74, .pd (.int .i64 (x17.length : Int))), (75, .pd (.int .i64 s300))])
    (fun ((s300, s354) : Int × (List (Bool × (List Int) × (List Int)))) ((v304, n304) : Nat × Nat) => [.cells [.pd (.int .i64 x4), .pd (.sl (x5.map elABLU32LU32Z)), .pd (.sl (x6.map elABLU32LU32Z)), .pd (.sl (x7.map elABLU32LU32Z))] 1 0 false, .cells [.pd (.sl (x15.map elS)), .pd (.sl (x16.map elS)), .pd (.sl (x17.map elS))] 1 0 false, rowV lvABLU32LU32Z 3 s152 v102 false, rowV lvABLU32LU32Z 3 s253 v203 false, rowV lvABLU32LU32Z 3 s354 v304 false, .cells [.pd (.int .i64 x13), .own 2 n102 v102, .own 3 n203 v203, .own 4 n304 v304] 1 0 false]) (fun ((s300, s354) : Int × (List (Bool × (List Int) × (List Int)))) ((v304, n304) : Nat × Nat) => n304 = s354.length) rfl [] mixedT (askO [9, 10, 11] false [27])
    (by kernel_rfl) (by kernel_rfl) (by kernel_rfl) (by kernel_rfl) (by kernel_rfl) (fun _ _ => rfl) ?_
  rintro X3 ⟨s300, s354⟩ ⟨v304, n304⟩ hn304 h
  dsimp only [offcutlaw13_ProofParses_L3] at h
  refine H_split (decide (s300 < (x17.length : Int))) (by kernel_rfl) (fun hp44 => ?_) (fun hp44 => ?_)
  · replace h := h.t hp44
    obtain ⟨x45, hx46, h⟩ := h
    let o28 : Ob := rowV lvABLU32LU32Z 3 s354 v304 false
    let o29 : Ob := .cells [.pd (.int .i64 x13), .own 2 n102 v102, .own 3 n203 v203, .own 4 n304 v304] 1 0 false
    let m30 : Mem := [o1, o2, o15, o25, o28, o29]
    refine H_ask _ _ (by kernel_rfl) (ask_idx (P := Tryz.prog) (M := m30) (t := 57) (et := 9) (k := .i64) (lv := lvS) okS leS (by kernel_rfl) (by kernel_rfl) hx46) ?_
    refine H_askK (.pd (.str x45)) (m30) (by kernel_rfl) ?_
    obtain ⟨x47, x48, x49, x50, hx51, h⟩ := h
    refine H_valW (g := 30) (args := [.pd (.str x45)]) (M := m30) (.tup [.agg [.pd (.bool x47), .pd (.sl (x48.map elU32)), .pd (.sl (x49.map elU32))], .pd (.int .i64 x50)]) (.inl (by kernel_rfl)) (by kernel_rfl) (rat_Parse_ok m _ hx51) (by kernel_rfl) (hasT 30 (by kernel_rfl)) ?_
    let o31 : Ob := .cells [.pd (.bool x47), .pd (.sl (x48.map elU32)), .pd (.sl (x49.map elU32))] 1 0 false
    let m32 : Mem := [o1, o2, o15, o25, o28, o29, o31]
    refine H_askK (.junk) (m32) (by kernel_rfl) ?_
    refine H_split false (by kernel_rfl) (fun hc => by cases hc) (fun _ => ?_)
    refine H_split false (by kernel_rfl) (fun hc => by cases hc) (fun _ => ?_)
    refine H_split true (by kernel_rfl) (fun _ => ?_) (fun hc => by cases hc)
    refine H_askK (.ptr 5 3 0) (m32) (by kernel_rfl) ?_
    refine H_askK (.own 4 n304 v304) (m32) (by kernel_rfl) ?_
    refine H_askK (.agg [.pd (.bool x47), .pd (.sl (x48.map elU32)), .pd (.sl (x49.map elU32))]) (m32) (by kernel_rfl) ?_
    obtain ⟨hx52, h⟩ := h
    refine H_ask _ _ (by kernel_rfl) (ask_appV (P := Tryz.prog) (M := m32) (lv := lvABLU32LU32Z) (s := 3) (b := 4) (e := s354) (e2 := [(x47, x48, x49)]) (ver := v304) (sT := 23) (xT := 23) (by_ := 56) okABLU32LU32Z (by kernel_rfl) (src_fixed (M := m32) okABLU32LU32Z leABLU32LU32Z) (by kernel_rfl) (n := n304) hn304 hx52) ?_
    let o33 : Ob := rowV lvABLU32LU32Z 3 (s354 ++ [(x47, x48, x49)]) (vnext s354 [(x47, x48, x49)] v304) false
    let m34 : Mem := [o1, o2, o15, o25, o33, o29, o31]
    refine H_askK (.ptr 5 3 0) (m34) (by kernel_rfl) ?_
    refine H_ask _ _ (by kernel_rfl) (ask_storeC (P := Tryz.prog) (M := m34) (M2 := [.cells [.pd (.int .i64 x4), .pd (.sl (x5.map elABLU32LU32Z)), .pd (.sl (x6.map elABLU32LU32Z)), .pd (.sl (x7.map elABLU32LU32Z))] 1 0 false, .cells [.pd (.sl (x15.map elS)), .pd (.sl (x16.map elS)), .pd (.sl (x17.map elS))] 1 0 false, rowV lvABLU32LU32Z 3 s152 v102 false, rowV lvABLU32LU32Z 3 s253 v203 false, rowV lvABLU32LU32Z 3 (s354 ++ [(x47, x48, x49)]) (vnext s354 [(x47, x48, x49)] v304) false, .cells [.pd (.int .i64 x13), .own 2 n102 v102, .own 3 n203 v203, .own 4 ((s354 ++ [(x47, x48, x49)]).length) (vnext s354 [(x47, x48, x49)] v304)] 1 0 false, .cells [.pd (.bool x47), .pd (.sl (x48.map elU32)), .pd (.sl (x49.map elU32))] 1 0 false]) (t := 23) (b := 5) (off := 3) (v := 0) (n := 1) (s := 1) (l := [.pd (.int .i64 x13), .own 2 n102 v102, .own 3 n203 v203, .own 4 n304 v304]) (xs := [.own 4 ((s354 ++ [(x47, x48, x49)]).length) (vnext s354 [(x47, x48, x49)] v304)]) (x := .own 4 ((s354 ++ [(x47, x48, x49)]).length) (vnext s354 [(x47, x48, x49)] v304)) (by kernel_rfl) (by kernel_rfl) rfl (by kernel_rfl) (all_c (ok_own (o := rowV lvABLU32LU32Z 3 (s354 ++ [(x47, x48, x49)]) (vnext s354 [(x47, x48, x49)] v304) false) (by kernel_rfl) (rowIs_v' (lv := lvABLU32LU32Z) (s := 3) (e := (s354 ++ [(x47, x48, x49)])) (ver := (vnext s354 [(x47, x48, x49)] v304)) (z := false))) all_n) rfl) ?_
    exact H_againC (st := _) ((IntKind.i64.wrap (s300 + 1)), (s354 ++ [(x47, x48, x49)])) ((vnext s354 [(x47, x48, x49)] v304), ((s354 ++ [(x47, x48, x49)]).length)) h rfl (by kernel_rfl) (by kernel_rfl) (by kernel_rfl) (by kernel_rfl) (by kernel_rfl) (by kernel_rfl) (all_c (by kernel_rfl) (all_c (by kernel_rfl) (all_c (bel_rowV _) (all_c (bel_rowV _) (all_c (bel_rowV _) (all_c (by kernel_rfl) all_n)))))) (by kernel_rfl) (by kernel_rfl)
  replace h := h.f hp44
  refine H_leaveP (.exit 2) (by kernel_rfl) rfl ?_
  refine H_split false (by kernel_rfl) (fun hc => by cases hc) (fun _ => ?_)
  refine H_split (x9 == (0 : Int)) (by kernel_rfl) (fun hp53 => ?_) (fun hp53 => ?_)
  · replace h := h.t hp53
    refine H_split (x8 == (0 : Int)) (by kernel_rfl) (fun hp54 => ?_) (fun hp54 => ?_)
    · replace h := h.t hp54
      let o35 : Ob := rowV lvABLU32LU32Z 3 s354 v304 false
      let o36 : Ob := .cells [.pd (.int .i64 x13), .own 2 n102 v102, .own 3 n203 v203, .own 4 n304 v304] 1 0 false
      let m37 : Mem := [o1, o2, o15, o25, o35, o36]
      refine H_askK (.agg [.pd (.int .i64 x4), .pd (.sl (x5.map elABLU32LU32Z)), .pd (.sl (x6.map elABLU32LU32Z)), .pd (.sl (x7.map elABLU32LU32Z))]) (m37) (by kernel_rfl) ?_
      refine H_askK (.agg [.pd (.int .i64 x13), .own 2 n102 v102, .own 3 n203 v203, .own 4 n304 v304]) (m37) (by kernel_rfl) ?_
      obtain ⟨x55, hx56, h⟩ := h
      refine H_valO (g := 27) (args := [.agg [.pd (.int .i64 x4), .pd (.sl (x5.map elABLU32LU32Z)), .pd (.sl (x6.map elABLU32LU32Z)), .pd (.sl (x7.map elABLU32LU32Z))], .agg [.pd (.int .i64 x13), .own 2 n102 v102, .own 3 n203 v203, .own 4 n304 v304]]) (M := m37) (.pd (.bool x55)) (.inl (by kernel_rfl)) (pl_cons rfl (pl_cons (un_agg (pl_cons rfl (pl_cons (un_own1 (own_pd okABLU32LU32Z (by decide) lgABLU32LU32Z (o := rowV lvABLU32LU32Z 3 s152 v102 false) (by kernel_rfl) (rowIs_v' (lv := lvABLU32LU32Z) (s := 3) (e := s152) (ver := v102) (z := false)) (n := n102) hn102)) (pl_cons (un_own1 (own_pd okABLU32LU32Z (by decide) lgABLU32LU32Z (o := rowV lvABLU32LU32Z 3 s253 v203 false) (by kernel_rfl) (rowIs_v' (lv := lvABLU32LU32Z) (s := 3) (e := s253) (ver := v203) (z := false)) (n := n203) hn203)) (pl_cons (un_own1 (own_pd okABLU32LU32Z (by decide) lgABLU32LU32Z (o := rowV lvABLU32LU32Z 3 s354 v304 false) (by kernel_rfl) (rowIs_v' (lv := lvABLU32LU32Z) (s := 3) (e := s354) (ver := v304) (z := false)) (n := n304) hn304)) pl_nil))))) pl_nil)) (proof_Same_ok m _ _ _ _ _ _ _ _ hx56) (by kernel_rfl) rfl (hasT 27 (by kernel_rfl)) ?_
      cases x55
      · replace h := h.f rfl
        exact H_end .ret (.pd (.bool false)) (by kernel_rfl) rfl (by kernel_rfl) (by subst h; rfl)
      replace h := h.t rfl
      obtain ⟨x57, hx58, h⟩ := h
      refine H_valW (g := 14) (args := []) (M := m37) (.pd (.bool x57)) (.inl (by kernel_rfl)) (by kernel_rfl) (offcutlaw13_awake_ok m  hx58) (by kernel_rfl) (hasT 14 (by kernel_rfl)) ?_
      cases x57
      · replace h := h.f rfl
        exact H_end .ret (.pd (.bool false)) (by kernel_rfl) rfl (by kernel_rfl) (by subst h; rfl)
      replace h := h.t rfl
      exact H_end .ret (.pd (.bool true)) (by kernel_rfl) rfl (by kernel_rfl) (by subst h; rfl)
    replace h := h.f hp54
    exact H_end .ret (.pd (.bool false)) (by kernel_rfl) rfl (by kernel_rfl) (by subst h; rfl)
  replace h := h.f hp53
  exact H_end .ret (.pd (.bool false)) (by kernel_rfl) rfl (by kernel_rfl) (by subst h; rfl)

end Go.Abs
end
