/- Part of a proof, in few files: GLinW. -/
import Derived.Test.YtdbfgnpobfbfmaaGreatDoorLawProofParsesK30
import Derived.Test.YtdbfgnpobfbfmaaGreatDoorLawProofParsesK33
import Derived.Test.YtdbfgnpobfbfmaaGreatDoorLawProofParsesK27
import Derived.Test.YtdbfgnpobfbfmaaGreatDoorLawProofParsesK35

section
/- Printed by gen.py: the functions do what these conditions say. -/
namespace Go.Abs
open Go.Proofs
set_option maxRecDepth 20000
set_option linter.unusedVariables false
set_option linter.unusedSimpArgs false
set_option linter.unnecessarySimpa false

def lvS (x : List UInt8) : List PD := [.str x]
def elS (x : List UInt8) : PD := .str x
theorem okS : LVok lvS 1 := fun _ => ⟨rfl, rfl⟩
theorem leS : ELok elS lvS := fun _ => rfl
theorem lgS : ELg elS lvS 1 := fun _ => rfl
def lvAI64LSZ (x : Int × (List (List UInt8))) : List PD := [.int .i64 x.1, .sl (x.2.map elS)]
def elAI64LSZ (x : Int × (List (List UInt8))) : PD := .agg [.int .i64 x.1, .sl (x.2.map elS)]
theorem okAI64LSZ : LVok lvAI64LSZ 2 := fun _ => ⟨rfl, rfl⟩
theorem leAI64LSZ : ELok elAI64LSZ lvAI64LSZ := fun _ => rfl
theorem lgAI64LSZ : ELg elAI64LSZ lvAI64LSZ 2 := fun _ => rfl

theorem lines_may_ok (m : Tp) (p0 : Int) {r : Bool} (h : lines_may p0 r) : ASpec Tryz.prog (gtT m) 106 [.pd (.int .i32 p0)] (· = .pd (.bool r)) := by
  refine ASpec_tree Tryz.f106 mixedT (askO [9, 10, 11] false [112, 114]) (by kernel_rfl) ?_
  unfold lines_may at h
  refine H_split (p0 == (10 : Int)) (by kernel_rfl) (fun hc => ?_) (fun hc => ?_)
  · replace h := h.t hc; clear hc
    exact H_end .ret (.pd (.bool true)) (by kernel_rfl) rfl (by kernel_rfl) (by subst h; rfl)
  · replace h := h.f hc; clear hc
    refine H_split (decide (p0 ≥ (32 : Int))) (by kernel_rfl) (fun hc => ?_) (fun hc => ?_)
    · replace h := h.t hc; clear hc
      refine H_split (decide (p0 ≤ (126 : Int))) (by kernel_rfl) (fun hc => ?_) (fun hc => ?_)
      · replace h := h.t hc; clear hc
        exact H_end .ret (.pd (.bool true)) (by kernel_rfl) rfl (by kernel_rfl) (by subst h; rfl)
      · replace h := h.f hc; clear hc
        exact H_end .ret (.pd (.bool false)) (by kernel_rfl) rfl (by kernel_rfl) (by subst h; rfl)
    · replace h := h.f hc; clear hc
      exact H_end .ret (.pd (.bool false)) (by kernel_rfl) rfl (by kernel_rfl) (by subst h; rfl)

theorem lines_All_ok (m : Tp) (p0 : List UInt8) {r : (List (Int × (List (List UInt8)))) × Int} (h : lines_All p0 r) : ASpec Tryz.prog (gtT m) 61 [.pd (.str p0)] (· = .tup [.pd (.sl (r.1.map elAI64LSZ)), .pd (.int .i64 r.2)]) := by
  refine ASpec_tree Tryz.f61 mixedT (askO [9, 10, 11] true [112, 114]) (by kernel_rfl) ?_
  unfold lines_All at h
  let o1 : Ob := rowV lvAI64LSZ 2 ([] : List (Int × (List (List UInt8)))) 0 false
  refine H_askK (.pd (.int .i64 (p0.length : Int))) ([o1]) (by kernel_rfl) ?_
  refine H_split (decide ((p0.length : Int) > (65536 : Int))) (by kernel_rfl) (fun hc => ?_) (fun hc => ?_)
  · replace h := h.t hc; clear hc
    exact H_endX .ret (.tup [.own 1 (([] : List (Int × (List (List UInt8)))).length) 0, .pd (.int .i64 4)]) (.tup [.pd (.sl (([] : List (Int × (List (List UInt8)))).map elAI64LSZ)), .pd (.int .i64 4)]) ([o1, o1]) (by kernel_rfl) rfl (by kernel_rfl) (by kernel_rfl) (pure_tup (pl_cons (pure_1to2 (pure1_own okAI64LSZ (by decide) lgAI64LSZ (M := [o1, o1]) (b := 1) (o := rowV lvAI64LSZ 2 ([] : List (Int × (List (List UInt8)))) 0 false) (by kernel_rfl) (rowIs_v' (lv := lvAI64LSZ) (s := 2) (e := ([] : List (Int × (List (List UInt8))))) (ver := 0) (z := false)) (n := ([] : List (Int × (List (List UInt8)))).length) rfl) rfl) (pl_cons rfl pl_nil))) (by subst h; rfl)
  replace h := h.f hc; clear hc
  refine H_loopP (F := lines_All_L1 p0 r) (s0 := 0) h () 49 2
    (fun (s151 : Nat) (() : Unit) => [(0, .pd (.str p0)), (14, .it 1)])
    (fun (s151 : Nat) (() : Unit) => [rowV lvAI64LSZ 2 ([] : List (Int × (List (List UInt8)))) 0 false, .iter p0 s151]) (fun (s151 : Nat) (() : Unit) => True) trivial [] mixedT (askO [9, 10, 11] true [112, 114])
    (by kernel_rfl) (by kernel_rfl) (by kernel_rfl) (by kernel_rfl) (by kernel_rfl) (fun _ _ => rfl) ?_
  rintro X1 s151 ⟨⟩ - h
  dsimp only [lines_All_L1] at h
  cases hx1 : (decide (s151 < p0.length))
  · replace h := h.f hx1
    refine H_ask _ _ (by kernel_rfl) (ask_next0 (M := [o1, .iter p0 s151]) (b := 1) (s := p0) (pos := s151) (by kernel_rfl) hx1) ?_
    refine H_leaveP (.exit 0) (by kernel_rfl) rfl ?_
    obtain ⟨x4, hx5, h⟩ := h
    refine H_valW (g := 107) (args := [.pd (.str p0), .pd (.str ([10] : List UInt8))]) (M := [o1, .iter p0 s151, o1]) (.pd (.sl (x4.map elS))) (.inl (by kernel_rfl)) (by kernel_rfl) (strings_Split_ok m _ _ hx5) (by kernel_rfl) (hasT 107 (by kernel_rfl)) ?_
    refine H_ask _ _ (by kernel_rfl) (ask_len (P := Tryz.prog) (M := [o1, .iter p0 s151, o1]) (t := 57) (et := 9) (el := elS) (by kernel_rfl) (e := x4)) ?_
    refine H_loopP (F := lines_All_L2 x4 r) (s0 := ((0 : Int), ([] : List (Int × (List (List UInt8)))))) h (0, (([] : List (Int × (List (List UInt8)))).length)) 49 3
      (fun ((s200, s252) : Int × (List (Int × (List (List UInt8))))) ((v202, n202) : Nat × Nat) => [(6, .own 2 n202 v202), (22, .pd (.sl (x4.map elS))), (23, .pd (.int .i64 (x4.length : Int))), (24, .pd (.int .i64 s200))])
      (fun ((s200, s252) : Int × (List (Int × (List (List UInt8))))) ((v202, n202) : Nat × Nat) => [rowV lvAI64LSZ 2 ([] : List (Int × (List (List UInt8)))) 0 false, .iter p0 s151, rowV lvAI64LSZ 2 s252 v202 false]) (fun ((s200, s252) : Int × (List (Int × (List (List UInt8))))) ((v202, n202) : Nat × Nat) => n202 = s252.length) rfl [] mixedT (askO [9, 10, 11] true [112, 114])
      (by kernel_rfl) (by kernel_rfl) (by kernel_rfl) (by kernel_rfl) (by kernel_rfl) (fun _ _ => rfl) ?_
    rintro X2 ⟨s200, s252⟩ ⟨v202, n202⟩ hn202 h
    dsimp only [lines_All_L2] at h
    refine H_split (decide (s200 < (x4.length : Int))) (by kernel_rfl) (fun hc => ?_) (fun hc => ?_)
    · replace h := h.t hc; clear hc
      obtain ⟨x6, hx7, h⟩ := h
      let o2 : Ob := rowV lvAI64LSZ 2 s252 v202 false
      refine H_ask _ _ (by kernel_rfl) (ask_idx (P := Tryz.prog) (M := [o1, .iter p0 s151, o2]) (t := 57) (et := 9) (k := .i64) (lv := lvS) okS leS (by kernel_rfl) (by kernel_rfl) hx7) ?_
      refine H_askK (.pd (.str x6)) ([o1, .iter p0 s151, o2]) (by kernel_rfl) ?_
      obtain ⟨x8, x9, x10, hx11, h⟩ := h
      refine H_valW (g := 65) (args := [.pd (.str x6), .pd (.str ([35] : List UInt8))]) (M := [o1, .iter p0 s151, o2]) (.tup [.pd (.str x8), .pd (.str x9), .pd (.bool x10)]) (.inl (by kernel_rfl)) (by kernel_rfl) (strings_Cut_ok m _ _ hx11) (by kernel_rfl) (hasT 65 (by kernel_rfl)) ?_
      cases x10
      · replace h := h.f rfl
        obtain ⟨x15, hx16, h⟩ := h
        refine H_valW (g := 108) (args := [.pd (.str x8)]) (M := [o1, .iter p0 s151, o2]) (.pd (.sl (x15.map elS))) (.inl (by kernel_rfl)) (by kernel_rfl) (strings_Fields_ok m _ hx16) (by kernel_rfl) (hasT 108 (by kernel_rfl)) ?_
        refine H_ask _ _ (by kernel_rfl) (ask_len (P := Tryz.prog) (M := [o1, .iter p0 s151, o2]) (t := 57) (et := 9) (el := elS) (by kernel_rfl) (e := x15)) ?_
        refine H_split (decide ((x15.length : Int) > (0 : Int))) (by kernel_rfl) (fun hc => ?_) (fun hc => ?_)
        · replace h := h.t hc; clear hc
          refine H_askK (.agg [.pd (.int .i64 (IntKind.i64.wrap (s200 + 1))), .pd (.sl (x15.map elS))]) ([o1, .iter p0 s151, o2]) (by kernel_rfl) ?_
          obtain ⟨hx17, h⟩ := h
          refine H_ask _ _ (by kernel_rfl) (ask_appV (P := Tryz.prog) (M := [o1, .iter p0 s151, o2]) (lv := lvAI64LSZ) (s := 2) (b := 2) (e := s252) (e2 := [((IntKind.i64.wrap (s200 + 1)), x15)]) (ver := v202) (sT := 105) (xT := 105) (by_ := 32) okAI64LSZ (by kernel_rfl) (src_fixed (M := [o1, .iter p0 s151, o2]) okAI64LSZ leAI64LSZ) (by kernel_rfl) (n := n202) hn202 hx17) ?_
          exact H_againP (st := _) ((IntKind.i64.wrap (s200 + 1)), (s252 ++ [((IntKind.i64.wrap (s200 + 1)), x15)])) ((vnext s252 [((IntKind.i64.wrap (s200 + 1)), x15)] v202), ((s252 ++ [((IntKind.i64.wrap (s200 + 1)), x15)]).length)) h rfl (by kernel_rfl) (by kernel_rfl) (by kernel_rfl) (by kernel_rfl) (by kernel_rfl)
        replace h := h.f hc; clear hc
        exact H_againP (st := _) ((IntKind.i64.wrap (s200 + 1)), s252) (v202, n202) h hn202 (by kernel_rfl) (by kernel_rfl) (by kernel_rfl) (by kernel_rfl) (by kernel_rfl)
      replace h := h.t rfl
      obtain ⟨x12, hx13, h⟩ := h
      refine H_valW (g := 108) (args := [.pd (.str x8)]) (M := [o1, .iter p0 s151, o2]) (.pd (.sl (x12.map elS))) (.inl (by kernel_rfl)) (by kernel_rfl) (strings_Fields_ok m _ hx13) (by kernel_rfl) (hasT 108 (by kernel_rfl)) ?_
      refine H_ask _ _ (by kernel_rfl) (ask_len (P := Tryz.prog) (M := [o1, .iter p0 s151, o2]) (t := 57) (et := 9) (el := elS) (by kernel_rfl) (e := x12)) ?_
      refine H_split (decide ((x12.length : Int) > (0 : Int))) (by kernel_rfl) (fun hc => ?_) (fun hc => ?_)
      · replace h := h.t hc; clear hc
        refine H_askK (.agg [.pd (.int .i64 (IntKind.i64.wrap (s200 + 1))), .pd (.sl (x12.map elS))]) ([o1, .iter p0 s151, o2]) (by kernel_rfl) ?_
        obtain ⟨hx14, h⟩ := h
        refine H_ask _ _ (by kernel_rfl) (ask_appV (P := Tryz.prog) (M := [o1, .iter p0 s151, o2]) (lv := lvAI64LSZ) (s := 2) (b := 2) (e := s252) (e2 := [((IntKind.i64.wrap (s200 + 1)), x12)]) (ver := v202) (sT := 105) (xT := 105) (by_ := 32) okAI64LSZ (by kernel_rfl) (src_fixed (M := [o1, .iter p0 s151, o2]) okAI64LSZ leAI64LSZ) (by kernel_rfl) (n := n202) hn202 hx14) ?_
        exact H_againP (st := _) ((IntKind.i64.wrap (s200 + 1)), (s252 ++ [((IntKind.i64.wrap (s200 + 1)), x12)])) ((vnext s252 [((IntKind.i64.wrap (s200 + 1)), x12)] v202), ((s252 ++ [((IntKind.i64.wrap (s200 + 1)), x12)]).length)) h rfl (by kernel_rfl) (by kernel_rfl) (by kernel_rfl) (by kernel_rfl) (by kernel_rfl)
      replace h := h.f hc; clear hc
      exact H_againP (st := _) ((IntKind.i64.wrap (s200 + 1)), s252) (v202, n202) h hn202 (by kernel_rfl) (by kernel_rfl) (by kernel_rfl) (by kernel_rfl) (by kernel_rfl)
    replace h := h.f hc; clear hc
    refine H_leaveP (.exit 2) (by kernel_rfl) rfl ?_
    let o3 : Ob := rowV lvAI64LSZ 2 s252 v202 false
    exact H_endX .ret (.tup [.own 2 n202 v202, .pd (.int .i64 0)]) (.tup [.pd (.sl (s252.map elAI64LSZ)), .pd (.int .i64 0)]) ([o1, .iter p0 s151, o3]) (by kernel_rfl) rfl (by kernel_rfl) (by kernel_rfl) (pure_tup (pl_cons (pure_1to2 (pure1_own okAI64LSZ (by decide) lgAI64LSZ (M := [o1, .iter p0 s151, o3]) (b := 2) (o := rowV lvAI64LSZ 2 s252 v202 false) (by kernel_rfl) (rowIs_v' (lv := lvAI64LSZ) (s := 2) (e := s252) (ver := v202) (z := false)) (n := n202) hn202) rfl) (pl_cons rfl pl_nil))) (by subst h; rfl)
  replace h := h.t hx1
  refine H_ask _ _ (by kernel_rfl) (ask_next (M := [o1, .iter p0 s151]) (b := 1) (s := p0) (pos := s151) (by kernel_rfl) hx1) ?_
  obtain ⟨x2, hx3, h⟩ := h
  let o4 : Ob := .iter p0 (s151 + runeLen p0 s151)
  refine H_valW (g := 106) (args := [.pd (.int .i32 (runeAt p0 s151))]) (M := [o1, o4]) (.pd (.bool x2)) (.inl (by kernel_rfl)) (by kernel_rfl) (lines_may_ok m _ hx3) (by kernel_rfl) (hasT 106 (by kernel_rfl)) ?_
  cases x2
  · replace h := h.f rfl
    refine H_leaveP .ret (by kernel_rfl) rfl ?_
    exact H_endX .ret (.tup [.own 2 (([] : List (Int × (List (List UInt8)))).length) 0, .pd (.int .i64 2)]) (.tup [.pd (.sl (([] : List (Int × (List (List UInt8)))).map elAI64LSZ)), .pd (.int .i64 2)]) ([o1, o4, o1]) (by kernel_rfl) rfl (by kernel_rfl) (by kernel_rfl) (pure_tup (pl_cons (pure_1to2 (pure1_own okAI64LSZ (by decide) lgAI64LSZ (M := [o1, o4, o1]) (b := 2) (o := rowV lvAI64LSZ 2 ([] : List (Int × (List (List UInt8)))) 0 false) (by kernel_rfl) (rowIs_v' (lv := lvAI64LSZ) (s := 2) (e := ([] : List (Int × (List (List UInt8))))) (ver := 0) (z := false)) (n := ([] : List (Int × (List (List UInt8)))).length) rfl) rfl) (pl_cons rfl pl_nil))) (by subst h; rfl)
  replace h := h.t rfl
  exact H_againP (st := _) (s151 + runeLen p0 s151) () h trivial (by kernel_rfl) (by kernel_rfl) (by kernel_rfl) (by kernel_rfl) (by kernel_rfl)

theorem offcutref07_Right_ok (m : Tp) (p0 : List UInt8) {r : Bool} (h : offcutref07_Right p0 r) : ASpec Tryz.prog (gtT m) 28 [.pd (.str p0)] (· = .pd (.bool r)) := by
  refine ASpec_tree Tryz.f28 mixedT (askO [9, 10, 11] false [112, 114]) (by kernel_rfl) ?_
  unfold offcutref07_Right at h
  refine H_loopP (F := offcutref07_Right_L1 p0 r) (s0 := (0 : Int)) h () 26 0
    (fun (s100 : Int) (() : Unit) => [(0, .pd (.str p0)), (3, .pd (.int .i64 s100))])
    (fun (s100 : Int) (() : Unit) => []) (fun (s100 : Int) (() : Unit) => True) trivial [] mixedT (askO [9, 10, 11] false [112, 114])
    (by kernel_rfl) (by kernel_rfl) (by kernel_rfl) (by kernel_rfl) (by kernel_rfl) (fun _ _ => rfl) ?_
  rintro X1 s100 ⟨⟩ - h
  dsimp only [offcutref07_Right_L1] at h
  refine H_askK (.pd (.int .i64 (p0.length : Int))) ([]) (by kernel_rfl) ?_
  refine H_split (decide (s100 < (p0.length : Int))) (by kernel_rfl) (fun hc => ?_) (fun hc => ?_)
  · replace h := h.t hc; clear hc
    obtain ⟨c1, hx2, h⟩ := h
    refine H_ask _ _ (by kernel_rfl) (ask_sidx (P := Tryz.prog) (M := []) (t := 9) (k := .i64) (by kernel_rfl) hx2) ?_
    refine H_split (((c1.toNat : Nat) : Int) != (10 : Int)) (by kernel_rfl) (fun hc => ?_) (fun hc => ?_)
    · replace h := h.t hc; clear hc
      obtain ⟨c3, hx4, h⟩ := h
      refine H_ask _ _ (by kernel_rfl) (ask_sidx (P := Tryz.prog) (M := []) (t := 9) (k := .i64) (by kernel_rfl) hx4) ?_
      refine H_split (decide (((c3.toNat : Nat) : Int) < (32 : Int))) (by kernel_rfl) (fun hc => ?_) (fun hc => ?_)
      · replace h := h.t hc; clear hc
        refine H_leaveP .ret (by kernel_rfl) rfl ?_
        exact H_end .ret (.pd (.bool false)) (by kernel_rfl) rfl (by kernel_rfl) (by subst h; rfl)
      · replace h := h.f hc; clear hc
        obtain ⟨c5, hx6, h⟩ := h
        refine H_ask _ _ (by kernel_rfl) (ask_sidx (P := Tryz.prog) (M := []) (t := 9) (k := .i64) (by kernel_rfl) hx6) ?_
        refine H_split (decide (((c5.toNat : Nat) : Int) > (126 : Int))) (by kernel_rfl) (fun hc => ?_) (fun hc => ?_)
        · replace h := h.t hc; clear hc
          refine H_leaveP .ret (by kernel_rfl) rfl ?_
          exact H_end .ret (.pd (.bool false)) (by kernel_rfl) rfl (by kernel_rfl) (by subst h; rfl)
        · replace h := h.f hc; clear hc
          exact H_againP (st := _) (IntKind.i64.wrap (s100 + 1)) () h trivial (by kernel_rfl) (by kernel_rfl) (by kernel_rfl) (by kernel_rfl) (by kernel_rfl)
    · replace h := h.f hc; clear hc
      exact H_againP (st := _) (IntKind.i64.wrap (s100 + 1)) () h trivial (by kernel_rfl) (by kernel_rfl) (by kernel_rfl) (by kernel_rfl) (by kernel_rfl)
  · replace h := h.f hc; clear hc
    refine H_leaveP (.exit 0) (by kernel_rfl) rfl ?_
    exact H_end .ret (.pd (.bool true)) (by kernel_rfl) rfl (by kernel_rfl) (by subst h; rfl)

theorem offcutref07_All_ok (m : Tp) (p0 : List UInt8) {r : (List (Int × (List (List UInt8))))} (h : offcutref07_All p0 r) : ASpec Tryz.prog (gtT m) 63 [.pd (.str p0)] (· = .pd (.sl (r.map elAI64LSZ))) := by
  refine ASpec_tree Tryz.f63 mixedT (askO [9, 10, 11] true [112, 114]) (by kernel_rfl) ?_
  unfold offcutref07_All at h
  let o1 : Ob := rowV lvAI64LSZ 2 ([] : List (Int × (List (List UInt8)))) 0 false
  refine H_bldN (t := 114) (parts := [(0, .pd (.int .i64 1))]) (M0 := [o1, o1]) 1 2 1 (.agg [.pd (.int .i64 1), .own 2 (([] : List (List UInt8)).length) 0]) (by kernel_rfl) rfl (by kernel_rfl) ?_
  let o2 : Ob := rowV lvS 1 ([] : List (List UInt8)) 0 false
  refine H_allocL (t := 114) (M0 := [o1, o1, o2]) (M1 := [o1, o1, o2]) (M2 := [rowV lvAI64LSZ 2 ([] : List (Int × (List (List UInt8)))) 0 false, rowV lvAI64LSZ 2 ([] : List (Int × (List (List UInt8)))) 0 false, rowV lvS 1 ([] : List (List UInt8)) 0 false, .cells [.pd (.int .i64 0), .fixed (([] : List (List UInt8)).map elS)] 1 0 false]) [] [.pd (.int .i64 0), .fixed (([] : List (List UInt8)).map elS)] (by kernel_rfl) (VStep.refl _) (by kernel_rfl) (by kernel_rfl) ?_
  let o3 : Ob := .cells [.pd (.int .i64 0), .fixed (([] : List (List UInt8)).map elS)] 1 0 false
  refine H_ask _ _ (by kernel_rfl) (ask_storeC (P := Tryz.prog) (M := [o1, o1, o2, o3]) (M2 := [rowV lvAI64LSZ 2 ([] : List (Int × (List (List UInt8)))) 0 false, rowV lvAI64LSZ 2 ([] : List (Int × (List (List UInt8)))) 0 false, rowV lvS 1 ([] : List (List UInt8)) 0 false, .cells [.pd (.int .i64 1), .own 2 (([] : List (List UInt8)).length) 0] 1 0 false]) (t := 114) (b := 3) (off := 0) (v := 0) (n := 2) (s := 1) (l := [.pd (.int .i64 0), .fixed (([] : List (List UInt8)).map elS)]) (xs := [.pd (.int .i64 1), .own 2 (([] : List (List UInt8)).length) 0]) (x := .agg [.pd (.int .i64 1), .own 2 (([] : List (List UInt8)).length) 0]) (by kernel_rfl) (by kernel_rfl) rfl (by kernel_rfl) (all_c (by kernel_rfl) (all_c (ok_own (o := rowV lvS 1 ([] : List (List UInt8)) 0 false) (by kernel_rfl) (rowIs_v' (lv := lvS) (s := 1) (e := ([] : List (List UInt8))) (ver := 0) (z := false))) all_n)) rfl) ?_
  refine H_loopP (F := offcutref07_All_L1 p0 r) (s0 := (([] : List UInt8), false, (0 : Int), (1 : Int), ([] : List (Int × (List (List UInt8)))), ([] : List (List UInt8)))) h (0, (([] : List (Int × (List (List UInt8)))).length), 0, (([] : List (List UInt8)).length)) 73 4
    (fun ((s100, s101, s102, s103, s151, s152) : (List UInt8) × Bool × Int × Int × (List (Int × (List (List UInt8)))) × (List (List UInt8))) ((v101, n101, v102, n102) : Nat × Nat × Nat × Nat) => [(0, .pd (.str p0)), (3, .own 1 n101 v101), (4, .ptr 3 0 0), (5, .pd (.str s100)), (6, .pd (.bool s101)), (7, .pd (.int .i64 s102))])
    (fun ((s100, s101, s102, s103, s151, s152) : (List UInt8) × Bool × Int × Int × (List (Int × (List (List UInt8)))) × (List (List UInt8))) ((v101, n101, v102, n102) : Nat × Nat × Nat × Nat) => [rowV lvAI64LSZ 2 ([] : List (Int × (List (List UInt8)))) 0 false, rowV lvAI64LSZ 2 s151 v101 false, rowV lvS 1 s152 v102 false, .cells [.pd (.int .i64 s103), .own 2 n102 v102] 1 0 false]) (fun ((s100, s101, s102, s103, s151, s152) : (List UInt8) × Bool × Int × Int × (List (Int × (List (List UInt8)))) × (List (List UInt8))) ((v101, n101, v102, n102) : Nat × Nat × Nat × Nat) => n101 = s151.length ∧ n102 = s152.length) ⟨rfl, rfl⟩ [] mixedT (askO [9, 10, 11] true [112, 114])
    (by kernel_rfl) (by kernel_rfl) (by kernel_rfl) (by kernel_rfl) (by kernel_rfl) (fun _ _ => rfl) ?_
  rintro X1 ⟨s100, s101, s102, s103, s151, s152⟩ ⟨v101, n101, v102, n102⟩ ⟨hn101, hn102⟩ h
  dsimp only [offcutref07_All_L1] at h
  cases s101
  · replace h := h.f rfl
    let o4 : Ob := rowV lvAI64LSZ 2 s151 v101 false
    let o5 : Ob := .cells [.pd (.int .i64 s103), .own 2 n102 v102] 1 0 false
    let m6 : Mem := [o1, o4, rowV lvS 1 s152 v102 false, o5]
    refine H_askK (.pd (.int .i64 (p0.length : Int))) (m6) (by kernel_rfl) ?_
    refine H_split (decide (s102 ≤ (p0.length : Int))) (by kernel_rfl) (fun hc => ?_) (fun hc => ?_)
    · replace h := h.t hc; clear hc
      refine H_askK (.pd (.int .i64 (p0.length : Int))) (m6) (by kernel_rfl) ?_
      refine H_split (s102 == (p0.length : Int)) (by kernel_rfl) (fun hc => ?_) (fun hc => ?_)
      · replace h := h.t hc; clear hc
        refine H_split (!(s100 == ([] : List UInt8))) (by kernel_rfl) (fun hc => ?_) (fun hc => ?_)
        · replace h := h.t hc; clear hc
          refine H_askK (.ptr 3 1 0) (m6) (by kernel_rfl) ?_
          refine H_askK (.own 2 n102 v102) (m6) (by kernel_rfl) ?_
          obtain ⟨hx13, h⟩ := h
          refine H_ask _ _ (by kernel_rfl) (ask_appV (P := Tryz.prog) (M := m6) (lv := lvS) (s := 1) (b := 2) (e := s152) (e2 := [s100]) (ver := v102) (sT := 57) (xT := 57) (by_ := 16) okS (by kernel_rfl) (src_fixed (M := m6) okS leS) (by kernel_rfl) (n := n102) hn102 hx13) ?_
          let o7 : Ob := rowV lvS 1 (s152 ++ [s100]) (vnext s152 [s100] v102) false
          refine H_askK (.ptr 3 1 0) ([o1, o4, o7, o5]) (by kernel_rfl) ?_
          refine H_ask _ _ (by kernel_rfl) (ask_storeC (P := Tryz.prog) (M := [o1, o4, o7, o5]) (M2 := [rowV lvAI64LSZ 2 ([] : List (Int × (List (List UInt8)))) 0 false, rowV lvAI64LSZ 2 s151 v101 false, rowV lvS 1 (s152 ++ [s100]) (vnext s152 [s100] v102) false, .cells [.pd (.int .i64 s103), .own 2 ((s152 ++ [s100]).length) (vnext s152 [s100] v102)] 1 0 false]) (t := 57) (b := 3) (off := 1) (v := 0) (n := 1) (s := 1) (l := [.pd (.int .i64 s103), .own 2 n102 v102]) (xs := [.own 2 ((s152 ++ [s100]).length) (vnext s152 [s100] v102)]) (x := .own 2 ((s152 ++ [s100]).length) (vnext s152 [s100] v102)) (by kernel_rfl) (by kernel_rfl) rfl (by kernel_rfl) (all_c (ok_own (o := rowV lvS 1 (s152 ++ [s100]) (vnext s152 [s100] v102) false) (by kernel_rfl) (rowIs_v' (lv := lvS) (s := 1) (e := (s152 ++ [s100])) (ver := (vnext s152 [s100] v102)) (z := false))) all_n) rfl) ?_
          let o8 : Ob := .cells [.pd (.int .i64 s103), .own 2 ((s152 ++ [s100]).length) (vnext s152 [s100] v102)] 1 0 false
          refine H_askK (.ptr 3 1 0) ([o1, o4, o7, o8]) (by kernel_rfl) ?_
          refine H_askK (.own 2 ((s152 ++ [s100]).length) (vnext s152 [s100] v102)) ([o1, o4, o7, o8]) (by kernel_rfl) ?_
          refine H_ask _ _ (by kernel_rfl) (ask_olen (P := Tryz.prog) (M := [o1, o4, o7, o8]) (t := 57) (et := 9) (lv := lvS) (e := (s152 ++ [s100])) (b := 2) (n := (s152 ++ [s100]).length) (by kernel_rfl) (by kernel_rfl) (rowIs_v' (lv := lvS) (s := 1) (e := (s152 ++ [s100])) (ver := (vnext s152 [s100] v102)) (z := false)) rfl) ?_
          refine H_split (decide (((s152 ++ [s100]).length : Int) > (0 : Int))) (by kernel_rfl) (fun hc => ?_) (fun hc => ?_)
          · replace h := h.t hc; clear hc
            refine H_askK (.agg [.pd (.int .i64 s103), .own 2 ((s152 ++ [s100]).length) (vnext s152 [s100] v102)]) ([o1, o4, o7, o8]) (by kernel_rfl) ?_
            refine H_bldF (t := 112) (n := 1) (parts := [(0, .agg [.pd (.int .i64 s103), .own 2 ((s152 ++ [s100]).length) (vnext s152 [s100] v102)])]) (M0 := [o1, o4, o7, o8]) 2 ((s152 ++ [s100]).length) (vnext s152 [s100] v102) (.fixed ([(s103, (s152 ++ [s100]))].map elAI64LSZ)) (by kernel_rfl) (own_pd okS (by decide) lgS (o := rowV lvS 1 (s152 ++ [s100]) (vnext s152 [s100] v102) false) (by kernel_rfl) (rowIs_v' (lv := lvS) (s := 1) (e := (s152 ++ [s100])) (ver := (vnext s152 [s100] v102)) (z := false)) (n := (s152 ++ [s100]).length) rfl) (frz_v (lv := lvS) (s := 1) (e := (s152 ++ [s100])) (ver := (vnext s152 [s100] v102)) (z := false) (by kernel_rfl)) (.cons (.agg (.cons (.keep _) (.cons .cut .nil))) .nil) (by kernel_rfl) ?_
            obtain ⟨hx14, h⟩ := h
            let o9 : Ob := rowV lvS 1 (s152 ++ [s100]) (vnext s152 [s100] v102) true
            refine H_ask _ _ (by kernel_rfl) (ask_appV (P := Tryz.prog) (M := [o1, o4, o9, o8]) (lv := lvAI64LSZ) (s := 2) (b := 1) (e := s151) (e2 := [(s103, (s152 ++ [s100]))]) (ver := v101) (sT := 112) (xT := 112) (by_ := 32) okAI64LSZ (by kernel_rfl) (src_fixed (M := [o1, o4, o9, o8]) okAI64LSZ leAI64LSZ) (by kernel_rfl) (n := n101) hn101 hx14) ?_
            let o10 : Ob := rowV lvAI64LSZ 2 (s151 ++ [(s103, (s152 ++ [s100]))]) (vnext s151 [(s103, (s152 ++ [s100]))] v101) false
            refine H_askK (.ptr 3 0 0) ([o1, o10, o9, o8]) (by kernel_rfl) ?_
            refine H_askK (.pd (.int .i64 s103)) ([o1, o10, o9, o8]) (by kernel_rfl) ?_
            refine H_bldV (t := 114) (parts := [(0, .pd (.int .i64 (IntKind.i64.wrap (s103 + 1))))]) (M0 := [o1, o10, o9, o8]) 1 2 (.agg [.pd (.int .i64 (IntKind.i64.wrap (s103 + 1))), .own 2 (([] : List (List UInt8)).length) ((vnext s152 [s100] v102) + 1)]) (o := rowV lvS 1 (s152 ++ [s100]) (vnext s152 [s100] v102) true) (by kernel_rfl) (by kernel_rfl) (rowIs_v' (lv := lvS) (s := 1) (e := (s152 ++ [s100])) (ver := (vnext s152 [s100] v102)) (z := true)) rfl (by kernel_rfl) ?_
            let o11 : Ob := rowV lvS 1 ([] : List (List UInt8)) ((vnext s152 [s100] v102) + 1) false
            refine H_ask _ _ (by kernel_rfl) (ask_storeC (P := Tryz.prog) (M := [o1, o10, o11, o8]) (M2 := [rowV lvAI64LSZ 2 ([] : List (Int × (List (List UInt8)))) 0 false, rowV lvAI64LSZ 2 (s151 ++ [(s103, (s152 ++ [s100]))]) (vnext s151 [(s103, (s152 ++ [s100]))] v101) false, rowV lvS 1 ([] : List (List UInt8)) ((vnext s152 [s100] v102) + 1) false, .cells [.pd (.int .i64 (IntKind.i64.wrap (s103 + 1))), .own 2 (([] : List (List UInt8)).length) ((vnext s152 [s100] v102) + 1)] 1 0 false]) (t := 114) (b := 3) (off := 0) (v := 0) (n := 2) (s := 1) (l := [.pd (.int .i64 s103), .own 2 ((s152 ++ [s100]).length) (vnext s152 [s100] v102)]) (xs := [.pd (.int .i64 (IntKind.i64.wrap (s103 + 1))), .own 2 (([] : List (List UInt8)).length) ((vnext s152 [s100] v102) + 1)]) (x := .agg [.pd (.int .i64 (IntKind.i64.wrap (s103 + 1))), .own 2 (([] : List (List UInt8)).length) ((vnext s152 [s100] v102) + 1)]) (by kernel_rfl) (by kernel_rfl) rfl (by kernel_rfl) (all_c (by kernel_rfl) (all_c (ok_own (o := rowV lvS 1 ([] : List (List UInt8)) ((vnext s152 [s100] v102) + 1) false) (by kernel_rfl) (rowIs_v' (lv := lvS) (s := 1) (e := ([] : List (List UInt8))) (ver := ((vnext s152 [s100] v102) + 1)) (z := false))) all_n)) rfl) ?_
            exact H_againP (st := _) (([] : List UInt8), false, (IntKind.i64.wrap (s102 + 1)), (IntKind.i64.wrap (s103 + 1)), (s151 ++ [(s103, (s152 ++ [s100]))]), ([] : List (List UInt8))) ((vnext s151 [(s103, (s152 ++ [s100]))] v101), ((s151 ++ [(s103, (s152 ++ [s100]))]).length), ((vnext s152 [s100] v102) + 1), (([] : List (List UInt8)).length)) h ⟨rfl, rfl⟩ (by kernel_rfl) (by kernel_rfl) (by kernel_rfl) (by kernel_rfl) (by kernel_rfl)
          replace h := h.f hc; clear hc
          refine H_askK (.ptr 3 0 0) ([o1, o4, o7, o8]) (by kernel_rfl) ?_
          refine H_askK (.pd (.int .i64 s103)) ([o1, o4, o7, o8]) (by kernel_rfl) ?_
          refine H_bldV (t := 114) (parts := [(0, .pd (.int .i64 (IntKind.i64.wrap (s103 + 1))))]) (M0 := [o1, o4, o7, o8]) 1 2 (.agg [.pd (.int .i64 (IntKind.i64.wrap (s103 + 1))), .own 2 (([] : List (List UInt8)).length) ((vnext s152 [s100] v102) + 1)]) (o := rowV lvS 1 (s152 ++ [s100]) (vnext s152 [s100] v102) false) (by kernel_rfl) (by kernel_rfl) (rowIs_v' (lv := lvS) (s := 1) (e := (s152 ++ [s100])) (ver := (vnext s152 [s100] v102)) (z := false)) rfl (by kernel_rfl) ?_
          let o12 : Ob := rowV lvS 1 ([] : List (List UInt8)) ((vnext s152 [s100] v102) + 1) false
          refine H_ask _ _ (by kernel_rfl) (ask_storeC (P := Tryz.prog) (M := [o1, o4, o12, o8]) (M2 := [rowV lvAI64LSZ 2 ([] : List (Int × (List (List UInt8)))) 0 false, rowV lvAI64LSZ 2 s151 v101 false, rowV lvS 1 ([] : List (List UInt8)) ((vnext s152 [s100] v102) + 1) false, .cells [.pd (.int .i64 (IntKind.i64.wrap (s103 + 1))), .own 2 (([] : List (List UInt8)).length) ((vnext s152 [s100] v102) + 1)] 1 0 false]) (t := 114) (b := 3) (off := 0) (v := 0) (n := 2) (s := 1) (l := [.pd (.int .i64 s103), .own 2 ((s152 ++ [s100]).length) (vnext s152 [s100] v102)]) (xs := [.pd (.int .i64 (IntKind.i64.wrap (s103 + 1))), .own 2 (([] : List (List UInt8)).length) ((vnext s152 [s100] v102) + 1)]) (x := .agg [.pd (.int .i64 (IntKind.i64.wrap (s103 + 1))), .own 2 (([] : List (List UInt8)).length) ((vnext s152 [s100] v102) + 1)]) (by kernel_rfl) (by kernel_rfl) rfl (by kernel_rfl) (all_c (by kernel_rfl) (all_c (ok_own (o := rowV lvS 1 ([] : List (List UInt8)) ((vnext s152 [s100] v102) + 1) false) (by kernel_rfl) (rowIs_v' (lv := lvS) (s := 1) (e := ([] : List (List UInt8))) (ver := ((vnext s152 [s100] v102) + 1)) (z := false))) all_n)) rfl) ?_
          exact H_againP (st := _) (([] : List UInt8), false, (IntKind.i64.wrap (s102 + 1)), (IntKind.i64.wrap (s103 + 1)), s151, ([] : List (List UInt8))) (v101, n101, ((vnext s152 [s100] v102) + 1), (([] : List (List UInt8)).length)) h ⟨hn101, rfl⟩ (by kernel_rfl) (by kernel_rfl) (by kernel_rfl) (by kernel_rfl) (by kernel_rfl)
        replace h := h.f hc; clear hc
        refine H_askK (.ptr 3 1 0) (m6) (by kernel_rfl) ?_
        refine H_askK (.own 2 n102 v102) (m6) (by kernel_rfl) ?_
        refine H_ask _ _ (by kernel_rfl) (ask_olen (P := Tryz.prog) (M := m6) (t := 57) (et := 9) (lv := lvS) (e := s152) (b := 2) (n := n102) (by kernel_rfl) (by kernel_rfl) (rowIs_v' (lv := lvS) (s := 1) (e := s152) (ver := v102) (z := false)) hn102) ?_
        refine H_split (decide ((s152.length : Int) > (0 : Int))) (by kernel_rfl) (fun hc => ?_) (fun hc => ?_)
        · replace h := h.t hc; clear hc
          refine H_askK (.agg [.pd (.int .i64 s103), .own 2 n102 v102]) (m6) (by kernel_rfl) ?_
          refine H_bldF (t := 112) (n := 1) (parts := [(0, .agg [.pd (.int .i64 s103), .own 2 n102 v102])]) (M0 := m6) 2 n102 v102 (.fixed ([(s103, s152)].map elAI64LSZ)) (by kernel_rfl) (own_pd okS (by decide) lgS (o := rowV lvS 1 s152 v102 false) (by kernel_rfl) (rowIs_v' (lv := lvS) (s := 1) (e := s152) (ver := v102) (z := false)) (n := n102) hn102) (frz_v (lv := lvS) (s := 1) (e := s152) (ver := v102) (z := false) (by kernel_rfl)) (.cons (.agg (.cons (.keep _) (.cons .cut .nil))) .nil) (by kernel_rfl) ?_
          obtain ⟨hx15, h⟩ := h
          let m13 : Mem := [o1, o4, rowV lvS 1 s152 v102 true, o5]
          refine H_ask _ _ (by kernel_rfl) (ask_appV (P := Tryz.prog) (M := m13) (lv := lvAI64LSZ) (s := 2) (b := 1) (e := s151) (e2 := [(s103, s152)]) (ver := v101) (sT := 112) (xT := 112) (by_ := 32) okAI64LSZ (by kernel_rfl) (src_fixed (M := m13) okAI64LSZ leAI64LSZ) (by kernel_rfl) (n := n101) hn101 hx15) ?_
          let o14 : Ob := rowV lvAI64LSZ 2 (s151 ++ [(s103, s152)]) (vnext s151 [(s103, s152)] v101) false
          let m15 : Mem := [o1, o14, rowV lvS 1 s152 v102 true, o5]
          refine H_askK (.ptr 3 0 0) (m15) (by kernel_rfl) ?_
          refine H_askK (.pd (.int .i64 s103)) (m15) (by kernel_rfl) ?_
          refine H_bldV (t := 114) (parts := [(0, .pd (.int .i64 (IntKind.i64.wrap (s103 + 1))))]) (M0 := m15) 1 2 (.agg [.pd (.int .i64 (IntKind.i64.wrap (s103 + 1))), .own 2 (([] : List (List UInt8)).length) (v102 + 1)]) (o := rowV lvS 1 s152 v102 true) (by kernel_rfl) (by kernel_rfl) (rowIs_v' (lv := lvS) (s := 1) (e := s152) (ver := v102) (z := true)) rfl (by kernel_rfl) ?_
          let o16 : Ob := rowV lvS 1 ([] : List (List UInt8)) (v102 + 1) false
          refine H_ask _ _ (by kernel_rfl) (ask_storeC (P := Tryz.prog) (M := [o1, o14, o16, o5]) (M2 := [rowV lvAI64LSZ 2 ([] : List (Int × (List (List UInt8)))) 0 false, rowV lvAI64LSZ 2 (s151 ++ [(s103, s152)]) (vnext s151 [(s103, s152)] v101) false, rowV lvS 1 ([] : List (List UInt8)) (v102 + 1) false, .cells [.pd (.int .i64 (IntKind.i64.wrap (s103 + 1))), .own 2 (([] : List (List UInt8)).length) (v102 + 1)] 1 0 false]) (t := 114) (b := 3) (off := 0) (v := 0) (n := 2) (s := 1) (l := [.pd (.int .i64 s103), .own 2 n102 v102]) (xs := [.pd (.int .i64 (IntKind.i64.wrap (s103 + 1))), .own 2 (([] : List (List UInt8)).length) (v102 + 1)]) (x := .agg [.pd (.int .i64 (IntKind.i64.wrap (s103 + 1))), .own 2 (([] : List (List UInt8)).length) (v102 + 1)]) (by kernel_rfl) (by kernel_rfl) rfl (by kernel_rfl) (all_c (by kernel_rfl) (all_c (ok_own (o := rowV lvS 1 ([] : List (List UInt8)) (v102 + 1) false) (by kernel_rfl) (rowIs_v' (lv := lvS) (s := 1) (e := ([] : List (List UInt8))) (ver := (v102 + 1)) (z := false))) all_n)) rfl) ?_
          exact H_againP (st := _) (([] : List UInt8), false, (IntKind.i64.wrap (s102 + 1)), (IntKind.i64.wrap (s103 + 1)), (s151 ++ [(s103, s152)]), ([] : List (List UInt8))) ((vnext s151 [(s103, s152)] v101), ((s151 ++ [(s103, s152)]).length), (v102 + 1), (([] : List (List UInt8)).length)) h ⟨rfl, rfl⟩ (by kernel_rfl) (by kernel_rfl) (by kernel_rfl) (by kernel_rfl) (by kernel_rfl)
        replace h := h.f hc; clear hc
        refine H_askK (.ptr 3 0 0) (m6) (by kernel_rfl) ?_
        refine H_askK (.pd (.int .i64 s103)) (m6) (by kernel_rfl) ?_
        refine H_bldV (t := 114) (parts := [(0, .pd (.int .i64 (IntKind.i64.wrap (s103 + 1))))]) (M0 := m6) 1 2 (.agg [.pd (.int .i64 (IntKind.i64.wrap (s103 + 1))), .own 2 (([] : List (List UInt8)).length) (v102 + 1)]) (o := rowV lvS 1 s152 v102 false) (by kernel_rfl) (by kernel_rfl) (rowIs_v' (lv := lvS) (s := 1) (e := s152) (ver := v102) (z := false)) rfl (by kernel_rfl) ?_
        let o17 : Ob := rowV lvS 1 ([] : List (List UInt8)) (v102 + 1) false
        refine H_ask _ _ (by kernel_rfl) (ask_storeC (P := Tryz.prog) (M := [o1, o4, o17, o5]) (M2 := [rowV lvAI64LSZ 2 ([] : List (Int × (List (List UInt8)))) 0 false, rowV lvAI64LSZ 2 s151 v101 false, rowV lvS 1 ([] : List (List UInt8)) (v102 + 1) false, .cells [.pd (.int .i64 (IntKind.i64.wrap (s103 + 1))), .own 2 (([] : List (List UInt8)).length) (v102 + 1)] 1 0 false]) (t := 114) (b := 3) (off := 0) (v := 0) (n := 2) (s := 1) (l := [.pd (.int .i64 s103), .own 2 n102 v102]) (xs := [.pd (.int .i64 (IntKind.i64.wrap (s103 + 1))), .own 2 (([] : List (List UInt8)).length) (v102 + 1)]) (x := .agg [.pd (.int .i64 (IntKind.i64.wrap (s103 + 1))), .own 2 (([] : List (List UInt8)).length) (v102 + 1)]) (by kernel_rfl) (by kernel_rfl) rfl (by kernel_rfl) (all_c (by kernel_rfl) (all_c (ok_own (o := rowV lvS 1 ([] : List (List UInt8)) (v102 + 1) false) (by kernel_rfl) (rowIs_v' (lv := lvS) (s := 1) (e := ([] : List (List UInt8))) (ver := (v102 + 1)) (z := false))) all_n)) rfl) ?_
        exact H_againP (st := _) (([] : List UInt8), false, (IntKind.i64.wrap (s102 + 1)), (IntKind.i64.wrap (s103 + 1)), s151, ([] : List (List UInt8))) (v101, n101, (v102 + 1), (([] : List (List UInt8)).length)) h ⟨hn101, rfl⟩ (by kernel_rfl) (by kernel_rfl) (by kernel_rfl) (by kernel_rfl) (by kernel_rfl)
      replace h := h.f hc; clear hc
      obtain ⟨c16, hx17, h⟩ := h
      refine H_ask _ _ (by kernel_rfl) (ask_sidx (P := Tryz.prog) (M := m6) (t := 9) (k := .i64) (by kernel_rfl) hx17) ?_
      refine H_split (((c16.toNat : Nat) : Int) == (10 : Int)) (by kernel_rfl) (fun hc => ?_) (fun hc => ?_)
      · replace h := h.t hc; clear hc
        refine H_split (!(s100 == ([] : List UInt8))) (by kernel_rfl) (fun hc => ?_) (fun hc => ?_)
        · replace h := h.t hc; clear hc
          refine H_askK (.ptr 3 1 0) (m6) (by kernel_rfl) ?_
          refine H_askK (.own 2 n102 v102) (m6) (by kernel_rfl) ?_
          obtain ⟨hx18, h⟩ := h
          refine H_ask _ _ (by kernel_rfl) (ask_appV (P := Tryz.prog) (M := m6) (lv := lvS) (s := 1) (b := 2) (e := s152) (e2 := [s100]) (ver := v102) (sT := 57) (xT := 57) (by_ := 16) okS (by kernel_rfl) (src_fixed (M := m6) okS leS) (by kernel_rfl) (n := n102) hn102 hx18) ?_
          let o18 : Ob := rowV lvS 1 (s152 ++ [s100]) (vnext s152 [s100] v102) false
          refine H_askK (.ptr 3 1 0) ([o1, o4, o18, o5]) (by kernel_rfl) ?_
          refine H_ask _ _ (by kernel_rfl) (ask_storeC (P := Tryz.prog) (M := [o1, o4, o18, o5]) (M2 := [rowV lvAI64LSZ 2 ([] : List (Int × (List (List UInt8)))) 0 false, rowV lvAI64LSZ 2 s151 v101 false, rowV lvS 1 (s152 ++ [s100]) (vnext s152 [s100] v102) false, .cells [.pd (.int .i64 s103), .own 2 ((s152 ++ [s100]).length) (vnext s152 [s100] v102)] 1 0 false]) (t := 57) (b := 3) (off := 1) (v := 0) (n := 1) (s := 1) (l := [.pd (.int .i64 s103), .own 2 n102 v102]) (xs := [.own 2 ((s152 ++ [s100]).length) (vnext s152 [s100] v102)]) (x := .own 2 ((s152 ++ [s100]).length) (vnext s152 [s100] v102)) (by kernel_rfl) (by kernel_rfl) rfl (by kernel_rfl) (all_c (ok_own (o := rowV lvS 1 (s152 ++ [s100]) (vnext s152 [s100] v102) false) (by kernel_rfl) (rowIs_v' (lv := lvS) (s := 1) (e := (s152 ++ [s100])) (ver := (vnext s152 [s100] v102)) (z := false))) all_n) rfl) ?_
          let o19 : Ob := .cells [.pd (.int .i64 s103), .own 2 ((s152 ++ [s100]).length) (vnext s152 [s100] v102)] 1 0 false
          refine H_askK (.ptr 3 1 0) ([o1, o4, o18, o19]) (by kernel_rfl) ?_
          refine H_askK (.own 2 ((s152 ++ [s100]).length) (vnext s152 [s100] v102)) ([o1, o4, o18, o19]) (by kernel_rfl) ?_
          refine H_ask _ _ (by kernel_rfl) (ask_olen (P := Tryz.prog) (M := [o1, o4, o18, o19]) (t := 57) (et := 9) (lv := lvS) (e := (s152 ++ [s100])) (b := 2) (n := (s152 ++ [s100]).length) (by kernel_rfl) (by kernel_rfl) (rowIs_v' (lv := lvS) (s := 1) (e := (s152 ++ [s100])) (ver := (vnext s152 [s100] v102)) (z := false)) rfl) ?_
          refine H_split (decide (((s152 ++ [s100]).length : Int) > (0 : Int))) (by kernel_rfl) (fun hc => ?_) (fun hc => ?_)
          · replace h := h.t hc; clear hc
            refine H_askK (.agg [.pd (.int .i64 s103), .own 2 ((s152 ++ [s100]).length) (vnext s152 [s100] v102)]) ([o1, o4, o18, o19]) (by kernel_rfl) ?_
            refine H_bldF (t := 112) (n := 1) (parts := [(0, .agg [.pd (.int .i64 s103), .own 2 ((s152 ++ [s100]).length) (vnext s152 [s100] v102)])]) (M0 := [o1, o4, o18, o19]) 2 ((s152 ++ [s100]).length) (vnext s152 [s100] v102) (.fixed ([(s103, (s152 ++ [s100]))].map elAI64LSZ)) (by kernel_rfl) (own_pd okS (by decide) lgS (o := rowV lvS 1 (s152 ++ [s100]) (vnext s152 [s100] v102) false) (by kernel_rfl) (rowIs_v' (lv := lvS) (s := 1) (e := (s152 ++ [s100])) (ver := (vnext s152 [s100] v102)) (z := false)) (n := (s152 ++ [s100]).length) rfl) (frz_v (lv := lvS) (s := 1) (e := (s152 ++ [s100])) (ver := (vnext s152 [s100] v102)) (z := false) (by kernel_rfl)) (.cons (.agg (.cons (.keep _) (.cons .cut .nil))) .nil) (by kernel_rfl) ?_
            obtain ⟨hx19, h⟩ := h
            let o20 : Ob := rowV lvS 1 (s152 ++ [s100]) (vnext s152 [s100] v102) true
            refine H_ask _ _ (by kernel_rfl) (ask_appV (P := Tryz.prog) (M := [o1, o4, o20, o19]) (lv := lvAI64LSZ) (s := 2) (b := 1) (e := s151) (e2 := [(s103, (s152 ++ [s100]))]) (ver := v101) (sT := 112) (xT := 112) (by_ := 32) okAI64LSZ (by kernel_rfl) (src_fixed (M := [o1, o4, o20, o19]) okAI64LSZ leAI64LSZ) (by kernel_rfl) (n := n101) hn101 hx19) ?_
            let o21 : Ob := rowV lvAI64LSZ 2 (s151 ++ [(s103, (s152 ++ [s100]))]) (vnext s151 [(s103, (s152 ++ [s100]))] v101) false
            refine H_askK (.ptr 3 0 0) ([o1, o21, o20, o19]) (by kernel_rfl) ?_
            refine H_askK (.pd (.int .i64 s103)) ([o1, o21, o20, o19]) (by kernel_rfl) ?_
            refine H_bldV (t := 114) (parts := [(0, .pd (.int .i64 (IntKind.i64.wrap (s103 + 1))))]) (M0 := [o1, o21, o20, o19]) 1 2 (.agg [.pd (.int .i64 (IntKind.i64.wrap (s103 + 1))), .own 2 (([] : List (List UInt8)).length) ((vnext s152 [s100] v102) + 1)]) (o := rowV lvS 1 (s152 ++ [s100]) (vnext s152 [s100] v102) true) (by kernel_rfl) (by kernel_rfl) (rowIs_v' (lv := lvS) (s := 1) (e := (s152 ++ [s100])) (ver := (vnext s152 [s100] v102)) (z := true)) rfl (by kernel_rfl) ?_
            let o22 : Ob := rowV lvS 1 ([] : List (List UInt8)) ((vnext s152 [s100] v102) + 1) false
            refine H_ask _ _ (by kernel_rfl) (ask_storeC (P := Tryz.prog) (M := [o1, o21, o22, o19]) (M2 := [rowV lvAI64LSZ 2 ([] : List (Int × (List (List UInt8)))) 0 false, rowV lvAI64LSZ 2 (s151 ++ [(s103, (s152 ++ [s100]))]) (vnext s151 [(s103, (s152 ++ [s100]))] v101) false, rowV lvS 1 ([] : List (List UInt8)) ((vnext s152 [s100] v102) + 1) false, .cells [.pd (.int .i64 (IntKind.i64.wrap (s103 + 1))), .own 2 (([] : List (List UInt8)).length) ((vnext s152 [s100] v102) + 1)] 1 0 false]) (t := 114) (b := 3) (off := 0) (v := 0) (n := 2) (s := 1) (l := [.pd (.int .i64 s103), .own 2 ((s152 ++ [s100]).length) (vnext s152 [s100] v102)]) (xs := [.pd (.int .i64 (IntKind.i64.wrap (s103 + 1))), .own 2 (([] : List (List UInt8)).length) ((vnext s152 [s100] v102) + 1)]) (x := .agg [.pd (.int .i64 (IntKind.i64.wrap (s103 + 1))), .own 2 (([] : List (List UInt8)).length) ((vnext s152 [s100] v102) + 1)]) (by kernel_rfl) (by kernel_rfl) rfl (by kernel_rfl) (all_c (by kernel_rfl) (all_c (ok_own (o := rowV lvS 1 ([] : List (List UInt8)) ((vnext s152 [s100] v102) + 1) false) (by kernel_rfl) (rowIs_v' (lv := lvS) (s := 1) (e := ([] : List (List UInt8))) (ver := ((vnext s152 [s100] v102) + 1)) (z := false))) all_n)) rfl) ?_
            exact H_againP (st := _) (([] : List UInt8), false, (IntKind.i64.wrap (s102 + 1)), (IntKind.i64.wrap (s103 + 1)), (s151 ++ [(s103, (s152 ++ [s100]))]), ([] : List (List UInt8))) ((vnext s151 [(s103, (s152 ++ [s100]))] v101), ((s151 ++ [(s103, (s152 ++ [s100]))]).length), ((vnext s152 [s100] v102) + 1), (([] : List (List UInt8)).length)) h ⟨rfl, rfl⟩ (by kernel_rfl) (by kernel_rfl) (by kernel_rfl) (by kernel_rfl) (by kernel_rfl)
          replace h := h.f hc; clear hc
          refine H_askK (.ptr 3 0 0) ([o1, o4, o18, o19]) (by kernel_rfl) ?_
          refine H_askK (.pd (.int .i64 s103)) ([o1, o4, o18, o19]) (by kernel_rfl) ?_
          refine H_bldV (t := 114) (parts := [(0, .pd (.int .i64 (IntKind.i64.wrap (s103 + 1))))]) (M0 := [o1, o4, o18, o19]) 1 2 (.agg [.pd (.int .i64 (IntKind.i64.wrap (s103 + 1))), .own 2 (([] : List (List UInt8)).length) ((vnext s152 [s100] v102) + 1)]) (o := rowV lvS 1 (s152 ++ [s100]) (vnext s152 [s100] v102) false) (by kernel_rfl) (by kernel_rfl) (rowIs_v' (lv := lvS) (s := 1) (e := (s152 ++ [s100])) (ver := (vnext s152 [s100] v102)) (z := false)) rfl (by kernel_rfl) ?_
          let o23 : Ob := rowV lvS 1 ([] : List (List UInt8)) ((vnext s152 [s100] v102) + 1) false
          refine H_ask _ _ (by kernel_rfl) (ask_storeC (P := Tryz.prog) (M := [o1, o4, o23, o19]) (M2 := [rowV lvAI64LSZ 2 ([] : List (Int × (List (List UInt8)))) 0 false, rowV lvAI64LSZ 2 s151 v101 false, rowV lvS 1 ([] : List (List UInt8)) ((vnext s152 [s100] v102) + 1) false, .cells [.pd (.int .i64 (IntKind.i64.wrap (s103 + 1))), .own 2 (([] : List (List UInt8)).length) ((vnext s152 [s100] v102) + 1)] 1 0 false]) (t := 114) (b := 3) (off := 0) (v := 0) (n := 2) (s := 1) (l := [.pd (.int .i64 s103), .own 2 ((s152 ++ [s100]).length) (vnext s152 [s100] v102)]) (xs := [.pd (.int .i64 (IntKind.i64.wrap (s103 + 1))), .own 2 (([] : List (List UInt8)).length) ((vnext s152 [s100] v102) + 1)]) (x := .agg [.pd (.int .i64 (IntKind.i64.wrap (s103 + 1))), .own 2 (([] : List (List UInt8)).length) ((vnext s152 [s100] v102) + 1)]) (by kernel_rfl) (by kernel_rfl) rfl (by kernel_rfl) (all_c (by kernel_rfl) (all_c (ok_own (o := rowV lvS 1 ([] : List (List UInt8)) ((vnext s152 [s100] v102) + 1) false) (by kernel_rfl) (rowIs_v' (lv := lvS) (s := 1) (e := ([] : List (List UInt8))) (ver := ((vnext s152 [s100] v102) + 1)) (z := false))) all_n)) rfl) ?_
          exact H_againP (st := _) (([] : List UInt8), false, (IntKind.i64.wrap (s102 + 1)), (IntKind.i64.wrap (s103 + 1)), s151, ([] : List (List UInt8))) (v101, n101, ((vnext s152 [s100] v102) + 1), (([] : List (List UInt8)).length)) h ⟨hn101, rfl⟩ (by kernel_rfl) (by kernel_rfl) (by kernel_rfl) (by kernel_rfl) (by kernel_rfl)
        replace h := h.f hc; clear hc
        refine H_askK (.ptr 3 1 0) (m6) (by kernel_rfl) ?_
        refine H_askK (.own 2 n102 v102) (m6) (by kernel_rfl) ?_
        refine H_ask _ _ (by kernel_rfl) (ask_olen (P := Tryz.prog) (M := m6) (t := 57) (et := 9) (lv := lvS) (e := s152) (b := 2) (n := n102) (by kernel_rfl) (by kernel_rfl) (rowIs_v' (lv := lvS) (s := 1) (e := s152) (ver := v102) (z := false)) hn102) ?_
        refine H_split (decide ((s152.length : Int) > (0 : Int))) (by kernel_rfl) (fun hc => ?_) (fun hc => ?_)
        · replace h := h.t hc; clear hc
          refine H_askK (.agg [.pd (.int .i64 s103), .own 2 n102 v102]) (m6) (by kernel_rfl) ?_
          refine H_bldF (t := 112) (n := 1) (parts := [(0, .agg [.pd (.int .i64 s103), .own 2 n102 v102])]) (M0 := m6) 2 n102 v102 (.fixed ([(s103, s152)].map elAI64LSZ)) (by kernel_rfl) (own_pd okS (by decide) lgS (o := rowV lvS 1 s152 v102 false) (by kernel_rfl) (rowIs_v' (lv := lvS) (s := 1) (e := s152) (ver := v102) (z := false)) (n := n102) hn102) (frz_v (lv := lvS) (s := 1) (e := s152) (ver := v102) (z := false) (by kernel_rfl)) (.cons (.agg (.cons (.keep _) (.cons .cut .nil))) .nil) (by kernel_rfl) ?_
          obtain ⟨hx20, h⟩ := h
          let m24 : Mem := [o1, o4, rowV lvS 1 s152 v102 true, o5]
          refine H_ask _ _ (by kernel_rfl) (ask_appV (P := Tryz.prog) (M := m24) (lv := lvAI64LSZ) (s := 2) (b := 1) (e := s151) (e2 := [(s103, s152)]) (ver := v101) (sT := 112) (xT := 112) (by_ := 32) okAI64LSZ (by kernel_rfl) (src_fixed (M := m24) okAI64LSZ leAI64LSZ) (by kernel_rfl) (n := n101) hn101 hx20) ?_
          let o25 : Ob := rowV lvAI64LSZ 2 (s151 ++ [(s103, s152)]) (vnext s151 [(s103, s152)] v101) false
          let m26 : Mem := [o1, o25, rowV lvS 1 s152 v102 true, o5]
          refine H_askK (.ptr 3 0 0) (m26) (by kernel_rfl) ?_
          refine H_askK (.pd (.int .i64 s103)) (m26) (by kernel_rfl) ?_
          refine H_bldV (t := 114) (parts := [(0, .pd (.int .i64 (IntKind.i64.wrap (s103 + 1))))]) (M0 := m26) 1 2 (.agg [.pd (.int .i64 (IntKind.i64.wrap (s103 + 1))), .own 2 (([] : List (List UInt8)).length) (v102 + 1)]) (o := rowV lvS 1 s152 v102 true) (by kernel_rfl) (by kernel_rfl) (rowIs_v' (lv := lvS) (s := 1) (e := s152) (ver := v102) (z := true)) rfl (by kernel_rfl) ?_
          let o27 : Ob := rowV lvS 1 ([] : List (List UInt8)) (v102 + 1) false
          refine H_ask _ _ (by kernel_rfl) (ask_storeC (P := Tryz.prog) (M := [o1, o25, o27, o5]) (M2 := [rowV lvAI64LSZ 2 ([] : List (Int × (List (List UInt8)))) 0 false, rowV lvAI64LSZ 2 (s151 ++ [(s103, s152)]) (vnext s151 [(s103, s152)] v101) false, rowV lvS 1 ([] : List (List UInt8)) (v102 + 1) false, .cells [.pd (.int .i64 (IntKind.i64.wrap (s103 + 1))), .own 2 (([] : List (List UInt8)).length) (v102 + 1)] 1 0 false]) (t := 114) (b := 3) (off := 0) (v := 0) (n := 2) (s := 1) (l := [.pd (.int .i64 s103), .own 2 n102 v102]) (xs := [.pd (.int .i64 (IntKind.i64.wrap (s103 + 1))), .own 2 (([] : List (List UInt8)).length) (v102 + 1)]) (x := .agg [.pd (.int .i64 (IntKind.i64.wrap (s103 + 1))), .own 2 (([] : List (List UInt8)).length) (v102 + 1)]) (by kernel_rfl) (by kernel_rfl) rfl (by kernel_rfl) (all_c (by kernel_rfl) (all_c (ok_own (o := rowV lvS 1 ([] : List (List UInt8)) (v102 + 1) false) (by kernel_rfl) (rowIs_v' (lv := lvS) (s := 1) (e := ([] : List (List UInt8))) (ver := (v102 + 1)) (z := false))) all_n)) rfl) ?_
          exact H_againP (st := _) (([] : List UInt8), false, (IntKind.i64.wrap (s102 + 1)), (IntKind.i64.wrap (s103 + 1)), (s151 ++ [(s103, s152)]), ([] : List (List UInt8))) ((vnext s151 [(s103, s152)] v101), ((s151 ++ [(s103, s152)]).length), (v102 + 1), (([] : List (List UInt8)).length)) h ⟨rfl, rfl⟩ (by kernel_rfl) (by kernel_rfl) (by kernel_rfl) (by kernel_rfl) (by kernel_rfl)
        replace h := h.f hc; clear hc
        refine H_askK (.ptr 3 0 0) (m6) (by kernel_rfl) ?_
        refine H_askK (.pd (.int .i64 s103)) (m6) (by kernel_rfl) ?_
        refine H_bldV (t := 114) (parts := [(0, .pd (.int .i64 (IntKind.i64.wrap (s103 + 1))))]) (M0 := m6) 1 2 (.agg [.pd (.int .i64 (IntKind.i64.wrap (s103 + 1))), .own 2 (([] : List (List UInt8)).length) (v102 + 1)]) (o := rowV lvS 1 s152 v102 false) (by kernel_rfl) (by kernel_rfl) (rowIs_v' (lv := lvS) (s := 1) (e := s152) (ver := v102) (z := false)) rfl (by kernel_rfl) ?_
        let o28 : Ob := rowV lvS 1 ([] : List (List UInt8)) (v102 + 1) false
        refine H_ask _ _ (by kernel_rfl) (ask_storeC (P := Tryz.prog) (M := [o1, o4, o28, o5]) (M2 := [rowV lvAI64LSZ 2 ([] : List (Int × (List (List UInt8)))) 0 false, rowV lvAI64LSZ 2 s151 v101 false, rowV lvS 1 ([] : List (List UInt8)) (v102 + 1) false, .cells [.pd (.int .i64 (IntKind.i64.wrap (s103 + 1))), .own 2 (([] : List (List UInt8)).length) (v102 + 1)] 1 0 false]) (t := 114) (b := 3) (off := 0) (v := 0) (n := 2) (s := 1) (l := [.pd (.int .i64 s103), .own 2 n102 v102]) (xs := [.pd (.int .i64 (IntKind.i64.wrap (s103 + 1))), .own 2 (([] : List (List UInt8)).length) (v102 + 1)]) (x := .agg [.pd (.int .i64 (IntKind.i64.wrap (s103 + 1))), .own 2 (([] : List (List UInt8)).length) (v102 + 1)]) (by kernel_rfl) (by kernel_rfl) rfl (by kernel_rfl) (all_c (by kernel_rfl) (all_c (ok_own (o := rowV lvS 1 ([] : List (List UInt8)) (v102 + 1) false) (by kernel_rfl) (rowIs_v' (lv := lvS) (s := 1) (e := ([] : List (List UInt8))) (ver := (v102 + 1)) (z := false))) all_n)) rfl) ?_
        exact H_againP (st := _) (([] : List UInt8), false, (IntKind.i64.wrap (s102 + 1)), (IntKind.i64.wrap (s103 + 1)), s151, ([] : List (List UInt8))) (v101, n101, (v102 + 1), (([] : List (List UInt8)).length)) h ⟨hn101, rfl⟩ (by kernel_rfl) (by kernel_rfl) (by kernel_rfl) (by kernel_rfl) (by kernel_rfl)
      replace h := h.f hc; clear hc
      obtain ⟨c21, hx22, h⟩ := h
      refine H_ask _ _ (by kernel_rfl) (ask_sidx (P := Tryz.prog) (M := m6) (t := 9) (k := .i64) (by kernel_rfl) hx22) ?_
      refine H_split (((c21.toNat : Nat) : Int) == (35 : Int)) (by kernel_rfl) (fun hc => ?_) (fun hc => ?_)
      · replace h := h.t hc; clear hc
        refine H_split (!(s100 == ([] : List UInt8))) (by kernel_rfl) (fun hc => ?_) (fun hc => ?_)
        · replace h := h.t hc; clear hc
          refine H_askK (.ptr 3 1 0) (m6) (by kernel_rfl) ?_
          refine H_askK (.own 2 n102 v102) (m6) (by kernel_rfl) ?_
          obtain ⟨hx23, h⟩ := h
          refine H_ask _ _ (by kernel_rfl) (ask_appV (P := Tryz.prog) (M := m6) (lv := lvS) (s := 1) (b := 2) (e := s152) (e2 := [s100]) (ver := v102) (sT := 57) (xT := 57) (by_ := 16) okS (by kernel_rfl) (src_fixed (M := m6) okS leS) (by kernel_rfl) (n := n102) hn102 hx23) ?_
          let o29 : Ob := rowV lvS 1 (s152 ++ [s100]) (vnext s152 [s100] v102) false
          refine H_askK (.ptr 3 1 0) ([o1, o4, o29, o5]) (by kernel_rfl) ?_
          refine H_ask _ _ (by kernel_rfl) (ask_storeC (P := Tryz.prog) (M := [o1, o4, o29, o5]) (M2 := [rowV lvAI64LSZ 2 ([] : List (Int × (List (List UInt8)))) 0 false, rowV lvAI64LSZ 2 s151 v101 false, rowV lvS 1 (s152 ++ [s100]) (vnext s152 [s100] v102) false, .cells [.pd (.int .i64 s103), .own 2 ((s152 ++ [s100]).length) (vnext s152 [s100] v102)] 1 0 false]) (t := 57) (b := 3) (off := 1) (v := 0) (n := 1) (s := 1) (l := [.pd (.int .i64 s103), .own 2 n102 v102]) (xs := [.own 2 ((s152 ++ [s100]).length) (vnext s152 [s100] v102)]) (x := .own 2 ((s152 ++ [s100]).length) (vnext s152 [s100] v102)) (by kernel_rfl) (by kernel_rfl) rfl (by kernel_rfl) (all_c (ok_own (o := rowV lvS 1 (s152 ++ [s100]) (vnext s152 [s100] v102) false) (by kernel_rfl) (rowIs_v' (lv := lvS) (s := 1) (e := (s152 ++ [s100])) (ver := (vnext s152 [s100] v102)) (z := false))) all_n) rfl) ?_
          exact H_againP (st := _) (([] : List UInt8), true, (IntKind.i64.wrap (s102 + 1)), s103, s151, (s152 ++ [s100])) (v101, n101, (vnext s152 [s100] v102), ((s152 ++ [s100]).length)) h ⟨hn101, rfl⟩ (by kernel_rfl) (by kernel_rfl) (by kernel_rfl) (by kernel_rfl) (by kernel_rfl)
        replace h := h.f hc; clear hc
        exact H_againP (st := _) (([] : List UInt8), true, (IntKind.i64.wrap (s102 + 1)), s103, s151, s152) (v101, n101, v102, n102) h ⟨hn101, hn102⟩ (by kernel_rfl) (by kernel_rfl) (by kernel_rfl) (by kernel_rfl) (by kernel_rfl)
      replace h := h.f hc; clear hc
      obtain ⟨c24, hx25, h⟩ := h
      refine H_ask _ _ (by kernel_rfl) (ask_sidx (P := Tryz.prog) (M := m6) (t := 9) (k := .i64) (by kernel_rfl) hx25) ?_
      refine H_split (((c24.toNat : Nat) : Int) == (32 : Int)) (by kernel_rfl) (fun hc => ?_) (fun hc => ?_)
      · replace h := h.t hc; clear hc
        refine H_split (!(s100 == ([] : List UInt8))) (by kernel_rfl) (fun hc => ?_) (fun hc => ?_)
        · replace h := h.t hc; clear hc
          refine H_askK (.ptr 3 1 0) (m6) (by kernel_rfl) ?_
          refine H_askK (.own 2 n102 v102) (m6) (by kernel_rfl) ?_
          obtain ⟨hx26, h⟩ := h
          refine H_ask _ _ (by kernel_rfl) (ask_appV (P := Tryz.prog) (M := m6) (lv := lvS) (s := 1) (b := 2) (e := s152) (e2 := [s100]) (ver := v102) (sT := 57) (xT := 57) (by_ := 16) okS (by kernel_rfl) (src_fixed (M := m6) okS leS) (by kernel_rfl) (n := n102) hn102 hx26) ?_
          let o30 : Ob := rowV lvS 1 (s152 ++ [s100]) (vnext s152 [s100] v102) false
          refine H_askK (.ptr 3 1 0) ([o1, o4, o30, o5]) (by kernel_rfl) ?_
          refine H_ask _ _ (by kernel_rfl) (ask_storeC (P := Tryz.prog) (M := [o1, o4, o30, o5]) (M2 := [rowV lvAI64LSZ 2 ([] : List (Int × (List (List UInt8)))) 0 false, rowV lvAI64LSZ 2 s151 v101 false, rowV lvS 1 (s152 ++ [s100]) (vnext s152 [s100] v102) false, .cells [.pd (.int .i64 s103), .own 2 ((s152 ++ [s100]).length) (vnext s152 [s100] v102)] 1 0 false]) (t := 57) (b := 3) (off := 1) (v := 0) (n := 1) (s := 1) (l := [.pd (.int .i64 s103), .own 2 n102 v102]) (xs := [.own 2 ((s152 ++ [s100]).length) (vnext s152 [s100] v102)]) (x := .own 2 ((s152 ++ [s100]).length) (vnext s152 [s100] v102)) (by kernel_rfl) (by kernel_rfl) rfl (by kernel_rfl) (all_c (ok_own (o := rowV lvS 1 (s152 ++ [s100]) (vnext s152 [s100] v102) false) (by kernel_rfl) (rowIs_v' (lv := lvS) (s := 1) (e := (s152 ++ [s100])) (ver := (vnext s152 [s100] v102)) (z := false))) all_n) rfl) ?_
          exact H_againP (st := _) (([] : List UInt8), false, (IntKind.i64.wrap (s102 + 1)), s103, s151, (s152 ++ [s100])) (v101, n101, (vnext s152 [s100] v102), ((s152 ++ [s100]).length)) h ⟨hn101, rfl⟩ (by kernel_rfl) (by kernel_rfl) (by kernel_rfl) (by kernel_rfl) (by kernel_rfl)
        replace h := h.f hc; clear hc
        exact H_againP (st := _) (([] : List UInt8), false, (IntKind.i64.wrap (s102 + 1)), s103, s151, s152) (v101, n101, v102, n102) h ⟨hn101, hn102⟩ (by kernel_rfl) (by kernel_rfl) (by kernel_rfl) (by kernel_rfl) (by kernel_rfl)
      replace h := h.f hc; clear hc
      obtain ⟨hx27, h⟩ := h
      refine H_ask _ _ (by kernel_rfl) (ask_subS (P := Tryz.prog) (M := m6) (t := 9) (lo := (some s102)) (hi := (some (IntKind.i64.wrap (s102 + 1)))) (by kernel_rfl) hx27) ?_
      obtain ⟨hx28, h⟩ := h
      refine H_ask _ _ (by kernel_rfl) (ask_cat (P := Tryz.prog) (M := m6) (t := 9) hx28) ?_
      exact H_againP (st := _) ((s100 ++ (sub p0 s102 (IntKind.i64.wrap (s102 + 1)))), false, (IntKind.i64.wrap (s102 + 1)), s103, s151, s152) (v101, n101, v102, n102) h ⟨hn101, hn102⟩ (by kernel_rfl) (by kernel_rfl) (by kernel_rfl) (by kernel_rfl) (by kernel_rfl)
    replace h := h.f hc; clear hc
    refine H_leaveP (.exit 0) (by kernel_rfl) rfl ?_
    exact H_endX .ret (.own 1 n101 v101) (.pd (.sl (s151.map elAI64LSZ))) (m6) (by kernel_rfl) rfl (by kernel_rfl) (by kernel_rfl) (pure_2to3 (pure_1to2 (pure1_own okAI64LSZ (by decide) lgAI64LSZ (M := m6) (b := 1) (o := rowV lvAI64LSZ 2 s151 v101 false) (by kernel_rfl) (rowIs_v' (lv := lvAI64LSZ) (s := 2) (e := s151) (ver := v101) (z := false)) (n := n101) hn101) rfl) rfl) (by subst h; rfl)
  replace h := h.t rfl
  let o31 : Ob := rowV lvAI64LSZ 2 s151 v101 false
  let o32 : Ob := .cells [.pd (.int .i64 s103), .own 2 n102 v102] 1 0 false
  let m33 : Mem := [o1, o31, rowV lvS 1 s152 v102 false, o32]
  refine H_askK (.pd (.int .i64 (p0.length : Int))) (m33) (by kernel_rfl) ?_
  refine H_split (decide (s102 ≤ (p0.length : Int))) (by kernel_rfl) (fun hc => ?_) (fun hc => ?_)
  · replace h := h.t hc; clear hc
    refine H_askK (.pd (.int .i64 (p0.length : Int))) (m33) (by kernel_rfl) ?_
    refine H_split (s102 == (p0.length : Int)) (by kernel_rfl) (fun hc => ?_) (fun hc => ?_)
    · replace h := h.t hc; clear hc
      refine H_split (!(s100 == ([] : List UInt8))) (by kernel_rfl) (fun hc => ?_) (fun hc => ?_)
      · replace h := h.t hc; clear hc
        refine H_askK (.ptr 3 1 0) (m33) (by kernel_rfl) ?_
        refine H_askK (.own 2 n102 v102) (m33) (by kernel_rfl) ?_
        obtain ⟨hx1, h⟩ := h
        refine H_ask _ _ (by kernel_rfl) (ask_appV (P := Tryz.prog) (M := m33) (lv := lvS) (s := 1) (b := 2) (e := s152) (e2 := [s100]) (ver := v102) (sT := 57) (xT := 57) (by_ := 16) okS (by kernel_rfl) (src_fixed (M := m33) okS leS) (by kernel_rfl) (n := n102) hn102 hx1) ?_
        let o34 : Ob := rowV lvS 1 (s152 ++ [s100]) (vnext s152 [s100] v102) false
        refine H_askK (.ptr 3 1 0) ([o1, o31, o34, o32]) (by kernel_rfl) ?_
        refine H_ask _ _ (by kernel_rfl) (ask_storeC (P := Tryz.prog) (M := [o1, o31, o34, o32]) (M2 := [rowV lvAI64LSZ 2 ([] : List (Int × (List (List UInt8)))) 0 false, rowV lvAI64LSZ 2 s151 v101 false, rowV lvS 1 (s152 ++ [s100]) (vnext s152 [s100] v102) false, .cells [.pd (.int .i64 s103), .own 2 ((s152 ++ [s100]).length) (vnext s152 [s100] v102)] 1 0 false]) (t := 57) (b := 3) (off := 1) (v := 0) (n := 1) (s := 1) (l := [.pd (.int .i64 s103), .own 2 n102 v102]) (xs := [.own 2 ((s152 ++ [s100]).length) (vnext s152 [s100] v102)]) (x := .own 2 ((s152 ++ [s100]).length) (vnext s152 [s100] v102)) (by kernel_rfl) (by kernel_rfl) rfl (by kernel_rfl) (all_c (ok_own (o := rowV lvS 1 (s152 ++ [s100]) (vnext s152 [s100] v102) false) (by kernel_rfl) (rowIs_v' (lv := lvS) (s := 1) (e := (s152 ++ [s100])) (ver := (vnext s152 [s100] v102)) (z := false))) all_n) rfl) ?_
        let o35 : Ob := .cells [.pd (.int .i64 s103), .own 2 ((s152 ++ [s100]).length) (vnext s152 [s100] v102)] 1 0 false
        refine H_askK (.ptr 3 1 0) ([o1, o31, o34, o35]) (by kernel_rfl) ?_
        refine H_askK (.own 2 ((s152 ++ [s100]).length) (vnext s152 [s100] v102)) ([o1, o31, o34, o35]) (by kernel_rfl) ?_
        refine H_ask _ _ (by kernel_rfl) (ask_olen (P := Tryz.prog) (M := [o1, o31, o34, o35]) (t := 57) (et := 9) (lv := lvS) (e := (s152 ++ [s100])) (b := 2) (n := (s152 ++ [s100]).length) (by kernel_rfl) (by kernel_rfl) (rowIs_v' (lv := lvS) (s := 1) (e := (s152 ++ [s100])) (ver := (vnext s152 [s100] v102)) (z := false)) rfl) ?_
        refine H_split (decide (((s152 ++ [s100]).length : Int) > (0 : Int))) (by kernel_rfl) (fun hc => ?_) (fun hc => ?_)
        · replace h := h.t hc; clear hc
          refine H_askK (.agg [.pd (.int .i64 s103), .own 2 ((s152 ++ [s100]).length) (vnext s152 [s100] v102)]) ([o1, o31, o34, o35]) (by kernel_rfl) ?_
          refine H_bldF (t := 112) (n := 1) (parts := [(0, .agg [.pd (.int .i64 s103), .own 2 ((s152 ++ [s100]).length) (vnext s152 [s100] v102)])]) (M0 := [o1, o31, o34, o35]) 2 ((s152 ++ [s100]).length) (vnext s152 [s100] v102) (.fixed ([(s103, (s152 ++ [s100]))].map elAI64LSZ)) (by kernel_rfl) (own_pd okS (by decide) lgS (o := rowV lvS 1 (s152 ++ [s100]) (vnext s152 [s100] v102) false) (by kernel_rfl) (rowIs_v' (lv := lvS) (s := 1) (e := (s152 ++ [s100])) (ver := (vnext s152 [s100] v102)) (z := false)) (n := (s152 ++ [s100]).length) rfl) (frz_v (lv := lvS) (s := 1) (e := (s152 ++ [s100])) (ver := (vnext s152 [s100] v102)) (z := false) (by kernel_rfl)) (.cons (.agg (.cons (.keep _) (.cons .cut .nil))) .nil) (by kernel_rfl) ?_
          obtain ⟨hx2, h⟩ := h
          let o36 : Ob := rowV lvS 1 (s152 ++ [s100]) (vnext s152 [s100] v102) true
          refine H_ask _ _ (by kernel_rfl) (ask_appV (P := Tryz.prog) (M := [o1, o31, o36, o35]) (lv := lvAI64LSZ) (s := 2) (b := 1) (e := s151) (e2 := [(s103, (s152 ++ [s100]))]) (ver := v101) (sT := 112) (xT := 112) (by_ := 32) okAI64LSZ (by kernel_rfl) (src_fixed (M := [o1, o31, o36, o35]) okAI64LSZ leAI64LSZ) (by kernel_rfl) (n := n101) hn101 hx2) ?_
          let o37 : Ob := rowV lvAI64LSZ 2 (s151 ++ [(s103, (s152 ++ [s100]))]) (vnext s151 [(s103, (s152 ++ [s100]))] v101) false
          refine H_askK (.ptr 3 0 0) ([o1, o37, o36, o35]) (by kernel_rfl) ?_
          refine H_askK (.pd (.int .i64 s103)) ([o1, o37, o36, o35]) (by kernel_rfl) ?_
          refine H_bldV (t := 114) (parts := [(0, .pd (.int .i64 (IntKind.i64.wrap (s103 + 1))))]) (M0 := [o1, o37, o36, o35]) 1 2 (.agg [.pd (.int .i64 (IntKind.i64.wrap (s103 + 1))), .own 2 (([] : List (List UInt8)).length) ((vnext s152 [s100] v102) + 1)]) (o := rowV lvS 1 (s152 ++ [s100]) (vnext s152 [s100] v102) true) (by kernel_rfl) (by kernel_rfl) (rowIs_v' (lv := lvS) (s := 1) (e := (s152 ++ [s100])) (ver := (vnext s152 [s100] v102)) (z := true)) rfl (by kernel_rfl) ?_
          let o38 : Ob := rowV lvS 1 ([] : List (List UInt8)) ((vnext s152 [s100] v102) + 1) false
          refine H_ask _ _ (by kernel_rfl) (ask_storeC (P := Tryz.prog) (M := [o1, o37, o38, o35]) (M2 := [rowV lvAI64LSZ 2 ([] : List (Int × (List (List UInt8)))) 0 false, rowV lvAI64LSZ 2 (s151 ++ [(s103, (s152 ++ [s100]))]) (vnext s151 [(s103, (s152 ++ [s100]))] v101) false, rowV lvS 1 ([] : List (List UInt8)) ((vnext s152 [s100] v102) + 1) false, .cells [.pd (.int .i64 (IntKind.i64.wrap (s103 + 1))), .own 2 (([] : List (List UInt8)).length) ((vnext s152 [s100] v102) + 1)] 1 0 false]) (t := 114) (b := 3) (off := 0) (v := 0) (n := 2) (s := 1) (l := [.pd (.int .i64 s103), .own 2 ((s152 ++ [s100]).length) (vnext s152 [s100] v102)]) (xs := [.pd (.int .i64 (IntKind.i64.wrap (s103 + 1))), .own 2 (([] : List (List UInt8)).length) ((vnext s152 [s100] v102) + 1)]) (x := .agg [.pd (.int .i64 (IntKind.i64.wrap (s103 + 1))), .own 2 (([] : List (List UInt8)).length) ((vnext s152 [s100] v102) + 1)]) (by kernel_rfl) (by kernel_rfl) rfl (by kernel_rfl) (all_c (by kernel_rfl) (all_c (ok_own (o := rowV lvS 1 ([] : List (List UInt8)) ((vnext s152 [s100] v102) + 1) false) (by kernel_rfl) (rowIs_v' (lv := lvS) (s := 1) (e := ([] : List (List UInt8))) (ver := ((vnext s152 [s100] v102) + 1)) (z := false))) all_n)) rfl) ?_
          exact H_againP (st := _) (([] : List UInt8), false, (IntKind.i64.wrap (s102 + 1)), (IntKind.i64.wrap (s103 + 1)), (s151 ++ [(s103, (s152 ++ [s100]))]), ([] : List (List UInt8))) ((vnext s151 [(s103, (s152 ++ [s100]))] v101), ((s151 ++ [(s103, (s152 ++ [s100]))]).length), ((vnext s152 [s100] v102) + 1), (([] : List (List UInt8)).length)) h ⟨rfl, rfl⟩ (by kernel_rfl) (by kernel_rfl) (by kernel_rfl) (by kernel_rfl) (by kernel_rfl)
        replace h := h.f hc; clear hc
        refine H_askK (.ptr 3 0 0) ([o1, o31, o34, o35]) (by kernel_rfl) ?_
        refine H_askK (.pd (.int .i64 s103)) ([o1, o31, o34, o35]) (by kernel_rfl) ?_
        refine H_bldV (t := 114) (parts := [(0, .pd (.int .i64 (IntKind.i64.wrap (s103 + 1))))]) (M0 := [o1, o31, o34, o35]) 1 2 (.agg [.pd (.int .i64 (IntKind.i64.wrap (s103 + 1))), .own 2 (([] : List (List UInt8)).length) ((vnext s152 [s100] v102) + 1)]) (o := rowV lvS 1 (s152 ++ [s100]) (vnext s152 [s100] v102) false) (by kernel_rfl) (by kernel_rfl) (rowIs_v' (lv := lvS) (s := 1) (e := (s152 ++ [s100])) (ver := (vnext s152 [s100] v102)) (z := false)) rfl (by kernel_rfl) ?_
        let o39 : Ob := rowV lvS 1 ([] : List (List UInt8)) ((vnext s152 [s100] v102) + 1) false
        refine H_ask _ _ (by kernel_rfl) (ask_storeC (P := Tryz.prog) (M := [o1, o31, o39, o35]) (M2 := [rowV lvAI64LSZ 2 ([] : List (Int × (List (List UInt8)))) 0 false, rowV lvAI64LSZ 2 s151 v101 false, rowV lvS 1 ([] : List (List UInt8)) ((vnext s152 [s100] v102) + 1) false, .cells [.pd (.int .i64 (IntKind.i64.wrap (s103 + 1))), .own 2 (([] : List (List UInt8)).length) ((vnext s152 [s100] v102) + 1)] 1 0 false]) (t := 114) (b := 3) (off := 0) (v := 0) (n := 2) (s := 1) (l := [.pd (.int .i64 s103), .own 2 ((s152 ++ [s100]).length) (vnext s152 [s100] v102)]) (xs := [.pd (.int .i64 (IntKind.i64.wrap (s103 + 1))), .own 2 (([] : List (List UInt8)).length) ((vnext s152 [s100] v102) + 1)]) (x := .agg [.pd (.int .i64 (IntKind.i64.wrap (s103 + 1))), .own 2 (([] : List (List UInt8)).length) ((vnext s152 [s100] v102) + 1)]) (by kernel_rfl) (by kernel_rfl) rfl (by kernel_rfl) (all_c (by kernel_rfl) (all_c (ok_own (o := rowV lvS 1 ([] : List (List UInt8)) ((vnext s152 [s100] v102) + 1) false) (by kernel_rfl) (rowIs_v' (lv := lvS) (s := 1) (e := ([] : List (List UInt8))) (ver := ((vnext s152 [s100] v102) + 1)) (z := false))) all_n)) rfl) ?_
        exact H_againP (st := _) (([] : List UInt8), false, (IntKind.i64.wrap (s102 + 1)), (IntKind.i64.wrap (s103 + 1)), s151, ([] : List (List UInt8))) (v101, n101, ((vnext s152 [s100] v102) + 1), (([] : List (List UInt8)).length)) h ⟨hn101, rfl⟩ (by kernel_rfl) (by kernel_rfl) (by kernel_rfl) (by kernel_rfl) (by kernel_rfl)
      replace h := h.f hc; clear hc
      refine H_askK (.ptr 3 1 0) (m33) (by kernel_rfl) ?_
      refine H_askK (.own 2 n102 v102) (m33) (by kernel_rfl) ?_
      refine H_ask _ _ (by kernel_rfl) (ask_olen (P := Tryz.prog) (M := m33) (t := 57) (et := 9) (lv := lvS) (e := s152) (b := 2) (n := n102) (by kernel_rfl) (by kernel_rfl) (rowIs_v' (lv := lvS) (s := 1) (e := s152) (ver := v102) (z := false)) hn102) ?_
      refine H_split (decide ((s152.length : Int) > (0 : Int))) (by kernel_rfl) (fun hc => ?_) (fun hc => ?_)
      · replace h := h.t hc; clear hc
        refine H_askK (.agg [.pd (.int .i64 s103), .own 2 n102 v102]) (m33) (by kernel_rfl) ?_
        refine H_bldF (t := 112) (n := 1) (parts := [(0, .agg [.pd (.int .i64 s103), .own 2 n102 v102])]) (M0 := m33) 2 n102 v102 (.fixed ([(s103, s152)].map elAI64LSZ)) (by kernel_rfl) (own_pd okS (by decide) lgS (o := rowV lvS 1 s152 v102 false) (by kernel_rfl) (rowIs_v' (lv := lvS) (s := 1) (e := s152) (ver := v102) (z := false)) (n := n102) hn102) (frz_v (lv := lvS) (s := 1) (e := s152) (ver := v102) (z := false) (by kernel_rfl)) (.cons (.agg (.cons (.keep _) (.cons .cut .nil))) .nil) (by kernel_rfl) ?_
        obtain ⟨hx3, h⟩ := h
        let m40 : Mem := [o1, o31, rowV lvS 1 s152 v102 true, o32]
        refine H_ask _ _ (by kernel_rfl) (ask_appV (P := Tryz.prog) (M := m40) (lv := lvAI64LSZ) (s := 2) (b := 1) (e := s151) (e2 := [(s103, s152)]) (ver := v101) (sT := 112) (xT := 112) (by_ := 32) okAI64LSZ (by kernel_rfl) (src_fixed (M := m40) okAI64LSZ leAI64LSZ) (by kernel_rfl) (n := n101) hn101 hx3) ?_
        let o41 : Ob := rowV lvAI64LSZ 2 (s151 ++ [(s103, s152)]) (vnext s151 [(s103, s152)] v101) false
        let m42 : Mem := [o1, o41, rowV lvS 1 s152 v102 true, o32]
        refine H_askK (.ptr 3 0 0) (m42) (by kernel_rfl) ?_
        refine H_askK (.pd (.int .i64 s103)) (m42) (by kernel_rfl) ?_
        refine H_bldV (t := 114) (parts := [(0, .pd (.int .i64 (IntKind.i64.wrap (s103 + 1))))]) (M0 := m42) 1 2 (.agg [.pd (.int .i64 (IntKind.i64.wrap (s103 + 1))), .own 2 (([] : List (List UInt8)).length) (v102 + 1)]) (o := rowV lvS 1 s152 v102 true) (by kernel_rfl) (by kernel_rfl) (rowIs_v' (lv := lvS) (s := 1) (e := s152) (ver := v102) (z := true)) rfl (by kernel_rfl) ?_
        let o43 : Ob := rowV lvS 1 ([] : List (List UInt8)) (v102 + 1) false
        refine H_ask _ _ (by kernel_rfl) (ask_storeC (P := Tryz.prog) (M := [o1, o41, o43, o32]) (M2 := [rowV lvAI64LSZ 2 ([] : List (Int × (List (List UInt8)))) 0 false, rowV lvAI64LSZ 2 (s151 ++ [(s103, s152)]) (vnext s151 [(s103, s152)] v101) false, rowV lvS 1 ([] : List (List UInt8)) (v102 + 1) false, .cells [.pd (.int .i64 (IntKind.i64.wrap (s103 + 1))), .own 2 (([] : List (List UInt8)).length) (v102 + 1)] 1 0 false]) (t := 114) (b := 3) (off := 0) (v := 0) (n := 2) (s := 1) (l := [.pd (.int .i64 s103), .own 2 n102 v102]) (xs := [.pd (.int .i64 (IntKind.i64.wrap (s103 + 1))), .own 2 (([] : List (List UInt8)).length) (v102 + 1)]) (x := .agg [.pd (.int .i64 (IntKind.i64.wrap (s103 + 1))), .own 2 (([] : List (List UInt8)).length) (v102 + 1)]) (by kernel_rfl) (by kernel_rfl) rfl (by kernel_rfl) (all_c (by kernel_rfl) (all_c (ok_own (o := rowV lvS 1 ([] : List (List UInt8)) (v102 + 1) false) (by kernel_rfl) (rowIs_v' (lv := lvS) (s := 1) (e := ([] : List (List UInt8))) (ver := (v102 + 1)) (z := false))) all_n)) rfl) ?_
        exact H_againP (st := _) (([] : List UInt8), false, (IntKind.i64.wrap (s102 + 1)), (IntKind.i64.wrap (s103 + 1)), (s151 ++ [(s103, s152)]), ([] : List (List UInt8))) ((vnext s151 [(s103, s152)] v101), ((s151 ++ [(s103, s152)]).length), (v102 + 1), (([] : List (List UInt8)).length)) h ⟨rfl, rfl⟩ (by kernel_rfl) (by kernel_rfl) (by kernel_rfl) (by kernel_rfl) (by kernel_rfl)
      replace h := h.f hc; clear hc
      refine H_askK (.ptr 3 0 0) (m33) (by kernel_rfl) ?_
      refine H_askK (.pd (.int .i64 s103)) (m33) (by kernel_rfl) ?_
      refine H_bldV (t := 114) (parts := [(0, .pd (.int .i64 (IntKind.i64.wrap (s103 + 1))))]) (M0 := m33) 1 2 (.agg [.pd (.int .i64 (IntKind.i64.wrap (s103 + 1))), .own 2 (([] : List (List UInt8)).length) (v102 + 1)]) (o := rowV lvS 1 s152 v102 false) (by kernel_rfl) (by kernel_rfl) (rowIs_v' (lv := lvS) (s := 1) (e := s152) (ver := v102) (z := false)) rfl (by kernel_rfl) ?_
      let o44 : Ob := rowV lvS 1 ([] : List (List UInt8)) (v102 + 1) false
      refine H_ask _ _ (by kernel_rfl) (ask_storeC (P := Tryz.prog) (M := [o1, o31, o44, o32]) (M2 := [rowV lvAI64LSZ 2 ([] : List (Int × (List (List UInt8)))) 0 false, rowV lvAI64LSZ 2 s151 v101 false, rowV lvS 1 ([] : List (List UInt8)) (v102 + 1) false, .cells [.pd (.int .i64 (IntKind.i64.wrap (s103 + 1))), .own 2 (([] : List (List UInt8)).length) (v102 + 1)] 1 0 false]) (t := 114) (b := 3) (off := 0) (v := 0) (n := 2) (s := 1) (l := [.pd (.int .i64 s103), .own 2 n102 v102]) (xs := [.pd (.int .i64 (IntKind.i64.wrap (s103 + 1))), .own 2 (([] : List (List UInt8)).length) (v102 + 1)]) (x := .agg [.pd (.int .i64 (IntKind.i64.wrap (s103 + 1))), .own 2 (([] : List (List UInt8)).length) (v102 + 1)]) (by kernel_rfl) (by kernel_rfl) rfl (by kernel_rfl) (all_c (by kernel_rfl) (all_c (ok_own (o := rowV lvS 1 ([] : List (List UInt8)) (v102 + 1) false) (by kernel_rfl) (rowIs_v' (lv := lvS) (s := 1) (e := ([] : List (List UInt8))) (ver := (v102 + 1)) (z := false))) all_n)) rfl) ?_
      exact H_againP (st := _) (([] : List UInt8), false, (IntKind.i64.wrap (s102 + 1)), (IntKind.i64.wrap (s103 + 1)), s151, ([] : List (List UInt8))) (v101, n101, (v102 + 1), (([] : List (List UInt8)).length)) h ⟨hn101, rfl⟩ (by kernel_rfl) (by kernel_rfl) (by kernel_rfl) (by kernel_rfl) (by kernel_rfl)
    replace h := h.f hc; clear hc
    obtain ⟨c4, hx5, h⟩ := h
    refine H_ask _ _ (by kernel_rfl) (ask_sidx (P := Tryz.prog) (M := m33) (t := 9) (k := .i64) (by kernel_rfl) hx5) ?_
    refine H_split (((c4.toNat : Nat) : Int) == (10 : Int)) (by kernel_rfl) (fun hc => ?_) (fun hc => ?_)
    · replace h := h.t hc; clear hc
      refine H_split (!(s100 == ([] : List UInt8))) (by kernel_rfl) (fun hc => ?_) (fun hc => ?_)
      · replace h := h.t hc; clear hc
        refine H_askK (.ptr 3 1 0) (m33) (by kernel_rfl) ?_
        refine H_askK (.own 2 n102 v102) (m33) (by kernel_rfl) ?_
        obtain ⟨hx6, h⟩ := h
        refine H_ask _ _ (by kernel_rfl) (ask_appV (P := Tryz.prog) (M := m33) (lv := lvS) (s := 1) (b := 2) (e := s152) (e2 := [s100]) (ver := v102) (sT := 57) (xT := 57) (by_ := 16) okS (by kernel_rfl) (src_fixed (M := m33) okS leS) (by kernel_rfl) (n := n102) hn102 hx6) ?_
        let o45 : Ob := rowV lvS 1 (s152 ++ [s100]) (vnext s152 [s100] v102) false
        refine H_askK (.ptr 3 1 0) ([o1, o31, o45, o32]) (by kernel_rfl) ?_
        refine H_ask _ _ (by kernel_rfl) (ask_storeC (P := Tryz.prog) (M := [o1, o31, o45, o32]) (M2 := [rowV lvAI64LSZ 2 ([] : List (Int × (List (List UInt8)))) 0 false, rowV lvAI64LSZ 2 s151 v101 false, rowV lvS 1 (s152 ++ [s100]) (vnext s152 [s100] v102) false, .cells [.pd (.int .i64 s103), .own 2 ((s152 ++ [s100]).length) (vnext s152 [s100] v102)] 1 0 false]) (t := 57) (b := 3) (off := 1) (v := 0) (n := 1) (s := 1) (l := [.pd (.int .i64 s103), .own 2 n102 v102]) (xs := [.own 2 ((s152 ++ [s100]).length) (vnext s152 [s100] v102)]) (x := .own 2 ((s152 ++ [s100]).length) (vnext s152 [s100] v102)) (by kernel_rfl) (by kernel_rfl) rfl (by kernel_rfl) (all_c (ok_own (o := rowV lvS 1 (s152 ++ [s100]) (vnext s152 [s100] v102) false) (by kernel_rfl) (rowIs_v' (lv := lvS) (s := 1) (e := (s152 ++ [s100])) (ver := (vnext s152 [s100] v102)) (z := false))) all_n) rfl) ?_
        let o46 : Ob := .cells [.pd (.int .i64 s103), .own 2 ((s152 ++ [s100]).length) (vnext s152 [s100] v102)] 1 0 false
        refine H_askK (.ptr 3 1 0) ([o1, o31, o45, o46]) (by kernel_rfl) ?_
        refine H_askK (.own 2 ((s152 ++ [s100]).length) (vnext s152 [s100] v102)) ([o1, o31, o45, o46]) (by kernel_rfl) ?_
        refine H_ask _ _ (by kernel_rfl) (ask_olen (P := Tryz.prog) (M := [o1, o31, o45, o46]) (t := 57) (et := 9) (lv := lvS) (e := (s152 ++ [s100])) (b := 2) (n := (s152 ++ [s100]).length) (by kernel_rfl) (by kernel_rfl) (rowIs_v' (lv := lvS) (s := 1) (e := (s152 ++ [s100])) (ver := (vnext s152 [s100] v102)) (z := false)) rfl) ?_
        refine H_split (decide (((s152 ++ [s100]).length : Int) > (0 : Int))) (by kernel_rfl) (fun hc => ?_) (fun hc => ?_)
        · replace h := h.t hc; clear hc
          refine H_askK (.agg [.pd (.int .i64 s103), .own 2 ((s152 ++ [s100]).length) (vnext s152 [s100] v102)]) ([o1, o31, o45, o46]) (by kernel_rfl) ?_
          refine H_bldF (t := 112) (n := 1) (parts := [(0, .agg [.pd (.int .i64 s103), .own 2 ((s152 ++ [s100]).length) (vnext s152 [s100] v102)])]) (M0 := [o1, o31, o45, o46]) 2 ((s152 ++ [s100]).length) (vnext s152 [s100] v102) (.fixed ([(s103, (s152 ++ [s100]))].map elAI64LSZ)) (by kernel_rfl) (own_pd okS (by decide) lgS (o := rowV lvS 1 (s152 ++ [s100]) (vnext s152 [s100] v102) false) (by kernel_rfl) (rowIs_v' (lv := lvS) (s := 1) (e := (s152 ++ [s100])) (ver := (vnext s152 [s100] v102)) (z := false)) (n := (s152 ++ [s100]).length) rfl) (frz_v (lv := lvS) (s := 1) (e := (s152 ++ [s100])) (ver := (vnext s152 [s100] v102)) (z := false) (by kernel_rfl)) (.cons (.agg (.cons (.keep _) (.cons .cut .nil))) .nil) (by kernel_rfl) ?_
          obtain ⟨hx7, h⟩ := h
          let o47 : Ob := rowV lvS 1 (s152 ++ [s100]) (vnext s152 [s100] v102) true
          refine H_ask _ _ (by kernel_rfl) (ask_appV (P := Tryz.prog) (M := [o1, o31, o47, o46]) (lv := lvAI64LSZ) (s := 2) (b := 1) (e := s151) (e2 := [(s103, (s152 ++ [s100]))]) (ver := v101) (sT := 112) (xT := 112) (by_ := 32) okAI64LSZ (by kernel_rfl) (src_fixed (M := [o1, o31, o47, o46]) okAI64LSZ leAI64LSZ) (by kernel_rfl) (n := n101) hn101 hx7) ?_
          let o48 : Ob := rowV lvAI64LSZ 2 (s151 ++ [(s103, (s152 ++ [s100]))]) (vnext s151 [(s103, (s152 ++ [s100]))] v101) false
          refine H_askK (.ptr 3 0 0) ([o1, o48, o47, o46]) (by kernel_rfl) ?_
          refine H_askK (.pd (.int .i64 s103)) ([o1, o48, o47, o46]) (by kernel_rfl) ?_
          refine H_bldV (t := 114) (parts := [(0, .pd (.int .i64 (IntKind.i64.wrap (s103 + 1))))]) (M0 := [o1, o48, o47, o46]) 1 2 (.agg [.pd (.int .i64 (IntKind.i64.wrap (s103 + 1))), .own 2 (([] : List (List UInt8)).length) ((vnext s152 [s100] v102) + 1)]) (o := rowV lvS 1 (s152 ++ [s100]) (vnext s152 [s100] v102) true) (by kernel_rfl) (by kernel_rfl) (rowIs_v' (lv := lvS) (s := 1) (e := (s152 ++ [s100])) (ver := (vnext s152 [s100] v102)) (z := true)) rfl (by kernel_rfl) ?_
          let o49 : Ob := rowV lvS 1 ([] : List (List UInt8)) ((vnext s152 [s100] v102) + 1) false
          refine H_ask _ _ (by kernel_rfl) (ask_storeC (P := Tryz.prog) (M := [o1, o48, o49, o46]) (M2 := [rowV lvAI64LSZ 2 ([] : List (Int × (List (List UInt8)))) 0 false, rowV lvAI64LSZ 2 (s151 ++ [(s103, (s152 ++ [s100]))]) (vnext s151 [(s103, (s152 ++ [s100]))] v101) false, rowV lvS 1 ([] : List (List UInt8)) ((vnext s152 [s100] v102) + 1) false, .cells [.pd (.int .i64 (IntKind.i64.wrap (s103 + 1))), .own 2 (([] : List (List UInt8)).length) ((vnext s152 [s100] v102) + 1)] 1 0 false]) (t := 114) (b := 3) (off := 0) (v := 0) (n := 2) (s := 1) (l := [.pd (.int .i64 s103), .own 2 ((s152 ++ [s100]).length) (vnext s152 [s100] v102)]) (xs := [.pd (.int .i64 (IntKind.i64.wrap (s103 + 1))), .own 2 (([] : List (List UInt8)).length) ((vnext s152 [s100] v102) + 1)]) (x := .agg [.pd (.int .i64 (IntKind.i64.wrap (s103 + 1))), .own 2 (([] : List (List UInt8)).length) ((vnext s152 [s100] v102) + 1)]) (by kernel_rfl) (by kernel_rfl) rfl (by kernel_rfl) (all_c (by kernel_rfl) (all_c (ok_own (o := rowV lvS 1 ([] : List (List UInt8)) ((vnext s152 [s100] v102) + 1) false) (by kernel_rfl) (rowIs_v' (lv := lvS) (s := 1) (e := ([] : List (List UInt8))) (ver := ((vnext s152 [s100] v102) + 1)) (z := false))) all_n)) rfl) ?_
          exact H_againP (st := _) (([] : List UInt8), false, (IntKind.i64.wrap (s102 + 1)), (IntKind.i64.wrap (s103 + 1)), (s151 ++ [(s103, (s152 ++ [s100]))]), ([] : List (List UInt8))) ((vnext s151 [(s103, (s152 ++ [s100]))] v101), ((s151 ++ [(s103, (s152 ++ [s100]))]).length), ((vnext s152 [s100] v102) + 1), (([] : List (List UInt8)).length)) h ⟨rfl, rfl⟩ (by kernel_rfl) (by kernel_rfl) (by kernel_rfl) (by kernel_rfl) (by kernel_rfl)
        replace h := h.f hc; clear hc
        refine H_askK (.ptr 3 0 0) ([o1, o31, o45, o46]) (by kernel_rfl) ?_
        refine H_askK (.pd (.int .i64 s103)) ([o1, o31, o45, o46]) (by kernel_rfl) ?_
        refine H_bldV (t := 114) (parts := [(0, .pd (.int .i64 (IntKind.i64.wrap (s103 + 1))))]) (M0 := [o1, o31, o45, o46]) 1 2 (.agg [.pd (.int .i64 (IntKind.i64.wrap (s103 + 1))), .own 2 (([] : List (List UInt8)).length) ((vnext s152 [s100] v102) + 1)]) (o := rowV lvS 1 (s152 ++ [s100]) (vnext s152 [s100] v102) false) (by kernel_rfl) (by kernel_rfl) (rowIs_v' (lv := lvS) (s := 1) (e := (s152 ++ [s100])) (ver := (vnext s152 [s100] v102)) (z := false)) rfl (by kernel_rfl) ?_
        let o50 : Ob := rowV lvS 1 ([] : List (List UInt8)) ((vnext s152 [s100] v102) + 1) false
        refine H_ask _ _ (by kernel_rfl) (ask_storeC (P := Tryz.prog) (M := [o1, o31, o50, o46]) (M2 := [rowV lvAI64LSZ 2 ([] : List (Int × (List (List UInt8)))) 0 false, rowV lvAI64LSZ 2 s151 v101 false, rowV lvS 1 ([] : List (List UInt8)) ((vnext s152 [s100] v102) + 1) false, .cells [.pd (.int .i64 (IntKind.i64.wrap (s103 + 1))), .own 2 (([] : List (List UInt8)).length) ((vnext s152 [s100] v102) + 1)] 1 0 false]) (t := 114) (b := 3) (off := 0) (v := 0) (n := 2) (s := 1) (l := [.pd (.int .i64 s103), .own 2 ((s152 ++ [s100]).length) (vnext s152 [s100] v102)]) (xs := [.pd (.int .i64 (IntKind.i64.wrap (s103 + 1))), .own 2 (([] : List (List UInt8)).length) ((vnext s152 [s100] v102) + 1)]) (x := .agg [.pd (.int .i64 (IntKind.i64.wrap (s103 + 1))), .own 2 (([] : List (List UInt8)).length) ((vnext s152 [s100] v102) + 1)]) (by kernel_rfl) (by kernel_rfl) rfl (by kernel_rfl) (all_c (by kernel_rfl) (all_c (ok_own (o := rowV lvS 1 ([] : List (List UInt8)) ((vnext s152 [s100] v102) + 1) false) (by kernel_rfl) (rowIs_v' (lv := lvS) (s := 1) (e := ([] : List (List UInt8))) (ver := ((vnext s152 [s100] v102) + 1)) (z := false))) all_n)) rfl) ?_
        exact H_againP (st := _) (([] : List UInt8), false, (IntKind.i64.wrap (s102 + 1)), (IntKind.i64.wrap (s103 + 1)), s151, ([] : List (List UInt8))) (v101, n101, ((vnext s152 [s100] v102) + 1), (([] : List (List UInt8)).length)) h ⟨hn101, rfl⟩ (by kernel_rfl) (by kernel_rfl) (by kernel_rfl) (by kernel_rfl) (by kernel_rfl)
      replace h := h.f hc; clear hc
      refine H_askK (.ptr 3 1 0) (m33) (by kernel_rfl) ?_
      refine H_askK (.own 2 n102 v102) (m33) (by kernel_rfl) ?_
      refine H_ask _ _ (by kernel_rfl) (ask_olen (P := Tryz.prog) (M := m33) (t := 57) (et := 9) (lv := lvS) (e := s152) (b := 2) (n := n102) (by kernel_rfl) (by kernel_rfl) (rowIs_v' (lv := lvS) (s := 1) (e := s152) (ver := v102) (z := false)) hn102) ?_
      refine H_split (decide ((s152.length : Int) > (0 : Int))) (by kernel_rfl) (fun hc => ?_) (fun hc => ?_)
      · replace h := h.t hc; clear hc
        refine H_askK (.agg [.pd (.int .i64 s103), .own 2 n102 v102]) (m33) (by kernel_rfl) ?_
        refine H_bldF (t := 112) (n := 1) (parts := [(0, .agg [.pd (.int .i64 s103), .own 2 n102 v102])]) (M0 := m33) 2 n102 v102 (.fixed ([(s103, s152)].map elAI64LSZ)) (by kernel_rfl) (own_pd okS (by decide) lgS (o := rowV lvS 1 s152 v102 false) (by kernel_rfl) (rowIs_v' (lv := lvS) (s := 1) (e := s152) (ver := v102) (z := false)) (n := n102) hn102) (frz_v (lv := lvS) (s := 1) (e := s152) (ver := v102) (z := false) (by kernel_rfl)) (.cons (.agg (.cons (.keep _) (.cons .cut .nil))) .nil) (by kernel_rfl) ?_
        obtain ⟨hx8, h⟩ := h
        let m51 : Mem := [o1, o31, rowV lvS 1 s152 v102 true, o32]
        refine H_ask _ _ (by kernel_rfl) (ask_appV (P := Tryz.prog) (M := m51) (lv := lvAI64LSZ) (s := 2) (b := 1) (e := s151) (e2 := [(s103, s152)]) (ver := v101) (sT := 112) (xT := 112) (by_ := 32) okAI64LSZ (by kernel_rfl) (src_fixed (M := m51) okAI64LSZ leAI64LSZ) (by kernel_rfl) (n := n101) hn101 hx8) ?_
        let o52 : Ob := rowV lvAI64LSZ 2 (s151 ++ [(s103, s152)]) (vnext s151 [(s103, s152)] v101) false
        let m53 : Mem := [o1, o52, rowV lvS 1 s152 v102 true, o32]
        refine H_askK (.ptr 3 0 0) (m53) (by kernel_rfl) ?_
        refine H_askK (.pd (.int .i64 s103)) (m53) (by kernel_rfl) ?_
        refine H_bldV (t := 114) (parts := [(0, .pd (.int .i64 (IntKind.i64.wrap (s103 + 1))))]) (M0 := m53) 1 2 (.agg [.pd (.int .i64 (IntKind.i64.wrap (s103 + 1))), .own 2 (([] : List (List UInt8)).length) (v102 + 1)]) (o := rowV lvS 1 s152 v102 true) (by kernel_rfl) (by kernel_rfl) (rowIs_v' (lv := lvS) (s := 1) (e := s152) (ver := v102) (z := true)) rfl (by kernel_rfl) ?_
        let o54 : Ob := rowV lvS 1 ([] : List (List UInt8)) (v102 + 1) false
        refine H_ask _ _ (by kernel_rfl) (ask_storeC (P := Tryz.prog) (M := [o1, o52, o54, o32]) (M2 := [rowV lvAI64LSZ 2 ([] : List (Int × (List (List UInt8)))) 0 false, rowV lvAI64LSZ 2 (s151 ++ [(s103, s152)]) (vnext s151 [(s103, s152)] v101) false, rowV lvS 1 ([] : List (List UInt8)) (v102 + 1) false, .cells [.pd (.int .i64 (IntKind.i64.wrap (s103 + 1))), .own 2 (([] : List (List UInt8)).length) (v102 + 1)] 1 0 false]) (t := 114) (b := 3) (off := 0) (v := 0) (n := 2) (s := 1) (l := [.pd (.int .i64 s103), .own 2 n102 v102]) (xs := [.pd (.int .i64 (IntKind.i64.wrap (s103 + 1))), .own 2 (([] : List (List UInt8)).length) (v102 + 1)]) (x := .agg [.pd (.int .i64 (IntKind.i64.wrap (s103 + 1))), .own 2 (([] : List (List UInt8)).length) (v102 + 1)]) (by kernel_rfl) (by kernel_rfl) rfl (by kernel_rfl) (all_c (by kernel_rfl) (all_c (ok_own (o := rowV lvS 1 ([] : List (List UInt8)) (v102 + 1) false) (by kernel_rfl) (rowIs_v' (lv := lvS) (s := 1) (e := ([] : List (List UInt8))) (ver := (v102 + 1)) (z := false))) all_n)) rfl) ?_
        exact H_againP (st := _) (([] : List UInt8), false, (IntKind.i64.wrap (s102 + 1)), (IntKind.i64.wrap (s103 + 1)), (s151 ++ [(s103, s152)]), ([] : List (List UInt8))) ((vnext s151 [(s103, s152)] v101), ((s151 ++ [(s103, s152)]).length), (v102 + 1), (([] : List (List UInt8)).length)) h ⟨rfl, rfl⟩ (by kernel_rfl) (by kernel_rfl) (by kernel_rfl) (by kernel_rfl) (by kernel_rfl)
      replace h := h.f hc; clear hc
      refine H_askK (.ptr 3 0 0) (m33) (by kernel_rfl) ?_
      refine H_askK (.pd (.int .i64 s103)) (m33) (by kernel_rfl) ?_
      refine H_bldV (t := 114) (parts := [(0, .pd (.int .i64 (IntKind.i64.wrap (s103 + 1))))]) (M0 := m33) 1 2 (.agg [.pd (.int .i64 (IntKind.i64.wrap (s103 + 1))), .own 2 (([] : List (List UInt8)).length) (v102 + 1)]) (o := rowV lvS 1 s152 v102 false) (by kernel_rfl) (by kernel_rfl) (rowIs_v' (lv := lvS) (s := 1) (e := s152) (ver := v102) (z := false)) rfl (by kernel_rfl) ?_
      let o55 : Ob := rowV lvS 1 ([] : List (List UInt8)) (v102 + 1) false
      refine H_ask _ _ (by kernel_rfl) (ask_storeC (P := Tryz.prog) (M := [o1, o31, o55, o32]) (M2 := [rowV lvAI64LSZ 2 ([] : List (Int × (List (List UInt8)))) 0 false, rowV lvAI64LSZ 2 s151 v101 false, rowV lvS 1 ([] : List (List UInt8)) (v102 + 1) false, .cells [.pd (.int .i64 (IntKind.i64.wrap (s103 + 1))), .own 2 (([] : List (List UInt8)).length) (v102 + 1)] 1 0 false]) (t := 114) (b := 3) (off := 0) (v := 0) (n := 2) (s := 1) (l := [.pd (.int .i64 s103), .own 2 n102 v102]) (xs := [.pd (.int .i64 (IntKind.i64.wrap (s103 + 1))), .own 2 (([] : List (List UInt8)).length) (v102 + 1)]) (x := .agg [.pd (.int .i64 (IntKind.i64.wrap (s103 + 1))), .own 2 (([] : List (List UInt8)).length) (v102 + 1)]) (by kernel_rfl) (by kernel_rfl) rfl (by kernel_rfl) (all_c (by kernel_rfl) (all_c (ok_own (o := rowV lvS 1 ([] : List (List UInt8)) (v102 + 1) false) (by kernel_rfl) (rowIs_v' (lv := lvS) (s := 1) (e := ([] : List (List UInt8))) (ver := (v102 + 1)) (z := false))) all_n)) rfl) ?_
      exact H_againP (st := _) (([] : List UInt8), false, (IntKind.i64.wrap (s102 + 1)), (IntKind.i64.wrap (s103 + 1)), s151, ([] : List (List UInt8))) (v101, n101, (v102 + 1), (([] : List (List UInt8)).length)) h ⟨hn101, rfl⟩ (by kernel_rfl) (by kernel_rfl) (by kernel_rfl) (by kernel_rfl) (by kernel_rfl)
    replace h := h.f hc; clear hc
    obtain ⟨c9, hx10, h⟩ := h
    refine H_ask _ _ (by kernel_rfl) (ask_sidx (P := Tryz.prog) (M := m33) (t := 9) (k := .i64) (by kernel_rfl) hx10) ?_
    refine H_split (((c9.toNat : Nat) : Int) == (35 : Int)) (by kernel_rfl) (fun hc => ?_) (fun hc => ?_)
    · replace h := h.t hc; clear hc
      refine H_split (!(s100 == ([] : List UInt8))) (by kernel_rfl) (fun hc => ?_) (fun hc => ?_)
      · replace h := h.t hc; clear hc
        refine H_askK (.ptr 3 1 0) (m33) (by kernel_rfl) ?_
        refine H_askK (.own 2 n102 v102) (m33) (by kernel_rfl) ?_
        obtain ⟨hx11, h⟩ := h
        refine H_ask _ _ (by kernel_rfl) (ask_appV (P := Tryz.prog) (M := m33) (lv := lvS) (s := 1) (b := 2) (e := s152) (e2 := [s100]) (ver := v102) (sT := 57) (xT := 57) (by_ := 16) okS (by kernel_rfl) (src_fixed (M := m33) okS leS) (by kernel_rfl) (n := n102) hn102 hx11) ?_
        let o56 : Ob := rowV lvS 1 (s152 ++ [s100]) (vnext s152 [s100] v102) false
        refine H_askK (.ptr 3 1 0) ([o1, o31, o56, o32]) (by kernel_rfl) ?_
        refine H_ask _ _ (by kernel_rfl) (ask_storeC (P := Tryz.prog) (M := [o1, o31, o56, o32]) (M2 := [rowV lvAI64LSZ 2 ([] : List (Int × (List (List UInt8)))) 0 false, rowV lvAI64LSZ 2 s151 v101 false, rowV lvS 1 (s152 ++ [s100]) (vnext s152 [s100] v102) false, .cells [.pd (.int .i64 s103), .own 2 ((s152 ++ [s100]).length) (vnext s152 [s100] v102)] 1 0 false]) (t := 57) (b := 3) (off := 1) (v := 0) (n := 1) (s := 1) (l := [.pd (.int .i64 s103), .own 2 n102 v102]) (xs := [.own 2 ((s152 ++ [s100]).length) (vnext s152 [s100] v102)]) (x := .own 2 ((s152 ++ [s100]).length) (vnext s152 [s100] v102)) (by kernel_rfl) (by kernel_rfl) rfl (by kernel_rfl) (all_c (ok_own (o := rowV lvS 1 (s152 ++ [s100]) (vnext s152 [s100] v102) false) (by kernel_rfl) (rowIs_v' (lv := lvS) (s := 1) (e := (s152 ++ [s100])) (ver := (vnext s152 [s100] v102)) (z := false))) all_n) rfl) ?_
        exact H_againP (st := _) (([] : List UInt8), true, (IntKind.i64.wrap (s102 + 1)), s103, s151, (s152 ++ [s100])) (v101, n101, (vnext s152 [s100] v102), ((s152 ++ [s100]).length)) h ⟨hn101, rfl⟩ (by kernel_rfl) (by kernel_rfl) (by kernel_rfl) (by kernel_rfl) (by kernel_rfl)
      replace h := h.f hc; clear hc
      exact H_againP (st := _) (([] : List UInt8), true, (IntKind.i64.wrap (s102 + 1)), s103, s151, s152) (v101, n101, v102, n102) h ⟨hn101, hn102⟩ (by kernel_rfl) (by kernel_rfl) (by kernel_rfl) (by kernel_rfl) (by kernel_rfl)
    replace h := h.f hc; clear hc
    refine H_split (!(s100 == ([] : List UInt8))) (by kernel_rfl) (fun hc => ?_) (fun hc => ?_)
    · replace h := h.t hc; clear hc
      refine H_askK (.ptr 3 1 0) (m33) (by kernel_rfl) ?_
      refine H_askK (.own 2 n102 v102) (m33) (by kernel_rfl) ?_
      obtain ⟨hx12, h⟩ := h
      refine H_ask _ _ (by kernel_rfl) (ask_appV (P := Tryz.prog) (M := m33) (lv := lvS) (s := 1) (b := 2) (e := s152) (e2 := [s100]) (ver := v102) (sT := 57) (xT := 57) (by_ := 16) okS (by kernel_rfl) (src_fixed (M := m33) okS leS) (by kernel_rfl) (n := n102) hn102 hx12) ?_
      let o57 : Ob := rowV lvS 1 (s152 ++ [s100]) (vnext s152 [s100] v102) false
      refine H_askK (.ptr 3 1 0) ([o1, o31, o57, o32]) (by kernel_rfl) ?_
      refine H_ask _ _ (by kernel_rfl) (ask_storeC (P := Tryz.prog) (M := [o1, o31, o57, o32]) (M2 := [rowV lvAI64LSZ 2 ([] : List (Int × (List (List UInt8)))) 0 false, rowV lvAI64LSZ 2 s151 v101 false, rowV lvS 1 (s152 ++ [s100]) (vnext s152 [s100] v102) false, .cells [.pd (.int .i64 s103), .own 2 ((s152 ++ [s100]).length) (vnext s152 [s100] v102)] 1 0 false]) (t := 57) (b := 3) (off := 1) (v := 0) (n := 1) (s := 1) (l := [.pd (.int .i64 s103), .own 2 n102 v102]) (xs := [.own 2 ((s152 ++ [s100]).length) (vnext s152 [s100] v102)]) (x := .own 2 ((s152 ++ [s100]).length) (vnext s152 [s100] v102)) (by kernel_rfl) (by kernel_rfl) rfl (by kernel_rfl) (all_c (ok_own (o := rowV lvS 1 (s152 ++ [s100]) (vnext s152 [s100] v102) false) (by kernel_rfl) (rowIs_v' (lv := lvS) (s := 1) (e := (s152 ++ [s100])) (ver := (vnext s152 [s100] v102)) (z := false))) all_n) rfl) ?_
      exact H_againP (st := _) (([] : List UInt8), true, (IntKind.i64.wrap (s102 + 1)), s103, s151, (s152 ++ [s100])) (v101, n101, (vnext s152 [s100] v102), ((s152 ++ [s100]).length)) h ⟨hn101, rfl⟩ (by kernel_rfl) (by kernel_rfl) (by kernel_rfl) (by kernel_rfl) (by kernel_rfl)
    replace h := h.f hc; clear hc
    exact H_againP (st := _) (([] : List UInt8), true, (IntKind.i64.wrap (s102 + 1)), s103, s151, s152) (v101, n101, v102, n102) h ⟨hn101, hn102⟩ (by kernel_rfl) (by kernel_rfl) (by kernel_rfl) (by kernel_rfl) (by kernel_rfl)
  replace h := h.f hc; clear hc
  refine H_leaveP (.exit 0) (by kernel_rfl) rfl ?_
  exact H_endX .ret (.own 1 n101 v101) (.pd (.sl (s151.map elAI64LSZ))) (m33) (by kernel_rfl) rfl (by kernel_rfl) (by kernel_rfl) (pure_2to3 (pure_1to2 (pure1_own okAI64LSZ (by decide) lgAI64LSZ (M := m33) (b := 1) (o := rowV lvAI64LSZ 2 s151 v101 false) (by kernel_rfl) (rowIs_v' (lv := lvAI64LSZ) (s := 2) (e := s151) (ver := v101) (z := false)) (n := n101) hn101) rfl) rfl) (by subst h; rfl)

end Go.Abs
end
