/- Part of a proof, in few files: GLinW. -/
import Derived.Test.YtdbfgnpobfbfmaaGreatDoorPrKK30
import Derived.Test.YtdbfgnpobfbfmaaGreatDoorPrKK31
import Derived.Test.YtdbfgnpobfbfmaaGreatDoorPrKK27

section
/- Printed by gen.py: the functions do what these conditions say. -/
namespace Go.Abs
open Go.Proofs
set_option maxRecDepth 20000
set_option linter.unusedVariables false
set_option linter.unusedSimpArgs false
set_option linter.unnecessarySimpa false

def lvS (x : List UInt8) : List PD := [.str x]
def elS (x : List UInt8) : PD := .str x
theorem okS : LVok lvS 1 := fun _ => ⟨rfl, rfl⟩
theorem leS : ELok elS lvS := fun _ => rfl
theorem lgS : ELg elS lvS 1 := fun _ => rfl
def lvAI64LSZ (x : Int × (List (List UInt8))) : List PD := [.int .i64 x.1, .sl (x.2.map elS)]
def elAI64LSZ (x : Int × (List (List UInt8))) : PD := .agg [.int .i64 x.1, .sl (x.2.map elS)]
theorem okAI64LSZ : LVok lvAI64LSZ 2 := fun _ => ⟨rfl, rfl⟩
theorem leAI64LSZ : ELok elAI64LSZ lvAI64LSZ := fun _ => rfl
theorem lgAI64LSZ : ELg elAI64LSZ lvAI64LSZ 2 := fun _ => rfl

theorem lines_may_ok (m : Tp) (p0 : Int) {r : Bool} (h : lines_may p0 r) : ASpec Tryz.prog (gtT m) 106 [.pd (.int .i32 p0)] (· = .pd (.bool r)) := by
  refine ASpec_tree Tryz.f106 mixedT (askO [9, 10, 11] false [112, 114]) (by kernel_rfl) ?_
  unfold lines_may at h
  refine H_split (p0 == (10 : Int)) (by kernel_rfl) (fun hc => ?_) (fun hc => ?_)
  · replace h := h.t hc; clear hc
    exact H_end .ret (.pd (.bool true)) (by kernel_rfl) rfl (by kernel_rfl) (by subst h; rfl)
  · replace h := h.f hc; clear hc
    refine H_split (decide (p0 ≥ (32 : Int))) (by kernel_rfl) (fun hc => ?_) (fun hc => ?_)
    · replace h := h.t hc; clear hc
      refine H_split (decide (p0 ≤ (126 : Int))) (by kernel_rfl) (fun hc => ?_) (fun hc => ?_)
      · replace h := h.t hc; clear hc
        exact H_end .ret (.pd (.bool true)) (by kernel_rfl) rfl (by kernel_rfl) (by subst h; rfl)
      · replace h := h.f hc; clear hc
        exact H_end .ret (.pd (.bool false)) (by kernel_rfl) rfl (by kernel_rfl) (by subst h; rfl)
    · replace h := h.f hc; clear hc
      exact H_end .ret (.pd (.bool false)) (by kernel_rfl) rfl (by kernel_rfl) (by subst h; rfl)

theorem lines_All_ok (m : Tp) (p0 : List UInt8) {r : (List (Int × (List (List UInt8)))) × Int} (h : lines_All p0 r) : ASpec Tryz.prog (gtT m) 61 [.pd (.str p0)] (· = .tup [.pd (.sl (r.1.map elAI64LSZ)), .pd (.int .i64 r.2)]) := by
  refine ASpec_tree Tryz.f61 mixedT (askO [9, 10, 11] true [112, 114]) (by kernel_rfl) ?_
  unfold lines_All at h
  let o1 : Ob := rowV lvAI64LSZ 2 ([] : List (Int × (List (List UInt8)))) 0 false
  refine H_askK (.pd (.int .i64 (p0.length : Int))) ([o1]) (by kernel_rfl) ?_
  refine H_split (decide ((p0.length : Int) > (65536 : Int))) (by kernel_rfl) (fun hc => ?_) (fun hc => ?_)
  · replace h := h.t hc; clear hc
    exact H_endX .ret (.tup [.own 1 (([] : List (Int × (List (List UInt8)))).length) 0, .pd (.int .i64 4)]) (.tup [.pd (.sl (([] : List (Int × (List (List UInt8)))).map elAI64LSZ)), .pd (.int .i64 4)]) ([o1, o1]) (by kernel_rfl) rfl (by kernel_rfl) (by kernel_rfl) (pure_tup (pl_cons (pure_1to2 (pure1_own okAI64LSZ (by decide) lgAI64LSZ (M := [o1, o1]) (b := 1) (o := rowV lvAI64LSZ 2 ([] : List (Int × (List (List UInt8)))) 0 false) (by kernel_rfl) (rowIs_v' (lv := lvAI64LSZ) (s := 2) (e := ([] : List (Int × (List (List UInt8))))) (ver := 0) (z := false)) (n := ([] : List (Int × (List (List UInt8)))).length) rfl) rfl) (pl_cons rfl pl_nil))) (by subst h; rfl)
  replace h := h.f hc; clear hc
  refine H_loopP (F := lines_All_L1 p0 r) (s0 := 0) h () 49 2
    (fun (s151 : Nat) (() : Unit) => [(0, .pd (.str p0)), (14, .it 1)])
    (fun (s151 : Nat) (() : Unit) => [rowV lvAI64LSZ 2 ([] : List (Int × (List (List UInt8)))) 0 false, .iter p0 s151]) (fun (s151 : Nat) (() : Unit) => True) trivial [] mixedT (askO [9, 10, 11] true [112, 114])
    (by kernel_rfl) (by kernel_rfl) (by kernel_rfl) (by kernel_rfl) (by kernel_rfl) (fun _ _ => rfl) ?_
  rintro X1 s151 ⟨⟩ - h
  dsimp only [lines_All_L1] at h
  cases hx1 : (decide (s151 < p0.length))
  · replace h := h.f hx1
    refine H_ask _ _ (by kernel_rfl) (ask_next0 (M := [o1, .iter p0 s151]) (b := 1) (s := p0) (pos := s151) (by kernel_rfl) hx1) ?_
    refine H_leaveP (.exit 0) (by kernel_rfl) rfl ?_
    obtain ⟨x4, hx5, h⟩ := h
    refine H_valW (g := 107) (args := [.pd (.str p0), .pd (.str ([10] : List UInt8))]) (M := [o1, .iter p0 s151, o1]) (.pd (.sl (x4.map elS))) (.inl (by kernel_rfl)) (by kernel_rfl) (strings_Split_ok m _ _ hx5) (by kernel_rfl) (hasT 107 (by kernel_rfl)) ?_
    refine H_ask _ _ (by kernel_rfl) (ask_len (P := Tryz.prog) (M := [o1, .iter p0 s151, o1]) (t := 57) (et := 9) (el := elS) (by kernel_rfl) (e := x4)) ?_
    refine H_loopP (F := lines_All_L2 x4 r) (s0 := ((0 : Int), ([] : List (Int × (List (List UInt8)))))) h (0, (([] : List (Int × (List (List UInt8)))).length)) 49 3
      (fun ((s200, s252) : Int × (List (Int × (List (List UInt8))))) ((v202, n202) : Nat × Nat) => [(6, .own 2 n202 v202), (22, .pd (.sl (x4.map elS))), (23, .pd (.int .i64 (x4.length : Int))), (24, .pd (.int .i64 s200))])
      (fun ((s200, s252) : Int × (List (Int × (List (List UInt8))))) ((v202, n202) : Nat × Nat) => [rowV lvAI64LSZ 2 ([] : List (Int × (List (List UInt8)))) 0 false, .iter p0 s151, rowV lvAI64LSZ 2 s252 v202 false]) (fun ((s200, s252) : Int × (List (Int × (List (List UInt8))))) ((v202, n202) : Nat × Nat) => n202 = s252.length) rfl [] mixedT (askO [9, 10, 11] true [112, 114])
      (by kernel_rfl) (by kernel_rfl) (by kernel_rfl) (by kernel_rfl) (by kernel_rfl) (fun _ _ => rfl) ?_
    rintro X2 ⟨s200, s252⟩ ⟨v202, n202⟩ hn202 h
    dsimp only [lines_All_L2] at h
    refine H_split (decide (s200 < (x4.length : Int))) (by kernel_rfl) (fun hc => ?_) (fun hc => ?_)
    · replace h := h.t hc; clear hc
      obtain ⟨x6, hx7, h⟩ := h
      let o2 : Ob := rowV lvAI64LSZ 2 s252 v202 false
      refine H_ask _ _ (by kernel_rfl) (ask_idx (P := Tryz.prog) (M := [o1, .iter p0 s151, o2]) (t := 57) (et := 9) (k := .i64) (lv := lvS) okS leS (by kernel_rfl) (by kernel_rfl) hx7) ?_
      refine H_askK (.pd (.str x6)) ([o1, .iter p0 s151, o2]) (by kernel_rfl) ?_
      obtain ⟨x8, x9, x10, hx11, h⟩ := h
      refine H_valW (g := 65) (args := [.pd (.str x6), .pd (.str ([35] : List UInt8))]) (M := [o1, .iter p0 s151, o2]) (.tup [.pd (.str x8), .pd (.str x9), .pd (.bool x10)]) (.inl (by kernel_rfl)) (by kernel_rfl) (strings_Cut_ok m _ _ hx11) (by kernel_rfl) (hasT 65 (by kernel_rfl)) ?_
      cases x10
      · replace h := h.f rfl
        obtain ⟨x15, hx16, h⟩ := h
        refine H_valW (g := 108) (args := [.pd (.str x8)]) (M := [o1, .iter p0 s151, o2]) (.pd (.sl (x15.map elS))) (.inl (by kernel_rfl)) (by kernel_rfl) (strings_Fields_ok m _ hx16) (by kernel_rfl) (hasT 108 (by kernel_rfl)) ?_
        refine H_ask _ _ (by kernel_rfl) (ask_len (P := Tryz.prog) (M := [o1, .iter p0 s151, o2]) (t := 57) (et := 9) (el := elS) (by kernel_rfl) (e := x15)) ?_
        refine H_split (decide ((x15.length : Int) > (0 : Int))) (by kernel_rfl) (fun hc => ?_) (fun hc => ?_)
        · replace h := h.t hc; clear hc
          refine H_askK (.agg [.pd (.int .i64 (IntKind.i64.wrap (s200 + 1))), .pd (.sl (x15.map elS))]) ([o1, .iter p0 s151, o2]) (by kernel_rfl) ?_
          obtain ⟨hx17, h⟩ := h
          refine H_ask _ _ (by kernel_rfl) (ask_appV (P := Tryz.prog) (M := [o1, .iter p0 s151, o2]) (lv := lvAI64LSZ) (s := 2) (b := 2) (e := s252) (e2 := [((IntKind.i64.wrap (s200 + 1)), x15)]) (ver := v202) (sT := 105) (xT := 105) (by_ := 32) okAI64LSZ (by kernel_rfl) (src_fixed (M := [o1, .iter p0 s151, o2]) okAI64LSZ leAI64LSZ) (by kernel_rfl) (n := n202) hn202 hx17) ?_
          exact H_againP (st := _) ((IntKind.i64.wrap (s200 + 1)), (s252 ++ [((IntKind.i64.wrap (s200 + 1)), x15)])) ((vnext s252 [((IntKind.i64.wrap (s200 + 1)), x15)] v202), ((s252 ++ [((IntKind.i64.wrap (s200 + 1)), x15)]).length)) h rfl (by kernel_rfl) (by kernel_rfl) (by kernel_rfl) (by kernel_rfl) (by kernel_rfl)
        replace h := h.f hc; clear hc
        exact H_againP (st := _) ((IntKind.i64.wrap (s200 + 1)), s252) (v202, n202) h hn202 (by kernel_rfl) (by kernel_rfl) (by kernel_rfl) (by kernel_rfl) (by kernel_rfl)
      replace h := h.t rfl
      obtain ⟨x12, hx13, h⟩ := h
      refine H_valW (g := 108) (args := [.pd (.str x8)]) (M := [o1, .iter p0 s151, o2]) (.pd (.sl (x12.map elS))) (.inl (by kernel_rfl)) (by kernel_rfl) (strings_Fields_ok m _ hx13) (by kernel_rfl) (hasT 108 (by kernel_rfl)) ?_
      refine H_ask _ _ (by kernel_rfl) (ask_len (P := Tryz.prog) (M := [o1, .iter p0 s151, o2]) (t := 57) (et := 9) (el := elS) (by kernel_rfl) (e := x12)) ?_
      refine H_split (decide ((x12.length : Int) > (0 : Int))) (by kernel_rfl) (fun hc => ?_) (fun hc => ?_)
      · replace h := h.t hc; clear hc
        refine H_askK (.agg [.pd (.int .i64 (IntKind.i64.wrap (s200 + 1))), .pd (.sl (x12.map elS))]) ([o1, .iter p0 s151, o2]) (by kernel_rfl) ?_
        obtain ⟨hx14, h⟩ := h
        refine H_ask _ _ (by kernel_rfl) (ask_appV (P := Tryz.prog) (M := [o1, .iter p0 s151, o2]) (lv := lvAI64LSZ) (s := 2) (b := 2) (e := s252) (e2 := [((IntKind.i64.wrap (s200 + 1)), x12)]) (ver := v202) (sT := 105) (xT := 105) (by_ := 32) okAI64LSZ (by kernel_rfl) (src_fixed (M := [o1, .iter p0 s151, o2]) okAI64LSZ leAI64LSZ) (by kernel_rfl) (n := n202) hn202 hx14) ?_
        exact H_againP (st := _) ((IntKind.i64.wrap (s200 + 1)), (s252 ++ [((IntKind.i64.wrap (s200 + 1)), x12)])) ((vnext s252 [((IntKind.i64.wrap (s200 + 1)), x12)] v202), ((s252 ++ [((IntKind.i64.wrap (s200 + 1)), x12)]).length)) h rfl (by kernel_rfl) (by kernel_rfl) (by kernel_rfl) (by kernel_rfl) (by kernel_rfl)
      replace h := h.f hc; clear hc
      exact H_againP (st := _) ((IntKind.i64.wrap (s200 + 1)), s252) (v202, n202) h hn202 (by kernel_rfl) (by kernel_rfl) (by kernel_rfl) (by kernel_rfl) (by kernel_rfl)
    replace h := h.f hc; clear hc
    refine H_leaveP (.exit 2) (by kernel_rfl) rfl ?_
    let o3 : Ob := rowV lvAI64LSZ 2 s252 v202 false
    exact H_endX .ret (.tup [.own 2 n202 v202, .pd (.int .i64 0)]) (.tup [.pd (.sl (s252.map elAI64LSZ)), .pd (.int .i64 0)]) ([o1, .iter p0 s151, o3]) (by kernel_rfl) rfl (by kernel_rfl) (by kernel_rfl) (pure_tup (pl_cons (pure_1to2 (pure1_own okAI64LSZ (by decide) lgAI64LSZ (M := [o1, .iter p0 s151, o3]) (b := 2) (o := rowV lvAI64LSZ 2 s252 v202 false) (by kernel_rfl) (rowIs_v' (lv := lvAI64LSZ) (s := 2) (e := s252) (ver := v202) (z := false)) (n := n202) hn202) rfl) (pl_cons rfl pl_nil))) (by subst h; rfl)
  replace h := h.t hx1
  refine H_ask _ _ (by kernel_rfl) (ask_next (M := [o1, .iter p0 s151]) (b := 1) (s := p0) (pos := s151) (by kernel_rfl) hx1) ?_
  obtain ⟨x2, hx3, h⟩ := h
  let o4 : Ob := .iter p0 (s151 + runeLen p0 s151)
  refine H_valW (g := 106) (args := [.pd (.int .i32 (runeAt p0 s151))]) (M := [o1, o4]) (.pd (.bool x2)) (.inl (by kernel_rfl)) (by kernel_rfl) (lines_may_ok m _ hx3) (by kernel_rfl) (hasT 106 (by kernel_rfl)) ?_
  cases x2
  · replace h := h.f rfl
    refine H_leaveP .ret (by kernel_rfl) rfl ?_
    exact H_endX .ret (.tup [.own 2 (([] : List (Int × (List (List UInt8)))).length) 0, .pd (.int .i64 2)]) (.tup [.pd (.sl (([] : List (Int × (List (List UInt8)))).map elAI64LSZ)), .pd (.int .i64 2)]) ([o1, o4, o1]) (by kernel_rfl) rfl (by kernel_rfl) (by kernel_rfl) (pure_tup (pl_cons (pure_1to2 (pure1_own okAI64LSZ (by decide) lgAI64LSZ (M := [o1, o4, o1]) (b := 2) (o := rowV lvAI64LSZ 2 ([] : List (Int × (List (List UInt8)))) 0 false) (by kernel_rfl) (rowIs_v' (lv := lvAI64LSZ) (s := 2) (e := ([] : List (Int × (List (List UInt8))))) (ver := 0) (z := false)) (n := ([] : List (Int × (List (List UInt8)))).length) rfl) rfl) (pl_cons rfl pl_nil))) (by subst h; rfl)
  replace h := h.t rfl
  exact H_againP (st := _) (s151 + runeLen p0 s151) () h trivial (by kernel_rfl) (by kernel_rfl) (by kernel_rfl) (by kernel_rfl) (by kernel_rfl)

theorem lines_Join_ok (m : Tp) (p0 : List (List UInt8)) {r : (List UInt8)} (h : lines_Join p0 r) : ASpec Tryz.prog (gtT m) 59 [.pd (.sl (p0.map elS))] (· = .pd (.str r)) := by
  refine ASpec_tree Tryz.f59 mixedT (askO [9, 10, 11] false [112, 114]) (by kernel_rfl) ?_
  unfold lines_Join at h
  obtain ⟨x1, hx2, h⟩ := h
  refine H_valW (g := 105) (args := [.pd (.sl (p0.map elS)), .pd (.str ([32] : List UInt8))]) (M := []) (.pd (.str x1)) (.inl (by kernel_rfl)) (by kernel_rfl) (strings_Join_ok m _ _ hx2) (by kernel_rfl) (hasT 105 (by kernel_rfl)) ?_
  exact H_end .ret (.pd (.str x1)) (by kernel_rfl) rfl (by kernel_rfl) (by subst h; rfl)

end Go.Abs
end
