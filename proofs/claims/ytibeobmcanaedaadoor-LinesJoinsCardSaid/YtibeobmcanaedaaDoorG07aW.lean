/- Printed by gen.py: the functions do what these conditions say. -/
import Derived.Test.YtibeobmcanaedaaDoorAbs28
import Derived.Test.YtibeobmcanaedaaDoorG07aD
import Derived.Test.YtibeobmcanaedaaDoorB07w
import Derived.Test.YtibeobmcanaedaaDoorM07w
namespace Go.Abs
open Go.Proofs
set_option maxRecDepth 20000
set_option linter.unusedVariables false
set_option linter.unusedSimpArgs false
set_option linter.unnecessarySimpa false

def lvS (x : List UInt8) : List PD := [.str x]
def elS (x : List UInt8) : PD := .str x
theorem okS : LVok lvS 1 := fun _ => ⟨rfl, rfl⟩
theorem leS : ELok elS lvS := fun _ => rfl
theorem lgS : ELg elS lvS 1 := fun _ => rfl
def lvAI64LSZ (x : Int × (List (List UInt8))) : List PD := [.int .i64 x.1, .sl (x.2.map elS)]
def elAI64LSZ (x : Int × (List (List UInt8))) : PD := .agg [.int .i64 x.1, .sl (x.2.map elS)]
theorem okAI64LSZ : LVok lvAI64LSZ 2 := fun _ => ⟨rfl, rfl⟩
theorem leAI64LSZ : ELok elAI64LSZ lvAI64LSZ := fun _ => rfl
theorem lgAI64LSZ : ELg elAI64LSZ lvAI64LSZ 2 := fun _ => rfl

theorem f27_ok (m : Int) (p0 : Int) {r : Bool} (h : f27 p0 r) : ASpec Tryd.prog (gt07 m) 27 [.pd (.int .i32 p0)] (· = .pd (.bool r)) := by
  refine ASpec_tree Tryd.f27 mixed07 (askG [9, 10, 11] false) (by kernel_rfl) ?_
  unfold f27 at h
  refine H_split (p0 == (10 : Int)) (by kernel_rfl) (fun hc => ?_) (fun hc => ?_)
  · replace h := h.t hc; clear hc
    exact H_end .ret (.pd (.bool true)) (by kernel_rfl) rfl (by kernel_rfl) (by subst h; rfl)
  · replace h := h.f hc; clear hc
    refine H_split (decide (p0 ≥ (32 : Int))) (by kernel_rfl) (fun hc => ?_) (fun hc => ?_)
    · replace h := h.t hc; clear hc
      refine H_split (decide (p0 ≤ (126 : Int))) (by kernel_rfl) (fun hc => ?_) (fun hc => ?_)
      · replace h := h.t hc; clear hc
        exact H_end .ret (.pd (.bool true)) (by kernel_rfl) rfl (by kernel_rfl) (by subst h; rfl)
      · replace h := h.f hc; clear hc
        exact H_end .ret (.pd (.bool false)) (by kernel_rfl) rfl (by kernel_rfl) (by subst h; rfl)
    · replace h := h.f hc; clear hc
      exact H_end .ret (.pd (.bool false)) (by kernel_rfl) rfl (by kernel_rfl) (by subst h; rfl)

theorem f10_ok (m : Int) (p0 : List UInt8) {r : (List (Int × (List (List UInt8)))) × Int} (h : f10 p0 r) : ASpec Tryd.prog (gt07 m) 10 [.pd (.str p0)] (· = .tup [.pd (.sl (r.1.map elAI64LSZ)), .pd (.int .i64 r.2)]) := by
  refine ASpec_tree Tryd.f10 mixed07 (askG [9, 10, 11] true) (by kernel_rfl) ?_
  unfold f10 at h
  refine H_askK (.pd (.int .i64 (p0.length : Int))) ([rowV lvAI64LSZ 2 ([] : List (Int × (List (List UInt8)))) 0 false]) (by kernel_rfl) ?_
  refine H_split (decide ((p0.length : Int) > (65536 : Int))) (by kernel_rfl) (fun hc => ?_) (fun hc => ?_)
  · replace h := h.t hc; clear hc
    exact H_endX .ret (.tup [.own 1 (([] : List (Int × (List (List UInt8)))).length) 0, .pd (.int .i64 4)]) (.tup [.pd (.sl (([] : List (Int × (List (List UInt8)))).map elAI64LSZ)), .pd (.int .i64 4)]) ([rowV lvAI64LSZ 2 ([] : List (Int × (List (List UInt8)))) 0 false, rowV lvAI64LSZ 2 ([] : List (Int × (List (List UInt8)))) 0 false]) (by kernel_rfl) rfl (by kernel_rfl) (by kernel_rfl) (pure_tup (pl_cons (pure_1to2 (pure1_own okAI64LSZ (by decide) lgAI64LSZ (M := [rowV lvAI64LSZ 2 ([] : List (Int × (List (List UInt8)))) 0 false, rowV lvAI64LSZ 2 ([] : List (Int × (List (List UInt8)))) 0 false]) (b := 1) (o := rowV lvAI64LSZ 2 ([] : List (Int × (List (List UInt8)))) 0 false) (by kernel_rfl) (rowIs_v' (lv := lvAI64LSZ) (s := 2) (e := ([] : List (Int × (List (List UInt8))))) (ver := 0) (z := false)) (n := ([] : List (Int × (List (List UInt8)))).length) rfl) rfl) (pl_cons rfl pl_nil))) (by subst h; rfl)
  · replace h := h.f hc; clear hc
    refine H_loopP (F := f10_L1 p0 r) (s0 := 0) h () 49 2
      (fun (s151 : Nat) (() : Unit) => [(0, .pd (.str p0)), (14, .it 1)])
      (fun (s151 : Nat) (() : Unit) => [rowV lvAI64LSZ 2 ([] : List (Int × (List (List UInt8)))) 0 false, .iter p0 s151]) (fun (s151 : Nat) (() : Unit) => True) trivial [] mixed07 (askG [9, 10, 11] true)
      (by kernel_rfl) (by kernel_rfl) (by kernel_rfl) (by kernel_rfl) (by kernel_rfl) (fun _ _ => rfl) ?_
    rintro X1 s151 ⟨⟩ - h
    dsimp only [f10_L1] at h
    cases hx1 : (decide (s151 < p0.length))
    · replace h := h.f hx1
      refine H_ask _ _ (by kernel_rfl) (ask_next0 (M := [rowV lvAI64LSZ 2 ([] : List (Int × (List (List UInt8)))) 0 false, .iter p0 s151]) (b := 1) (s := p0) (pos := s151) (by kernel_rfl) hx1) ?_
      refine H_leaveP (.exit 0) (by kernel_rfl) rfl ?_
      obtain ⟨x4, hx5, h⟩ := h
      refine H_valW (g := 28) (args := [.pd (.str p0), .pd (.str ([10] : List UInt8))]) (M := [rowV lvAI64LSZ 2 ([] : List (Int × (List (List UInt8)))) 0 false, .iter p0 s151, rowV lvAI64LSZ 2 ([] : List (Int × (List (List UInt8)))) 0 false]) (.pd (.sl (x4.map elS))) (.inl (by kernel_rfl)) (by kernel_rfl) (f28_ok m _ _ hx5) (by kernel_rfl) (has07 28 (by kernel_rfl)) ?_
      refine H_ask _ _ (by kernel_rfl) (ask_len (P := Tryd.prog) (M := [rowV lvAI64LSZ 2 ([] : List (Int × (List (List UInt8)))) 0 false, .iter p0 s151, rowV lvAI64LSZ 2 ([] : List (Int × (List (List UInt8)))) 0 false]) (t := 30) (et := 9) (el := elS) (by kernel_rfl) (e := x4)) ?_
      refine H_loopP (F := f10_L2 x4 r) (s0 := ((0 : Int), ([] : List (Int × (List (List UInt8)))))) h (0, (([] : List (Int × (List (List UInt8)))).length)) 49 3
        (fun ((s200, s252) : Int × (List (Int × (List (List UInt8))))) ((v202, n202) : Nat × Nat) => [(6, .own 2 n202 v202), (22, .pd (.sl (x4.map elS))), (23, .pd (.int .i64 (x4.length : Int))), (24, .pd (.int .i64 s200))])
        (fun ((s200, s252) : Int × (List (Int × (List (List UInt8))))) ((v202, n202) : Nat × Nat) => [rowV lvAI64LSZ 2 ([] : List (Int × (List (List UInt8)))) 0 false, .iter p0 s151, rowV lvAI64LSZ 2 s252 v202 false]) (fun ((s200, s252) : Int × (List (Int × (List (List UInt8))))) ((v202, n202) : Nat × Nat) => n202 = s252.length) rfl [] mixed07 (askG [9, 10, 11] true)
        (by kernel_rfl) (by kernel_rfl) (by kernel_rfl) (by kernel_rfl) (by kernel_rfl) (fun _ _ => rfl) ?_
      rintro X2 ⟨s200, s252⟩ ⟨v202, n202⟩ hn202 h
      dsimp only [f10_L2] at h
      refine H_split (decide (s200 < (x4.length : Int))) (by kernel_rfl) (fun hc => ?_) (fun hc => ?_)
      · replace h := h.t hc; clear hc
        obtain ⟨x6, hx7, h⟩ := h
        refine H_ask _ _ (by kernel_rfl) (ask_idx (P := Tryd.prog) (M := [rowV lvAI64LSZ 2 ([] : List (Int × (List (List UInt8)))) 0 false, .iter p0 s151, rowV lvAI64LSZ 2 s252 v202 false]) (t := 30) (et := 9) (k := .i64) (lv := lvS) okS leS (by kernel_rfl) (by kernel_rfl) hx7) ?_
        refine H_askK (.pd (.str x6)) ([rowV lvAI64LSZ 2 ([] : List (Int × (List (List UInt8)))) 0 false, .iter p0 s151, rowV lvAI64LSZ 2 s252 v202 false]) (by kernel_rfl) ?_
        obtain ⟨x8, x9, x10, hx11, h⟩ := h
        refine H_valW (g := 29) (args := [.pd (.str x6), .pd (.str ([35] : List UInt8))]) (M := [rowV lvAI64LSZ 2 ([] : List (Int × (List (List UInt8)))) 0 false, .iter p0 s151, rowV lvAI64LSZ 2 s252 v202 false]) (.tup [.pd (.str x8), .pd (.str x9), .pd (.bool x10)]) (.inl (by kernel_rfl)) (by kernel_rfl) (f29_ok m _ _ hx11) (by kernel_rfl) (has07 29 (by kernel_rfl)) ?_
        cases x10
        · replace h := h.f rfl
          obtain ⟨x15, hx16, h⟩ := h
          refine H_valW (g := 30) (args := [.pd (.str x8)]) (M := [rowV lvAI64LSZ 2 ([] : List (Int × (List (List UInt8)))) 0 false, .iter p0 s151, rowV lvAI64LSZ 2 s252 v202 false]) (.pd (.sl (x15.map elS))) (.inl (by kernel_rfl)) (by kernel_rfl) (f30_ok m _ hx16) (by kernel_rfl) (has07 30 (by kernel_rfl)) ?_
          refine H_ask _ _ (by kernel_rfl) (ask_len (P := Tryd.prog) (M := [rowV lvAI64LSZ 2 ([] : List (Int × (List (List UInt8)))) 0 false, .iter p0 s151, rowV lvAI64LSZ 2 s252 v202 false]) (t := 30) (et := 9) (el := elS) (by kernel_rfl) (e := x15)) ?_
          refine H_split (decide ((x15.length : Int) > (0 : Int))) (by kernel_rfl) (fun hc => ?_) (fun hc => ?_)
          · replace h := h.t hc; clear hc
            refine H_askK (.agg [.pd (.int .i64 (IntKind.i64.wrap (s200 + 1))), .pd (.sl (x15.map elS))]) ([rowV lvAI64LSZ 2 ([] : List (Int × (List (List UInt8)))) 0 false, .iter p0 s151, rowV lvAI64LSZ 2 s252 v202 false]) (by kernel_rfl) ?_
            obtain ⟨hx17, h⟩ := h
            refine H_ask _ _ (by kernel_rfl) (ask_appV (P := Tryd.prog) (M := [rowV lvAI64LSZ 2 ([] : List (Int × (List (List UInt8)))) 0 false, .iter p0 s151, rowV lvAI64LSZ 2 s252 v202 false]) (lv := lvAI64LSZ) (s := 2) (b := 2) (e := s252) (e2 := [((IntKind.i64.wrap (s200 + 1)), x15)]) (ver := v202) (sT := 23) (xT := 23) (by_ := 32) okAI64LSZ (by kernel_rfl) (src_fixed (M := [rowV lvAI64LSZ 2 ([] : List (Int × (List (List UInt8)))) 0 false, .iter p0 s151, rowV lvAI64LSZ 2 s252 v202 false]) okAI64LSZ leAI64LSZ) (by kernel_rfl) (n := n202) hn202 hx17) ?_
            exact H_againP (st := _) ((IntKind.i64.wrap (s200 + 1)), (s252 ++ [((IntKind.i64.wrap (s200 + 1)), x15)])) ((vnext s252 [((IntKind.i64.wrap (s200 + 1)), x15)] v202), ((s252 ++ [((IntKind.i64.wrap (s200 + 1)), x15)]).length)) h rfl (by kernel_rfl) (by kernel_rfl) (by kernel_rfl) (by kernel_rfl) (by kernel_rfl)
          · replace h := h.f hc; clear hc
            exact H_againP (st := _) ((IntKind.i64.wrap (s200 + 1)), s252) (v202, n202) h hn202 (by kernel_rfl) (by kernel_rfl) (by kernel_rfl) (by kernel_rfl) (by kernel_rfl)
        · replace h := h.t rfl
          obtain ⟨x12, hx13, h⟩ := h
          refine H_valW (g := 30) (args := [.pd (.str x8)]) (M := [rowV lvAI64LSZ 2 ([] : List (Int × (List (List UInt8)))) 0 false, .iter p0 s151, rowV lvAI64LSZ 2 s252 v202 false]) (.pd (.sl (x12.map elS))) (.inl (by kernel_rfl)) (by kernel_rfl) (f30_ok m _ hx13) (by kernel_rfl) (has07 30 (by kernel_rfl)) ?_
          refine H_ask _ _ (by kernel_rfl) (ask_len (P := Tryd.prog) (M := [rowV lvAI64LSZ 2 ([] : List (Int × (List (List UInt8)))) 0 false, .iter p0 s151, rowV lvAI64LSZ 2 s252 v202 false]) (t := 30) (et := 9) (el := elS) (by kernel_rfl) (e := x12)) ?_
          refine H_split (decide ((x12.length : Int) > (0 : Int))) (by kernel_rfl) (fun hc => ?_) (fun hc => ?_)
          · replace h := h.t hc; clear hc
            refine H_askK (.agg [.pd (.int .i64 (IntKind.i64.wrap (s200 + 1))), .pd (.sl (x12.map elS))]) ([rowV lvAI64LSZ 2 ([] : List (Int × (List (List UInt8)))) 0 false, .iter p0 s151, rowV lvAI64LSZ 2 s252 v202 false]) (by kernel_rfl) ?_
            obtain ⟨hx14, h⟩ := h
            refine H_ask _ _ (by kernel_rfl) (ask_appV (P := Tryd.prog) (M := [rowV lvAI64LSZ 2 ([] : List (Int × (List (List UInt8)))) 0 false, .iter p0 s151, rowV lvAI64LSZ 2 s252 v202 false]) (lv := lvAI64LSZ) (s := 2) (b := 2) (e := s252) (e2 := [((IntKind.i64.wrap (s200 + 1)), x12)]) (ver := v202) (sT := 23) (xT := 23) (by_ := 32) okAI64LSZ (by kernel_rfl) (src_fixed (M := [rowV lvAI64LSZ 2 ([] : List (Int × (List (List UInt8)))) 0 false, .iter p0 s151, rowV lvAI64LSZ 2 s252 v202 false]) okAI64LSZ leAI64LSZ) (by kernel_rfl) (n := n202) hn202 hx14) ?_
            exact H_againP (st := _) ((IntKind.i64.wrap (s200 + 1)), (s252 ++ [((IntKind.i64.wrap (s200 + 1)), x12)])) ((vnext s252 [((IntKind.i64.wrap (s200 + 1)), x12)] v202), ((s252 ++ [((IntKind.i64.wrap (s200 + 1)), x12)]).length)) h rfl (by kernel_rfl) (by kernel_rfl) (by kernel_rfl) (by kernel_rfl) (by kernel_rfl)
          · replace h := h.f hc; clear hc
            exact H_againP (st := _) ((IntKind.i64.wrap (s200 + 1)), s252) (v202, n202) h hn202 (by kernel_rfl) (by kernel_rfl) (by kernel_rfl) (by kernel_rfl) (by kernel_rfl)
      · replace h := h.f hc; clear hc
        refine H_leaveP (.exit 2) (by kernel_rfl) rfl ?_
        exact H_endX .ret (.tup [.own 2 n202 v202, .pd (.int .i64 0)]) (.tup [.pd (.sl (s252.map elAI64LSZ)), .pd (.int .i64 0)]) ([rowV lvAI64LSZ 2 ([] : List (Int × (List (List UInt8)))) 0 false, .iter p0 s151, rowV lvAI64LSZ 2 s252 v202 false]) (by kernel_rfl) rfl (by kernel_rfl) (by kernel_rfl) (pure_tup (pl_cons (pure_1to2 (pure1_own okAI64LSZ (by decide) lgAI64LSZ (M := [rowV lvAI64LSZ 2 ([] : List (Int × (List (List UInt8)))) 0 false, .iter p0 s151, rowV lvAI64LSZ 2 s252 v202 false]) (b := 2) (o := rowV lvAI64LSZ 2 s252 v202 false) (by kernel_rfl) (rowIs_v' (lv := lvAI64LSZ) (s := 2) (e := s252) (ver := v202) (z := false)) (n := n202) hn202) rfl) (pl_cons rfl pl_nil))) (by subst h; rfl)
    · replace h := h.t hx1
      refine H_ask _ _ (by kernel_rfl) (ask_next (M := [rowV lvAI64LSZ 2 ([] : List (Int × (List (List UInt8)))) 0 false, .iter p0 s151]) (b := 1) (s := p0) (pos := s151) (by kernel_rfl) hx1) ?_
      obtain ⟨x2, hx3, h⟩ := h
      refine H_valW (g := 27) (args := [.pd (.int .i32 (runeAt p0 s151))]) (M := [rowV lvAI64LSZ 2 ([] : List (Int × (List (List UInt8)))) 0 false, .iter p0 (s151 + runeLen p0 s151)]) (.pd (.bool x2)) (.inl (by kernel_rfl)) (by kernel_rfl) (f27_ok m _ hx3) (by kernel_rfl) (has07 27 (by kernel_rfl)) ?_
      cases x2
      · replace h := h.f rfl
        refine H_leaveP .ret (by kernel_rfl) rfl ?_
        exact H_endX .ret (.tup [.own 2 (([] : List (Int × (List (List UInt8)))).length) 0, .pd (.int .i64 2)]) (.tup [.pd (.sl (([] : List (Int × (List (List UInt8)))).map elAI64LSZ)), .pd (.int .i64 2)]) ([rowV lvAI64LSZ 2 ([] : List (Int × (List (List UInt8)))) 0 false, .iter p0 (s151 + runeLen p0 s151), rowV lvAI64LSZ 2 ([] : List (Int × (List (List UInt8)))) 0 false]) (by kernel_rfl) rfl (by kernel_rfl) (by kernel_rfl) (pure_tup (pl_cons (pure_1to2 (pure1_own okAI64LSZ (by decide) lgAI64LSZ (M := [rowV lvAI64LSZ 2 ([] : List (Int × (List (List UInt8)))) 0 false, .iter p0 (s151 + runeLen p0 s151), rowV lvAI64LSZ 2 ([] : List (Int × (List (List UInt8)))) 0 false]) (b := 2) (o := rowV lvAI64LSZ 2 ([] : List (Int × (List (List UInt8)))) 0 false) (by kernel_rfl) (rowIs_v' (lv := lvAI64LSZ) (s := 2) (e := ([] : List (Int × (List (List UInt8))))) (ver := 0) (z := false)) (n := ([] : List (Int × (List (List UInt8)))).length) rfl) rfl) (pl_cons rfl pl_nil))) (by subst h; rfl)
      · replace h := h.t rfl
        exact H_againP (st := _) (s151 + runeLen p0 s151) () h trivial (by kernel_rfl) (by kernel_rfl) (by kernel_rfl) (by kernel_rfl) (by kernel_rfl)

theorem f14_ok (m : Int) (p0 : List UInt8) {r : Bool} (h : f14 p0 r) : ASpec Tryd.prog (gt07 m) 14 [.pd (.str p0)] (· = .pd (.bool r)) := by
  refine ASpec_tree Tryd.f14 mixed07 (askG [9, 10, 11] false) (by kernel_rfl) ?_
  unfold f14 at h
  refine H_loopP (F := f14_L1 p0 r) (s0 := 0) h () 44 1
    (fun (s150 : Nat) (() : Unit) => [(0, .pd (.str p0)), (7, .it 0)])
    (fun (s150 : Nat) (() : Unit) => [.iter p0 s150]) (fun (s150 : Nat) (() : Unit) => True) trivial [] mixed07 (askG [9, 10, 11] false)
    (by kernel_rfl) (by kernel_rfl) (by kernel_rfl) (by kernel_rfl) (by kernel_rfl) (fun _ _ => rfl) ?_
  rintro X1 s150 ⟨⟩ - h
  dsimp only [f14_L1] at h
  cases hx1 : (decide (s150 < p0.length))
  · replace h := h.f hx1
    refine H_ask _ _ (by kernel_rfl) (ask_next0 (M := [.iter p0 s150]) (b := 0) (s := p0) (pos := s150) (by kernel_rfl) hx1) ?_
    refine H_leaveP (.exit 0) (by kernel_rfl) rfl ?_
    refine H_askK (.pd (.int .i64 (p0.length : Int))) ([.iter p0 s150]) (by kernel_rfl) ?_
    refine H_split (decide ((p0.length : Int) ≥ (1 : Int))) (by kernel_rfl) (fun hc => ?_) (fun hc => ?_)
    · replace h := h.t hc; clear hc
      refine H_askK (.pd (.int .i64 (p0.length : Int))) ([.iter p0 s150]) (by kernel_rfl) ?_
      refine H_split (decide ((p0.length : Int) ≤ (16 : Int))) (by kernel_rfl) (fun hc => ?_) (fun hc => ?_)
      · replace h := h.t hc; clear hc
        exact H_end .ret (.pd (.bool true)) (by kernel_rfl) rfl (by kernel_rfl) (by subst h; rfl)
      · replace h := h.f hc; clear hc
        exact H_end .ret (.pd (.bool false)) (by kernel_rfl) rfl (by kernel_rfl) (by subst h; rfl)
    · replace h := h.f hc; clear hc
      exact H_end .ret (.pd (.bool false)) (by kernel_rfl) rfl (by kernel_rfl) (by subst h; rfl)
  · replace h := h.t hx1
    refine H_ask _ _ (by kernel_rfl) (ask_next (M := [.iter p0 s150]) (b := 0) (s := p0) (pos := s150) (by kernel_rfl) hx1) ?_
    refine H_split (decide ((runeAt p0 s150) ≥ (97 : Int))) (by kernel_rfl) (fun hc => ?_) (fun hc => ?_)
    · replace h := h.t hc; clear hc
      refine H_split (decide ((runeAt p0 s150) ≤ (122 : Int))) (by kernel_rfl) (fun hc => ?_) (fun hc => ?_)
      · replace h := h.t hc; clear hc
        exact H_againP (st := _) (s150 + runeLen p0 s150) () h trivial (by kernel_rfl) (by kernel_rfl) (by kernel_rfl) (by kernel_rfl) (by kernel_rfl)
      · replace h := h.f hc; clear hc
        refine H_split (((s150 : Nat) : Int) == (0 : Int)) (by kernel_rfl) (fun hc => ?_) (fun hc => ?_)
        · replace h := h.t hc; clear hc
          refine H_leaveP .ret (by kernel_rfl) rfl ?_
          exact H_end .ret (.pd (.bool false)) (by kernel_rfl) rfl (by kernel_rfl) (by subst h; rfl)
        · replace h := h.f hc; clear hc
          refine H_split ((runeAt p0 s150) != (95 : Int)) (by kernel_rfl) (fun hc => ?_) (fun hc => ?_)
          · replace h := h.t hc; clear hc
            refine H_split (decide ((runeAt p0 s150) < (48 : Int))) (by kernel_rfl) (fun hc => ?_) (fun hc => ?_)
            · replace h := h.t hc; clear hc
              refine H_leaveP .ret (by kernel_rfl) rfl ?_
              exact H_end .ret (.pd (.bool false)) (by kernel_rfl) rfl (by kernel_rfl) (by subst h; rfl)
            · replace h := h.f hc; clear hc
              refine H_split (decide ((runeAt p0 s150) > (57 : Int))) (by kernel_rfl) (fun hc => ?_) (fun hc => ?_)
              · replace h := h.t hc; clear hc
                refine H_leaveP .ret (by kernel_rfl) rfl ?_
                exact H_end .ret (.pd (.bool false)) (by kernel_rfl) rfl (by kernel_rfl) (by subst h; rfl)
              · replace h := h.f hc; clear hc
                exact H_againP (st := _) (s150 + runeLen p0 s150) () h trivial (by kernel_rfl) (by kernel_rfl) (by kernel_rfl) (by kernel_rfl) (by kernel_rfl)
          · replace h := h.f hc; clear hc
            exact H_againP (st := _) (s150 + runeLen p0 s150) () h trivial (by kernel_rfl) (by kernel_rfl) (by kernel_rfl) (by kernel_rfl) (by kernel_rfl)
    · replace h := h.f hc; clear hc
      refine H_split (((s150 : Nat) : Int) == (0 : Int)) (by kernel_rfl) (fun hc => ?_) (fun hc => ?_)
      · replace h := h.t hc; clear hc
        refine H_leaveP .ret (by kernel_rfl) rfl ?_
        exact H_end .ret (.pd (.bool false)) (by kernel_rfl) rfl (by kernel_rfl) (by subst h; rfl)
      · replace h := h.f hc; clear hc
        refine H_split ((runeAt p0 s150) != (95 : Int)) (by kernel_rfl) (fun hc => ?_) (fun hc => ?_)
        · replace h := h.t hc; clear hc
          refine H_split (decide ((runeAt p0 s150) < (48 : Int))) (by kernel_rfl) (fun hc => ?_) (fun hc => ?_)
          · replace h := h.t hc; clear hc
            refine H_leaveP .ret (by kernel_rfl) rfl ?_
            exact H_end .ret (.pd (.bool false)) (by kernel_rfl) rfl (by kernel_rfl) (by subst h; rfl)
          · replace h := h.f hc; clear hc
            refine H_split (decide ((runeAt p0 s150) > (57 : Int))) (by kernel_rfl) (fun hc => ?_) (fun hc => ?_)
            · replace h := h.t hc; clear hc
              refine H_leaveP .ret (by kernel_rfl) rfl ?_
              exact H_end .ret (.pd (.bool false)) (by kernel_rfl) rfl (by kernel_rfl) (by subst h; rfl)
            · replace h := h.f hc; clear hc
              exact H_againP (st := _) (s150 + runeLen p0 s150) () h trivial (by kernel_rfl) (by kernel_rfl) (by kernel_rfl) (by kernel_rfl) (by kernel_rfl)
        · replace h := h.f hc; clear hc
          exact H_againP (st := _) (s150 + runeLen p0 s150) () h trivial (by kernel_rfl) (by kernel_rfl) (by kernel_rfl) (by kernel_rfl) (by kernel_rfl)

theorem f15_ok (m : Int) (p0 : List UInt8) {r : Bool} (h : f15 p0 r) : ASpec Tryd.prog (gt07 m) 15 [.pd (.str p0)] (· = .pd (.bool r)) := by
  refine ASpec_tree Tryd.f15 mixed07 (askG [9, 10, 11] false) (by kernel_rfl) ?_
  unfold f15 at h
  refine H_askK (.pd (.int .i64 (p0.length : Int))) ([]) (by kernel_rfl) ?_
  refine H_split (decide ((p0.length : Int) < (1 : Int))) (by kernel_rfl) (fun hc => ?_) (fun hc => ?_)
  · replace h := h.t hc; clear hc
    exact H_end .ret (.pd (.bool false)) (by kernel_rfl) rfl (by kernel_rfl) (by subst h; rfl)
  · replace h := h.f hc; clear hc
    refine H_askK (.pd (.int .i64 (p0.length : Int))) ([]) (by kernel_rfl) ?_
    refine H_split (decide ((p0.length : Int) > (16 : Int))) (by kernel_rfl) (fun hc => ?_) (fun hc => ?_)
    · replace h := h.t hc; clear hc
      exact H_end .ret (.pd (.bool false)) (by kernel_rfl) rfl (by kernel_rfl) (by subst h; rfl)
    · replace h := h.f hc; clear hc
      refine H_loopP (F := f15_L1 p0 r) (s0 := (0 : Int)) h () 56 0
        (fun (s100 : Int) (() : Unit) => [(0, .pd (.str p0)), (3, .pd (.int .i64 s100))])
        (fun (s100 : Int) (() : Unit) => []) (fun (s100 : Int) (() : Unit) => True) trivial [] mixed07 (askG [9, 10, 11] false)
        (by kernel_rfl) (by kernel_rfl) (by kernel_rfl) (by kernel_rfl) (by kernel_rfl) (fun _ _ => rfl) ?_
      rintro X1 s100 ⟨⟩ - h
      dsimp only [f15_L1] at h
      refine H_askK (.pd (.int .i64 (p0.length : Int))) ([]) (by kernel_rfl) ?_
      refine H_split (decide (s100 < (p0.length : Int))) (by kernel_rfl) (fun hc => ?_) (fun hc => ?_)
      · replace h := h.t hc; clear hc
        obtain ⟨c1, hx2, h⟩ := h
        refine H_ask _ _ (by kernel_rfl) (ask_sidx (P := Tryd.prog) (M := []) (t := 9) (k := .i64) (by kernel_rfl) hx2) ?_
        refine H_split (decide (((c1.toNat : Nat) : Int) ≥ (97 : Int))) (by kernel_rfl) (fun hc => ?_) (fun hc => ?_)
        · replace h := h.t hc; clear hc
          obtain ⟨c3, hx4, h⟩ := h
          refine H_ask _ _ (by kernel_rfl) (ask_sidx (P := Tryd.prog) (M := []) (t := 9) (k := .i64) (by kernel_rfl) hx4) ?_
          refine H_split (decide (((c3.toNat : Nat) : Int) ≤ (122 : Int))) (by kernel_rfl) (fun hc => ?_) (fun hc => ?_)
          · replace h := h.t hc; clear hc
            obtain ⟨c5, hx6, h⟩ := h
            refine H_ask _ _ (by kernel_rfl) (ask_sidx (P := Tryd.prog) (M := []) (t := 9) (k := .i64) (by kernel_rfl) hx6) ?_
            refine H_split (((c5.toNat : Nat) : Int) == (95 : Int)) (by kernel_rfl) (fun hc => ?_) (fun hc => ?_)
            · replace h := h.t hc; clear hc
              exact H_againP (st := _) (IntKind.i64.wrap (s100 + 1)) () h trivial (by kernel_rfl) (by kernel_rfl) (by kernel_rfl) (by kernel_rfl) (by kernel_rfl)
            · replace h := h.f hc; clear hc
              obtain ⟨c7, hx8, h⟩ := h
              refine H_ask _ _ (by kernel_rfl) (ask_sidx (P := Tryd.prog) (M := []) (t := 9) (k := .i64) (by kernel_rfl) hx8) ?_
              refine H_split (decide (((c7.toNat : Nat) : Int) ≥ (48 : Int))) (by kernel_rfl) (fun hc => ?_) (fun hc => ?_)
              · replace h := h.t hc; clear hc
                obtain ⟨c9, hx10, h⟩ := h
                refine H_ask _ _ (by kernel_rfl) (ask_sidx (P := Tryd.prog) (M := []) (t := 9) (k := .i64) (by kernel_rfl) hx10) ?_
                refine H_split (decide (((c9.toNat : Nat) : Int) ≤ (57 : Int))) (by kernel_rfl) (fun hc => ?_) (fun hc => ?_)
                · replace h := h.t hc; clear hc
                  exact H_againP (st := _) (IntKind.i64.wrap (s100 + 1)) () h trivial (by kernel_rfl) (by kernel_rfl) (by kernel_rfl) (by kernel_rfl) (by kernel_rfl)
                · replace h := h.f hc; clear hc
                  exact H_againP (st := _) (IntKind.i64.wrap (s100 + 1)) () h trivial (by kernel_rfl) (by kernel_rfl) (by kernel_rfl) (by kernel_rfl) (by kernel_rfl)
              · replace h := h.f hc; clear hc
                exact H_againP (st := _) (IntKind.i64.wrap (s100 + 1)) () h trivial (by kernel_rfl) (by kernel_rfl) (by kernel_rfl) (by kernel_rfl) (by kernel_rfl)
          · replace h := h.f hc; clear hc
            obtain ⟨c11, hx12, h⟩ := h
            refine H_ask _ _ (by kernel_rfl) (ask_sidx (P := Tryd.prog) (M := []) (t := 9) (k := .i64) (by kernel_rfl) hx12) ?_
            refine H_split (((c11.toNat : Nat) : Int) == (95 : Int)) (by kernel_rfl) (fun hc => ?_) (fun hc => ?_)
            · replace h := h.t hc; clear hc
              refine H_split (s100 == (0 : Int)) (by kernel_rfl) (fun hc => ?_) (fun hc => ?_)
              · replace h := h.t hc; clear hc
                refine H_leaveP .ret (by kernel_rfl) rfl ?_
                exact H_end .ret (.pd (.bool false)) (by kernel_rfl) rfl (by kernel_rfl) (by subst h; rfl)
              · replace h := h.f hc; clear hc
                exact H_againP (st := _) (IntKind.i64.wrap (s100 + 1)) () h trivial (by kernel_rfl) (by kernel_rfl) (by kernel_rfl) (by kernel_rfl) (by kernel_rfl)
            · replace h := h.f hc; clear hc
              obtain ⟨c13, hx14, h⟩ := h
              refine H_ask _ _ (by kernel_rfl) (ask_sidx (P := Tryd.prog) (M := []) (t := 9) (k := .i64) (by kernel_rfl) hx14) ?_
              refine H_split (decide (((c13.toNat : Nat) : Int) ≥ (48 : Int))) (by kernel_rfl) (fun hc => ?_) (fun hc => ?_)
              · replace h := h.t hc; clear hc
                obtain ⟨c15, hx16, h⟩ := h
                refine H_ask _ _ (by kernel_rfl) (ask_sidx (P := Tryd.prog) (M := []) (t := 9) (k := .i64) (by kernel_rfl) hx16) ?_
                refine H_split (decide (((c15.toNat : Nat) : Int) ≤ (57 : Int))) (by kernel_rfl) (fun hc => ?_) (fun hc => ?_)
                · replace h := h.t hc; clear hc
                  refine H_split (s100 == (0 : Int)) (by kernel_rfl) (fun hc => ?_) (fun hc => ?_)
                  · replace h := h.t hc; clear hc
                    refine H_leaveP .ret (by kernel_rfl) rfl ?_
                    exact H_end .ret (.pd (.bool false)) (by kernel_rfl) rfl (by kernel_rfl) (by subst h; rfl)
                  · replace h := h.f hc; clear hc
                    exact H_againP (st := _) (IntKind.i64.wrap (s100 + 1)) () h trivial (by kernel_rfl) (by kernel_rfl) (by kernel_rfl) (by kernel_rfl) (by kernel_rfl)
                · replace h := h.f hc; clear hc
                  refine H_split (s100 == (0 : Int)) (by kernel_rfl) (fun hc => ?_) (fun hc => ?_)
                  · replace h := h.t hc; clear hc
                    refine H_leaveP .ret (by kernel_rfl) rfl ?_
                    exact H_end .ret (.pd (.bool false)) (by kernel_rfl) rfl (by kernel_rfl) (by subst h; rfl)
                  · replace h := h.f hc; clear hc
                    refine H_leaveP .ret (by kernel_rfl) rfl ?_
                    exact H_end .ret (.pd (.bool false)) (by kernel_rfl) rfl (by kernel_rfl) (by subst h; rfl)
              · replace h := h.f hc; clear hc
                refine H_split (s100 == (0 : Int)) (by kernel_rfl) (fun hc => ?_) (fun hc => ?_)
                · replace h := h.t hc; clear hc
                  refine H_leaveP .ret (by kernel_rfl) rfl ?_
                  exact H_end .ret (.pd (.bool false)) (by kernel_rfl) rfl (by kernel_rfl) (by subst h; rfl)
                · replace h := h.f hc; clear hc
                  refine H_leaveP .ret (by kernel_rfl) rfl ?_
                  exact H_end .ret (.pd (.bool false)) (by kernel_rfl) rfl (by kernel_rfl) (by subst h; rfl)
        · replace h := h.f hc; clear hc
          obtain ⟨c17, hx18, h⟩ := h
          refine H_ask _ _ (by kernel_rfl) (ask_sidx (P := Tryd.prog) (M := []) (t := 9) (k := .i64) (by kernel_rfl) hx18) ?_
          refine H_split (((c17.toNat : Nat) : Int) == (95 : Int)) (by kernel_rfl) (fun hc => ?_) (fun hc => ?_)
          · replace h := h.t hc; clear hc
            refine H_split (s100 == (0 : Int)) (by kernel_rfl) (fun hc => ?_) (fun hc => ?_)
            · replace h := h.t hc; clear hc
              refine H_leaveP .ret (by kernel_rfl) rfl ?_
              exact H_end .ret (.pd (.bool false)) (by kernel_rfl) rfl (by kernel_rfl) (by subst h; rfl)
            · replace h := h.f hc; clear hc
              exact H_againP (st := _) (IntKind.i64.wrap (s100 + 1)) () h trivial (by kernel_rfl) (by kernel_rfl) (by kernel_rfl) (by kernel_rfl) (by kernel_rfl)
          · replace h := h.f hc; clear hc
            obtain ⟨c19, hx20, h⟩ := h
            refine H_ask _ _ (by kernel_rfl) (ask_sidx (P := Tryd.prog) (M := []) (t := 9) (k := .i64) (by kernel_rfl) hx20) ?_
            refine H_split (decide (((c19.toNat : Nat) : Int) ≥ (48 : Int))) (by kernel_rfl) (fun hc => ?_) (fun hc => ?_)
            · replace h := h.t hc; clear hc
              obtain ⟨c21, hx22, h⟩ := h
              refine H_ask _ _ (by kernel_rfl) (ask_sidx (P := Tryd.prog) (M := []) (t := 9) (k := .i64) (by kernel_rfl) hx22) ?_
              refine H_split (decide (((c21.toNat : Nat) : Int) ≤ (57 : Int))) (by kernel_rfl) (fun hc => ?_) (fun hc => ?_)
              · replace h := h.t hc; clear hc
                refine H_split (s100 == (0 : Int)) (by kernel_rfl) (fun hc => ?_) (fun hc => ?_)
                · replace h := h.t hc; clear hc
                  refine H_leaveP .ret (by kernel_rfl) rfl ?_
                  exact H_end .ret (.pd (.bool false)) (by kernel_rfl) rfl (by kernel_rfl) (by subst h; rfl)
                · replace h := h.f hc; clear hc
                  exact H_againP (st := _) (IntKind.i64.wrap (s100 + 1)) () h trivial (by kernel_rfl) (by kernel_rfl) (by kernel_rfl) (by kernel_rfl) (by kernel_rfl)
              · replace h := h.f hc; clear hc
                refine H_split (s100 == (0 : Int)) (by kernel_rfl) (fun hc => ?_) (fun hc => ?_)
                · replace h := h.t hc; clear hc
                  refine H_leaveP .ret (by kernel_rfl) rfl ?_
                  exact H_end .ret (.pd (.bool false)) (by kernel_rfl) rfl (by kernel_rfl) (by subst h; rfl)
                · replace h := h.f hc; clear hc
                  refine H_leaveP .ret (by kernel_rfl) rfl ?_
                  exact H_end .ret (.pd (.bool false)) (by kernel_rfl) rfl (by kernel_rfl) (by subst h; rfl)
            · replace h := h.f hc; clear hc
              refine H_split (s100 == (0 : Int)) (by kernel_rfl) (fun hc => ?_) (fun hc => ?_)
              · replace h := h.t hc; clear hc
                refine H_leaveP .ret (by kernel_rfl) rfl ?_
                exact H_end .ret (.pd (.bool false)) (by kernel_rfl) rfl (by kernel_rfl) (by subst h; rfl)
              · replace h := h.f hc; clear hc
                refine H_leaveP .ret (by kernel_rfl) rfl ?_
                exact H_end .ret (.pd (.bool false)) (by kernel_rfl) rfl (by kernel_rfl) (by subst h; rfl)
      · replace h := h.f hc; clear hc
        refine H_leaveP (.exit 0) (by kernel_rfl) rfl ?_
        exact H_end .ret (.pd (.bool true)) (by kernel_rfl) rfl (by kernel_rfl) (by subst h; rfl)

theorem f11_ok (m : Int) (p0 : List UInt8) {r : Bool} (h : f11 p0 r) : ASpec Tryd.prog (gt07 m) 11 [.pd (.str p0)] (· = .pd (.bool r)) := by
  refine ASpec_tree Tryd.f11 mixed07 (askG [9, 10, 11] false) (by kernel_rfl) ?_
  unfold f11 at h
  refine H_loopP (F := f11_L1 p0 r) (s0 := (0 : Int)) h () 26 0
    (fun (s100 : Int) (() : Unit) => [(0, .pd (.str p0)), (3, .pd (.int .i64 s100))])
    (fun (s100 : Int) (() : Unit) => []) (fun (s100 : Int) (() : Unit) => True) trivial [] mixed07 (askG [9, 10, 11] false)
    (by kernel_rfl) (by kernel_rfl) (by kernel_rfl) (by kernel_rfl) (by kernel_rfl) (fun _ _ => rfl) ?_
  rintro X1 s100 ⟨⟩ - h
  dsimp only [f11_L1] at h
  refine H_askK (.pd (.int .i64 (p0.length : Int))) ([]) (by kernel_rfl) ?_
  refine H_split (decide (s100 < (p0.length : Int))) (by kernel_rfl) (fun hc => ?_) (fun hc => ?_)
  · replace h := h.t hc; clear hc
    obtain ⟨c1, hx2, h⟩ := h
    refine H_ask _ _ (by kernel_rfl) (ask_sidx (P := Tryd.prog) (M := []) (t := 9) (k := .i64) (by kernel_rfl) hx2) ?_
    refine H_split (((c1.toNat : Nat) : Int) != (10 : Int)) (by kernel_rfl) (fun hc => ?_) (fun hc => ?_)
    · replace h := h.t hc; clear hc
      obtain ⟨c3, hx4, h⟩ := h
      refine H_ask _ _ (by kernel_rfl) (ask_sidx (P := Tryd.prog) (M := []) (t := 9) (k := .i64) (by kernel_rfl) hx4) ?_
      refine H_split (decide (((c3.toNat : Nat) : Int) < (32 : Int))) (by kernel_rfl) (fun hc => ?_) (fun hc => ?_)
      · replace h := h.t hc; clear hc
        refine H_leaveP .ret (by kernel_rfl) rfl ?_
        exact H_end .ret (.pd (.bool false)) (by kernel_rfl) rfl (by kernel_rfl) (by subst h; rfl)
      · replace h := h.f hc; clear hc
        obtain ⟨c5, hx6, h⟩ := h
        refine H_ask _ _ (by kernel_rfl) (ask_sidx (P := Tryd.prog) (M := []) (t := 9) (k := .i64) (by kernel_rfl) hx6) ?_
        refine H_split (decide (((c5.toNat : Nat) : Int) > (126 : Int))) (by kernel_rfl) (fun hc => ?_) (fun hc => ?_)
        · replace h := h.t hc; clear hc
          refine H_leaveP .ret (by kernel_rfl) rfl ?_
          exact H_end .ret (.pd (.bool false)) (by kernel_rfl) rfl (by kernel_rfl) (by subst h; rfl)
        · replace h := h.f hc; clear hc
          exact H_againP (st := _) (IntKind.i64.wrap (s100 + 1)) () h trivial (by kernel_rfl) (by kernel_rfl) (by kernel_rfl) (by kernel_rfl) (by kernel_rfl)
    · replace h := h.f hc; clear hc
      exact H_againP (st := _) (IntKind.i64.wrap (s100 + 1)) () h trivial (by kernel_rfl) (by kernel_rfl) (by kernel_rfl) (by kernel_rfl) (by kernel_rfl)
  · replace h := h.f hc; clear hc
    refine H_leaveP (.exit 0) (by kernel_rfl) rfl ?_
    exact H_end .ret (.pd (.bool true)) (by kernel_rfl) rfl (by kernel_rfl) (by subst h; rfl)

theorem f23_ok (m : Int) (p0 : List (List UInt8)) {r : (List UInt8)} (h : f23 p0 r) : ASpec Tryd.prog (gt07 m) 23 [.pd (.sl (p0.map elS))] (· = .pd (.str r)) := by
  refine ASpec_tree Tryd.f23 mixed07 (askG [9, 10, 11] false) (by kernel_rfl) ?_
  unfold f23 at h
  obtain ⟨x1, hx2, h⟩ := h
  refine H_valW (g := 13) (args := [.pd (.sl (p0.map elS)), .pd (.str ([32] : List UInt8))]) (M := []) (.pd (.str x1)) (.inl (by kernel_rfl)) (by kernel_rfl) (f13_ok m _ _ hx2) (by kernel_rfl) (has07 13 (by kernel_rfl)) ?_
  exact H_end .ret (.pd (.str x1)) (by kernel_rfl) rfl (by kernel_rfl) (by subst h; rfl)

theorem f24_ok (m : Int) (p0 : List (List UInt8)) (p1 : List UInt8) {r : Int} (h : f24 p0 p1 r) : ASpec Tryd.prog (gt07 m) 24 [.pd (.sl (p0.map elS)), .pd (.str p1)] (· = .pd (.int .i64 r)) := by
  refine ASpec_tree Tryd.f24 mixed07 (askG [9, 10, 11] false) (by kernel_rfl) ?_
  unfold f24 at h
  obtain ⟨x1, hx2, h⟩ := h
  refine H_valW (g := 48) (args := [.pd (.sl (p0.map elS)), .pd (.str p1)]) (M := []) (.pd (.int .i64 x1)) (.inl (by kernel_rfl)) (by kernel_rfl) (f48_ok m _ _ hx2) (by kernel_rfl) (has07 48 (by kernel_rfl)) ?_
  exact H_end .ret (.pd (.int .i64 x1)) (by kernel_rfl) rfl (by kernel_rfl) (by subst h; rfl)

theorem f4_ok (m : Int) (p0 : List UInt8) {r : Bool} (h : f4 p0 r) : ASpec Tryd.prog (gt07 m) 4 [.pd (.str p0)] (· = .pd (.bool r)) := by
  refine ASpec_tree Tryd.f4 mixed07 (askG [9, 10, 11] false) (by kernel_rfl) ?_
  unfold f4 at h
  refine H_askK (.pd (.int .i64 (p0.length : Int))) ([]) (by kernel_rfl) ?_
  refine H_split (decide ((p0.length : Int) > (2000 : Int))) (by kernel_rfl) (fun hc => ?_) (fun hc => ?_)
  · replace h := h.t hc; clear hc
    obtain ⟨x1, hx2, h⟩ := h
    refine H_valW (g := 9) (args := []) (M := []) (.pd (.bool x1)) (.inl (by kernel_rfl)) (by kernel_rfl) (f9_ok m  hx2) (by kernel_rfl) (has07 9 (by kernel_rfl)) ?_
    cases x1
    · replace h := h.f rfl
      exact H_end .ret (.pd (.bool false)) (by kernel_rfl) rfl (by kernel_rfl) (by subst h; rfl)
    · replace h := h.t rfl
      exact H_end .ret (.pd (.bool true)) (by kernel_rfl) rfl (by kernel_rfl) (by subst h; rfl)
  · replace h := h.f hc; clear hc
    obtain ⟨x3, hx4, h⟩ := h
    refine H_valW (g := 14) (args := [.pd (.str p0)]) (M := []) (.pd (.bool x3)) (.inl (by kernel_rfl)) (by kernel_rfl) (f14_ok m _ hx4) (by kernel_rfl) (has07 14 (by kernel_rfl)) ?_
    cases x3
    · replace h := h.f rfl
      obtain ⟨x9, hx10, h⟩ := h
      refine H_valW (g := 15) (args := [.pd (.str p0)]) (M := []) (.pd (.bool x9)) (.inl (by kernel_rfl)) (by kernel_rfl) (f15_ok m _ hx10) (by kernel_rfl) (has07 15 (by kernel_rfl)) ?_
      cases x9
      · replace h := h.f rfl
        refine H_split true (by kernel_rfl) (fun _ => ?_) (fun hc => by cases hc)
        obtain ⟨x11, hx12, h⟩ := h
        refine H_valW (g := 9) (args := []) (M := []) (.pd (.bool x11)) (.inl (by kernel_rfl)) (by kernel_rfl) (f9_ok m  hx12) (by kernel_rfl) (has07 9 (by kernel_rfl)) ?_
        cases x11
        · replace h := h.f rfl
          exact H_end .ret (.pd (.bool false)) (by kernel_rfl) rfl (by kernel_rfl) (by subst h; rfl)
        · replace h := h.t rfl
          exact H_end .ret (.pd (.bool true)) (by kernel_rfl) rfl (by kernel_rfl) (by subst h; rfl)
      · replace h := h.t rfl
        refine H_split false (by kernel_rfl) (fun hc => by cases hc) (fun _ => ?_)
        exact H_end .ret (.pd (.bool false)) (by kernel_rfl) rfl (by kernel_rfl) (by subst h; rfl)
    · replace h := h.t rfl
      obtain ⟨x5, hx6, h⟩ := h
      refine H_valW (g := 15) (args := [.pd (.str p0)]) (M := []) (.pd (.bool x5)) (.inl (by kernel_rfl)) (by kernel_rfl) (f15_ok m _ hx6) (by kernel_rfl) (has07 15 (by kernel_rfl)) ?_
      cases x5
      · replace h := h.f rfl
        refine H_split false (by kernel_rfl) (fun hc => by cases hc) (fun _ => ?_)
        exact H_end .ret (.pd (.bool false)) (by kernel_rfl) rfl (by kernel_rfl) (by subst h; rfl)
      · replace h := h.t rfl
        refine H_split true (by kernel_rfl) (fun _ => ?_) (fun hc => by cases hc)
        obtain ⟨x7, hx8, h⟩ := h
        refine H_valW (g := 9) (args := []) (M := []) (.pd (.bool x7)) (.inl (by kernel_rfl)) (by kernel_rfl) (f9_ok m  hx8) (by kernel_rfl) (has07 9 (by kernel_rfl)) ?_
        cases x7
        · replace h := h.f rfl
          exact H_end .ret (.pd (.bool false)) (by kernel_rfl) rfl (by kernel_rfl) (by subst h; rfl)
        · replace h := h.t rfl
          exact H_end .ret (.pd (.bool true)) (by kernel_rfl) rfl (by kernel_rfl) (by subst h; rfl)

theorem f5_ok (m : Int) (p0 : List UInt8) {r : Bool} (h : f5 p0 r) : ASpec Tryd.prog (gt07 m) 5 [.pd (.str p0)] (· = .pd (.bool r)) := by
  refine ASpec_tree Tryd.f5 mixed07 (askG [9, 10, 11] false) (by kernel_rfl) ?_
  unfold f5 at h
  refine H_askK (.pd (.int .i64 (p0.length : Int))) ([]) (by kernel_rfl) ?_
  refine H_split (decide ((p0.length : Int) > (2000 : Int))) (by kernel_rfl) (fun hc => ?_) (fun hc => ?_)
  · replace h := h.t hc; clear hc
    obtain ⟨x1, hx2, h⟩ := h
    refine H_valW (g := 9) (args := []) (M := []) (.pd (.bool x1)) (.inl (by kernel_rfl)) (by kernel_rfl) (f9_ok m  hx2) (by kernel_rfl) (has07 9 (by kernel_rfl)) ?_
    cases x1
    · replace h := h.f rfl
      exact H_end .ret (.pd (.bool false)) (by kernel_rfl) rfl (by kernel_rfl) (by subst h; rfl)
    · replace h := h.t rfl
      exact H_end .ret (.pd (.bool true)) (by kernel_rfl) rfl (by kernel_rfl) (by subst h; rfl)
  · replace h := h.f hc; clear hc
    obtain ⟨x3, hx4, h⟩ := h
    refine H_valW (g := 11) (args := [.pd (.str p0)]) (M := []) (.pd (.bool x3)) (.inl (by kernel_rfl)) (by kernel_rfl) (f11_ok m _ hx4) (by kernel_rfl) (has07 11 (by kernel_rfl)) ?_
    cases x3
    · replace h := h.f rfl
      obtain ⟨x15, hx16, h⟩ := h
      refine H_valW (g := 9) (args := []) (M := []) (.pd (.bool x15)) (.inl (by kernel_rfl)) (by kernel_rfl) (f9_ok m  hx16) (by kernel_rfl) (has07 9 (by kernel_rfl)) ?_
      cases x15
      · replace h := h.f rfl
        exact H_end .ret (.pd (.bool false)) (by kernel_rfl) rfl (by kernel_rfl) (by subst h; rfl)
      · replace h := h.t rfl
        exact H_end .ret (.pd (.bool true)) (by kernel_rfl) rfl (by kernel_rfl) (by subst h; rfl)
    · replace h := h.t rfl
      obtain ⟨x5, x6, hx7, h⟩ := h
      refine H_valW (g := 10) (args := [.pd (.str p0)]) (M := []) (.tup [.pd (.sl (x5.map elAI64LSZ)), .pd (.int .i64 x6)]) (.inl (by kernel_rfl)) (by kernel_rfl) (f10_ok m _ hx7) (by kernel_rfl) (has07 10 (by kernel_rfl)) ?_
      refine H_ask _ _ (by kernel_rfl) (ask_len (P := Tryd.prog) (M := []) (t := 23) (et := 32) (el := elAI64LSZ) (by kernel_rfl) (e := x5)) ?_
      refine H_loopP (F := f5_L1 p0 x5 x6 r) (s0 := ((0 : Int), (0 : Int))) h () 53 0
        (fun ((s100, s101) : Int × Int) (() : Unit) => [(0, .pd (.str p0)), (4, .pd (.int .i64 x6)), (5, .pd (.int .i64 s100)), (22, .pd (.sl (x5.map elAI64LSZ))), (23, .pd (.int .i64 (x5.length : Int))), (24, .pd (.int .i64 s101))])
        (fun ((s100, s101) : Int × Int) (() : Unit) => []) (fun ((s100, s101) : Int × Int) (() : Unit) => True) trivial [] mixed07 (askG [9, 10, 11] false)
        (by kernel_rfl) (by kernel_rfl) (by kernel_rfl) (by kernel_rfl) (by kernel_rfl) (fun _ _ => rfl) ?_
      rintro X1 ⟨s100, s101⟩ ⟨⟩ - h
      dsimp only [f5_L1] at h
      refine H_split (decide (s101 < (x5.length : Int))) (by kernel_rfl) (fun hc => ?_) (fun hc => ?_)
      · replace h := h.t hc; clear hc
        obtain ⟨x8, x9, hx10, h⟩ := h
        refine H_ask _ _ (by kernel_rfl) (ask_idx (P := Tryd.prog) (M := []) (t := 23) (et := 32) (k := .i64) (lv := lvAI64LSZ) okAI64LSZ leAI64LSZ (by kernel_rfl) (by kernel_rfl) hx10) ?_
        refine H_askK (.agg [.pd (.int .i64 x8), .pd (.sl (x9.map elS))]) ([]) (by kernel_rfl) ?_
        refine H_askK (.junk) ([.cells [.pd (.int .i64 x8), .pd (.sl (x9.map elS))] 1 0 false]) (by kernel_rfl) ?_
        refine H_askK (.ptr 0 0 0) ([.cells [.pd (.int .i64 x8), .pd (.sl (x9.map elS))] 1 0 false]) (by kernel_rfl) ?_
        refine H_askK (.pd (.int .i64 x8)) ([.cells [.pd (.int .i64 x8), .pd (.sl (x9.map elS))] 1 0 false]) (by kernel_rfl) ?_
        refine H_split (decide (x8 ≤ s100)) (by kernel_rfl) (fun hc => ?_) (fun hc => ?_)
        · replace h := h.t hc; clear hc
          refine H_leaveP .ret (by kernel_rfl) rfl ?_
          exact H_end .ret (.pd (.bool false)) (by kernel_rfl) rfl (by kernel_rfl) (by subst h; rfl)
        · replace h := h.f hc; clear hc
          refine H_askK (.ptr 0 1 0) ([.cells [.pd (.int .i64 x8), .pd (.sl (x9.map elS))] 1 0 false]) (by kernel_rfl) ?_
          refine H_askK (.pd (.sl (x9.map elS))) ([.cells [.pd (.int .i64 x8), .pd (.sl (x9.map elS))] 1 0 false]) (by kernel_rfl) ?_
          refine H_ask _ _ (by kernel_rfl) (ask_len (P := Tryd.prog) (M := [.cells [.pd (.int .i64 x8), .pd (.sl (x9.map elS))] 1 0 false]) (t := 30) (et := 9) (el := elS) (by kernel_rfl) (e := x9)) ?_
          refine H_split ((x9.length : Int) == (0 : Int)) (by kernel_rfl) (fun hc => ?_) (fun hc => ?_)
          · replace h := h.t hc; clear hc
            refine H_leaveP .ret (by kernel_rfl) rfl ?_
            exact H_end .ret (.pd (.bool false)) (by kernel_rfl) rfl (by kernel_rfl) (by subst h; rfl)
          · replace h := h.f hc; clear hc
            refine H_askK (.ptr 0 0 0) ([.cells [.pd (.int .i64 x8), .pd (.sl (x9.map elS))] 1 0 false]) (by kernel_rfl) ?_
            refine H_askK (.pd (.int .i64 x8)) ([.cells [.pd (.int .i64 x8), .pd (.sl (x9.map elS))] 1 0 false]) (by kernel_rfl) ?_
            exact H_againC (st := _) (x8, (IntKind.i64.wrap (s101 + 1))) () h trivial (by kernel_rfl) (by kernel_rfl) (by kernel_rfl) (by kernel_rfl) (by kernel_rfl) (by kernel_rfl) all_n (by kernel_rfl) (by kernel_rfl)
      · replace h := h.f hc; clear hc
        refine H_leaveP (.exit 0) (by kernel_rfl) rfl ?_
        refine H_split (x6 == (0 : Int)) (by kernel_rfl) (fun hc => ?_) (fun hc => ?_)
        · replace h := h.t hc; clear hc
          obtain ⟨x11, hx12, h⟩ := h
          refine H_valW (g := 16) (args := [.pd (.str p0), .pd (.str ([10] : List UInt8))]) (M := []) (.pd (.int .i64 x11)) (.inl (by kernel_rfl)) (by kernel_rfl) (f16_ok m _ _ hx12) (by kernel_rfl) (has07 16 (by kernel_rfl)) ?_
          refine H_split (decide (s100 ≤ (IntKind.i64.wrap (x11 + 1)))) (by kernel_rfl) (fun hc => ?_) (fun hc => ?_)
          · replace h := h.t hc; clear hc
            obtain ⟨x13, hx14, h⟩ := h
            refine H_valW (g := 9) (args := []) (M := []) (.pd (.bool x13)) (.inl (by kernel_rfl)) (by kernel_rfl) (f9_ok m  hx14) (by kernel_rfl) (has07 9 (by kernel_rfl)) ?_
            cases x13
            · replace h := h.f rfl
              exact H_end .ret (.pd (.bool false)) (by kernel_rfl) rfl (by kernel_rfl) (by subst h; rfl)
            · replace h := h.t rfl
              exact H_end .ret (.pd (.bool true)) (by kernel_rfl) rfl (by kernel_rfl) (by subst h; rfl)
          · replace h := h.f hc; clear hc
            exact H_end .ret (.pd (.bool false)) (by kernel_rfl) rfl (by kernel_rfl) (by subst h; rfl)
        · replace h := h.f hc; clear hc
          exact H_end .ret (.pd (.bool false)) (by kernel_rfl) rfl (by kernel_rfl) (by subst h; rfl)

end Go.Abs
