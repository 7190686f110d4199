/- Printed by gen.py: the functions do what these conditions say. -/
import Derived.Test.YtibeobmcanaedaaDoorAbs28
import Derived.Test.YtibeobmcanaedaaDoorG07dD
import Derived.Test.YtibeobmcanaedaaDoorG07aW
import Derived.Test.YtibeobmcanaedaaDoorG07cW
namespace Go.Abs
open Go.Proofs
set_option maxRecDepth 20000
set_option linter.unusedVariables false
set_option linter.unusedSimpArgs false
set_option linter.unnecessarySimpa false


theorem f3_ok (m : Int) (p0 : List UInt8) {r : Bool} (h : f3 p0 r) : ASpec Tryd.prog (gt07 m) 3 [.pd (.str p0)] (· = .pd (.bool r)) := by
  refine ASpec_tree Tryd.f3 mixed07 (askG [9, 10, 11] false) (by kernel_rfl) ?_
  unfold f3 at h
  refine H_askK (.pd (.int .i64 (p0.length : Int))) ([]) (by kernel_rfl) ?_
  refine H_split (decide ((p0.length : Int) > (2000 : Int))) (by kernel_rfl) (fun hc => ?_) (fun hc => ?_)
  · replace h := h.t hc; clear hc
    refine H_askK (.pd (.int .i64 (p0.length : Int))) ([]) (by kernel_rfl) ?_
    refine H_split (decide ((p0.length : Int) ≤ (65536 : Int))) (by kernel_rfl) (fun hc => ?_) (fun hc => ?_)
    · replace h := h.t hc; clear hc
      obtain ⟨x1, hx2, h⟩ := h
      refine H_valW (g := 9) (args := []) (M := []) (.pd (.bool x1)) (.inl (by kernel_rfl)) (by kernel_rfl) (f9_ok m  hx2) (by kernel_rfl) (has07 9 (by kernel_rfl)) ?_
      cases x1
      · replace h := h.f rfl
        exact H_end .ret (.pd (.bool false)) (by kernel_rfl) rfl (by kernel_rfl) (by subst h; rfl)
      · replace h := h.t rfl
        exact H_end .ret (.pd (.bool true)) (by kernel_rfl) rfl (by kernel_rfl) (by subst h; rfl)
    · replace h := h.f hc; clear hc
      obtain ⟨x3, x4, hx5, h⟩ := h
      refine H_valW (g := 10) (args := [.pd (.str p0)]) (M := []) (.tup [.pd (.sl (x3.map elAI64LSZ)), .pd (.int .i64 x4)]) (.inl (by kernel_rfl)) (by kernel_rfl) (f10_ok m _ hx5) (by kernel_rfl) (has07 10 (by kernel_rfl)) ?_
      refine H_askK (.pd (.int .i64 (p0.length : Int))) ([]) (by kernel_rfl) ?_
      refine H_split (decide ((p0.length : Int) > (65536 : Int))) (by kernel_rfl) (fun hc => ?_) (fun hc => ?_)
      · replace h := h.t hc; clear hc
        refine H_ask _ _ (by kernel_rfl) (ask_len (P := Tryd.prog) (M := []) (t := 23) (et := 32) (el := elAI64LSZ) (by kernel_rfl) (e := x3)) ?_
        refine H_split ((x3.length : Int) == (0 : Int)) (by kernel_rfl) (fun hc => ?_) (fun hc => ?_)
        · replace h := h.t hc; clear hc
          refine H_split (x4 == (4 : Int)) (by kernel_rfl) (fun hc => ?_) (fun hc => ?_)
          · replace h := h.t hc; clear hc
            obtain ⟨x6, hx7, h⟩ := h
            refine H_valW (g := 9) (args := []) (M := []) (.pd (.bool x6)) (.inl (by kernel_rfl)) (by kernel_rfl) (f9_ok m  hx7) (by kernel_rfl) (has07 9 (by kernel_rfl)) ?_
            cases x6
            · replace h := h.f rfl
              exact H_end .ret (.pd (.bool false)) (by kernel_rfl) rfl (by kernel_rfl) (by subst h; rfl)
            · replace h := h.t rfl
              exact H_end .ret (.pd (.bool true)) (by kernel_rfl) rfl (by kernel_rfl) (by subst h; rfl)
          · replace h := h.f hc; clear hc
            exact H_end .ret (.pd (.bool false)) (by kernel_rfl) rfl (by kernel_rfl) (by subst h; rfl)
        · replace h := h.f hc; clear hc
          exact H_end .ret (.pd (.bool false)) (by kernel_rfl) rfl (by kernel_rfl) (by subst h; rfl)
      · replace h := h.f hc; clear hc
        obtain ⟨x8, hx9, h⟩ := h
        refine H_valW (g := 11) (args := [.pd (.str p0)]) (M := []) (.pd (.bool x8)) (.inl (by kernel_rfl)) (by kernel_rfl) (f11_ok m _ hx9) (by kernel_rfl) (has07 11 (by kernel_rfl)) ?_
        cases x8
        · replace h := h.f rfl
          refine H_ask _ _ (by kernel_rfl) (ask_len (P := Tryd.prog) (M := []) (t := 23) (et := 32) (el := elAI64LSZ) (by kernel_rfl) (e := x3)) ?_
          refine H_split ((x3.length : Int) == (0 : Int)) (by kernel_rfl) (fun hc => ?_) (fun hc => ?_)
          · replace h := h.t hc; clear hc
            refine H_split (x4 == (2 : Int)) (by kernel_rfl) (fun hc => ?_) (fun hc => ?_)
            · replace h := h.t hc; clear hc
              obtain ⟨x36, hx37, h⟩ := h
              refine H_valW (g := 9) (args := []) (M := []) (.pd (.bool x36)) (.inl (by kernel_rfl)) (by kernel_rfl) (f9_ok m  hx37) (by kernel_rfl) (has07 9 (by kernel_rfl)) ?_
              cases x36
              · replace h := h.f rfl
                exact H_end .ret (.pd (.bool false)) (by kernel_rfl) rfl (by kernel_rfl) (by subst h; rfl)
              · replace h := h.t rfl
                exact H_end .ret (.pd (.bool true)) (by kernel_rfl) rfl (by kernel_rfl) (by subst h; rfl)
            · replace h := h.f hc; clear hc
              exact H_end .ret (.pd (.bool false)) (by kernel_rfl) rfl (by kernel_rfl) (by subst h; rfl)
          · replace h := h.f hc; clear hc
            exact H_end .ret (.pd (.bool false)) (by kernel_rfl) rfl (by kernel_rfl) (by subst h; rfl)
        · replace h := h.t rfl
          obtain ⟨x10, hx11, h⟩ := h
          refine H_valW (g := 12) (args := [.pd (.str p0)]) (M := []) (.pd (.sl (x10.map elAI64LSZ))) (.inl (by kernel_rfl)) (by kernel_rfl) (f12_ok m _ hx11) (by kernel_rfl) (has07 12 (by kernel_rfl)) ?_
          refine H_ask _ _ (by kernel_rfl) (ask_len (P := Tryd.prog) (M := []) (t := 23) (et := 32) (el := elAI64LSZ) (by kernel_rfl) (e := x3)) ?_
          refine H_ask _ _ (by kernel_rfl) (ask_len (P := Tryd.prog) (M := []) (t := 28) (et := 33) (el := elAI64LSZ) (by kernel_rfl) (e := x10)) ?_
          refine H_split ((x3.length : Int) != (x10.length : Int)) (by kernel_rfl) (fun hc => ?_) (fun hc => ?_)
          · replace h := h.t hc; clear hc
            exact H_end .ret (.pd (.bool false)) (by kernel_rfl) rfl (by kernel_rfl) (by subst h; rfl)
          · replace h := h.f hc; clear hc
            refine H_split (x4 != (0 : Int)) (by kernel_rfl) (fun hc => ?_) (fun hc => ?_)
            · replace h := h.t hc; clear hc
              exact H_end .ret (.pd (.bool false)) (by kernel_rfl) rfl (by kernel_rfl) (by subst h; rfl)
            · replace h := h.f hc; clear hc
              refine H_ask _ _ (by kernel_rfl) (ask_len (P := Tryd.prog) (M := []) (t := 23) (et := 32) (el := elAI64LSZ) (by kernel_rfl) (e := x3)) ?_
              refine H_loopP (F := f3_L1 x3 x10 r) (s0 := (0 : Int)) h () 106 0
                (fun (s100 : Int) (() : Unit) => [(3, .pd (.sl (x3.map elAI64LSZ))), (5, .pd (.sl (x10.map elAI64LSZ))), (59, .pd (.int .i64 (x3.length : Int))), (60, .pd (.int .i64 s100))])
                (fun (s100 : Int) (() : Unit) => []) (fun (s100 : Int) (() : Unit) => True) trivial [] mixed07 (askG [9, 10, 11] false)
                (by kernel_rfl) (by kernel_rfl) (by kernel_rfl) (by kernel_rfl) (by kernel_rfl) (fun _ _ => rfl) ?_
              rintro X1 s100 ⟨⟩ - h
              dsimp only [f3_L1] at h
              refine H_split (decide (s100 < (x3.length : Int))) (by kernel_rfl) (fun hc => ?_) (fun hc => ?_)
              · replace h := h.t hc; clear hc
                refine H_draw (by kernel_rfl) ?_
                obtain ⟨x12, x13, hx14, h⟩ := h
                refine H_ask _ _ (by kernel_rfl) (ask_idx (P := Tryd.prog) (M := []) (t := 23) (et := 32) (k := .i64) (lv := lvAI64LSZ) okAI64LSZ leAI64LSZ (by kernel_rfl) (by kernel_rfl) hx14) ?_
                refine H_askK (.rd [.int .i64 x12, .sl (x13.map elS)]) ([]) (by kernel_rfl) ?_
                refine H_askK (.pd (.int .i64 x12)) ([]) (by kernel_rfl) ?_
                obtain ⟨x15, x16, hx17, h⟩ := h
                refine H_ask _ _ (by kernel_rfl) (ask_idx (P := Tryd.prog) (M := []) (t := 28) (et := 33) (k := .i64) (lv := lvAI64LSZ) okAI64LSZ leAI64LSZ (by kernel_rfl) (by kernel_rfl) hx17) ?_
                refine H_askK (.rd [.int .i64 x15, .sl (x16.map elS)]) ([]) (by kernel_rfl) ?_
                refine H_askK (.pd (.int .i64 x15)) ([]) (by kernel_rfl) ?_
                refine H_split (x12 != x15) (by kernel_rfl) (fun hc => ?_) (fun hc => ?_)
                · replace h := h.t hc; clear hc
                  refine H_leaveP .ret (by kernel_rfl) rfl ?_
                  exact H_end .ret (.pd (.bool false)) (by kernel_rfl) rfl (by kernel_rfl) (by subst h; rfl)
                · replace h := h.f hc; clear hc
                  obtain ⟨x18, x19, hx20, h⟩ := h
                  refine H_ask _ _ (by kernel_rfl) (ask_idx (P := Tryd.prog) (M := []) (t := 23) (et := 32) (k := .i64) (lv := lvAI64LSZ) okAI64LSZ leAI64LSZ (by kernel_rfl) (by kernel_rfl) hx20) ?_
                  refine H_askK (.rd [.sl (x19.map elS)]) ([]) (by kernel_rfl) ?_
                  refine H_askK (.pd (.sl (x19.map elS))) ([]) (by kernel_rfl) ?_
                  obtain ⟨x21, hx22, h⟩ := h
                  refine H_valW (g := 13) (args := [.pd (.sl (x19.map elS)), .pd (.str ([32] : List UInt8))]) (M := []) (.pd (.str x21)) (.inr (by kernel_rfl)) (by kernel_rfl) (f13_ok m _ _ hx22) (by kernel_rfl) (has07 13 (by kernel_rfl)) ?_
                  obtain ⟨x23, x24, hx25, h⟩ := h
                  refine H_ask _ _ (by kernel_rfl) (ask_idx (P := Tryd.prog) (M := []) (t := 28) (et := 33) (k := .i64) (lv := lvAI64LSZ) okAI64LSZ leAI64LSZ (by kernel_rfl) (by kernel_rfl) hx25) ?_
                  refine H_askK (.rd [.sl (x24.map elS)]) ([]) (by kernel_rfl) ?_
                  refine H_askK (.pd (.sl (x24.map elS))) ([]) (by kernel_rfl) ?_
                  obtain ⟨x26, hx27, h⟩ := h
                  refine H_valW (g := 13) (args := [.pd (.sl (x24.map elS)), .pd (.str ([32] : List UInt8))]) (M := []) (.pd (.str x26)) (.inr (by kernel_rfl)) (by kernel_rfl) (f13_ok m _ _ hx27) (by kernel_rfl) (has07 13 (by kernel_rfl)) ?_
                  refine H_split (!(x21 == x26)) (by kernel_rfl) (fun hc => ?_) (fun hc => ?_)
                  · replace h := h.t hc; clear hc
                    refine H_leaveP .ret (by kernel_rfl) rfl ?_
                    exact H_end .ret (.pd (.bool false)) (by kernel_rfl) rfl (by kernel_rfl) (by subst h; rfl)
                  · replace h := h.f hc; clear hc
                    obtain ⟨x28, x29, hx30, h⟩ := h
                    refine H_ask _ _ (by kernel_rfl) (ask_idx (P := Tryd.prog) (M := []) (t := 23) (et := 32) (k := .i64) (lv := lvAI64LSZ) okAI64LSZ leAI64LSZ (by kernel_rfl) (by kernel_rfl) hx30) ?_
                    refine H_askK (.rd [.sl (x29.map elS)]) ([]) (by kernel_rfl) ?_
                    refine H_askK (.pd (.sl (x29.map elS))) ([]) (by kernel_rfl) ?_
                    refine H_ask _ _ (by kernel_rfl) (ask_len (P := Tryd.prog) (M := []) (t := 30) (et := 9) (el := elS) (by kernel_rfl) (e := x29)) ?_
                    obtain ⟨x31, x32, hx33, h⟩ := h
                    refine H_ask _ _ (by kernel_rfl) (ask_idx (P := Tryd.prog) (M := []) (t := 28) (et := 33) (k := .i64) (lv := lvAI64LSZ) okAI64LSZ leAI64LSZ (by kernel_rfl) (by kernel_rfl) hx33) ?_
                    refine H_askK (.rd [.sl (x32.map elS)]) ([]) (by kernel_rfl) ?_
                    refine H_askK (.pd (.sl (x32.map elS))) ([]) (by kernel_rfl) ?_
                    refine H_ask _ _ (by kernel_rfl) (ask_len (P := Tryd.prog) (M := []) (t := 30) (et := 9) (el := elS) (by kernel_rfl) (e := x32)) ?_
                    refine H_split ((x29.length : Int) != (x32.length : Int)) (by kernel_rfl) (fun hc => ?_) (fun hc => ?_)
                    · replace h := h.t hc; clear hc
                      refine H_leaveP .ret (by kernel_rfl) rfl ?_
                      exact H_end .ret (.pd (.bool false)) (by kernel_rfl) rfl (by kernel_rfl) (by subst h; rfl)
                    · replace h := h.f hc; clear hc
                      exact H_againP (st := _) (IntKind.i64.wrap (s100 + 1)) () h trivial (by kernel_rfl) (by kernel_rfl) (by kernel_rfl) (by kernel_rfl) (by kernel_rfl)
              · replace h := h.f hc; clear hc
                refine H_leaveP (.exit 0) (by kernel_rfl) rfl ?_
                obtain ⟨x34, hx35, h⟩ := h
                refine H_valW (g := 9) (args := []) (M := []) (.pd (.bool x34)) (.inl (by kernel_rfl)) (by kernel_rfl) (f9_ok m  hx35) (by kernel_rfl) (has07 9 (by kernel_rfl)) ?_
                cases x34
                · replace h := h.f rfl
                  exact H_end .ret (.pd (.bool false)) (by kernel_rfl) rfl (by kernel_rfl) (by subst h; rfl)
                · replace h := h.t rfl
                  exact H_end .ret (.pd (.bool true)) (by kernel_rfl) rfl (by kernel_rfl) (by subst h; rfl)
  · replace h := h.f hc; clear hc
    obtain ⟨x38, x39, hx40, h⟩ := h
    refine H_valW (g := 10) (args := [.pd (.str p0)]) (M := []) (.tup [.pd (.sl (x38.map elAI64LSZ)), .pd (.int .i64 x39)]) (.inl (by kernel_rfl)) (by kernel_rfl) (f10_ok m _ hx40) (by kernel_rfl) (has07 10 (by kernel_rfl)) ?_
    refine H_askK (.pd (.int .i64 (p0.length : Int))) ([]) (by kernel_rfl) ?_
    refine H_split (decide ((p0.length : Int) > (65536 : Int))) (by kernel_rfl) (fun hc => ?_) (fun hc => ?_)
    · replace h := h.t hc; clear hc
      refine H_ask _ _ (by kernel_rfl) (ask_len (P := Tryd.prog) (M := []) (t := 23) (et := 32) (el := elAI64LSZ) (by kernel_rfl) (e := x38)) ?_
      refine H_split ((x38.length : Int) == (0 : Int)) (by kernel_rfl) (fun hc => ?_) (fun hc => ?_)
      · replace h := h.t hc; clear hc
        refine H_split (x39 == (4 : Int)) (by kernel_rfl) (fun hc => ?_) (fun hc => ?_)
        · replace h := h.t hc; clear hc
          obtain ⟨x41, hx42, h⟩ := h
          refine H_valW (g := 9) (args := []) (M := []) (.pd (.bool x41)) (.inl (by kernel_rfl)) (by kernel_rfl) (f9_ok m  hx42) (by kernel_rfl) (has07 9 (by kernel_rfl)) ?_
          cases x41
          · replace h := h.f rfl
            exact H_end .ret (.pd (.bool false)) (by kernel_rfl) rfl (by kernel_rfl) (by subst h; rfl)
          · replace h := h.t rfl
            exact H_end .ret (.pd (.bool true)) (by kernel_rfl) rfl (by kernel_rfl) (by subst h; rfl)
        · replace h := h.f hc; clear hc
          exact H_end .ret (.pd (.bool false)) (by kernel_rfl) rfl (by kernel_rfl) (by subst h; rfl)
      · replace h := h.f hc; clear hc
        exact H_end .ret (.pd (.bool false)) (by kernel_rfl) rfl (by kernel_rfl) (by subst h; rfl)
    · replace h := h.f hc; clear hc
      obtain ⟨x43, hx44, h⟩ := h
      refine H_valW (g := 11) (args := [.pd (.str p0)]) (M := []) (.pd (.bool x43)) (.inl (by kernel_rfl)) (by kernel_rfl) (f11_ok m _ hx44) (by kernel_rfl) (has07 11 (by kernel_rfl)) ?_
      cases x43
      · replace h := h.f rfl
        refine H_ask _ _ (by kernel_rfl) (ask_len (P := Tryd.prog) (M := []) (t := 23) (et := 32) (el := elAI64LSZ) (by kernel_rfl) (e := x38)) ?_
        refine H_split ((x38.length : Int) == (0 : Int)) (by kernel_rfl) (fun hc => ?_) (fun hc => ?_)
        · replace h := h.t hc; clear hc
          refine H_split (x39 == (2 : Int)) (by kernel_rfl) (fun hc => ?_) (fun hc => ?_)
          · replace h := h.t hc; clear hc
            obtain ⟨x71, hx72, h⟩ := h
            refine H_valW (g := 9) (args := []) (M := []) (.pd (.bool x71)) (.inl (by kernel_rfl)) (by kernel_rfl) (f9_ok m  hx72) (by kernel_rfl) (has07 9 (by kernel_rfl)) ?_
            cases x71
            · replace h := h.f rfl
              exact H_end .ret (.pd (.bool false)) (by kernel_rfl) rfl (by kernel_rfl) (by subst h; rfl)
            · replace h := h.t rfl
              exact H_end .ret (.pd (.bool true)) (by kernel_rfl) rfl (by kernel_rfl) (by subst h; rfl)
          · replace h := h.f hc; clear hc
            exact H_end .ret (.pd (.bool false)) (by kernel_rfl) rfl (by kernel_rfl) (by subst h; rfl)
        · replace h := h.f hc; clear hc
          exact H_end .ret (.pd (.bool false)) (by kernel_rfl) rfl (by kernel_rfl) (by subst h; rfl)
      · replace h := h.t rfl
        obtain ⟨x45, hx46, h⟩ := h
        refine H_valW (g := 12) (args := [.pd (.str p0)]) (M := []) (.pd (.sl (x45.map elAI64LSZ))) (.inl (by kernel_rfl)) (by kernel_rfl) (f12_ok m _ hx46) (by kernel_rfl) (has07 12 (by kernel_rfl)) ?_
        refine H_ask _ _ (by kernel_rfl) (ask_len (P := Tryd.prog) (M := []) (t := 23) (et := 32) (el := elAI64LSZ) (by kernel_rfl) (e := x38)) ?_
        refine H_ask _ _ (by kernel_rfl) (ask_len (P := Tryd.prog) (M := []) (t := 28) (et := 33) (el := elAI64LSZ) (by kernel_rfl) (e := x45)) ?_
        refine H_split ((x38.length : Int) != (x45.length : Int)) (by kernel_rfl) (fun hc => ?_) (fun hc => ?_)
        · replace h := h.t hc; clear hc
          exact H_end .ret (.pd (.bool false)) (by kernel_rfl) rfl (by kernel_rfl) (by subst h; rfl)
        · replace h := h.f hc; clear hc
          refine H_split (x39 != (0 : Int)) (by kernel_rfl) (fun hc => ?_) (fun hc => ?_)
          · replace h := h.t hc; clear hc
            exact H_end .ret (.pd (.bool false)) (by kernel_rfl) rfl (by kernel_rfl) (by subst h; rfl)
          · replace h := h.f hc; clear hc
            refine H_ask _ _ (by kernel_rfl) (ask_len (P := Tryd.prog) (M := []) (t := 23) (et := 32) (el := elAI64LSZ) (by kernel_rfl) (e := x38)) ?_
            refine H_loopP (F := f3_L2 x38 x45 r) (s0 := (0 : Int)) h () 106 0
              (fun (s200 : Int) (() : Unit) => [(3, .pd (.sl (x38.map elAI64LSZ))), (5, .pd (.sl (x45.map elAI64LSZ))), (59, .pd (.int .i64 (x38.length : Int))), (60, .pd (.int .i64 s200))])
              (fun (s200 : Int) (() : Unit) => []) (fun (s200 : Int) (() : Unit) => True) trivial [] mixed07 (askG [9, 10, 11] false)
              (by kernel_rfl) (by kernel_rfl) (by kernel_rfl) (by kernel_rfl) (by kernel_rfl) (fun _ _ => rfl) ?_
            rintro X2 s200 ⟨⟩ - h
            dsimp only [f3_L2] at h
            refine H_split (decide (s200 < (x38.length : Int))) (by kernel_rfl) (fun hc => ?_) (fun hc => ?_)
            · replace h := h.t hc; clear hc
              refine H_draw (by kernel_rfl) ?_
              obtain ⟨x47, x48, hx49, h⟩ := h
              refine H_ask _ _ (by kernel_rfl) (ask_idx (P := Tryd.prog) (M := []) (t := 23) (et := 32) (k := .i64) (lv := lvAI64LSZ) okAI64LSZ leAI64LSZ (by kernel_rfl) (by kernel_rfl) hx49) ?_
              refine H_askK (.rd [.int .i64 x47, .sl (x48.map elS)]) ([]) (by kernel_rfl) ?_
              refine H_askK (.pd (.int .i64 x47)) ([]) (by kernel_rfl) ?_
              obtain ⟨x50, x51, hx52, h⟩ := h
              refine H_ask _ _ (by kernel_rfl) (ask_idx (P := Tryd.prog) (M := []) (t := 28) (et := 33) (k := .i64) (lv := lvAI64LSZ) okAI64LSZ leAI64LSZ (by kernel_rfl) (by kernel_rfl) hx52) ?_
              refine H_askK (.rd [.int .i64 x50, .sl (x51.map elS)]) ([]) (by kernel_rfl) ?_
              refine H_askK (.pd (.int .i64 x50)) ([]) (by kernel_rfl) ?_
              refine H_split (x47 != x50) (by kernel_rfl) (fun hc => ?_) (fun hc => ?_)
              · replace h := h.t hc; clear hc
                refine H_leaveP .ret (by kernel_rfl) rfl ?_
                exact H_end .ret (.pd (.bool false)) (by kernel_rfl) rfl (by kernel_rfl) (by subst h; rfl)
              · replace h := h.f hc; clear hc
                obtain ⟨x53, x54, hx55, h⟩ := h
                refine H_ask _ _ (by kernel_rfl) (ask_idx (P := Tryd.prog) (M := []) (t := 23) (et := 32) (k := .i64) (lv := lvAI64LSZ) okAI64LSZ leAI64LSZ (by kernel_rfl) (by kernel_rfl) hx55) ?_
                refine H_askK (.rd [.sl (x54.map elS)]) ([]) (by kernel_rfl) ?_
                refine H_askK (.pd (.sl (x54.map elS))) ([]) (by kernel_rfl) ?_
                obtain ⟨x56, hx57, h⟩ := h
                refine H_valW (g := 13) (args := [.pd (.sl (x54.map elS)), .pd (.str ([32] : List UInt8))]) (M := []) (.pd (.str x56)) (.inr (by kernel_rfl)) (by kernel_rfl) (f13_ok m _ _ hx57) (by kernel_rfl) (has07 13 (by kernel_rfl)) ?_
                obtain ⟨x58, x59, hx60, h⟩ := h
                refine H_ask _ _ (by kernel_rfl) (ask_idx (P := Tryd.prog) (M := []) (t := 28) (et := 33) (k := .i64) (lv := lvAI64LSZ) okAI64LSZ leAI64LSZ (by kernel_rfl) (by kernel_rfl) hx60) ?_
                refine H_askK (.rd [.sl (x59.map elS)]) ([]) (by kernel_rfl) ?_
                refine H_askK (.pd (.sl (x59.map elS))) ([]) (by kernel_rfl) ?_
                obtain ⟨x61, hx62, h⟩ := h
                refine H_valW (g := 13) (args := [.pd (.sl (x59.map elS)), .pd (.str ([32] : List UInt8))]) (M := []) (.pd (.str x61)) (.inr (by kernel_rfl)) (by kernel_rfl) (f13_ok m _ _ hx62) (by kernel_rfl) (has07 13 (by kernel_rfl)) ?_
                refine H_split (!(x56 == x61)) (by kernel_rfl) (fun hc => ?_) (fun hc => ?_)
                · replace h := h.t hc; clear hc
                  refine H_leaveP .ret (by kernel_rfl) rfl ?_
                  exact H_end .ret (.pd (.bool false)) (by kernel_rfl) rfl (by kernel_rfl) (by subst h; rfl)
                · replace h := h.f hc; clear hc
                  obtain ⟨x63, x64, hx65, h⟩ := h
                  refine H_ask _ _ (by kernel_rfl) (ask_idx (P := Tryd.prog) (M := []) (t := 23) (et := 32) (k := .i64) (lv := lvAI64LSZ) okAI64LSZ leAI64LSZ (by kernel_rfl) (by kernel_rfl) hx65) ?_
                  refine H_askK (.rd [.sl (x64.map elS)]) ([]) (by kernel_rfl) ?_
                  refine H_askK (.pd (.sl (x64.map elS))) ([]) (by kernel_rfl) ?_
                  refine H_ask _ _ (by kernel_rfl) (ask_len (P := Tryd.prog) (M := []) (t := 30) (et := 9) (el := elS) (by kernel_rfl) (e := x64)) ?_
                  obtain ⟨x66, x67, hx68, h⟩ := h
                  refine H_ask _ _ (by kernel_rfl) (ask_idx (P := Tryd.prog) (M := []) (t := 28) (et := 33) (k := .i64) (lv := lvAI64LSZ) okAI64LSZ leAI64LSZ (by kernel_rfl) (by kernel_rfl) hx68) ?_
                  refine H_askK (.rd [.sl (x67.map elS)]) ([]) (by kernel_rfl) ?_
                  refine H_askK (.pd (.sl (x67.map elS))) ([]) (by kernel_rfl) ?_
                  refine H_ask _ _ (by kernel_rfl) (ask_len (P := Tryd.prog) (M := []) (t := 30) (et := 9) (el := elS) (by kernel_rfl) (e := x67)) ?_
                  refine H_split ((x64.length : Int) != (x67.length : Int)) (by kernel_rfl) (fun hc => ?_) (fun hc => ?_)
                  · replace h := h.t hc; clear hc
                    refine H_leaveP .ret (by kernel_rfl) rfl ?_
                    exact H_end .ret (.pd (.bool false)) (by kernel_rfl) rfl (by kernel_rfl) (by subst h; rfl)
                  · replace h := h.f hc; clear hc
                    exact H_againP (st := _) (IntKind.i64.wrap (s200 + 1)) () h trivial (by kernel_rfl) (by kernel_rfl) (by kernel_rfl) (by kernel_rfl) (by kernel_rfl)
            · replace h := h.f hc; clear hc
              refine H_leaveP (.exit 0) (by kernel_rfl) rfl ?_
              obtain ⟨x69, hx70, h⟩ := h
              refine H_valW (g := 9) (args := []) (M := []) (.pd (.bool x69)) (.inl (by kernel_rfl)) (by kernel_rfl) (f9_ok m  hx70) (by kernel_rfl) (has07 9 (by kernel_rfl)) ?_
              cases x69
              · replace h := h.f rfl
                exact H_end .ret (.pd (.bool false)) (by kernel_rfl) rfl (by kernel_rfl) (by subst h; rfl)
              · replace h := h.t rfl
                exact H_end .ret (.pd (.bool true)) (by kernel_rfl) rfl (by kernel_rfl) (by subst h; rfl)

end Go.Abs
