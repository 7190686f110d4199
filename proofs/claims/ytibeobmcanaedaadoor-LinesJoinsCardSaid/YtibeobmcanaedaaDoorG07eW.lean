/- Printed by gen.py: the functions do what these conditions say. -/
import Derived.Test.YtibeobmcanaedaaDoorAbs28
import Derived.Test.YtibeobmcanaedaaDoorG07eD
import Derived.Test.YtibeobmcanaedaaDoorG07aW
import Derived.Test.YtibeobmcanaedaaDoorB07l
namespace Go.Abs
open Go.Proofs
set_option maxHeartbeats 4000000
set_option maxRecDepth 20000
set_option linter.unusedVariables false
set_option linter.unusedSimpArgs false
set_option linter.unnecessarySimpa false


theorem f7_ok (m : Int) (p0 : List (List UInt8)) (p1 : List UInt8) {r : Bool} (h : f7 p0 p1 r) : ASpec Tryd.prog (gt07 m) 7 [.pd (.sl (p0.map elS)), .pd (.str p1)] (· = .pd (.bool r)) := by
  refine ASpec_tree Tryd.f7 mixed07 (askG [9, 10, 11] false) (by kernel_rfl) ?_
  unfold f7 at h
  refine H_ask _ _ (by kernel_rfl) (ask_len (P := Tryd.prog) (M := []) (t := 30) (et := 9) (el := elS) (by kernel_rfl) (e := p0)) ?_
  refine H_split (decide ((p0.length : Int) > (50 : Int))) (by kernel_rfl) (fun hc => ?_) (fun hc => ?_)
  · replace h := h.t hc; clear hc
    obtain ⟨x1, hx2, h⟩ := h
    refine H_valW (g := 9) (args := []) (M := []) (.pd (.bool x1)) (.inl (by kernel_rfl)) (by kernel_rfl) (f9_ok m  hx2) (by kernel_rfl) (has07 9 (by kernel_rfl)) ?_
    cases x1
    · replace h := h.f rfl
      exact H_end .ret (.pd (.bool false)) (by kernel_rfl) rfl (by kernel_rfl) (by subst h; rfl)
    · replace h := h.t rfl
      exact H_end .ret (.pd (.bool true)) (by kernel_rfl) rfl (by kernel_rfl) (by subst h; rfl)
  · replace h := h.f hc; clear hc
    refine H_askK (.pd (.int .i64 (p1.length : Int))) ([]) (by kernel_rfl) ?_
    refine H_split (decide ((p1.length : Int) > (40 : Int))) (by kernel_rfl) (fun hc => ?_) (fun hc => ?_)
    · replace h := h.t hc; clear hc
      obtain ⟨x3, hx4, h⟩ := h
      refine H_valW (g := 9) (args := []) (M := []) (.pd (.bool x3)) (.inl (by kernel_rfl)) (by kernel_rfl) (f9_ok m  hx4) (by kernel_rfl) (has07 9 (by kernel_rfl)) ?_
      cases x3
      · replace h := h.f rfl
        exact H_end .ret (.pd (.bool false)) (by kernel_rfl) rfl (by kernel_rfl) (by subst h; rfl)
      · replace h := h.t rfl
        exact H_end .ret (.pd (.bool true)) (by kernel_rfl) rfl (by kernel_rfl) (by subst h; rfl)
    · replace h := h.f hc; clear hc
      refine H_ask _ _ (by kernel_rfl) (ask_len (P := Tryd.prog) (M := []) (t := 30) (et := 9) (el := elS) (by kernel_rfl) (e := p0)) ?_
      refine H_loopP (F := f7_L1 p0 p1 r) (s0 := (0 : Int)) h () 105 0
        (fun (s100 : Int) (() : Unit) => [(0, .pd (.sl (p0.map elS))), (1, .pd (.str p1)), (20, .pd (.sl (p0.map elS))), (21, .pd (.int .i64 (p0.length : Int))), (22, .pd (.int .i64 s100))])
        (fun (s100 : Int) (() : Unit) => []) (fun (s100 : Int) (() : Unit) => True) trivial [] mixed07 (askG [9, 10, 11] false)
        (by kernel_rfl) (by kernel_rfl) (by kernel_rfl) (by kernel_rfl) (by kernel_rfl) (fun _ _ => rfl) ?_
      rintro X1 s100 ⟨⟩ - h
      dsimp only [f7_L1] at h
      refine H_split (decide (s100 < (p0.length : Int))) (by kernel_rfl) (fun hc => ?_) (fun hc => ?_)
      · replace h := h.t hc; clear hc
        obtain ⟨x5, hx6, h⟩ := h
        refine H_ask _ _ (by kernel_rfl) (ask_idx (P := Tryd.prog) (M := []) (t := 30) (et := 9) (k := .i64) (lv := lvS) okS leS (by kernel_rfl) (by kernel_rfl) hx6) ?_
        refine H_askK (.pd (.str x5)) ([]) (by kernel_rfl) ?_
        refine H_askK (.pd (.int .i64 (x5.length : Int))) ([]) (by kernel_rfl) ?_
        refine H_split (decide ((x5.length : Int) > (40 : Int))) (by kernel_rfl) (fun hc => ?_) (fun hc => ?_)
        · replace h := h.t hc; clear hc
          obtain ⟨x7, hx8, h⟩ := h
          refine H_valW (g := 9) (args := []) (M := []) (.pd (.bool x7)) (.inl (by kernel_rfl)) (by kernel_rfl) (f9_ok m  hx8) (by kernel_rfl) (has07 9 (by kernel_rfl)) ?_
          cases x7
          · replace h := h.f rfl
            refine H_leaveP .ret (by kernel_rfl) rfl ?_
            exact H_end .ret (.pd (.bool false)) (by kernel_rfl) rfl (by kernel_rfl) (by subst h; rfl)
          · replace h := h.t rfl
            refine H_leaveP .ret (by kernel_rfl) rfl ?_
            exact H_end .ret (.pd (.bool true)) (by kernel_rfl) rfl (by kernel_rfl) (by subst h; rfl)
        · replace h := h.f hc; clear hc
          refine H_split (x5 == ([] : List UInt8)) (by kernel_rfl) (fun hc => ?_) (fun hc => ?_)
          · replace h := h.t hc; clear hc
            obtain ⟨x9, hx10, h⟩ := h
            refine H_valW (g := 9) (args := []) (M := []) (.pd (.bool x9)) (.inl (by kernel_rfl)) (by kernel_rfl) (f9_ok m  hx10) (by kernel_rfl) (has07 9 (by kernel_rfl)) ?_
            cases x9
            · replace h := h.f rfl
              refine H_leaveP .ret (by kernel_rfl) rfl ?_
              exact H_end .ret (.pd (.bool false)) (by kernel_rfl) rfl (by kernel_rfl) (by subst h; rfl)
            · replace h := h.t rfl
              refine H_leaveP .ret (by kernel_rfl) rfl ?_
              exact H_end .ret (.pd (.bool true)) (by kernel_rfl) rfl (by kernel_rfl) (by subst h; rfl)
          · replace h := h.f hc; clear hc
            obtain ⟨x11, hx12, h⟩ := h
            refine H_valW (g := 22) (args := [.pd (.str x5), .pd (.str ([32, 35, 10] : List UInt8))]) (M := []) (.pd (.bool x11)) (.inl (by kernel_rfl)) (by kernel_rfl) (f22a_ok m _ _ hx12) (by kernel_rfl) (has07 22 (by kernel_rfl)) ?_
            cases x11
            · replace h := h.f rfl
              obtain ⟨x15, hx16, h⟩ := h
              refine H_valW (g := 11) (args := [.pd (.str x5)]) (M := []) (.pd (.bool x15)) (.inl (by kernel_rfl)) (by kernel_rfl) (f11_ok m _ hx16) (by kernel_rfl) (has07 11 (by kernel_rfl)) ?_
              cases x15
              · replace h := h.f rfl
                obtain ⟨x17, hx18, h⟩ := h
                refine H_valW (g := 9) (args := []) (M := []) (.pd (.bool x17)) (.inl (by kernel_rfl)) (by kernel_rfl) (f9_ok m  hx18) (by kernel_rfl) (has07 9 (by kernel_rfl)) ?_
                cases x17
                · replace h := h.f rfl
                  refine H_leaveP .ret (by kernel_rfl) rfl ?_
                  exact H_end .ret (.pd (.bool false)) (by kernel_rfl) rfl (by kernel_rfl) (by subst h; rfl)
                · replace h := h.t rfl
                  refine H_leaveP .ret (by kernel_rfl) rfl ?_
                  exact H_end .ret (.pd (.bool true)) (by kernel_rfl) rfl (by kernel_rfl) (by subst h; rfl)
              · replace h := h.t rfl
                exact H_againP (st := _) (IntKind.i64.wrap (s100 + 1)) () h trivial (by kernel_rfl) (by kernel_rfl) (by kernel_rfl) (by kernel_rfl) (by kernel_rfl)
            · replace h := h.t rfl
              obtain ⟨x13, hx14, h⟩ := h
              refine H_valW (g := 9) (args := []) (M := []) (.pd (.bool x13)) (.inl (by kernel_rfl)) (by kernel_rfl) (f9_ok m  hx14) (by kernel_rfl) (has07 9 (by kernel_rfl)) ?_
              cases x13
              · replace h := h.f rfl
                refine H_leaveP .ret (by kernel_rfl) rfl ?_
                exact H_end .ret (.pd (.bool false)) (by kernel_rfl) rfl (by kernel_rfl) (by subst h; rfl)
              · replace h := h.t rfl
                refine H_leaveP .ret (by kernel_rfl) rfl ?_
                exact H_end .ret (.pd (.bool true)) (by kernel_rfl) rfl (by kernel_rfl) (by subst h; rfl)
      · replace h := h.f hc; clear hc
        refine H_leaveP (.exit 0) (by kernel_rfl) rfl ?_
        refine H_ask _ _ (by kernel_rfl) (ask_len (P := Tryd.prog) (M := []) (t := 30) (et := 9) (el := elS) (by kernel_rfl) (e := p0)) ?_
        refine H_loopP (F := f7_L2 p0 p1 r) (s0 := ((-1 : Int), (IntKind.i64.wrap ((p0.length : Int) - 1)))) h () 105 0
          (fun ((s200, s201) : Int × Int) (() : Unit) => [(0, .pd (.sl (p0.map elS))), (1, .pd (.str p1)), (7, .pd (.int .i64 s200)), (8, .pd (.int .i64 s201))])
          (fun ((s200, s201) : Int × Int) (() : Unit) => []) (fun ((s200, s201) : Int × Int) (() : Unit) => True) trivial [] mixed07 (askG [9, 10, 11] false)
          (by kernel_rfl) (by kernel_rfl) (by kernel_rfl) (by kernel_rfl) (by kernel_rfl) (fun _ _ => rfl) ?_
        rintro X2 ⟨s200, s201⟩ ⟨⟩ - h
        dsimp only [f7_L2] at h
        refine H_split (decide (s201 ≥ (0 : Int))) (by kernel_rfl) (fun hc => ?_) (fun hc => ?_)
        · replace h := h.t hc; clear hc
          obtain ⟨x19, hx20, h⟩ := h
          refine H_ask _ _ (by kernel_rfl) (ask_idx (P := Tryd.prog) (M := []) (t := 30) (et := 9) (k := .i64) (lv := lvS) okS leS (by kernel_rfl) (by kernel_rfl) hx20) ?_
          refine H_askK (.pd (.str x19)) ([]) (by kernel_rfl) ?_
          refine H_split (x19 == p1) (by kernel_rfl) (fun hc => ?_) (fun hc => ?_)
          · replace h := h.t hc; clear hc
            exact H_againP (st := _) (s201, (IntKind.i64.wrap (s201 - 1))) () h trivial (by kernel_rfl) (by kernel_rfl) (by kernel_rfl) (by kernel_rfl) (by kernel_rfl)
          · replace h := h.f hc; clear hc
            exact H_againP (st := _) (s200, (IntKind.i64.wrap (s201 - 1))) () h trivial (by kernel_rfl) (by kernel_rfl) (by kernel_rfl) (by kernel_rfl) (by kernel_rfl)
        · replace h := h.f hc; clear hc
          refine H_leaveP (.exit 2) (by kernel_rfl) rfl ?_
          obtain ⟨x21, hx22, h⟩ := h
          refine H_valW (g := 23) (args := [.pd (.sl (p0.map elS))]) (M := []) (.pd (.str x21)) (.inl (by kernel_rfl)) (by kernel_rfl) (f23_ok m _ hx22) (by kernel_rfl) (has07 23 (by kernel_rfl)) ?_
          obtain ⟨x23, x24, hx25, h⟩ := h
          refine H_valW (g := 10) (args := [.pd (.str x21)]) (M := []) (.tup [.pd (.sl (x23.map elAI64LSZ)), .pd (.int .i64 x24)]) (.inl (by kernel_rfl)) (by kernel_rfl) (f10_ok m _ hx25) (by kernel_rfl) (has07 10 (by kernel_rfl)) ?_
          obtain ⟨x26, hx27, h⟩ := h
          refine H_valW (g := 24) (args := [.pd (.sl (p0.map elS)), .pd (.str p1)]) (M := []) (.pd (.int .i64 x26)) (.inl (by kernel_rfl)) (by kernel_rfl) (f24_ok m _ _ hx27) (by kernel_rfl) (has07 24 (by kernel_rfl)) ?_
          refine H_split (x26 != s200) (by kernel_rfl) (fun hc => ?_) (fun hc => ?_)
          · replace h := h.t hc; clear hc
            exact H_end .ret (.pd (.bool false)) (by kernel_rfl) rfl (by kernel_rfl) (by subst h; rfl)
          · replace h := h.f hc; clear hc
            refine H_split (x24 != (0 : Int)) (by kernel_rfl) (fun hc => ?_) (fun hc => ?_)
            · replace h := h.t hc; clear hc
              exact H_end .ret (.pd (.bool false)) (by kernel_rfl) rfl (by kernel_rfl) (by subst h; rfl)
            · replace h := h.f hc; clear hc
              refine H_ask _ _ (by kernel_rfl) (ask_len (P := Tryd.prog) (M := []) (t := 30) (et := 9) (el := elS) (by kernel_rfl) (e := p0)) ?_
              refine H_split ((p0.length : Int) == (0 : Int)) (by kernel_rfl) (fun hc => ?_) (fun hc => ?_)
              · replace h := h.t hc; clear hc
                refine H_ask _ _ (by kernel_rfl) (ask_len (P := Tryd.prog) (M := []) (t := 23) (et := 32) (el := elAI64LSZ) (by kernel_rfl) (e := x23)) ?_
                refine H_split ((x23.length : Int) == (0 : Int)) (by kernel_rfl) (fun hc => ?_) (fun hc => ?_)
                · replace h := h.t hc; clear hc
                  obtain ⟨x28, hx29, h⟩ := h
                  refine H_valW (g := 9) (args := []) (M := []) (.pd (.bool x28)) (.inl (by kernel_rfl)) (by kernel_rfl) (f9_ok m  hx29) (by kernel_rfl) (has07 9 (by kernel_rfl)) ?_
                  cases x28
                  · replace h := h.f rfl
                    exact H_end .ret (.pd (.bool false)) (by kernel_rfl) rfl (by kernel_rfl) (by subst h; rfl)
                  · replace h := h.t rfl
                    exact H_end .ret (.pd (.bool true)) (by kernel_rfl) rfl (by kernel_rfl) (by subst h; rfl)
                · replace h := h.f hc; clear hc
                  exact H_end .ret (.pd (.bool false)) (by kernel_rfl) rfl (by kernel_rfl) (by subst h; rfl)
              · replace h := h.f hc; clear hc
                refine H_ask _ _ (by kernel_rfl) (ask_len (P := Tryd.prog) (M := []) (t := 23) (et := 32) (el := elAI64LSZ) (by kernel_rfl) (e := x23)) ?_
                refine H_split ((x23.length : Int) == (1 : Int)) (by kernel_rfl) (fun hc => ?_) (fun hc => ?_)
                · replace h := h.t hc; clear hc
                  obtain ⟨x30, x31, hx32, h⟩ := h
                  refine H_ask _ _ (by kernel_rfl) (ask_idx (P := Tryd.prog) (M := []) (t := 23) (et := 32) (k := .i64) (lv := lvAI64LSZ) okAI64LSZ leAI64LSZ (by kernel_rfl) (by kernel_rfl) hx32) ?_
                  refine H_askK (.rd [.int .i64 x30, .sl (x31.map elS)]) ([]) (by kernel_rfl) ?_
                  refine H_askK (.pd (.int .i64 x30)) ([]) (by kernel_rfl) ?_
                  refine H_split (x30 == (1 : Int)) (by kernel_rfl) (fun hc => ?_) (fun hc => ?_)
                  · replace h := h.t hc; clear hc
                    obtain ⟨x33, x34, hx35, h⟩ := h
                    refine H_ask _ _ (by kernel_rfl) (ask_idx (P := Tryd.prog) (M := []) (t := 23) (et := 32) (k := .i64) (lv := lvAI64LSZ) okAI64LSZ leAI64LSZ (by kernel_rfl) (by kernel_rfl) hx35) ?_
                    refine H_askK (.rd [.sl (x34.map elS)]) ([]) (by kernel_rfl) ?_
                    refine H_askK (.pd (.sl (x34.map elS))) ([]) (by kernel_rfl) ?_
                    obtain ⟨x36, hx37, h⟩ := h
                    refine H_valW (g := 13) (args := [.pd (.sl (x34.map elS)), .pd (.str ([32] : List UInt8))]) (M := []) (.pd (.str x36)) (.inl (by kernel_rfl)) (by kernel_rfl) (f13_ok m _ _ hx37) (by kernel_rfl) (has07 13 (by kernel_rfl)) ?_
                    obtain ⟨x38, hx39, h⟩ := h
                    refine H_valW (g := 13) (args := [.pd (.sl (p0.map elS)), .pd (.str ([32] : List UInt8))]) (M := []) (.pd (.str x38)) (.inl (by kernel_rfl)) (by kernel_rfl) (f13_ok m _ _ hx39) (by kernel_rfl) (has07 13 (by kernel_rfl)) ?_
                    refine H_split (x36 == x38) (by kernel_rfl) (fun hc => ?_) (fun hc => ?_)
                    · replace h := h.t hc; clear hc
                      obtain ⟨x40, hx41, h⟩ := h
                      refine H_valW (g := 9) (args := []) (M := []) (.pd (.bool x40)) (.inl (by kernel_rfl)) (by kernel_rfl) (f9_ok m  hx41) (by kernel_rfl) (has07 9 (by kernel_rfl)) ?_
                      cases x40
                      · replace h := h.f rfl
                        exact H_end .ret (.pd (.bool false)) (by kernel_rfl) rfl (by kernel_rfl) (by subst h; rfl)
                      · replace h := h.t rfl
                        exact H_end .ret (.pd (.bool true)) (by kernel_rfl) rfl (by kernel_rfl) (by subst h; rfl)
                    · replace h := h.f hc; clear hc
                      exact H_end .ret (.pd (.bool false)) (by kernel_rfl) rfl (by kernel_rfl) (by subst h; rfl)
                  · replace h := h.f hc; clear hc
                    exact H_end .ret (.pd (.bool false)) (by kernel_rfl) rfl (by kernel_rfl) (by subst h; rfl)
                · replace h := h.f hc; clear hc
                  exact H_end .ret (.pd (.bool false)) (by kernel_rfl) rfl (by kernel_rfl) (by subst h; rfl)

end Go.Abs
