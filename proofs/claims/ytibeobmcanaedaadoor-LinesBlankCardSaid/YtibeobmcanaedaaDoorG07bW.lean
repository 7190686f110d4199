/- Printed by gen.py: the functions do what these conditions say. -/
import Derived.Test.YtibeobmcanaedaaDoorAbs28
import Derived.Test.YtibeobmcanaedaaDoorG07bD
import Derived.Test.YtibeobmcanaedaaDoorG07aW
import Derived.Test.YtibeobmcanaedaaDoorB07f
namespace Go.Abs
open Go.Proofs
set_option maxRecDepth 20000
set_option linter.unusedVariables false
set_option linter.unusedSimpArgs false
set_option linter.unnecessarySimpa false


theorem f8_ok (m : Int) (p0 : List UInt8) (p1 : Int) (p2 : List UInt8) {r : Bool} (h : f8 p0 p1 p2 r) : ASpec Tryd.prog (gt07 m) 8 [.pd (.str p0), .pd (.int .u8 p1), .pd (.str p2)] (· = .pd (.bool r)) := by
  refine ASpec_tree Tryd.f8 mixed07 (askG [9, 10, 11] false) (by kernel_rfl) ?_
  unfold f8 at h
  refine H_askK (.pd (.int .i64 (p0.length : Int))) ([]) (by kernel_rfl) ?_
  refine H_split (decide ((p0.length : Int) > (500 : Int))) (by kernel_rfl) (fun hc => ?_) (fun hc => ?_)
  · replace h := h.t hc; clear hc
    obtain ⟨x1, hx2, h⟩ := h
    refine H_valW (g := 9) (args := []) (M := []) (.pd (.bool x1)) (.inl (by kernel_rfl)) (by kernel_rfl) (f9_ok m  hx2) (by kernel_rfl) (has07 9 (by kernel_rfl)) ?_
    cases x1
    · replace h := h.f rfl
      exact H_end .ret (.pd (.bool false)) (by kernel_rfl) rfl (by kernel_rfl) (by subst h; rfl)
    · replace h := h.t rfl
      exact H_end .ret (.pd (.bool true)) (by kernel_rfl) rfl (by kernel_rfl) (by subst h; rfl)
  · replace h := h.f hc; clear hc
    refine H_askK (.pd (.int .i64 (p2.length : Int))) ([]) (by kernel_rfl) ?_
    refine H_split (decide ((p2.length : Int) > (100 : Int))) (by kernel_rfl) (fun hc => ?_) (fun hc => ?_)
    · replace h := h.t hc; clear hc
      obtain ⟨x3, hx4, h⟩ := h
      refine H_valW (g := 9) (args := []) (M := []) (.pd (.bool x3)) (.inl (by kernel_rfl)) (by kernel_rfl) (f9_ok m  hx4) (by kernel_rfl) (has07 9 (by kernel_rfl)) ?_
      cases x3
      · replace h := h.f rfl
        exact H_end .ret (.pd (.bool false)) (by kernel_rfl) rfl (by kernel_rfl) (by subst h; rfl)
      · replace h := h.t rfl
        exact H_end .ret (.pd (.bool true)) (by kernel_rfl) rfl (by kernel_rfl) (by subst h; rfl)
    · replace h := h.f hc; clear hc
      obtain ⟨hx5, h⟩ := h
      refine H_ask _ _ (by kernel_rfl) (ask_cat (P := Tryd.prog) (M := []) (t := 9) hx5) ?_
      obtain ⟨x6, hx7, h⟩ := h
      refine H_valW (g := 11) (args := [.pd (.str (p0 ++ p2))]) (M := []) (.pd (.bool x6)) (.inl (by kernel_rfl)) (by kernel_rfl) (f11_ok m _ hx7) (by kernel_rfl) (has07 11 (by kernel_rfl)) ?_
      cases x6
      · replace h := h.f rfl
        obtain ⟨x39, hx40, h⟩ := h
        refine H_valW (g := 9) (args := []) (M := []) (.pd (.bool x39)) (.inl (by kernel_rfl)) (by kernel_rfl) (f9_ok m  hx40) (by kernel_rfl) (has07 9 (by kernel_rfl)) ?_
        cases x39
        · replace h := h.f rfl
          exact H_end .ret (.pd (.bool false)) (by kernel_rfl) rfl (by kernel_rfl) (by subst h; rfl)
        · replace h := h.t rfl
          exact H_end .ret (.pd (.bool true)) (by kernel_rfl) rfl (by kernel_rfl) (by subst h; rfl)
      · replace h := h.t rfl
        obtain ⟨hx8, h⟩ := h
        refine H_ask _ _ (by kernel_rfl) (ask_cat (P := Tryd.prog) (M := []) (t := 9) hx8) ?_
        obtain ⟨x9, hx10, h⟩ := h
        refine H_valW (g := 22) (args := [.pd (.str (p0 ++ p2)), .pd (.str ([10, 35] : List UInt8))]) (M := []) (.pd (.bool x9)) (.inl (by kernel_rfl)) (by kernel_rfl) (f22_ok m _ _ hx10) (by kernel_rfl) (has07 22 (by kernel_rfl)) ?_
        cases x9
        · replace h := h.f rfl
          refine H_ask _ _ (by kernel_rfl) (ask_remK (P := Tryd.prog) (M := []) (t := 3) (k := .i64) (a := (IntKind.i64.wrap p1)) (b := (20 : Int)) (by decide)) ?_
          obtain ⟨x13, hx14, h⟩ := h
          refine H_valW (g := 25) (args := [.pd (.str ([32] : List UInt8)), .pd (.int .i64 (Int.tmod (IntKind.i64.wrap p1) (20 : Int)))]) (M := []) (.pd (.str x13)) (.inl (by kernel_rfl)) (by kernel_rfl) (f25_ok m _ _ hx14) (by kernel_rfl) (has07 25 (by kernel_rfl)) ?_
          obtain ⟨x15, x16, hx17, h⟩ := h
          refine H_valW (g := 10) (args := [.pd (.str p0)]) (M := []) (.tup [.pd (.sl (x15.map elAI64LSZ)), .pd (.int .i64 x16)]) (.inl (by kernel_rfl)) (by kernel_rfl) (f10_ok m _ hx17) (by kernel_rfl) (has07 10 (by kernel_rfl)) ?_
          obtain ⟨hx18, h⟩ := h
          refine H_ask _ _ (by kernel_rfl) (ask_cat (P := Tryd.prog) (M := []) (t := 9) hx18) ?_
          obtain ⟨hx19, h⟩ := h
          refine H_ask _ _ (by kernel_rfl) (ask_cat (P := Tryd.prog) (M := []) (t := 9) hx19) ?_
          obtain ⟨hx20, h⟩ := h
          refine H_ask _ _ (by kernel_rfl) (ask_cat (P := Tryd.prog) (M := []) (t := 9) hx20) ?_
          obtain ⟨hx21, h⟩ := h
          refine H_ask _ _ (by kernel_rfl) (ask_cat (P := Tryd.prog) (M := []) (t := 9) hx21) ?_
          obtain ⟨x22, x23, hx24, h⟩ := h
          refine H_valW (g := 10) (args := [.pd (.str ((((x13 ++ p0) ++ x13) ++ ([32, 35] : List UInt8)) ++ p2))]) (M := []) (.tup [.pd (.sl (x22.map elAI64LSZ)), .pd (.int .i64 x23)]) (.inl (by kernel_rfl)) (by kernel_rfl) (f10_ok m _ hx24) (by kernel_rfl) (has07 10 (by kernel_rfl)) ?_
          refine H_split (x16 != (0 : Int)) (by kernel_rfl) (fun hc => ?_) (fun hc => ?_)
          · replace h := h.t hc; clear hc
            exact H_end .ret (.pd (.bool false)) (by kernel_rfl) rfl (by kernel_rfl) (by subst h; rfl)
          · replace h := h.f hc; clear hc
            refine H_split (x23 != (0 : Int)) (by kernel_rfl) (fun hc => ?_) (fun hc => ?_)
            · replace h := h.t hc; clear hc
              exact H_end .ret (.pd (.bool false)) (by kernel_rfl) rfl (by kernel_rfl) (by subst h; rfl)
            · replace h := h.f hc; clear hc
              refine H_ask _ _ (by kernel_rfl) (ask_len (P := Tryd.prog) (M := []) (t := 23) (et := 32) (el := elAI64LSZ) (by kernel_rfl) (e := x15)) ?_
              refine H_ask _ _ (by kernel_rfl) (ask_len (P := Tryd.prog) (M := []) (t := 23) (et := 32) (el := elAI64LSZ) (by kernel_rfl) (e := x22)) ?_
              refine H_split ((x15.length : Int) != (x22.length : Int)) (by kernel_rfl) (fun hc => ?_) (fun hc => ?_)
              · replace h := h.t hc; clear hc
                exact H_end .ret (.pd (.bool false)) (by kernel_rfl) rfl (by kernel_rfl) (by subst h; rfl)
              · replace h := h.f hc; clear hc
                refine H_ask _ _ (by kernel_rfl) (ask_len (P := Tryd.prog) (M := []) (t := 23) (et := 32) (el := elAI64LSZ) (by kernel_rfl) (e := x15)) ?_
                refine H_split (decide ((x15.length : Int) > (1 : Int))) (by kernel_rfl) (fun hc => ?_) (fun hc => ?_)
                · replace h := h.t hc; clear hc
                  exact H_end .ret (.pd (.bool false)) (by kernel_rfl) rfl (by kernel_rfl) (by subst h; rfl)
                · replace h := h.f hc; clear hc
                  refine H_draw (by kernel_rfl) ?_
                  refine H_ask _ _ (by kernel_rfl) (ask_len (P := Tryd.prog) (M := []) (t := 23) (et := 32) (el := elAI64LSZ) (by kernel_rfl) (e := x15)) ?_
                  refine H_split ((x15.length : Int) == (0 : Int)) (by kernel_rfl) (fun hc => ?_) (fun hc => ?_)
                  · replace h := h.t hc; clear hc
                    obtain ⟨x25, hx26, h⟩ := h
                    refine H_valW (g := 9) (args := []) (M := []) (.pd (.bool x25)) (.inr (by kernel_rfl)) (by kernel_rfl) (f9_ok m  hx26) (by kernel_rfl) (has07 9 (by kernel_rfl)) ?_
                    cases x25
                    · replace h := h.f rfl
                      exact H_end .ret (.pd (.bool false)) (by kernel_rfl) rfl (by kernel_rfl) (by subst h; rfl)
                    · replace h := h.t rfl
                      exact H_end .ret (.pd (.bool true)) (by kernel_rfl) rfl (by kernel_rfl) (by subst h; rfl)
                  · replace h := h.f hc; clear hc
                    obtain ⟨x27, x28, hx29, h⟩ := h
                    refine H_ask _ _ (by kernel_rfl) (ask_idx (P := Tryd.prog) (M := []) (t := 23) (et := 32) (k := .i64) (lv := lvAI64LSZ) okAI64LSZ leAI64LSZ (by kernel_rfl) (by kernel_rfl) hx29) ?_
                    refine H_askK (.rd [.sl (x28.map elS)]) ([]) (by kernel_rfl) ?_
                    refine H_askK (.pd (.sl (x28.map elS))) ([]) (by kernel_rfl) ?_
                    obtain ⟨x30, hx31, h⟩ := h
                    refine H_valW (g := 13) (args := [.pd (.sl (x28.map elS)), .pd (.str ([32] : List UInt8))]) (M := []) (.pd (.str x30)) (.inr (by kernel_rfl)) (by kernel_rfl) (f13_ok m _ _ hx31) (by kernel_rfl) (has07 13 (by kernel_rfl)) ?_
                    obtain ⟨x32, x33, hx34, h⟩ := h
                    refine H_ask _ _ (by kernel_rfl) (ask_idx (P := Tryd.prog) (M := []) (t := 23) (et := 32) (k := .i64) (lv := lvAI64LSZ) okAI64LSZ leAI64LSZ (by kernel_rfl) (by kernel_rfl) hx34) ?_
                    refine H_askK (.rd [.sl (x33.map elS)]) ([]) (by kernel_rfl) ?_
                    refine H_askK (.pd (.sl (x33.map elS))) ([]) (by kernel_rfl) ?_
                    obtain ⟨x35, hx36, h⟩ := h
                    refine H_valW (g := 13) (args := [.pd (.sl (x33.map elS)), .pd (.str ([32] : List UInt8))]) (M := []) (.pd (.str x35)) (.inr (by kernel_rfl)) (by kernel_rfl) (f13_ok m _ _ hx36) (by kernel_rfl) (has07 13 (by kernel_rfl)) ?_
                    refine H_split (x30 == x35) (by kernel_rfl) (fun hc => ?_) (fun hc => ?_)
                    · replace h := h.t hc; clear hc
                      obtain ⟨x37, hx38, h⟩ := h
                      refine H_valW (g := 9) (args := []) (M := []) (.pd (.bool x37)) (.inr (by kernel_rfl)) (by kernel_rfl) (f9_ok m  hx38) (by kernel_rfl) (has07 9 (by kernel_rfl)) ?_
                      cases x37
                      · replace h := h.f rfl
                        exact H_end .ret (.pd (.bool false)) (by kernel_rfl) rfl (by kernel_rfl) (by subst h; rfl)
                      · replace h := h.t rfl
                        exact H_end .ret (.pd (.bool true)) (by kernel_rfl) rfl (by kernel_rfl) (by subst h; rfl)
                    · replace h := h.f hc; clear hc
                      exact H_end .ret (.pd (.bool false)) (by kernel_rfl) rfl (by kernel_rfl) (by subst h; rfl)
        · replace h := h.t rfl
          obtain ⟨x11, hx12, h⟩ := h
          refine H_valW (g := 9) (args := []) (M := []) (.pd (.bool x11)) (.inl (by kernel_rfl)) (by kernel_rfl) (f9_ok m  hx12) (by kernel_rfl) (has07 9 (by kernel_rfl)) ?_
          cases x11
          · replace h := h.f rfl
            exact H_end .ret (.pd (.bool false)) (by kernel_rfl) rfl (by kernel_rfl) (by subst h; rfl)
          · replace h := h.t rfl
            exact H_end .ret (.pd (.bool true)) (by kernel_rfl) rfl (by kernel_rfl) (by subst h; rfl)

end Go.Abs
