/- Printed by gen.py: the functions do what these conditions say. -/
import Derived.Test.YtdbfgnpobfbfmaaDoorAbs30
import Derived.Test.YtdbfgnpobfbfmaaDoorD07n
import Derived.Test.YtdbfgnpobfbfmaaDoorGStrW
import Derived.Test.YtdbfgnpobfbfmaaDoorM07nw
namespace Go.Abs
open Go.Proofs
set_option maxRecDepth 20000
set_option linter.unusedVariables false
set_option linter.unusedSimpArgs false
set_option linter.unnecessarySimpa false


theorem lines_Number_ok (m : Tp) (p0 : List UInt8) {r : Bool × (List Int) × (List Int) × Bool} (h : lines_Number p0 r) : ASpec Tryd.prog (gtT m) 5 [.pd (.str p0)] (· = .tup [.agg [.pd (.bool r.1), .pd (.sl (r.2.1.map elU32)), .pd (.sl (r.2.2.1.map elU32))], .pd (.bool r.2.2.2)]) := by
  refine ASpec_tree Tryd.f5 mixedT (askG [9, 10, 11] false) (by kernel_rfl) ?_
  unfold lines_Number at h
  obtain ⟨x1, x2, x3, x4, hx5, h⟩ := h
  refine H_valW (g := 6) (args := [.pd (.str p0)]) (M := [.cells [.pd (.bool false), .fixed (([] : List Int).map elU32), .fixed (([] : List Int).map elU32)] 1 0 false]) (.tup [.agg [.pd (.bool x1), .pd (.sl (x2.map elU32)), .pd (.sl (x3.map elU32))], .pd (.int .i64 x4)]) (.inl (by kernel_rfl)) (by kernel_rfl) (rat_Parse_ok m _ hx5) (by kernel_rfl) (hasT 6 (by kernel_rfl)) ?_
  refine H_askK (.junk) ([.cells [.pd (.bool false), .fixed (([] : List Int).map elU32), .fixed (([] : List Int).map elU32)] 1 0 false, .cells [.pd (.bool x1), .pd (.sl (x2.map elU32)), .pd (.sl (x3.map elU32))] 1 0 false]) (by kernel_rfl) ?_
  refine H_split (x4 != (0 : Int)) (by kernel_rfl) (fun hc => ?_) (fun hc => ?_)
  · replace h := h.t hc; clear hc
    obtain ⟨x6, x7, x8, hx9, h⟩ := h
    refine H_valW (g := 14) (args := [.pd (.int .i64 0)]) (M := [.cells [.pd (.bool false), .fixed (([] : List Int).map elU32), .fixed (([] : List Int).map elU32)] 1 0 false, .cells [.pd (.bool x1), .pd (.sl (x2.map elU32)), .pd (.sl (x3.map elU32))] 1 0 false]) (.agg [.pd (.bool x6), .pd (.sl (x7.map elU32)), .pd (.sl (x8.map elU32))]) (.inl (by kernel_rfl)) (by kernel_rfl) (rat_Int_ok m _ hx9) (by kernel_rfl) (hasT 14 (by kernel_rfl)) ?_
    refine H_askK (.junk) ([.cells [.pd (.bool x6), .pd (.sl (x7.map elU32)), .pd (.sl (x8.map elU32))] 1 0 false, .cells [.pd (.bool x1), .pd (.sl (x2.map elU32)), .pd (.sl (x3.map elU32))] 1 0 false]) (by kernel_rfl) ?_
    exact H_end .ret (.tup [.agg [.pd (.bool x6), .pd (.sl (x7.map elU32)), .pd (.sl (x8.map elU32))], .pd (.bool false)]) (by kernel_rfl) rfl (by kernel_rfl) (by subst h; rfl)
  · replace h := h.f hc; clear hc
    refine H_askK (.agg [.pd (.bool x1), .pd (.sl (x2.map elU32)), .pd (.sl (x3.map elU32))]) ([.cells [.pd (.bool false), .fixed (([] : List Int).map elU32), .fixed (([] : List Int).map elU32)] 1 0 false, .cells [.pd (.bool x1), .pd (.sl (x2.map elU32)), .pd (.sl (x3.map elU32))] 1 0 false]) (by kernel_rfl) ?_
    refine H_askK (.junk) ([.cells [.pd (.bool x1), .pd (.sl (x2.map elU32)), .pd (.sl (x3.map elU32))] 1 0 false, .cells [.pd (.bool x1), .pd (.sl (x2.map elU32)), .pd (.sl (x3.map elU32))] 1 0 false]) (by kernel_rfl) ?_
    exact H_end .ret (.tup [.agg [.pd (.bool x1), .pd (.sl (x2.map elU32)), .pd (.sl (x3.map elU32))], .pd (.bool true)]) (by kernel_rfl) rfl (by kernel_rfl) (by subst h; rfl)

theorem offcutlaw07_LinesNumbers_ok (m : Tp) (p0 : List UInt8) {r : Bool} (h : offcutlaw07_LinesNumbers p0 r) : ASpec Tryd.prog (gtT m) 3 [.pd (.str p0)] (· = .pd (.bool r)) := by
  refine ASpec_tree Tryd.f3 mixedT (askG [9, 10, 11] false) (by kernel_rfl) ?_
  unfold offcutlaw07_LinesNumbers at h
  refine H_askK (.pd (.int .i64 (p0.length : Int))) ([]) (by kernel_rfl) ?_
  refine H_split (decide ((p0.length : Int) > (500 : Int))) (by kernel_rfl) (fun hc => ?_) (fun hc => ?_)
  · replace h := h.t hc; clear hc
    obtain ⟨x1, hx2, h⟩ := h
    refine H_valW (g := 4) (args := []) (M := []) (.pd (.bool x1)) (.inl (by kernel_rfl)) (by kernel_rfl) (offcutlaw07_awake_ok m  hx2) (by kernel_rfl) (hasT 4 (by kernel_rfl)) ?_
    cases x1
    · replace h := h.f rfl
      exact H_end .ret (.pd (.bool false)) (by kernel_rfl) rfl (by kernel_rfl) (by subst h; rfl)
    · replace h := h.t rfl
      exact H_end .ret (.pd (.bool true)) (by kernel_rfl) rfl (by kernel_rfl) (by subst h; rfl)
  · replace h := h.f hc; clear hc
    obtain ⟨x3, x4, x5, x6, hx7, h⟩ := h
    refine H_valW (g := 5) (args := [.pd (.str p0)]) (M := []) (.tup [.agg [.pd (.bool x3), .pd (.sl (x4.map elU32)), .pd (.sl (x5.map elU32))], .pd (.bool x6)]) (.inl (by kernel_rfl)) (by kernel_rfl) (lines_Number_ok m _ hx7) (by kernel_rfl) (hasT 5 (by kernel_rfl)) ?_
    cases x6
    · replace h := h.f rfl
      refine H_askK (.junk) ([.cells [.pd (.bool x3), .pd (.sl (x4.map elU32)), .pd (.sl (x5.map elU32))] 1 0 false]) (by kernel_rfl) ?_
      obtain ⟨x20, x21, x22, x23, hx24, h⟩ := h
      refine H_valW (g := 6) (args := [.pd (.str p0)]) (M := [.cells [.pd (.bool x3), .pd (.sl (x4.map elU32)), .pd (.sl (x5.map elU32))] 1 0 false]) (.tup [.agg [.pd (.bool x20), .pd (.sl (x21.map elU32)), .pd (.sl (x22.map elU32))], .pd (.int .i64 x23)]) (.inl (by kernel_rfl)) (by kernel_rfl) (rat_Parse_ok m _ hx24) (by kernel_rfl) (hasT 6 (by kernel_rfl)) ?_
      refine H_askK (.junk) ([.cells [.pd (.bool x3), .pd (.sl (x4.map elU32)), .pd (.sl (x5.map elU32))] 1 0 false, .cells [.pd (.bool x20), .pd (.sl (x21.map elU32)), .pd (.sl (x22.map elU32))] 1 0 false]) (by kernel_rfl) ?_
      refine H_split (x23 != (0 : Int)) (by kernel_rfl) (fun hc => ?_) (fun hc => ?_)
      · replace h := h.t hc; clear hc
        refine H_askK (.agg [.pd (.bool x3), .pd (.sl (x4.map elU32)), .pd (.sl (x5.map elU32))]) ([.cells [.pd (.bool x3), .pd (.sl (x4.map elU32)), .pd (.sl (x5.map elU32))] 1 0 false, .cells [.pd (.bool x20), .pd (.sl (x21.map elU32)), .pd (.sl (x22.map elU32))] 1 0 false]) (by kernel_rfl) ?_
        obtain ⟨x25, hx26, h⟩ := h
        refine H_valW (g := 7) (args := [.agg [.pd (.bool x3), .pd (.sl (x4.map elU32)), .pd (.sl (x5.map elU32))]]) (M := [.cells [.pd (.bool x3), .pd (.sl (x4.map elU32)), .pd (.sl (x5.map elU32))] 1 0 false, .cells [.pd (.bool x20), .pd (.sl (x21.map elU32)), .pd (.sl (x22.map elU32))] 1 0 false]) (.pd (.int .i64 x25)) (.inl (by kernel_rfl)) (by kernel_rfl) (rat_Sign_ok m _ _ _ hx26) (by kernel_rfl) (hasT 7 (by kernel_rfl)) ?_
        refine H_split (x25 == (0 : Int)) (by kernel_rfl) (fun hc => ?_) (fun hc => ?_)
        · replace h := h.t hc; clear hc
          obtain ⟨x27, hx28, h⟩ := h
          refine H_valW (g := 4) (args := []) (M := [.cells [.pd (.bool x3), .pd (.sl (x4.map elU32)), .pd (.sl (x5.map elU32))] 1 0 false, .cells [.pd (.bool x20), .pd (.sl (x21.map elU32)), .pd (.sl (x22.map elU32))] 1 0 false]) (.pd (.bool x27)) (.inl (by kernel_rfl)) (by kernel_rfl) (offcutlaw07_awake_ok m  hx28) (by kernel_rfl) (hasT 4 (by kernel_rfl)) ?_
          cases x27
          · replace h := h.f rfl
            exact H_end .ret (.pd (.bool false)) (by kernel_rfl) rfl (by kernel_rfl) (by subst h; rfl)
          · replace h := h.t rfl
            exact H_end .ret (.pd (.bool true)) (by kernel_rfl) rfl (by kernel_rfl) (by subst h; rfl)
        · replace h := h.f hc; clear hc
          exact H_end .ret (.pd (.bool false)) (by kernel_rfl) rfl (by kernel_rfl) (by subst h; rfl)
      · replace h := h.f hc; clear hc
        refine H_draw (by kernel_rfl) ?_
        exact H_end .ret (.pd (.bool false)) (by kernel_rfl) rfl (by kernel_rfl) (by subst h; rfl)
    · replace h := h.t rfl
      refine H_askK (.junk) ([.cells [.pd (.bool x3), .pd (.sl (x4.map elU32)), .pd (.sl (x5.map elU32))] 1 0 false]) (by kernel_rfl) ?_
      obtain ⟨x8, x9, x10, x11, hx12, h⟩ := h
      refine H_valW (g := 6) (args := [.pd (.str p0)]) (M := [.cells [.pd (.bool x3), .pd (.sl (x4.map elU32)), .pd (.sl (x5.map elU32))] 1 0 false]) (.tup [.agg [.pd (.bool x8), .pd (.sl (x9.map elU32)), .pd (.sl (x10.map elU32))], .pd (.int .i64 x11)]) (.inl (by kernel_rfl)) (by kernel_rfl) (rat_Parse_ok m _ hx12) (by kernel_rfl) (hasT 6 (by kernel_rfl)) ?_
      refine H_askK (.junk) ([.cells [.pd (.bool x3), .pd (.sl (x4.map elU32)), .pd (.sl (x5.map elU32))] 1 0 false, .cells [.pd (.bool x8), .pd (.sl (x9.map elU32)), .pd (.sl (x10.map elU32))] 1 0 false]) (by kernel_rfl) ?_
      refine H_split (x11 != (0 : Int)) (by kernel_rfl) (fun hc => ?_) (fun hc => ?_)
      · replace h := h.t hc; clear hc
        exact H_end .ret (.pd (.bool false)) (by kernel_rfl) rfl (by kernel_rfl) (by subst h; rfl)
      · replace h := h.f hc; clear hc
        refine H_draw (by kernel_rfl) ?_
        refine H_askK (.agg [.pd (.bool x3), .pd (.sl (x4.map elU32)), .pd (.sl (x5.map elU32))]) ([.cells [.pd (.bool x3), .pd (.sl (x4.map elU32)), .pd (.sl (x5.map elU32))] 1 0 false, .cells [.pd (.bool x8), .pd (.sl (x9.map elU32)), .pd (.sl (x10.map elU32))] 1 0 false]) (by kernel_rfl) ?_
        refine H_askK (.agg [.pd (.bool x8), .pd (.sl (x9.map elU32)), .pd (.sl (x10.map elU32))]) ([.cells [.pd (.bool x3), .pd (.sl (x4.map elU32)), .pd (.sl (x5.map elU32))] 1 0 false, .cells [.pd (.bool x8), .pd (.sl (x9.map elU32)), .pd (.sl (x10.map elU32))] 1 0 false]) (by kernel_rfl) ?_
        obtain ⟨x13, x14, hx15, h⟩ := h
        refine H_valW (g := 9) (args := [.agg [.pd (.bool x8), .pd (.sl (x9.map elU32)), .pd (.sl (x10.map elU32))]]) (M := [.cells [.pd (.bool x3), .pd (.sl (x4.map elU32)), .pd (.sl (x5.map elU32))] 1 0 false, .cells [.pd (.bool x8), .pd (.sl (x9.map elU32)), .pd (.sl (x10.map elU32))] 1 0 false]) (.agg [.pd (.str x13), .pd (.str x14)]) (.inr (by kernel_rfl)) (by kernel_rfl) (offcutlaw03_Of_ok m _ _ _ hx15) (by kernel_rfl) (hasT 9 (by kernel_rfl)) ?_
        obtain ⟨x16, hx17, h⟩ := h
        refine H_valW (g := 8) (args := [.agg [.pd (.bool x3), .pd (.sl (x4.map elU32)), .pd (.sl (x5.map elU32))], .agg [.pd (.str x13), .pd (.str x14)]]) (M := [.cells [.pd (.bool x3), .pd (.sl (x4.map elU32)), .pd (.sl (x5.map elU32))] 1 0 false, .cells [.pd (.bool x8), .pd (.sl (x9.map elU32)), .pd (.sl (x10.map elU32))] 1 0 false]) (.pd (.bool x16)) (.inr (by kernel_rfl)) (by kernel_rfl) (offcutlaw03_Is_ok m _ _ _ _ _ hx17) (by kernel_rfl) (hasT 8 (by kernel_rfl)) ?_
        cases x16
        · replace h := h.f rfl
          exact H_end .ret (.pd (.bool false)) (by kernel_rfl) rfl (by kernel_rfl) (by subst h; rfl)
        · replace h := h.t rfl
          obtain ⟨x18, hx19, h⟩ := h
          refine H_valW (g := 4) (args := []) (M := [.cells [.pd (.bool x3), .pd (.sl (x4.map elU32)), .pd (.sl (x5.map elU32))] 1 0 false, .cells [.pd (.bool x8), .pd (.sl (x9.map elU32)), .pd (.sl (x10.map elU32))] 1 0 false]) (.pd (.bool x18)) (.inr (by kernel_rfl)) (by kernel_rfl) (offcutlaw07_awake_ok m  hx19) (by kernel_rfl) (hasT 4 (by kernel_rfl)) ?_
          cases x18
          · replace h := h.f rfl
            exact H_end .ret (.pd (.bool false)) (by kernel_rfl) rfl (by kernel_rfl) (by subst h; rfl)
          · replace h := h.t rfl
            exact H_end .ret (.pd (.bool true)) (by kernel_rfl) rfl (by kernel_rfl) (by subst h; rfl)

end Go.Abs
