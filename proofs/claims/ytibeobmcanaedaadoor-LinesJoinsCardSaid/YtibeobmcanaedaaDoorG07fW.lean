/- Printed by gen.py: the functions do what these conditions say. -/
import Derived.Test.YtibeobmcanaedaaDoorAbs28
import Derived.Test.YtibeobmcanaedaaDoorG07fD
import Derived.Test.YtibeobmcanaedaaDoorB07h
import Derived.Test.YtibeobmcanaedaaDoorG07aW
namespace Go.Abs
open Go.Proofs
set_option maxHeartbeats 4000000
set_option maxRecDepth 20000
set_option linter.unusedVariables false
set_option linter.unusedSimpArgs false
set_option linter.unnecessarySimpa false


theorem f111_ok (m : Int) (p0 : Int) {r : Bool} (h : f111 p0 r) : ASpec Tryd.prog (gt07 m) 111 [.pd (.int .i32 p0)] (· = .pd (.bool r)) := by
  refine ASpec_tree Tryd.f111 mixed07 (askG [9, 10, 11] false) (by kernel_rfl) ?_
  unfold f111 at h
  refine H_split (decide ((0 : Int) ≤ p0)) (by kernel_rfl) (fun hc => ?_) (fun hc => ?_)
  · replace h := h.t hc; clear hc
    refine H_split (decide (p0 < (55296 : Int))) (by kernel_rfl) (fun hc => ?_) (fun hc => ?_)
    · replace h := h.t hc; clear hc
      exact H_end .ret (.pd (.bool true)) (by kernel_rfl) rfl (by kernel_rfl) (by subst h; rfl)
    · replace h := h.f hc; clear hc
      refine H_split (decide ((57343 : Int) < p0)) (by kernel_rfl) (fun hc => ?_) (fun hc => ?_)
      · replace h := h.t hc; clear hc
        refine H_split (decide (p0 ≤ (1114111 : Int))) (by kernel_rfl) (fun hc => ?_) (fun hc => ?_)
        · replace h := h.t hc; clear hc
          exact H_end .ret (.pd (.bool true)) (by kernel_rfl) rfl (by kernel_rfl) (by subst h; rfl)
        · replace h := h.f hc; clear hc
          exact H_end .ret (.pd (.bool false)) (by kernel_rfl) rfl (by kernel_rfl) (by subst h; rfl)
      · replace h := h.f hc; clear hc
        exact H_end .ret (.pd (.bool false)) (by kernel_rfl) rfl (by kernel_rfl) (by subst h; rfl)
  · replace h := h.f hc; clear hc
    refine H_split (decide ((57343 : Int) < p0)) (by kernel_rfl) (fun hc => ?_) (fun hc => ?_)
    · replace h := h.t hc; clear hc
      refine H_split (decide (p0 ≤ (1114111 : Int))) (by kernel_rfl) (fun hc => ?_) (fun hc => ?_)
      · replace h := h.t hc; clear hc
        exact H_end .ret (.pd (.bool true)) (by kernel_rfl) rfl (by kernel_rfl) (by subst h; rfl)
      · replace h := h.f hc; clear hc
        exact H_end .ret (.pd (.bool false)) (by kernel_rfl) rfl (by kernel_rfl) (by subst h; rfl)
    · replace h := h.f hc; clear hc
      exact H_end .ret (.pd (.bool false)) (by kernel_rfl) rfl (by kernel_rfl) (by subst h; rfl)

theorem f84_ok (m : Int) (p0 : List UInt8) (p1 : Int) {r : Int} (h : f84 p0 p1 r) : ASpec Tryd.prog (gt07 m) 84 [.pd (.str p0), .pd (.int .i32 p1)] (· = .pd (.int .i64 r)) := by
  refine ASpec_tree Tryd.f84 mixed07 (askG [9, 10, 11] false) (by kernel_rfl) ?_
  unfold f84 at h
  refine H_split (decide ((0 : Int) ≤ p1)) (by kernel_rfl) (fun hc => ?_) (fun hc => ?_)
  · replace h := h.t hc; clear hc
    refine H_split (decide (p1 < (128 : Int))) (by kernel_rfl) (fun hc => ?_) (fun hc => ?_)
    · replace h := h.t hc; clear hc
      obtain ⟨x1, hx2, h⟩ := h
      refine H_valW (g := 110) (args := [.pd (.str p0), .pd (.int .u8 (IntKind.u8.wrap p1))]) (M := []) (.pd (.int .i64 x1)) (.inl (by kernel_rfl)) (by kernel_rfl) (f110_ok m _ _ hx2) (by kernel_rfl) (has07 110 (by kernel_rfl)) ?_
      exact H_end .ret (.pd (.int .i64 x1)) (by kernel_rfl) rfl (by kernel_rfl) (by subst h; rfl)
    · replace h := h.f hc; clear hc
      refine H_split (p1 == (65533 : Int)) (by kernel_rfl) (fun hc => ?_) (fun hc => ?_)
      · replace h := h.t hc; clear hc
        refine H_loopP (F := f84_L1 p0 r) (s0 := 0) h () 187 1
          (fun (s150 : Nat) (() : Unit) => [(175, .it 0)])
          (fun (s150 : Nat) (() : Unit) => [.iter p0 s150]) (fun (s150 : Nat) (() : Unit) => True) trivial [] mixed07 (askG [9, 10, 11] false)
          (by kernel_rfl) (by kernel_rfl) (by kernel_rfl) (by kernel_rfl) (by kernel_rfl) (fun _ _ => rfl) ?_
        rintro X1 s150 ⟨⟩ - h
        dsimp only [f84_L1] at h
        cases hx3 : (decide (s150 < p0.length))
        · replace h := h.f hx3
          refine H_ask _ _ (by kernel_rfl) (ask_next0 (M := [.iter p0 s150]) (b := 0) (s := p0) (pos := s150) (by kernel_rfl) hx3) ?_
          refine H_leaveP (.exit 9) (by kernel_rfl) rfl ?_
          exact H_end .ret (.pd (.int .i64 (-1))) (by kernel_rfl) rfl (by kernel_rfl) (by subst h; rfl)
        · replace h := h.t hx3
          refine H_ask _ _ (by kernel_rfl) (ask_next (M := [.iter p0 s150]) (b := 0) (s := p0) (pos := s150) (by kernel_rfl) hx3) ?_
          refine H_split ((runeAt p0 s150) == (65533 : Int)) (by kernel_rfl) (fun hc => ?_) (fun hc => ?_)
          · replace h := h.t hc; clear hc
            refine H_leaveP .ret (by kernel_rfl) rfl ?_
            exact H_end .ret (.pd (.int .i64 ((s150 : Nat) : Int))) (by kernel_rfl) rfl (by kernel_rfl) (by subst h; rfl)
          · replace h := h.f hc; clear hc
            exact H_againP (st := _) (s150 + runeLen p0 s150) () h trivial (by kernel_rfl) (by kernel_rfl) (by kernel_rfl) (by kernel_rfl) (by kernel_rfl)
      · replace h := h.f hc; clear hc
        obtain ⟨x4, hx5, h⟩ := h
        refine H_valW (g := 111) (args := [.pd (.int .i32 p1)]) (M := []) (.pd (.bool x4)) (.inl (by kernel_rfl)) (by kernel_rfl) (f111_ok m _ hx5) (by kernel_rfl) (has07 111 (by kernel_rfl)) ?_
        cases x4
        · replace h := h.f rfl
          exact H_end .ret (.pd (.int .i64 (-1))) (by kernel_rfl) rfl (by kernel_rfl) (by subst h; rfl)
        · replace h := h.t rfl
          refine H_askK (.pd (.str ((Utf8.encode p1).data.toList))) ([]) (by kernel_rfl) ?_
          refine H_askK (.pd (.int .i64 (((Utf8.encode p1).data.toList).length : Int))) ([]) (by kernel_rfl) ?_
          refine H_loopP (F := f84_L2 p0 p1 r) (s0 := ()) h () 187 0
            (fun (() : Unit) (() : Unit) => [(0, .pd (.str p0)), (7, .pd (.str ((Utf8.encode p1).data.toList))), (8, .pd (.int .i64 (IntKind.i64.wrap ((((Utf8.encode p1).data.toList).length : Int) - 1)))), (9, .pd (.int .i64 (IntKind.i64.wrap ((((Utf8.encode p1).data.toList).length : Int) - 1))))])
            (fun (() : Unit) (() : Unit) => []) (fun (() : Unit) (() : Unit) => True) trivial [] mixed07 (askG [9, 10, 11] false)
            (by kernel_rfl) (by kernel_rfl) (by kernel_rfl) (by kernel_rfl) (by kernel_rfl) (fun _ _ => rfl) ?_
          rintro X2 ⟨⟩ ⟨⟩ - h
          dsimp only [f84_L2] at h
          refine H_askK (.pd (.int .i64 (p0.length : Int))) ([]) (by kernel_rfl) ?_
          refine H_split (decide ((IntKind.i64.wrap ((((Utf8.encode p1).data.toList).length : Int) - 1)) < (p0.length : Int))) (by kernel_rfl) (fun hc => ?_) (fun hc => ?_)
          · replace h := h.t hc; clear hc
            refine H_draw (by kernel_rfl) ?_
            obtain ⟨c6, hx7, h⟩ := h
            refine H_ask _ _ (by kernel_rfl) (ask_sidx (P := Tryd.prog) (M := []) (t := 9) (k := .i64) (by kernel_rfl) hx7) ?_
            obtain ⟨c8, hx9, h⟩ := h
            refine H_ask _ _ (by kernel_rfl) (ask_sidx (P := Tryd.prog) (M := []) (t := 9) (k := .i64) (by kernel_rfl) hx9) ?_
            refine H_split (((c6.toNat : Nat) : Int) != ((c8.toNat : Nat) : Int)) (by kernel_rfl) (fun hc => ?_) (fun hc => ?_)
            · replace h := h.t hc; clear hc
              refine H_draw (by kernel_rfl) ?_
              obtain ⟨hx10, h⟩ := h
              refine H_ask _ _ (by kernel_rfl) (ask_subS (P := Tryd.prog) (M := []) (t := 9) (lo := (some (IntKind.i64.wrap ((IntKind.i64.wrap ((((Utf8.encode p1).data.toList).length : Int) - 1)) + 1)))) (hi := none) (by kernel_rfl) hx10) ?_
              obtain ⟨c11, hx12, h⟩ := h
              refine H_ask _ _ (by kernel_rfl) (ask_sidx (P := Tryd.prog) (M := []) (t := 9) (k := .i64) (by kernel_rfl) hx12) ?_
              obtain ⟨x13, hx14, h⟩ := h
              refine H_valW (g := 110) (args := [.pd (.str (sub p0 (IntKind.i64.wrap ((IntKind.i64.wrap ((((Utf8.encode p1).data.toList).length : Int) - 1)) + 1)) (p0.length : Int))), .pd (.int .u8 ((c11.toNat : Nat) : Int))]) (M := []) (.pd (.int .i64 x13)) (.inr (by kernel_rfl)) (by kernel_rfl) (f110_ok m _ _ hx14) (by kernel_rfl) (has07 110 (by kernel_rfl)) ?_
              refine H_split (decide (x13 < (0 : Int))) (by kernel_rfl) (fun hc => ?_) (fun hc => ?_)
              · replace h := h.t hc; clear hc
                refine H_leaveP .ret (by kernel_rfl) rfl ?_
                exact H_end .ret (.pd (.int .i64 (-1))) (by kernel_rfl) rfl (by kernel_rfl) (by subst h; rfl)
              · replace h := h.f hc; clear hc
                refine H_loopP (F := f84_L3 p0 p1 x13 r) (s0 := (1 : Int)) h () 187 0
                  (fun (s300 : Int) (() : Unit) => [(0, .pd (.str p0)), (7, .pd (.str ((Utf8.encode p1).data.toList))), (8, .pd (.int .i64 (IntKind.i64.wrap ((((Utf8.encode p1).data.toList).length : Int) - 1)))), (9, .pd (.int .i64 (IntKind.i64.wrap ((IntKind.i64.wrap ((((Utf8.encode p1).data.toList).length : Int) - 1)) + (IntKind.i64.wrap (x13 + 1)))))), (12, .pd (.int .i64 s300))])
                  (fun (s300 : Int) (() : Unit) => []) (fun (s300 : Int) (() : Unit) => True) trivial [] mixed07 (askG [9, 10, 11] false)
                  (by kernel_rfl) (by kernel_rfl) (by kernel_rfl) (by kernel_rfl) (by kernel_rfl) (fun _ _ => rfl) ?_
                rintro X3 s300 ⟨⟩ - h
                dsimp only [f84_L3] at h
                refine H_askK (.pd (.int .i64 (((Utf8.encode p1).data.toList).length : Int))) ([]) (by kernel_rfl) ?_
                refine H_split (decide (s300 < (((Utf8.encode p1).data.toList).length : Int))) (by kernel_rfl) (fun hc => ?_) (fun hc => ?_)
                · replace h := h.t hc; clear hc
                  refine H_draw (by kernel_rfl) ?_
                  obtain ⟨c15, hx16, h⟩ := h
                  refine H_ask _ _ (by kernel_rfl) (ask_sidx (P := Tryd.prog) (M := []) (t := 9) (k := .i64) (by kernel_rfl) hx16) ?_
                  obtain ⟨c17, hx18, h⟩ := h
                  refine H_ask _ _ (by kernel_rfl) (ask_sidx (P := Tryd.prog) (M := []) (t := 9) (k := .i64) (by kernel_rfl) hx18) ?_
                  refine H_split (((c15.toNat : Nat) : Int) != ((c17.toNat : Nat) : Int)) (by kernel_rfl) (fun hc => ?_) (fun hc => ?_)
                  · replace h := h.t hc; clear hc
                    exact h.elim
                  · replace h := h.f hc; clear hc
                    exact H_againP (st := _) (IntKind.i64.wrap (s300 + 1)) () h trivial (by kernel_rfl) (by kernel_rfl) (by kernel_rfl) (by kernel_rfl) (by kernel_rfl)
                · replace h := h.f hc; clear hc
                  refine H_leaveP (.exit 3) (by kernel_rfl) rfl ?_
                  refine H_leaveP .ret (by kernel_rfl) rfl ?_
                  exact H_end .ret (.pd (.int .i64 (IntKind.i64.wrap ((IntKind.i64.wrap ((IntKind.i64.wrap ((((Utf8.encode p1).data.toList).length : Int) - 1)) + (IntKind.i64.wrap (x13 + 1)))) - (IntKind.i64.wrap ((((Utf8.encode p1).data.toList).length : Int) - 1)))))) (by kernel_rfl) rfl (by kernel_rfl) (by subst h; rfl)
            · replace h := h.f hc; clear hc
              refine H_loopP (F := f84_L4 p0 p1 r) (s0 := (1 : Int)) h () 187 0
                (fun (s400 : Int) (() : Unit) => [(0, .pd (.str p0)), (7, .pd (.str ((Utf8.encode p1).data.toList))), (8, .pd (.int .i64 (IntKind.i64.wrap ((((Utf8.encode p1).data.toList).length : Int) - 1)))), (9, .pd (.int .i64 (IntKind.i64.wrap ((((Utf8.encode p1).data.toList).length : Int) - 1)))), (12, .pd (.int .i64 s400))])
                (fun (s400 : Int) (() : Unit) => []) (fun (s400 : Int) (() : Unit) => True) trivial [] mixed07 (askG [9, 10, 11] false)
                (by kernel_rfl) (by kernel_rfl) (by kernel_rfl) (by kernel_rfl) (by kernel_rfl) (fun _ _ => rfl) ?_
              rintro X4 s400 ⟨⟩ - h
              dsimp only [f84_L4] at h
              refine H_askK (.pd (.int .i64 (((Utf8.encode p1).data.toList).length : Int))) ([]) (by kernel_rfl) ?_
              refine H_split (decide (s400 < (((Utf8.encode p1).data.toList).length : Int))) (by kernel_rfl) (fun hc => ?_) (fun hc => ?_)
              · replace h := h.t hc; clear hc
                refine H_draw (by kernel_rfl) ?_
                obtain ⟨c19, hx20, h⟩ := h
                refine H_ask _ _ (by kernel_rfl) (ask_sidx (P := Tryd.prog) (M := []) (t := 9) (k := .i64) (by kernel_rfl) hx20) ?_
                obtain ⟨c21, hx22, h⟩ := h
                refine H_ask _ _ (by kernel_rfl) (ask_sidx (P := Tryd.prog) (M := []) (t := 9) (k := .i64) (by kernel_rfl) hx22) ?_
                refine H_split (((c19.toNat : Nat) : Int) != ((c21.toNat : Nat) : Int)) (by kernel_rfl) (fun hc => ?_) (fun hc => ?_)
                · replace h := h.t hc; clear hc
                  exact h.elim
                · replace h := h.f hc; clear hc
                  exact H_againP (st := _) (IntKind.i64.wrap (s400 + 1)) () h trivial (by kernel_rfl) (by kernel_rfl) (by kernel_rfl) (by kernel_rfl) (by kernel_rfl)
              · replace h := h.f hc; clear hc
                refine H_leaveP (.exit 3) (by kernel_rfl) rfl ?_
                refine H_leaveP .ret (by kernel_rfl) rfl ?_
                exact H_end .ret (.pd (.int .i64 (IntKind.i64.wrap ((IntKind.i64.wrap ((((Utf8.encode p1).data.toList).length : Int) - 1)) - (IntKind.i64.wrap ((((Utf8.encode p1).data.toList).length : Int) - 1)))))) (by kernel_rfl) rfl (by kernel_rfl) (by subst h; rfl)
          · replace h := h.f hc; clear hc
            refine H_leaveP (.exit 1) (by kernel_rfl) rfl ?_
            exact H_end .ret (.pd (.int .i64 (-1))) (by kernel_rfl) rfl (by kernel_rfl) (by subst h; rfl)
  · replace h := h.f hc; clear hc
    refine H_split (p1 == (65533 : Int)) (by kernel_rfl) (fun hc => ?_) (fun hc => ?_)
    · replace h := h.t hc; clear hc
      refine H_loopP (F := f84_L5 p0 r) (s0 := 0) h () 187 1
        (fun (s550 : Nat) (() : Unit) => [(175, .it 0)])
        (fun (s550 : Nat) (() : Unit) => [.iter p0 s550]) (fun (s550 : Nat) (() : Unit) => True) trivial [] mixed07 (askG [9, 10, 11] false)
        (by kernel_rfl) (by kernel_rfl) (by kernel_rfl) (by kernel_rfl) (by kernel_rfl) (fun _ _ => rfl) ?_
      rintro X5 s550 ⟨⟩ - h
      dsimp only [f84_L5] at h
      cases hx23 : (decide (s550 < p0.length))
      · replace h := h.f hx23
        refine H_ask _ _ (by kernel_rfl) (ask_next0 (M := [.iter p0 s550]) (b := 0) (s := p0) (pos := s550) (by kernel_rfl) hx23) ?_
        refine H_leaveP (.exit 9) (by kernel_rfl) rfl ?_
        exact H_end .ret (.pd (.int .i64 (-1))) (by kernel_rfl) rfl (by kernel_rfl) (by subst h; rfl)
      · replace h := h.t hx23
        refine H_ask _ _ (by kernel_rfl) (ask_next (M := [.iter p0 s550]) (b := 0) (s := p0) (pos := s550) (by kernel_rfl) hx23) ?_
        refine H_split ((runeAt p0 s550) == (65533 : Int)) (by kernel_rfl) (fun hc => ?_) (fun hc => ?_)
        · replace h := h.t hc; clear hc
          refine H_leaveP .ret (by kernel_rfl) rfl ?_
          exact H_end .ret (.pd (.int .i64 ((s550 : Nat) : Int))) (by kernel_rfl) rfl (by kernel_rfl) (by subst h; rfl)
        · replace h := h.f hc; clear hc
          exact H_againP (st := _) (s550 + runeLen p0 s550) () h trivial (by kernel_rfl) (by kernel_rfl) (by kernel_rfl) (by kernel_rfl) (by kernel_rfl)
    · replace h := h.f hc; clear hc
      obtain ⟨x24, hx25, h⟩ := h
      refine H_valW (g := 111) (args := [.pd (.int .i32 p1)]) (M := []) (.pd (.bool x24)) (.inl (by kernel_rfl)) (by kernel_rfl) (f111_ok m _ hx25) (by kernel_rfl) (has07 111 (by kernel_rfl)) ?_
      cases x24
      · replace h := h.f rfl
        exact H_end .ret (.pd (.int .i64 (-1))) (by kernel_rfl) rfl (by kernel_rfl) (by subst h; rfl)
      · replace h := h.t rfl
        refine H_askK (.pd (.str ((Utf8.encode p1).data.toList))) ([]) (by kernel_rfl) ?_
        refine H_askK (.pd (.int .i64 (((Utf8.encode p1).data.toList).length : Int))) ([]) (by kernel_rfl) ?_
        refine H_loopP (F := f84_L6 p0 p1 r) (s0 := ()) h () 187 0
          (fun (() : Unit) (() : Unit) => [(0, .pd (.str p0)), (7, .pd (.str ((Utf8.encode p1).data.toList))), (8, .pd (.int .i64 (IntKind.i64.wrap ((((Utf8.encode p1).data.toList).length : Int) - 1)))), (9, .pd (.int .i64 (IntKind.i64.wrap ((((Utf8.encode p1).data.toList).length : Int) - 1))))])
          (fun (() : Unit) (() : Unit) => []) (fun (() : Unit) (() : Unit) => True) trivial [] mixed07 (askG [9, 10, 11] false)
          (by kernel_rfl) (by kernel_rfl) (by kernel_rfl) (by kernel_rfl) (by kernel_rfl) (fun _ _ => rfl) ?_
        rintro X6 ⟨⟩ ⟨⟩ - h
        dsimp only [f84_L6] at h
        refine H_askK (.pd (.int .i64 (p0.length : Int))) ([]) (by kernel_rfl) ?_
        refine H_split (decide ((IntKind.i64.wrap ((((Utf8.encode p1).data.toList).length : Int) - 1)) < (p0.length : Int))) (by kernel_rfl) (fun hc => ?_) (fun hc => ?_)
        · replace h := h.t hc; clear hc
          refine H_draw (by kernel_rfl) ?_
          obtain ⟨c26, hx27, h⟩ := h
          refine H_ask _ _ (by kernel_rfl) (ask_sidx (P := Tryd.prog) (M := []) (t := 9) (k := .i64) (by kernel_rfl) hx27) ?_
          obtain ⟨c28, hx29, h⟩ := h
          refine H_ask _ _ (by kernel_rfl) (ask_sidx (P := Tryd.prog) (M := []) (t := 9) (k := .i64) (by kernel_rfl) hx29) ?_
          refine H_split (((c26.toNat : Nat) : Int) != ((c28.toNat : Nat) : Int)) (by kernel_rfl) (fun hc => ?_) (fun hc => ?_)
          · replace h := h.t hc; clear hc
            refine H_draw (by kernel_rfl) ?_
            obtain ⟨hx30, h⟩ := h
            refine H_ask _ _ (by kernel_rfl) (ask_subS (P := Tryd.prog) (M := []) (t := 9) (lo := (some (IntKind.i64.wrap ((IntKind.i64.wrap ((((Utf8.encode p1).data.toList).length : Int) - 1)) + 1)))) (hi := none) (by kernel_rfl) hx30) ?_
            obtain ⟨c31, hx32, h⟩ := h
            refine H_ask _ _ (by kernel_rfl) (ask_sidx (P := Tryd.prog) (M := []) (t := 9) (k := .i64) (by kernel_rfl) hx32) ?_
            obtain ⟨x33, hx34, h⟩ := h
            refine H_valW (g := 110) (args := [.pd (.str (sub p0 (IntKind.i64.wrap ((IntKind.i64.wrap ((((Utf8.encode p1).data.toList).length : Int) - 1)) + 1)) (p0.length : Int))), .pd (.int .u8 ((c31.toNat : Nat) : Int))]) (M := []) (.pd (.int .i64 x33)) (.inr (by kernel_rfl)) (by kernel_rfl) (f110_ok m _ _ hx34) (by kernel_rfl) (has07 110 (by kernel_rfl)) ?_
            refine H_split (decide (x33 < (0 : Int))) (by kernel_rfl) (fun hc => ?_) (fun hc => ?_)
            · replace h := h.t hc; clear hc
              refine H_leaveP .ret (by kernel_rfl) rfl ?_
              exact H_end .ret (.pd (.int .i64 (-1))) (by kernel_rfl) rfl (by kernel_rfl) (by subst h; rfl)
            · replace h := h.f hc; clear hc
              refine H_loopP (F := f84_L7 p0 p1 x33 r) (s0 := (1 : Int)) h () 187 0
                (fun (s700 : Int) (() : Unit) => [(0, .pd (.str p0)), (7, .pd (.str ((Utf8.encode p1).data.toList))), (8, .pd (.int .i64 (IntKind.i64.wrap ((((Utf8.encode p1).data.toList).length : Int) - 1)))), (9, .pd (.int .i64 (IntKind.i64.wrap ((IntKind.i64.wrap ((((Utf8.encode p1).data.toList).length : Int) - 1)) + (IntKind.i64.wrap (x33 + 1)))))), (12, .pd (.int .i64 s700))])
                (fun (s700 : Int) (() : Unit) => []) (fun (s700 : Int) (() : Unit) => True) trivial [] mixed07 (askG [9, 10, 11] false)
                (by kernel_rfl) (by kernel_rfl) (by kernel_rfl) (by kernel_rfl) (by kernel_rfl) (fun _ _ => rfl) ?_
              rintro X7 s700 ⟨⟩ - h
              dsimp only [f84_L7] at h
              refine H_askK (.pd (.int .i64 (((Utf8.encode p1).data.toList).length : Int))) ([]) (by kernel_rfl) ?_
              refine H_split (decide (s700 < (((Utf8.encode p1).data.toList).length : Int))) (by kernel_rfl) (fun hc => ?_) (fun hc => ?_)
              · replace h := h.t hc; clear hc
                refine H_draw (by kernel_rfl) ?_
                obtain ⟨c35, hx36, h⟩ := h
                refine H_ask _ _ (by kernel_rfl) (ask_sidx (P := Tryd.prog) (M := []) (t := 9) (k := .i64) (by kernel_rfl) hx36) ?_
                obtain ⟨c37, hx38, h⟩ := h
                refine H_ask _ _ (by kernel_rfl) (ask_sidx (P := Tryd.prog) (M := []) (t := 9) (k := .i64) (by kernel_rfl) hx38) ?_
                refine H_split (((c35.toNat : Nat) : Int) != ((c37.toNat : Nat) : Int)) (by kernel_rfl) (fun hc => ?_) (fun hc => ?_)
                · replace h := h.t hc; clear hc
                  exact h.elim
                · replace h := h.f hc; clear hc
                  exact H_againP (st := _) (IntKind.i64.wrap (s700 + 1)) () h trivial (by kernel_rfl) (by kernel_rfl) (by kernel_rfl) (by kernel_rfl) (by kernel_rfl)
              · replace h := h.f hc; clear hc
                refine H_leaveP (.exit 3) (by kernel_rfl) rfl ?_
                refine H_leaveP .ret (by kernel_rfl) rfl ?_
                exact H_end .ret (.pd (.int .i64 (IntKind.i64.wrap ((IntKind.i64.wrap ((IntKind.i64.wrap ((((Utf8.encode p1).data.toList).length : Int) - 1)) + (IntKind.i64.wrap (x33 + 1)))) - (IntKind.i64.wrap ((((Utf8.encode p1).data.toList).length : Int) - 1)))))) (by kernel_rfl) rfl (by kernel_rfl) (by subst h; rfl)
          · replace h := h.f hc; clear hc
            refine H_loopP (F := f84_L8 p0 p1 r) (s0 := (1 : Int)) h () 187 0
              (fun (s800 : Int) (() : Unit) => [(0, .pd (.str p0)), (7, .pd (.str ((Utf8.encode p1).data.toList))), (8, .pd (.int .i64 (IntKind.i64.wrap ((((Utf8.encode p1).data.toList).length : Int) - 1)))), (9, .pd (.int .i64 (IntKind.i64.wrap ((((Utf8.encode p1).data.toList).length : Int) - 1)))), (12, .pd (.int .i64 s800))])
              (fun (s800 : Int) (() : Unit) => []) (fun (s800 : Int) (() : Unit) => True) trivial [] mixed07 (askG [9, 10, 11] false)
              (by kernel_rfl) (by kernel_rfl) (by kernel_rfl) (by kernel_rfl) (by kernel_rfl) (fun _ _ => rfl) ?_
            rintro X8 s800 ⟨⟩ - h
            dsimp only [f84_L8] at h
            refine H_askK (.pd (.int .i64 (((Utf8.encode p1).data.toList).length : Int))) ([]) (by kernel_rfl) ?_
            refine H_split (decide (s800 < (((Utf8.encode p1).data.toList).length : Int))) (by kernel_rfl) (fun hc => ?_) (fun hc => ?_)
            · replace h := h.t hc; clear hc
              refine H_draw (by kernel_rfl) ?_
              obtain ⟨c39, hx40, h⟩ := h
              refine H_ask _ _ (by kernel_rfl) (ask_sidx (P := Tryd.prog) (M := []) (t := 9) (k := .i64) (by kernel_rfl) hx40) ?_
              obtain ⟨c41, hx42, h⟩ := h
              refine H_ask _ _ (by kernel_rfl) (ask_sidx (P := Tryd.prog) (M := []) (t := 9) (k := .i64) (by kernel_rfl) hx42) ?_
              refine H_split (((c39.toNat : Nat) : Int) != ((c41.toNat : Nat) : Int)) (by kernel_rfl) (fun hc => ?_) (fun hc => ?_)
              · replace h := h.t hc; clear hc
                exact h.elim
              · replace h := h.f hc; clear hc
                exact H_againP (st := _) (IntKind.i64.wrap (s800 + 1)) () h trivial (by kernel_rfl) (by kernel_rfl) (by kernel_rfl) (by kernel_rfl) (by kernel_rfl)
            · replace h := h.f hc; clear hc
              refine H_leaveP (.exit 3) (by kernel_rfl) rfl ?_
              refine H_leaveP .ret (by kernel_rfl) rfl ?_
              exact H_end .ret (.pd (.int .i64 (IntKind.i64.wrap ((IntKind.i64.wrap ((((Utf8.encode p1).data.toList).length : Int) - 1)) - (IntKind.i64.wrap ((((Utf8.encode p1).data.toList).length : Int) - 1)))))) (by kernel_rfl) rfl (by kernel_rfl) (by subst h; rfl)
        · replace h := h.f hc; clear hc
          refine H_leaveP (.exit 1) (by kernel_rfl) rfl ?_
          exact H_end .ret (.pd (.int .i64 (-1))) (by kernel_rfl) rfl (by kernel_rfl) (by subst h; rfl)

theorem f85_ok (m : Int) (p0 : Int) {r : Bool} (h : f85 p0 r) : ASpec Tryd.prog (gt07 m) 85 [.pd (.int .i64 p0)] (· = .pd (.bool r)) := by
  refine ASpec_tree Tryd.f85 mixed07 (askG [9, 10, 11] false) (by kernel_rfl) ?_
  unfold f85 at h
  refine H_split (decide (p0 > (8 : Int))) (by kernel_rfl) (fun hc => ?_) (fun hc => ?_)
  · replace h := h.t hc; clear hc
    exact H_end .ret (.pd (.bool true)) (by kernel_rfl) rfl (by kernel_rfl) (by subst h; rfl)
  · replace h := h.f hc; clear hc
    exact H_end .ret (.pd (.bool false)) (by kernel_rfl) rfl (by kernel_rfl) (by subst h; rfl)

theorem f47_ok (m : Int) (p0 : List UInt8) (p1 : List UInt8) {r : Int} (h : f47 p0 p1 r) : ASpec Tryd.prog (gt07 m) 47 [.pd (.str p0), .pd (.str p1)] (· = .pd (.int .i64 r)) := by
  refine ASpec_tree Tryd.f47 mixed07 (askG [9, 10, 11] false) (by kernel_rfl) ?_
  unfold f47 at h
  refine H_split (p1 == ([] : List UInt8)) (by kernel_rfl) (fun hc => ?_) (fun hc => ?_)
  · replace h := h.t hc; clear hc
    exact H_end .ret (.pd (.int .i64 (-1))) (by kernel_rfl) rfl (by kernel_rfl) (by subst h; rfl)
  · replace h := h.f hc; clear hc
    refine H_askK (.pd (.int .i64 (p1.length : Int))) ([]) (by kernel_rfl) ?_
    refine H_split ((p1.length : Int) == (1 : Int)) (by kernel_rfl) (fun hc => ?_) (fun hc => ?_)
    · replace h := h.t hc; clear hc
      obtain ⟨c1, hx2, h⟩ := h
      refine H_ask _ _ (by kernel_rfl) (ask_sidx (P := Tryd.prog) (M := []) (t := 9) (k := .i64) (by kernel_rfl) hx2) ?_
      refine H_split (decide ((IntKind.i32.wrap ((c1.toNat : Nat) : Int)) ≥ (128 : Int))) (by kernel_rfl) (fun hc => ?_) (fun hc => ?_)
      · replace h := h.t hc; clear hc
        obtain ⟨x3, hx4, h⟩ := h
        refine H_valW (g := 84) (args := [.pd (.str p0), .pd (.int .i32 65533)]) (M := []) (.pd (.int .i64 x3)) (.inl (by kernel_rfl)) (by kernel_rfl) (f84_ok m _ _ hx4) (by kernel_rfl) (has07 84 (by kernel_rfl)) ?_
        exact H_end .ret (.pd (.int .i64 x3)) (by kernel_rfl) rfl (by kernel_rfl) (by subst h; rfl)
      · replace h := h.f hc; clear hc
        obtain ⟨x5, hx6, h⟩ := h
        refine H_valW (g := 84) (args := [.pd (.str p0), .pd (.int .i32 (IntKind.i32.wrap ((c1.toNat : Nat) : Int)))]) (M := []) (.pd (.int .i64 x5)) (.inl (by kernel_rfl)) (by kernel_rfl) (f84_ok m _ _ hx6) (by kernel_rfl) (has07 84 (by kernel_rfl)) ?_
        exact H_end .ret (.pd (.int .i64 x5)) (by kernel_rfl) rfl (by kernel_rfl) (by subst h; rfl)
    · replace h := h.f hc; clear hc
      refine H_askK (.pd (.int .i64 (p0.length : Int))) ([]) (by kernel_rfl) ?_
      obtain ⟨x7, hx8, h⟩ := h
      refine H_valW (g := 85) (args := [.pd (.int .i64 (p0.length : Int))]) (M := []) (.pd (.bool x7)) (.inl (by kernel_rfl)) (by kernel_rfl) (f85_ok m _ hx8) (by kernel_rfl) (has07 85 (by kernel_rfl)) ?_
      cases x7
      · replace h := h.f rfl
        refine H_loopP (F := f47_L1 p0 p1 r) (s0 := 0) h () 55 1
          (fun (s150 : Nat) (() : Unit) => [(1, .pd (.str p1)), (45, .it 0)])
          (fun (s150 : Nat) (() : Unit) => [.iter p0 s150]) (fun (s150 : Nat) (() : Unit) => True) trivial [] mixed07 (askG [9, 10, 11] false)
          (by kernel_rfl) (by kernel_rfl) (by kernel_rfl) (by kernel_rfl) (by kernel_rfl) (fun _ _ => rfl) ?_
        rintro X1 s150 ⟨⟩ - h
        dsimp only [f47_L1] at h
        cases hx9 : (decide (s150 < p0.length))
        · replace h := h.f hx9
          refine H_ask _ _ (by kernel_rfl) (ask_next0 (M := [.iter p0 s150]) (b := 0) (s := p0) (pos := s150) (by kernel_rfl) hx9) ?_
          refine H_leaveP (.exit 2) (by kernel_rfl) rfl ?_
          exact H_end .ret (.pd (.int .i64 (-1))) (by kernel_rfl) rfl (by kernel_rfl) (by subst h; rfl)
        · replace h := h.t hx9
          refine H_ask _ _ (by kernel_rfl) (ask_next (M := [.iter p0 s150]) (b := 0) (s := p0) (pos := s150) (by kernel_rfl) hx9) ?_
          obtain ⟨x10, hx11, h⟩ := h
          refine H_valW (g := 84) (args := [.pd (.str p1), .pd (.int .i32 (runeAt p0 s150))]) (M := [.iter p0 (s150 + runeLen p0 s150)]) (.pd (.int .i64 x10)) (.inl (by kernel_rfl)) (by kernel_rfl) (f84_ok m _ _ hx11) (by kernel_rfl) (has07 84 (by kernel_rfl)) ?_
          refine H_split (decide (x10 ≥ (0 : Int))) (by kernel_rfl) (fun hc => ?_) (fun hc => ?_)
          · replace h := h.t hc; clear hc
            refine H_leaveP .ret (by kernel_rfl) rfl ?_
            exact H_end .ret (.pd (.int .i64 ((s150 : Nat) : Int))) (by kernel_rfl) rfl (by kernel_rfl) (by subst h; rfl)
          · replace h := h.f hc; clear hc
            exact H_againP (st := _) (s150 + runeLen p0 s150) () h trivial (by kernel_rfl) (by kernel_rfl) (by kernel_rfl) (by kernel_rfl) (by kernel_rfl)
      · replace h := h.t rfl
        exact h.elim

end Go.Abs
