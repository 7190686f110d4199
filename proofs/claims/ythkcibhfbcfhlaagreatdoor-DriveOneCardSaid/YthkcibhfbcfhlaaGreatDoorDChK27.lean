/- A part. -/
import Derived.Test.YthkcibhfbcfhlaaGreatDoorDChK24
import Derived.Test.YthkcibhfbcfhlaaGreatDoorDChK18
import Derived.Test.YthkcibhfbcfhlaaGreatDoorDChK15
import Derived.Test.YthkcibhfbcfhlaaGreatDoorDChK16
import Derived.Test.YthkcibhfbcfhlaaGreatDoorDChK26
import Derived.Test.YthkcibhfbcfhlaaGreatDoorDChK13
import Derived.Laws.RangeAny
set_option linter.unusedVariables false
set_option linter.unusedSimpArgs false
set_option linter.unnecessarySimpa false
section
namespace Go.Abs
open Go.RowKit Go.Proofs
set_option maxRecDepth 100000
def natA (x : AV) : Option (List Int) :=
 match wk x with
 | .pd (.sl n) => match intsOf n with | some n => if okWs n then some n else none | none => none
 | _ => none
theorem natA_ok {x : AV} {n : List Int} (h : natA x = some n) : wk x = .pd (.sl (n.map elU32)) ∧ (WS n ∧ n.length < 30) := by
 unfold natA at h
 split at h
 ·rename_i n' hw
  split at h
  ·rename_i n2 h1
   split at h
   ·rename_i hk
    cases h
    exact ⟨by rw [hw, intsOf_ok h1], okWs_ok hk⟩
   ·cases h
  ·cases h
 ·cases h
def whoA (x : AV) : Option (Bool × List Int) :=
 match wk x with
 | .agg [.pd (.bool p), .pd (.sl n)] => match intsOf n with | some n => if okWs n then some (p, n) else none | none => none
 | _ => none
theorem whoA_ok {x : AV} {p : Bool} {n : List Int} (h : whoA x = some (p, n)) : wk x = .agg [.pd (.bool p), .pd (.sl (n.map elU32))] ∧ (WS n ∧ n.length < 30) := by
 unfold whoA at h
 split at h
 ·rename_i p' n' hw
  split at h
  ·rename_i n2 h1
   split at h
   ·rename_i hk
    cases h
    exact ⟨by rw [hw, intsOf_ok h1], okWs_ok hk⟩
   ·cases h
  ·cases h
 ·cases h
def ratCF (p : Bool) (n d : Nat) : Option AV :=
 if Nat.blt n (4294967296 ^ 60) && Nat.blt d (4294967296 ^ 60) then some (ratV (p && !Nat.beq (n / Nat.gcd n d) 0, wordsF 60 (n / Nat.gcd n d), wordsF 60 (d / Nat.gcd n d))) else none
theorem ratCF_ok {p : Bool} {n d : Nat} {x : AV} (h : ratCF p n d = some x) : x = ratV (ratC p n d) := by
 unfold ratCF at h
 split at h
 ·rename_i hk
  cases h
  simp only [Bool.and_eq_true, Nat.blt_eq] at hk
  unfold ratC
  rw [wordsF_eq _ _ (Nat.lt_of_le_of_lt (Nat.div_le_self _ _) hk.1), wordsF_eq _ _ (Nat.lt_of_le_of_lt (Nat.div_le_self _ _) hk.2)]
  congr 2
  cases hb : Nat.beq (n / Nat.gcd n d) 0 with
  | true =>
   have := Nat.eq_of_beq_eq_true hb
   rw [decide_eq_false (by omega)]; rfl
  | false =>
   have : n / Nat.gcd n d ≠ 0 := fun e => by rw [e] at hb; cases hb
   rw [decide_eq_true this]; rfl
 ·cases h
theorem rat_Int_says (k : Int) (h0 : -4611686018427387904 < k) (h1 : k < 4611686018427387904) : rat_Int k (ratC (decide (k < 0)) k.natAbs 1) := by
 have hw : IntKind.u64.wrap (if (IntKind.i64.wrap (0 - k)) > k then (IntKind.i64.wrap (0 - k)) else k) = ((k.natAbs : Nat) : Int) := by
  rw [wrap64' (by omega) (by omega), show (if 0 - k > k then 0 - k else k) = ((k.natAbs : Nat) : Int) from by split <;> omega]
  exact wrapu64 (by omega) (by omega)
 have hn := nat_Of_says k.natAbs (by omega)
 have w1 : (words 1).length ≤ 7000000 := by rw [words_one (by omega) (by omega)]; simp
 have wl : (words k.natAbs).length ≤ 7000000 := by
  have := words_len 2 k.natAbs (by have : (4294967296 : Nat) ^ 2 = 18446744073709551616 := by decide
                                   omega)
  omega
 have fin : ∀ p : Bool, (p = decide (k < 0)) → ∃ (x4 : List Int), nat_Of (1 : Int) x4 ∧ ∃ (x6 : Bool) (x7 : List Int) (x8 : List Int), rat_Make p (words k.natAbs) x4 (x6, x7, x8) ∧ ratC (decide (k < 0)) k.natAbs 1 = (x6, x7, x8) := fun p hp => by
  have hr := rat_Make_says p (words k.natAbs) (words 1) (WS_words _) (WS_words _) wl w1
  rw [val_words, val_words] at hr
  exact ⟨_, nat_Of_says 1 (by omega), _, _, _, hr, by rw [hp]; rfl⟩
 unfold rat_Int whole_Of
 by_cases hk : k < 0
 ·have hm := whole_Make_says true (words k.natAbs) (WS_words _) (by omega)
  rw [val_words, decide_eq_true (show k.natAbs ≠ 0 by omega)] at hm
  exact ⟨true, words k.natAbs, IfB.dc (fun _ => ⟨_, by rw [hw]; exact hn, _, _, hm, rfl⟩) (fun h => absurd hk h), fin true (by rw [decide_eq_true hk])⟩
 ·have hm := whole_Make_says false (words k.natAbs) (WS_words _) (by omega)
  rw [val_words] at hm
  exact ⟨false, words k.natAbs, IfB.dc (fun h => absurd h hk) (fun _ => ⟨_, by rw [hw]; exact hn, _, _, hm, rfl⟩), fin false (by rw [decide_eq_false hk])⟩
def orcQ (g : FuncId) (args : List AV) (M : Mem) : Option (AV × Mem × Bool) :=
 match g, args with
 | 26, [x, y] =>
  match whoA x, natA y with
  | some (p, n), some d => out1 (ratCF p (val n) (den1 (val d))) M
  | _, _ => orcM g args M
 | 25, [.pd (.int .i64 k)] => if decide (-4611686018427387904 < k) && decide (k < 4611686018427387904) then out1 (ratCF (decide (k < 0)) k.natAbs 1) M else orcM g args M
 | _, _ => orcM g args M
theorem orcQ_ok (m : Tp) (f : FuncId) (args : List AV) (M : Mem) (z : AV × Mem × Bool) (h : orcQ f args M = some z) : CallOK Tryz.prog (gtT m) f args M z := by
 unfold orcQ at h
 split at h
 ·rename_i x y
  split at h
  ·rename_i p n d hx hy
   obtain ⟨ex, wn, ln⟩ := whoA_ok hx
   obtain ⟨ey, wd, ld⟩ := natA_ok hy
   unfold out1 at h
   split at h
   ·rename_i r hr
    cases h
    obtain rfl := ratCF_ok hr
    refine told_ok (hasT 26 (by kernel_rfl)) ?_ ?_
    ·simp only [List.map_cons, List.map_nil]; rw [ex, ey]
     exact rat_Make_ok m _ _ _ (rat_Make_says p n d wn wd (by omega) (by omega))
    ·simp only [List.map_cons, List.map_nil]; rw [ex, ey]; rfl
   ·cases h
  ·exact orcM_ok m _ _ M _ h
 ·rename_i k
  split at h
  ·rename_i hk
   rw [Bool.and_eq_true, decide_eq_true_eq, decide_eq_true_eq] at hk
   unfold out1 at h
   split at h
   ·rename_i r hr
    cases h
    obtain rfl := ratCF_ok hr
    exact told_ok (hasT 25 (by kernel_rfl)) (rat_Int_ok m k (rat_Int_says k hk.1 hk.2)) rfl
   ·cases h
  ·exact orcM_ok m _ _ M _ h
 ·exact orcM_ok m _ _ M _ h
end Go.Abs
end
section
namespace Go.Abs
open Go.RowKit Go.Proofs
set_option maxRecDepth 100000
def w21 (p : Bool) (n d : List Int) : PD := .agg [.bool p, .sl (n.map (PD.int .u32)), .sl (d.map (PD.int .u32))]
def keep21 : FuncId → Bool := (fun f => Nat.beq f 17 || Nat.beq f (1000000 + 174) || Nat.beq f (1000000 + 23) || Nat.beq f (1000000 + 22) || Nat.beq f (1000000 + 24))
def tab21_0 : List (FuncId × List AV × AV) := []
theorem tab21_0_ok (m : Tp) : TabOK Tryz.prog (gtT m) tab21_0 := .nil
def a21_1 : List AV := [.pd (.sl [.str [109, 105, 110], .str [45], .str [120]])]
def r21_1 : AV := .tup [.agg [.pd (.str []), .pd (.sl [.agg [.str [120], .bool true, .sl [.int .u32 (1)], .sl [.int .u32 (1)]]]), .pd (.int .i64 0), .pd (.bool false), .pd (.sl []), .pd (.sl [])], .pd (.bool true)]
theorem run21_1 (m : Tp) : iplain Tryz.prog (fixF Tryz.prog (gtT m) (orcT tab21_0 orcQ) keep21 400) 15 a21_1 [] = some (r21_1, [], false) := by kernel_rfl
def tab21_1 : List (FuncId × List AV × AV) := (15, a21_1, r21_1) :: tab21_0
theorem tab21_1_ok (m : Tp) : TabOK Tryz.prog (gtT m) tab21_1 := .cons (says_ok mixedT namesT (orcT_ok (tab21_0_ok m) (orcQ_ok m)) (run21_1 m)) (hasT 15 (by kernel_rfl)) rfl (tab21_0_ok m)
def a21_2 : List AV := [.pd (.str [109, 105, 110, 32, 45, 32, 120, 10, 97, 58, 32, 120, 32, 60, 61, 32, 52, 10])]
def r21_2 : AV := .tup [.agg [.pd (.sl [.str [120]]), .pd (.sl [w21 true [1] [1]]), .pd (.sl [.agg [.str [97], .sl [w21 false [1] [1]], .int .i64 (-1), .bool false, .sl [.int .u32 (4)], .sl [.int .u32 (1)]]])], .pd (.int .i64 0), .pd (.int .i64 0)]
theorem run21_2 (m : Tp) : iplain Tryz.prog (fixF Tryz.prog (gtT m) (orcT tab21_1 orcQ) keep21 400) 7 a21_2 [] = some (r21_2, [], false) := by kernel_rfl
def tab21_2 : List (FuncId × List AV × AV) := (7, a21_2, r21_2) :: tab21_1
theorem tab21_2_ok (m : Tp) : TabOK Tryz.prog (gtT m) tab21_2 := .cons (says_ok mixedT namesT (orcT_ok (tab21_1_ok m) (orcQ_ok m)) (run21_2 m)) (hasT 7 (by kernel_rfl)) rfl (tab21_1_ok m)
end Go.Abs
end
section
namespace Go.Abs
open Go.RowKit Go.Proofs
set_option maxRecDepth 100000
def a21_3 : List AV := [.agg [.pd (.sl [.str [120]]), .pd (.sl [w21 true [1] [1]]), .pd (.sl [.agg [.str [97], .sl [w21 false [1] [1]], .int .i64 (-1), .bool false, .sl [.int .u32 (4)], .sl [.int .u32 (1)]]])], .pd (.str [98, 108, 111, 99, 107, 32, 120])]
def r21_3 : AV := .tup [.agg [.pd (.sl [.sl [.int .i64 0]])], .pd (.int .i64 0), .pd (.int .i64 0)]
theorem run21_3 (m : Tp) : iplain Tryz.prog (fixF Tryz.prog (gtT m) (orcT tab21_2 orcQ) keep21 400) 30 a21_3 [] = some (r21_3, [], false) := by kernel_rfl
def tab21_3 : List (FuncId × List AV × AV) := (30, a21_3, r21_3) :: tab21_2
theorem tab21_3_ok (m : Tp) : TabOK Tryz.prog (gtT m) tab21_3 := .cons (says_ok mixedT namesT (orcT_ok (tab21_2_ok m) (orcQ_ok m)) (run21_3 m)) (hasT 30 (by kernel_rfl)) rfl (tab21_2_ok m)
def a21_4 : List AV := [.agg [.pd (.sl [.str [120]]), .pd (.sl [w21 true [1] [1]]), .pd (.sl [.agg [.str [97], .sl [w21 false [1] [1]], .int .i64 (-1), .bool false, .sl [.int .u32 (4)], .sl [.int .u32 (1)]]])], .agg [.pd (.sl [.sl [.int .i64 0]])]]
def r21_4 : AV := .pd (.sl [.int .i64 0])
theorem run21_4 (m : Tp) : iplain Tryz.prog (fixF Tryz.prog (gtT m) (orcT tab21_3 orcQ) keep21 400) 120 a21_4 [] = some (r21_4, [], false) := by kernel_rfl
def tab21_4 : List (FuncId × List AV × AV) := (120, a21_4, r21_4) :: tab21_3
theorem tab21_4_ok (m : Tp) : TabOK Tryz.prog (gtT m) tab21_4 := .cons (says_ok mixedT namesT (orcT_ok (tab21_3_ok m) (orcQ_ok m)) (run21_4 m)) (hasT 120 (by kernel_rfl)) rfl (tab21_3_ok m)
def a21_5 : List AV := [.agg [.pd (.sl [.str [120]]), .pd (.sl [w21 true [1] [1]]), .pd (.sl [.agg [.str [97], .sl [w21 false [1] [1]], .int .i64 (-1), .bool false, .sl [.int .u32 (4)], .sl [.int .u32 (1)]]])], .agg [.pd (.sl [.sl [.int .i64 0]])]]
def r21_5 : AV := .pd (.sl [.int .i64 0])
theorem run21_5 (m : Tp) : iplain Tryz.prog (fixF Tryz.prog (gtT m) (orcT tab21_4 orcQ) keep21 400) 121 a21_5 [] = some (r21_5, [], false) := by kernel_rfl
def tab21_5 : List (FuncId × List AV × AV) := (121, a21_5, r21_5) :: tab21_4
theorem tab21_5_ok (m : Tp) : TabOK Tryz.prog (gtT m) tab21_5 := .cons (says_ok mixedT namesT (orcT_ok (tab21_4_ok m) (orcQ_ok m)) (run21_5 m)) (hasT 121 (by kernel_rfl)) rfl (tab21_4_ok m)
end Go.Abs
end
section
namespace Go.Abs
open Go.RowKit Go.Proofs
set_option maxRecDepth 100000
def a21_6 : List AV := [.agg [.pd (.sl [.str [120]]), .pd (.sl [w21 true [1] [1]]), .pd (.sl [.agg [.str [97], .sl [w21 false [1] [1]], .int .i64 (-1), .bool false, .sl [.int .u32 (4)], .sl [.int .u32 (1)]]])], .agg [.pd (.sl [.sl [.int .i64 0]])], .pd (.int .i64 0)]
def r21_6 : AV := .tup [.agg [.pd (.sl [.sl [w21 false [1] [1], w21 false [1] [1]]]), .pd (.sl [w21 false [4] [1]]), .pd (.sl [w21 true [1] [1], w21 false [] [1]]), .pd (.sl [.int .i64 0])], .pd (.int .i64 0)]
theorem run21_6 (m : Tp) : iplain Tryz.prog (fixF Tryz.prog (gtT m) (orcT tab21_5 orcQ) keep21 400) 119 a21_6 [] = some (r21_6, [], false) := by kernel_rfl
def tab21_6 : List (FuncId × List AV × AV) := (119, a21_6, r21_6) :: tab21_5
theorem tab21_6_ok (m : Tp) : TabOK Tryz.prog (gtT m) tab21_6 := .cons (says_ok mixedT namesT (orcT_ok (tab21_5_ok m) (orcQ_ok m)) (run21_6 m)) (hasT 119 (by kernel_rfl)) rfl (tab21_5_ok m)
def a21_7 : List AV := [.pd (.sl [.sl [w21 false [1] [1]]]), .pd (.sl [w21 false [4] [1]])]
def r21_7 : AV := .tup [.pd (.sl [w21 false [4] [1]]), .pd (.int .i64 0)]
theorem run21_7 (m : Tp) : iplain Tryz.prog (fixF Tryz.prog (gtT m) (orcT tab21_6 orcQ) keep21 400) 223 a21_7 [] = some (r21_7, [], false) := by kernel_rfl
def tab21_7 : List (FuncId × List AV × AV) := (223, a21_7, r21_7) :: tab21_6
theorem tab21_7_ok (m : Tp) : TabOK Tryz.prog (gtT m) tab21_7 := .cons (says_ok mixedT namesT (orcT_ok (tab21_6_ok m) (orcQ_ok m)) (run21_7 m)) (hasT 223 (by kernel_rfl)) rfl (tab21_6_ok m)
def a21_8 : List AV := [.pd (.sl [.sl [w21 false [1] [1]]]), .pd (.sl [w21 false [1] [1]])]
def r21_8 : AV := .tup [.pd (.sl [w21 false [1] [1]]), .pd (.int .i64 0)]
theorem run21_8 (m : Tp) : iplain Tryz.prog (fixF Tryz.prog (gtT m) (orcT tab21_7 orcQ) keep21 400) 223 a21_8 [] = some (r21_8, [], false) := by kernel_rfl
def tab21_8 : List (FuncId × List AV × AV) := (223, a21_8, r21_8) :: tab21_7
theorem tab21_8_ok (m : Tp) : TabOK Tryz.prog (gtT m) tab21_8 := .cons (says_ok mixedT namesT (orcT_ok (tab21_7_ok m) (orcQ_ok m)) (run21_8 m)) (hasT 223 (by kernel_rfl)) rfl (tab21_7_ok m)
def a21_9 : List AV := [.pd (.sl [.sl [w21 false [1] [1]]]), .pd (.sl [w21 false [] [1]])]
def r21_9 : AV := .tup [.pd (.sl [w21 false [] [1]]), .pd (.int .i64 0)]
theorem run21_9 (m : Tp) : iplain Tryz.prog (fixF Tryz.prog (gtT m) (orcT tab21_8 orcQ) keep21 400) 223 a21_9 [] = some (r21_9, [], false) := by kernel_rfl
def tab21_9 : List (FuncId × List AV × AV) := (223, a21_9, r21_9) :: tab21_8
theorem tab21_9_ok (m : Tp) : TabOK Tryz.prog (gtT m) tab21_9 := .cons (says_ok mixedT namesT (orcT_ok (tab21_8_ok m) (orcQ_ok m)) (run21_9 m)) (hasT 223 (by kernel_rfl)) rfl (tab21_8_ok m)
end Go.Abs
end
section
namespace Go.Abs
open Go.RowKit Go.Proofs
set_option maxRecDepth 100000
def a21_10 : List AV := [.agg [.pd (.sl [.sl [w21 false [1] [1], w21 false [1] [1]]]), .pd (.sl [w21 false [4] [1]]), .pd (.sl [w21 true [1] [1], w21 false [] [1]]), .pd (.sl [.int .i64 0])], .pd (.sl [w21 false [] [1]]), .pd (.int .i64 65536)]
def r21_10 : AV := .tup [.agg [.pd (.int .i64 1), .pd (.sl [w21 false [4] [1]]), .pd (.bool false), .pd (.sl []), .pd (.sl [.int .u32 (1)])], .pd (.int .i64 1), .pd (.int .i64 0)]
theorem run21_10 (m : Tp) : iplain Tryz.prog (fixF Tryz.prog (gtT m) (orcT tab21_9 orcQ) keep21 400) 176 a21_10 [] = some (r21_10, [], false) := by kernel_rfl
def tab21_10 : List (FuncId × List AV × AV) := (176, a21_10, r21_10) :: tab21_9
theorem tab21_10_ok (m : Tp) : TabOK Tryz.prog (gtT m) tab21_10 := .cons (says_ok mixedT namesT (orcT_ok (tab21_9_ok m) (orcQ_ok m)) (run21_10 m)) (hasT 176 (by kernel_rfl)) rfl (tab21_9_ok m)
end Go.Abs
end
section
namespace Go.Abs
open Go.RowKit Go.Proofs
set_option maxRecDepth 100000
def a21_11 : List AV := [.pd (.sl [.sl [w21 false [1] [1]]]), .pd (.sl [w21 true [4] [1]])]
def r21_11 : AV := .tup [.pd (.sl [w21 true [4] [1]]), .pd (.int .i64 0)]
theorem run21_11 (m : Tp) : iplain Tryz.prog (fixF Tryz.prog (gtT m) (orcT tab21_10 orcQ) keep21 400) 223 a21_11 [] = some (r21_11, [], false) := by kernel_rfl
def tab21_11 : List (FuncId × List AV × AV) := (223, a21_11, r21_11) :: tab21_10
theorem tab21_11_ok (m : Tp) : TabOK Tryz.prog (gtT m) tab21_11 := .cons (says_ok mixedT namesT (orcT_ok (tab21_10_ok m) (orcQ_ok m)) (run21_11 m)) (hasT 223 (by kernel_rfl)) rfl (tab21_10_ok m)
def a21_12 : List AV := [.agg [.pd (.sl [.sl [w21 false [1] [1]]]), .pd (.sl [w21 false [1] [1]]), .pd (.sl [w21 true [4] [1]])], .pd (.int .i64 65535)]
def r21_12 : AV := .tup [.agg [.pd (.int .i64 1), .pd (.sl [w21 false [1] [1]]), .pd (.sl [w21 true [4] [1]]), .pd (.sl []), .pd (.sl [.int .i64 0]), .pd (.int .i64 1)], .pd (.int .i64 0)]
theorem run21_12 (m : Tp) : iplain Tryz.prog (fixF Tryz.prog (gtT m) (orcT tab21_11 orcQ) keep21 400) 76 a21_12 [] = some (r21_12, [], false) := by kernel_rfl
def tab21_12 : List (FuncId × List AV × AV) := (76, a21_12, r21_12) :: tab21_11
theorem tab21_12_ok (m : Tp) : TabOK Tryz.prog (gtT m) tab21_12 := .cons (says_ok mixedT namesT (orcT_ok (tab21_11_ok m) (orcQ_ok m)) (run21_12 m)) (hasT 76 (by kernel_rfl)) rfl (tab21_11_ok m)
end Go.Abs
end
section
namespace Go.Abs
open Go.RowKit Go.Proofs
set_option maxRecDepth 100000
def a21_13 : List AV := [.pd (.sl [.sl [w21 false [1] [1]]]), .pd (.sl [w21 true [1] [1]])]
def r21_13 : AV := .tup [.pd (.sl [w21 true [1] [1]]), .pd (.int .i64 0)]
theorem run21_13 (m : Tp) : iplain Tryz.prog (fixF Tryz.prog (gtT m) (orcT tab21_12 orcQ) keep21 400) 223 a21_13 [] = some (r21_13, [], false) := by kernel_rfl
def tab21_13 : List (FuncId × List AV × AV) := (223, a21_13, r21_13) :: tab21_12
theorem tab21_13_ok (m : Tp) : TabOK Tryz.prog (gtT m) tab21_13 := .cons (says_ok mixedT namesT (orcT_ok (tab21_12_ok m) (orcQ_ok m)) (run21_13 m)) (hasT 223 (by kernel_rfl)) rfl (tab21_12_ok m)
def a21_14 : List AV := [.agg [.pd (.sl [.sl [w21 false [1] [1], w21 false [1] [1]]]), .pd (.sl [w21 false [4] [1]]), .pd (.sl [w21 true [1] [1], w21 false [] [1]]), .pd (.sl [.int .i64 0])], .pd (.sl [w21 true [1] [1]]), .pd (.int .i64 65534)]
def r21_14 : AV := .tup [.agg [.pd (.int .i64 1), .pd (.sl [w21 false [4] [1]]), .pd (.bool true), .pd (.sl [.int .u32 (4)]), .pd (.sl [.int .u32 (1)])], .pd (.int .i64 1), .pd (.int .i64 0)]
theorem run21_14 (m : Tp) : iplain Tryz.prog (fixF Tryz.prog (gtT m) (orcT tab21_13 orcQ) keep21 400) 176 a21_14 [] = some (r21_14, [], false) := by kernel_rfl
def tab21_14 : List (FuncId × List AV × AV) := (176, a21_14, r21_14) :: tab21_13
theorem tab21_14_ok (m : Tp) : TabOK Tryz.prog (gtT m) tab21_14 := .cons (says_ok mixedT namesT (orcT_ok (tab21_13_ok m) (orcQ_ok m)) (run21_14 m)) (hasT 176 (by kernel_rfl)) rfl (tab21_13_ok m)
end Go.Abs
end
section
namespace Go.Abs
open Go.RowKit Go.Proofs
set_option maxRecDepth 100000
def a21_15 : List AV := [.agg [.pd (.sl [.str [120]]), .pd (.sl [w21 true [1] [1]]), .pd (.sl [.agg [.str [97], .sl [w21 false [1] [1]], .int .i64 (-1), .bool false, .sl [.int .u32 (4)], .sl [.int .u32 (1)]]])], .agg [.pd (.sl [.sl [.int .i64 0]])], .pd (.int .i64 65536)]
def r21_15 : AV := .tup [.agg [.pd (.int .i64 1), .pd (.int .i64 1), .pd (.int .i64 3), .pd (.sl [w21 false [4] [1]]), .pd (.sl []), .pd (.bool true), .pd (.sl [.int .u32 (4)]), .pd (.sl [.int .u32 (1)]), .pd (.sl [.agg [.int .i64 0, .int .i64 1, .sl [w21 false [4] [1]]]]), .pd (.sl [.agg [.bool true, .sl [.int .u32 (4)], .sl [.int .u32 (1)], .bool true, .sl [.int .u32 (4)], .sl [.int .u32 (1)], .bool true, .bool true]])], .pd (.int .i64 0)]
theorem run21_15 (m : Tp) : iplain Tryz.prog (fixF Tryz.prog (gtT m) (orcT tab21_14 orcQ) keep21 400) 31 a21_15 [] = some (r21_15, [], false) := by kernel_rfl
def tab21_15 : List (FuncId × List AV × AV) := (31, a21_15, r21_15) :: tab21_14
theorem tab21_15_ok (m : Tp) : TabOK Tryz.prog (gtT m) tab21_15 := .cons (says_ok mixedT namesT (orcT_ok (tab21_14_ok m) (orcQ_ok m)) (run21_15 m)) (hasT 31 (by kernel_rfl)) rfl (tab21_14_ok m)
end Go.Abs
end
section
namespace Go.Abs
open Go.RowKit Go.Proofs
set_option maxRecDepth 100000
def a21_16 : List AV := [.agg [.pd (.sl [.str [120]]), .pd (.sl [w21 true [1] [1]]), .pd (.sl [.agg [.str [97], .sl [w21 false [1] [1]], .int .i64 (-1), .bool false, .sl [.int .u32 (4)], .sl [.int .u32 (1)]]])]]
def r21_16 : AV := .tup [.agg [.pd (.sl [.sl [w21 false [1] [1], w21 false [1] [1]]]), .pd (.sl [w21 false [4] [1]]), .pd (.sl [w21 true [1] [1], w21 false [] [1]])], .pd (.int .i64 0)]
theorem run21_16 (m : Tp) : iplain Tryz.prog (fixF Tryz.prog (gtT m) (orcT tab21_15 orcQ) keep21 400) 9 a21_16 [] = some (r21_16, [], false) := by kernel_rfl
def tab21_16 : List (FuncId × List AV × AV) := (9, a21_16, r21_16) :: tab21_15
theorem tab21_16_ok (m : Tp) : TabOK Tryz.prog (gtT m) tab21_16 := .cons (says_ok mixedT namesT (orcT_ok (tab21_15_ok m) (orcQ_ok m)) (run21_16 m)) (hasT 9 (by kernel_rfl)) rfl (tab21_15_ok m)
def a21_17 : List AV := [.agg [.pd (.sl [.sl [w21 false [1] [1], w21 false [1] [1]]]), .pd (.sl [w21 false [4] [1]]), .pd (.sl [w21 true [1] [1], w21 false [] [1]])], .pd (.int .i64 65536)]
def r21_17 : AV := .tup [.agg [.pd (.int .i64 1), .pd (.sl [w21 false [4] [1], w21 false [] [1]]), .pd (.sl [w21 true [1] [1]]), .pd (.sl []), .pd (.sl [.int .i64 0]), .pd (.int .i64 1)], .pd (.int .i64 0)]
theorem run21_17 (m : Tp) : iplain Tryz.prog (fixF Tryz.prog (gtT m) (orcT tab21_16 orcQ) keep21 400) 76 a21_17 [] = some (r21_17, [], false) := by kernel_rfl
def tab21_17 : List (FuncId × List AV × AV) := (76, a21_17, r21_17) :: tab21_16
theorem tab21_17_ok (m : Tp) : TabOK Tryz.prog (gtT m) tab21_17 := .cons (says_ok mixedT namesT (orcT_ok (tab21_16_ok m) (orcQ_ok m)) (run21_17 m)) (hasT 76 (by kernel_rfl)) rfl (tab21_16_ok m)
def a21_18 : List AV := [.agg [.pd (.sl [.str [120]]), .pd (.sl [w21 true [1] [1]]), .pd (.sl [.agg [.str [97], .sl [w21 false [1] [1]], .int .i64 (-1), .bool false, .sl [.int .u32 (4)], .sl [.int .u32 (1)]]])], .pd (.int .i64 65536)]
def r21_18 : AV := .tup [.pd (.str [111, 112, 116, 105, 109, 97, 108, 10, 120, 32, 52, 32, 48, 10, 121, 32, 45, 49, 10]), .pd (.int .i64 0)]
theorem run21_18 (m : Tp) : iplain Tryz.prog (fixF Tryz.prog (gtT m) (orcT tab21_17 orcQ) keep21 400) 32 a21_18 [] = some (r21_18, [], false) := by kernel_rfl
def tab21_18 : List (FuncId × List AV × AV) := (32, a21_18, r21_18) :: tab21_17
theorem tab21_18_ok (m : Tp) : TabOK Tryz.prog (gtT m) tab21_18 := .cons (says_ok mixedT namesT (orcT_ok (tab21_17_ok m) (orcQ_ok m)) (run21_18 m)) (hasT 32 (by kernel_rfl)) rfl (tab21_17_ok m)
end Go.Abs
end
section
namespace Go.Abs
open Go.RowKit Go.Proofs
set_option maxRecDepth 100000
def a21_19 : List AV := [.pd (.str [109, 105, 110, 32, 45, 32, 120, 10, 97, 58, 32, 120, 32, 60, 61, 32, 52, 10]), .pd (.str [98, 108, 111, 99, 107, 32, 120]), .pd (.int .i64 65536)]
def r21_19 : AV := .tup [.agg [.pd (.int .i64 1), .pd (.str [45, 52]), .pd (.sl [.str [52]]), .pd (.str [111, 112, 116, 105, 109, 97, 108, 10, 120, 32, 52, 32, 48, 10, 121, 32, 45, 49, 10])], .pd (.int .i64 0), .pd (.int .i64 0)]
theorem run21_19 (m : Tp) : iplain Tryz.prog (fixF Tryz.prog (gtT m) (orcT tab21_18 orcQ) keep21 400) 11 a21_19 [] = some (r21_19, [], false) := by kernel_rfl
def tab21_19 : List (FuncId × List AV × AV) := (11, a21_19, r21_19) :: tab21_18
theorem tab21_19_ok (m : Tp) : TabOK Tryz.prog (gtT m) tab21_19 := .cons (says_ok mixedT namesT (orcT_ok (tab21_18_ok m) (orcQ_ok m)) (run21_19 m)) (hasT 11 (by kernel_rfl)) rfl (tab21_18_ok m)
def a21_20 : List AV := [.pd (.str [111, 112, 116, 105, 109, 97, 108, 10, 120, 32, 52, 32, 48, 10, 121, 32, 45, 49, 10])]
def r21_20 : AV := .tup [.agg [.pd (.int .i64 1), .pd (.sl [w21 false [4] [1], w21 false [] [1]]), .pd (.sl [w21 true [1] [1]]), .pd (.sl [])], .pd (.int .i64 0), .pd (.int .i64 0)]
theorem run21_20 (m : Tp) : iplain Tryz.prog (fixF Tryz.prog (gtT m) (orcT tab21_19 orcQ) keep21 400) 8 a21_20 [] = some (r21_20, [], false) := by kernel_rfl
def tab21_20 : List (FuncId × List AV × AV) := (8, a21_20, r21_20) :: tab21_19
theorem tab21_20_ok (m : Tp) : TabOK Tryz.prog (gtT m) tab21_20 := .cons (says_ok mixedT namesT (orcT_ok (tab21_19_ok m) (orcQ_ok m)) (run21_20 m)) (hasT 8 (by kernel_rfl)) rfl (tab21_19_ok m)
def a21_21 : List AV := [.agg [.pd (.sl [.sl [w21 false [1] [1], w21 false [1] [1]]]), .pd (.sl [w21 false [4] [1]]), .pd (.sl [w21 true [1] [1], w21 false [] [1]])], .agg [.pd (.int .i64 1), .pd (.sl [w21 false [4] [1], w21 false [] [1]]), .pd (.sl [w21 true [1] [1]]), .pd (.sl [])]]
def r21_21 : AV := .pd (.int .i64 0)
theorem run21_21 (m : Tp) : iplain Tryz.prog (fixF Tryz.prog (gtT m) (orcT tab21_20 orcQ) keep21 400) 10 a21_21 [] = some (r21_21, [], false) := by kernel_rfl
def tab21_21 : List (FuncId × List AV × AV) := (10, a21_21, r21_21) :: tab21_20
theorem tab21_21_ok (m : Tp) : TabOK Tryz.prog (gtT m) tab21_21 := .cons (says_ok mixedT namesT (orcT_ok (tab21_20_ok m) (orcQ_ok m)) (run21_21 m)) (hasT 10 (by kernel_rfl)) rfl (tab21_20_ok m)
def a21_22 : List AV := [.pd (.str [109, 105, 110, 32, 45, 32, 120, 10, 97, 58, 32, 120, 32, 60, 61, 32, 52, 10]), .pd (.str [111, 112, 116, 105, 109, 97, 108, 10, 120, 32, 52, 32, 48, 10, 121, 32, 45, 49, 10])]
def r21_22 : AV := .pd (.int .i64 0)
theorem run21_22 (m : Tp) : iplain Tryz.prog (fixF Tryz.prog (gtT m) (orcT tab21_21 orcQ) keep21 400) 6 a21_22 [] = some (r21_22, [], false) := by kernel_rfl
def tab21_22 : List (FuncId × List AV × AV) := (6, a21_22, r21_22) :: tab21_21
theorem tab21_22_ok (m : Tp) : TabOK Tryz.prog (gtT m) tab21_22 := .cons (says_ok mixedT namesT (orcT_ok (tab21_21_ok m) (orcQ_ok m)) (run21_22 m)) (hasT 6 (by kernel_rfl)) rfl (tab21_21_ok m)
def a21_23 : List AV := [.pd (.sl [.sl [.int .i64 2, .int .i64 3]])]
def r21_23 : AV := .pd (.str [114, 111, 108, 108, 115, 32, 49, 10, 50, 32, 51, 10])
theorem run21_23 (m : Tp) : iplain Tryz.prog (fixF Tryz.prog (gtT m) (orcT tab21_22 orcQ) keep21 400) 12 a21_23 [] = some (r21_23, [], false) := by kernel_rfl
def tab21_23 : List (FuncId × List AV × AV) := (12, a21_23, r21_23) :: tab21_22
theorem tab21_23_ok (m : Tp) : TabOK Tryz.prog (gtT m) tab21_23 := .cons (says_ok mixedT namesT (orcT_ok (tab21_22_ok m) (orcQ_ok m)) (run21_23 m)) (hasT 12 (by kernel_rfl)) rfl (tab21_22_ok m)
theorem awake_runs21 (m : Tp) : saysTrue Tryz.prog (gtT m) (orcT tab21_23 orcQ) keep21 400 5 [] = true := by kernel_rfl
theorem offcutlaw21_awake_ok (m : Tp) {r : Bool} (h : offcutlaw21_awake r) : ASpec Tryz.prog (gtT m) 5 [] (· = .pd (.bool r)) := by
 obtain rfl := h
 exact saysTrue_ok mixedT namesT (orcT_ok (tab21_23_ok m) (orcQ_ok m)) (awake_runs21 m)
end Go.Abs
end
section
namespace Go.Abs
open Go.Proofs
set_option maxHeartbeats 4000000
set_option maxRecDepth 20000
theorem drive_Check_ok (m : Tp) (p0 : List UInt8) (p1 : List UInt8) {r : Int} (h : drive_Check p0 p1 r) : ASpec Tryz.prog (gtT m) 6 [.pd (.str p0), .pd (.str p1)] (· = .pd (.int .i64 r)) := by
 refine ASpec_tree Tryz.f6 mixedT (askG [9, 10, 11] false) (by kernel_rfl) ?_
 unfold drive_Check at h
 obtain ⟨x1, x2, x3, x4, x5, hx6, h⟩ := h
 refine QV (model_Parse_ok m _ hx6) ?_
 refine QK 1 ?_
 refine QBp h (fun hp7 h => ?_) (fun hp7 h => ?_)
 ·subst r; exact QE .ret
 obtain ⟨x8, x9, x10, x11, x12, x13, hx14, h⟩ := h
 refine QV (proof_Parse_ok m _ hx14) ?_
 refine QK 1 ?_
 refine QBp h (fun hp15 h => ?_) (fun hp15 h => ?_)
 ·subst r; exact QE .ret
 refine QK 1 ?_
 obtain ⟨x16, x17, x18, x19, hx20, h⟩ := h
 refine QV (shape_Of_ok m _ _ _ hx20) ?_
 refine QK 1 ?_
 refine QBp h (fun hp21 h => ?_) (fun hp21 h => ?_)
 ·subst r; exact QE .ret
 refine QK 2 ?_
 obtain ⟨x22, hx23, h⟩ := h
 refine QV (proof_Check_ok m _ _ _ _ _ _ _ hx23) ?_
 subst r; exact QE .ret
theorem offcutlaw21_DriveOne_ok (m : Tp) (p0 : List UInt8) (p1 : List UInt8) (p2 : List UInt8) {r : Bool} (h : offcutlaw21_DriveOne p0 p1 p2 r) : ASpec Tryz.prog (gtT m) 4 [.pd (.str p0), .pd (.str p1), .pd (.str p2)] (· = .pd (.bool r)) := by
 refine ASpec_tree Tryz.f4 mixedT (askG [9, 10, 11] false) (by kernel_rfl) ?_
 unfold offcutlaw21_DriveOne at h
 refine QK 1 ?_
 refine QBp h (fun hp1 h => ?_) (fun hp1 h => ?_)
 ·obtain ⟨x2, hx3, h⟩ := h
  refine QV (offcutlaw21_awake_ok m  hx3) ?_
  cases x2
  ·replace h := h.f rfl
   subst r; exact QE .ret
  replace h := h.t rfl
  subst r; exact QE .ret
 refine QK 1 ?_
 refine QBp h (fun hp4 h => ?_) (fun hp4 h => ?_)
 ·obtain ⟨x5, hx6, h⟩ := h
  refine QV (offcutlaw21_awake_ok m  hx6) ?_
  cases x5
  ·replace h := h.f rfl
   subst r; exact QE .ret
  replace h := h.t rfl
  subst r; exact QE .ret
 refine QK 1 ?_
 refine QBp h (fun hp7 h => ?_) (fun hp7 h => ?_)
 ·obtain ⟨x8, hx9, h⟩ := h
  refine QV (offcutlaw21_awake_ok m  hx9) ?_
  cases x8
  ·replace h := h.f rfl
   subst r; exact QE .ret
  replace h := h.t rfl
  subst r; exact QE .ret
 obtain ⟨x10, hx11, h⟩ := h
 refine QV (drive_Check_ok m _ _ hx11) ?_
 refine QBp h (fun hp12 h => ?_) (fun hp12 h => ?_)
 ·obtain ⟨x13, hx14, h⟩ := h
  refine QV (offcutlaw21_awake_ok m  hx14) ?_
  cases x13
  ·replace h := h.f rfl
   subst r; exact QE .ret
  replace h := h.t rfl
  subst r; exact QE .ret
 obtain ⟨x15, hx16, h⟩ := h
 refine QV (drive_Check_ok m _ _ hx16) ?_
 refine QBp h (fun hp17 h => ?_) (fun hp17 h => ?_)
 ·obtain ⟨x18, hx19, h⟩ := h
  refine QV (offcutlaw21_awake_ok m  hx19) ?_
  cases x18
  ·replace h := h.f rfl
   subst r; exact QE .ret
  replace h := h.t rfl
  subst r; exact QE .ret
 obtain ⟨x20, x21, x22, x23, x24, x25, hx26, h⟩ := h
 refine QV (proof_Parse_ok m _ hx26) ?_
 refine QK 1 ?_
 obtain ⟨x27, x28, x29, x30, x31, x32, hx33, h⟩ := h
 refine QV (proof_Parse_ok m _ hx33) ?_
 refine QK 5 ?_
 refine QBp h (fun hp34 h => ?_) (fun hp34 h => ?_)
 ·refine QK 2 ?_
  refine QBp h (fun hp35 h => ?_) (fun hp35 h => ?_)
  ·obtain ⟨x36, hx37, h⟩ := h
   refine QV (offcutlaw21_awake_ok m  hx37) ?_
   cases x36
   ·replace h := h.f rfl
    subst r; exact QE .ret
   replace h := h.t rfl
   subst r; exact QE .ret
  subst r; exact QE .ret
 subst r; exact QE .ret
end Go.Abs
end
section
namespace Go.Abs
open Go
end Go.Abs
end
section
namespace Go.Abs
open Go
end Go.Abs
end
section
namespace Go.Abs
open Go
theorem IfB.dec {p : Prop} [Decidable p] {A B : Prop} (h1 : p → A) (h2 : ¬ p → B) : IfB (decide p) A B := ⟨fun h => h1 (of_decide_eq_true h), fun h => h2 (of_decide_eq_false h)⟩
theorem IfB.eqi {a b : Int} {A B : Prop} (h1 : a = b → A) (h2 : a ≠ b → B) : IfB (a == b) A B := ⟨fun h => h1 (by simpa using h), fun h => h2 (by simpa using h)⟩
theorem IfB.nei {a b : Int} {A B : Prop} (h1 : a ≠ b → A) (h2 : a = b → B) : IfB (a != b) A B := ⟨fun h => h1 (by simpa using h), fun h => h2 (by simpa using h)⟩
theorem IfB.bool {b : Bool} {A B : Prop} (h1 : b = true → A) (h2 : b = false → B) : IfB b A B := ⟨h1, h2⟩
theorem rune_at {s : List UInt8} {k : Nat} {b : UInt8} (h : s[k]? = some b) : (b.toNat < 128 ∧ runeAt s k = (b.toNat : Int) ∧ runeLen s k = 1) ∨ (128 ≤ b.toNat ∧ 128 ≤ runeAt s k ∧ 1 ≤ runeLen s k) := by
 obtain ⟨hk, hb⟩ := List.getElem?_eq_some_iff.1 h
 have hk' : k < (ByteArray.mk s.toArray).size := by simpa [ByteArray.size] using hk
 have e : (ByteArray.mk s.toArray)[k]'hk' = b := by
  rw [← hb]; rfl
 by_cases ha : b.toNat < 128
 ·have := Go.decode_ascii (ByteArray.mk s.toArray) k hk' (by rw [e]; exact ha)
  rw [e] at this
  exact .inl ⟨ha, by simp [runeAt, this], by simp [runeLen, this]⟩
 ·have := Go.decode_high (ByteArray.mk s.toArray) k hk' (by rw [e]; omega)
  exact .inr ⟨by omega, by simp only [runeAt]; omega, this.2⟩
def nmOk (i : Nat) (b : UInt8) : Prop := (97 ≤ b.toNat ∧ b.toNat ≤ 122) ∨ (i ≠ 0 ∧ (b.toNat = 95 ∨ (48 ≤ b.toNat ∧ b.toNat ≤ 57)))
def NameTo (s : List UInt8) (k : Nat) : Prop := ∀ i b, i < k → s[i]? = some b → nmOk i b
def NameP (s : List UInt8) : Prop := 1 ≤ s.length ∧ s.length ≤ 16 ∧ NameTo s s.length
theorem NameTo.next {s : List UInt8} {k : Nat} {b : UInt8} (h : NameTo s k) (hb : s[k]? = some b) (hn : nmOk k b) : NameTo s (k + 1) := fun i c hi hc => by
 by_cases e : i = k
 ·subst e; rw [hb] at hc; cases hc; exact hn
 ·exact h i c (by omega) hc
theorem not_name {s : List UInt8} {k : Nat} {b : UInt8} (hb : s[k]? = some b) (hn : ¬ nmOk k b) : ¬ NameP s := fun h => hn (h.2.2 k b (List.getElem?_eq_some_iff.1 hb).1 hb)
theorem lines_Name_says {s : List UInt8} {r : Bool} (hr : r = true ↔ NameP s) : lines_Name s r := by
 have no : ¬ NameP s → r = false := fun h => by cases r with | false => rfl | true => exact absurd (hr.1 rfl) h
 unfold lines_Name
 refine LoopP.intro (fun k => k ≤ s.length ∧ NameTo s k) (fun k => s.length - k) ⟨Nat.zero_le _, fun i b h => by omega⟩ ?_
 rintro X k ⟨hk, hn⟩ hX
 unfold lines_Name_L1
 refine IfB.dec (fun hlt => ?_) (fun hge => ?_)
 ·obtain ⟨b, hb⟩ : ∃ b, s[k]? = some b := ⟨_, List.getElem?_eq_getElem hlt⟩
  have hc := rune_at hb
  generalize hcc : runeAt s k = c at hc ⊢
  have go : (97 ≤ c ∧ c ≤ 122) ∨ (k ≠ 0 ∧ (c = 95 ∨ (48 ≤ c ∧ c ≤ 57))) → X (k + runeLen s k) := fun h => by
   rcases hc with ⟨h1, h2, h3⟩ | ⟨h1, h2, h3⟩
   ·rw [h3]
    exact hX _ ⟨hlt, hn.next hb (by unfold nmOk; omega)⟩ (by omega)
   ·omega
  have bad : ¬ ((97 ≤ c ∧ c ≤ 122) ∨ (k ≠ 0 ∧ (c = 95 ∨ (48 ≤ c ∧ c ≤ 57)))) → r = false := fun h => no (not_name hb (by
   unfold nmOk
   rcases hc with ⟨h1, h2, h3⟩ | ⟨h1, h2, h3⟩ <;> omega))
  repeat' (first | (refine IfB.dec (fun _ => ?_) (fun _ => ?_)) | (refine IfB.eqi (fun _ => ?_) (fun _ => ?_)) | (refine IfB.nei (fun _ => ?_) (fun _ => ?_)))
  all_goals first | (refine go ?_; omega) | (refine bad ?_; omega)
 ·have e : k = s.length := by omega
  subst e
  refine IfB.dec (fun h1 => IfB.dec (fun h2 => hr.2 ⟨by omega, by omega, hn⟩) (fun h2 => no fun h => by have := h.2.1; omega)) (fun h1 => no fun h => by have := h.1; omega)
def mayB (b : UInt8) : Prop := b.toNat = 10 ∨ (32 ≤ b.toNat ∧ b.toNat ≤ 126)
def RightTo (s : List UInt8) (k : Nat) : Prop := ∀ i b, i < k → s[i]? = some b → mayB b
def RightP (s : List UInt8) : Prop := RightTo s s.length
theorem RightP.mem {s : List UInt8} (h : RightP s) {b : UInt8} (hb : b ∈ s) : mayB b := by
 obtain ⟨i, hi, e⟩ := List.getElem_of_mem hb
 exact h i b hi (by rw [List.getElem?_eq_getElem hi, e])
theorem RightTo.next {s : List UInt8} {k : Nat} {b : UInt8} (h : RightTo s k) (hb : s[k]? = some b) (hn : mayB b) : RightTo s (k + 1) := fun i c hi hc => by
 by_cases e : i = k
 ·subst e; rw [hb] at hc; cases hc; exact hn
 ·exact h i c (by omega) hc
theorem lines_may_says {c : Int} {r : Bool} (hr : r = true ↔ (c = 10 ∨ (32 ≤ c ∧ c ≤ 126))) : lines_may c r := by
 have no : ¬ (c = 10 ∨ (32 ≤ c ∧ c ≤ 126)) → r = false := fun h => by cases r with | false => rfl | true => exact absurd (hr.1 rfl) h
 unfold lines_may
 refine IfB.eqi (fun h => hr.2 (.inl h)) (fun h => IfB.dec (fun h1 => IfB.dec (fun h2 => hr.2 (.inr ⟨h1, h2⟩)) (fun h2 => no (by omega))) (fun h1 => no (by omega)))
theorem split_mem {c : UInt8} : ∀ {s : List UInt8} {x : List UInt8}, x ∈ splitC c s → (∀ b, b ∈ x → b ∈ s) ∧ x.length ≤ s.length
 | [], x, h => by simp [splitC] at h; subst h; simp
 | b :: l, x, h => by
  unfold splitC at h
  split at h
  ·rcases List.mem_cons.1 h with rfl | h
   ·simp
   ·obtain ⟨h1, h2⟩ := split_mem h
    exact ⟨fun b hb => List.mem_cons_of_mem _ (h1 b hb), by simp; omega⟩
  ·obtain ⟨y, r, e⟩ := splitC_ne c l
   rw [e] at h
   simp only at h
   rcases List.mem_cons.1 h with rfl | h
   ·obtain ⟨h1, h2⟩ := split_mem (c := c) (s := l) (x := y) (by rw [e]; simp)
    refine ⟨fun d hd => ?_, by simp; omega⟩
    rcases List.mem_cons.1 hd with rfl | hd
    ·simp
    ·exact List.mem_cons_of_mem _ (h1 d hd)
   ·obtain ⟨h1, h2⟩ := split_mem (c := c) (s := l) (x := x) (by rw [e]; simp [h])
    exact ⟨fun b hb => List.mem_cons_of_mem _ (h1 b hb), by simp; omega⟩
theorem split_len {c : UInt8} : ∀ {s : List UInt8}, (splitC c s).length = s.count c + 1
 | [] => rfl
 | b :: l => by
  unfold splitC
  split
  ·rename_i e; subst e; rw [List.length_cons, split_len]; simp
  ·rename_i e
   obtain ⟨y, r, e2⟩ := splitC_ne c l
   have := split_len (c := c) (s := l)
   rw [e2] at this ⊢
   rw [List.count_cons_of_ne (by simpa using e)]
   simpa using this
def head35 (s : List UInt8) : List UInt8 := (Lib.cut s [35]).1
theorem cut_fst {s : List UInt8} {c : UInt8} : ∃ n, (Lib.cut s [c]).1 = s.take n := by
 unfold Lib.cut
 split
 ·exact ⟨_, rfl⟩
 ·exact ⟨s.length, by simp⟩
theorem head_mem {s : List UInt8} : (∀ b, b ∈ head35 s → b ∈ s) ∧ (head35 s).length ≤ s.length := by
 unfold head35
 obtain ⟨n, e⟩ := cut_fst (s := s) (c := 35)
 rw [e]
 exact ⟨fun b hb => List.mem_of_mem_take hb, by simp; omega⟩
def wordsOf (s : List UInt8) : List Bz := Lib.fields (head35 s)
def linesFrom (k : Int) : List Bz → List (Int × List Bz)
 | [] => []
 | s :: l => if 0 < (wordsOf s).length then (k + 1, wordsOf s) :: linesFrom (k + 1) l else linesFrom (k + 1) l
def allL (s : List UInt8) : List (Int × List Bz) := linesFrom 0 (splitC 10 s)
theorem linesFrom_length : ∀ (l : List Bz) (k : Int), (linesFrom k l).length ≤ l.length
 | [], k => by simp [linesFrom]
 | s :: l, k => by
  have := linesFrom_length l (k + 1)
  unfold linesFrom
  split <;> simp <;> omega
theorem lines_All_says {s : List UInt8} (hl : s.length ≤ 65536) (hr : RightP s) : lines_All s (allL s, 0) := by
 unfold lines_All
 refine IfB.dec (fun h => by omega) (fun _ => ?_)
 refine LoopP.intro (fun k => k ≤ s.length) (fun k => s.length - k) (Nat.zero_le _) ?_
 intro X k hk hX
 unfold lines_All_L1
 refine IfB.dec (fun hlt => ?_) (fun hge => ?_)
 ·obtain ⟨b, hb⟩ : ∃ b, s[k]? = some b := ⟨_, List.getElem?_eq_getElem hlt⟩
  have hm : mayB b := hr k b hlt hb
  unfold mayB at hm
  rcases rune_at hb with ⟨h1, h2, h3⟩ | ⟨h1, h2, h3⟩
  ·refine ⟨true, lines_may_says (by rw [h2]; simp; omega), IfB_true.2 ?_⟩
   rw [h3]
   exact hX _ hlt (by omega)
  ·omega
 ·refine ⟨splitC 10 s, ⟨by unfold Short; omega, 10, rfl, rfl⟩, ?_⟩
  generalize hp : splitC 10 s = ps
  have hmem : ∀ x, x ∈ ps → (∀ b, b ∈ x → mayB b) ∧ x.length ≤ 65536 := fun x hx => by
   obtain ⟨h1, h2⟩ := split_mem (hp ▸ hx)
   exact ⟨fun b hb => hr.mem (h1 b hb), by omega⟩
  have hlen : ps.length ≤ 65537 := by
   rw [← hp, split_len]
   have := List.count_le_length (a := (10 : UInt8)) (l := s)
   omega
  have goal : linesFrom 0 ps = allL s := by unfold allL; rw [hp]
  rw [← goal]
  refine LoopP.intro (fun z : Int × List (Int × List Bz) => ∃ done rest : List Bz, ps = done ++ rest ∧ z.1 = done.length ∧ z.2.length ≤ done.length ∧ z.2 ++ linesFrom done.length rest = linesFrom 0 ps) (fun z => ps.length - z.1.toNat) ⟨[], ps, rfl, rfl, by simp, by simp⟩ ?_
  rintro X ⟨z, out⟩ ⟨done, rest, e, hz, ho, hj⟩ hX
  simp only at hz ho hj
  subst hz
  unfold lines_All_L2
  refine IfB.dec (fun hlt => ?_) (fun hge => ?_)
  ·cases rest with
   | nil => rw [e] at hlt; simp at hlt
   | cons x rest =>
    have hx := hmem x (by rw [e]; simp)
    have hdl : done.length < ps.length := by rw [e]; simp
    refine ⟨x, ⟨Int.natCast_nonneg _, by rw [e]; simp⟩, (Lib.cut x [35]).1, (Lib.cut x [35]).2.1, (Lib.cut x [35]).2.2, ⟨by unfold Short; omega, 35, rfl, rfl⟩, ?_⟩
    have ew : ∀ A : Prop, A → IfB (Lib.cut x [35]).2.2 A A := fun A h => IfB.intro (fun _ => h) (fun _ => h)
    refine ew _ ?_
    obtain ⟨m1, m2⟩ := head_mem (s := x)
    refine ⟨wordsOf x, ⟨by unfold Short; unfold head35 at m2; omega, fun b hb => ?_, rfl⟩, ?_⟩
    ·have := hx.1 b (m1 b hb); unfold mayB at this; omega
    have hw : IntKind.i64.wrap ((done.length : Int) + 1) = ((done ++ [x]).length : Int) := by rw [wrap64 (by constructor <;> omega)]; simp
    have hps : ps = (done ++ [x]) ++ rest := by rw [e]; simp
    have hj2 := hj
    have hcons : linesFrom (done.length : Int) (x :: rest) = if 0 < (wordsOf x).length then ((done.length : Int) + 1, wordsOf x) :: linesFrom ((done.length : Int) + 1) rest else linesFrom ((done.length : Int) + 1) rest := rfl
    rw [hcons] at hj2
    have ec : ((done ++ [x]).length : Int) = (done.length : Int) + 1 := by simp
    have em : ps.length - ((done ++ [x]).length : Int).toNat < ps.length - (done.length : Int).toNat := by simp; omega
    rw [hw]
    refine IfB.dec (fun hpos => ?_) (fun hpos => ?_)
    ·rw [if_pos (by omega)] at hj2
     refine ⟨by unfold Fits; simp; omega, hX _ ⟨done ++ [x], rest, hps, rfl, by simp; omega, ?_⟩ em⟩
     simp only [ec, List.append_assoc, List.singleton_append]
     exact hj2
    ·rw [if_neg (by omega)] at hj2
     refine hX _ ⟨done ++ [x], rest, hps, rfl, by simp; omega, ?_⟩ em
     simp only [ec]
     exact hj2
  ·have : rest = [] := by
    cases rest with
    | nil => rfl
    | cons x r => rw [e] at hge; simp at hge; omega
   subst this
   simp only [linesFrom, List.append_nil] at hj
   rw [hj]
def Rising (lo hi : Int) : List (Int × List Bz) → Prop
 | [] => True
 | x :: l => lo < x.1 ∧ x.1 ≤ hi ∧ 0 < x.2.length ∧ Rising x.1 hi l
theorem Rising.lower {lo lo' hi : Int} (h : lo' ≤ lo) : ∀ {l : List (Int × List Bz)}, Rising lo hi l → Rising lo' hi l
 | [], _ => trivial
 | x :: l, ⟨a, b⟩ => ⟨by omega, b⟩
theorem linesFrom_rising : ∀ (l : List Bz) (k : Int), Rising k (k + l.length) (linesFrom k l)
 | [], k => trivial
 | s :: l, k => by
  have ih := linesFrom_rising l (k + 1)
  have e : k + 1 + (l.length : Int) = k + ((s :: l).length : Int) := by simp; omega
  rw [e] at ih
  unfold linesFrom
  split
  ·rename_i hw
   exact ⟨by simp; omega, by simp; omega, hw, ih⟩
  ·exact ih.lower (by omega)
theorem Rising.at {hi : Int} : ∀ {l : List (Int × List Bz)} {lo : Int} {i : Nat} {x : Int × List Bz}, Rising lo hi l → l[i]? = some x → 0 < x.2.length ∧ x.1 ≤ hi ∧ (∀ y, i ≠ 0 → l[i - 1]? = some y → y.1 < x.1) ∧ lo < x.1
 | [], _, i, x, _, h => by simp at h
 | z :: l, lo, 0, x, hr, h => by
  simp at h; subst h
  exact ⟨hr.2.2.1, hr.2.1, fun y h => absurd rfl h, hr.1⟩
 | z :: l, lo, i + 1, x, hr, h => by
  simp at h
  obtain ⟨h1, h2, h3, h4⟩ := Rising.at hr.2.2.2 h
  refine ⟨h1, h2, fun y _ hy => ?_, by have := hr.1; omega⟩
  cases i with
  | zero => simp at hy; subst hy; exact h4
  | succ i => simp at hy; exact h3 y (by omega) (by simpa using hy)
def wlen (l : List Bz) : Nat := (l.map fun x => x.length + 1).sum
theorem fields_wlen : ∀ (l cur : List UInt8), wlen (Lib.fieldsGo cur l) ≤ cur.length + l.length + 1
 | [], cur => by cases cur <;> simp [Lib.fieldsGo, wlen]
 | b :: l, cur => by
  have i1 := fields_wlen l []
  have i2 := fields_wlen l (cur ++ [b])
  unfold Lib.fieldsGo
  split
  ·cases cur with
   | nil => simp at i1 ⊢; omega
   | cons c t => simp [wlen] at i1 ⊢; omega
  ·simp at i2 ⊢; omega
theorem wlen_len (l : List Bz) : l.length ≤ wlen l := by
 induction l with
 | nil => simp [wlen]
 | cons x l ih => simp [wlen] at ih ⊢; omega
abbrev Ws := List Bz
abbrev Ls := List (Int × Ws)
theorem lines_All_form {s : List UInt8} (hl : s.length ≤ 65536) (hr : ¬ RightP s) : lines_All s ([], 2) := by
 unfold lines_All
 refine IfB.dec (fun h => by omega) (fun _ => ?_)
 refine LoopP.intro (fun k => k ≤ s.length ∧ RightTo s k) (fun k => s.length - k) ⟨Nat.zero_le _, fun i b h => by omega⟩ ?_
 rintro X k ⟨hk, hn⟩ hX
 unfold lines_All_L1
 refine IfB.dec (fun hlt => ?_) (fun hge => ?_)
 ·obtain ⟨b, hb⟩ : ∃ b, s[k]? = some b := ⟨_, List.getElem?_eq_getElem hlt⟩
  by_cases hm : mayB b
  ·have hm' := hm
   unfold mayB at hm'
   rcases rune_at hb with ⟨h1, h2, h3⟩ | ⟨h1, h2, h3⟩
   ·refine ⟨true, lines_may_says (by rw [h2]; simp; omega), IfB_true.2 ?_⟩
    rw [h3]
    exact hX _ ⟨hlt, hn.next hb hm⟩ (by omega)
   ·omega
  ·have hm' := hm
   unfold mayB at hm'
   refine ⟨false, lines_may_says ?_, IfB_false.2 rfl⟩
   rcases rune_at hb with ⟨h1, h2, h3⟩ | ⟨h1, h2, h3⟩
   ·rw [h2]; simp; omega
   ·simp; omega
 ·exfalso
  have e : k = s.length := by omega
  subst e
  exact hr hn
theorem all_wlen (s : List UInt8) : ∀ x, x ∈ allL s → wlen x.2 ≤ s.length + 1 := by
 have key : ∀ (l : List Bz) (k : Int), (∀ y, y ∈ l → y.length ≤ s.length) → ∀ x, x ∈ linesFrom k l → wlen x.2 ≤ s.length + 1 := by
  intro l
  induction l with
  | nil => intro k _ x hx; simp [linesFrom] at hx
  | cons y l ih =>
   intro k hy x hx
   have hx' : x ∈ (if 0 < (wordsOf y).length then (k + 1, wordsOf y) :: linesFrom (k + 1) l else linesFrom (k + 1) l) := hx
   have one : wlen (wordsOf y) ≤ s.length + 1 := by
    have h1 := fields_wlen (head35 y) []
    have h2 := (head_mem (s := y)).2
    have h3 := hy y (by simp)
    unfold wordsOf Lib.fields
    simp at h1
    omega
   split at hx'
   ·rcases List.mem_cons.1 hx' with rfl | hx'
    ·exact one
    ·exact ih _ (fun z hz => hy z (by simp [hz])) x hx'
   ·exact ih _ (fun z hz => hy z (by simp [hz])) x hx'
 exact key _ 0 fun y hy => (split_mem hy).2
def mkB (s : List UInt8) : ByteArray := ⟨s.toArray⟩
theorem mkB_inj {a b : List UInt8} (h : mkB a = mkB b) : a = b := by
 have : (mkB a).data.toList = (mkB b).data.toList := by rw [h]
 simpa [mkB] using this
end Go.Abs
end
section
namespace Go.Abs
open Go
def lowN (x : Bool × List Int × List Int) : Nat := val x.2.1 / Nat.gcd (val x.2.1) (den1 (val x.2.2))
def lowD (x : Bool × List Int × List Int) : Nat := den1 (val x.2.2) / Nat.gcd (val x.2.1) (den1 (val x.2.2))
theorem lowD_pos (x : Bool × List Int × List Int) : 0 < lowD x := by
 unfold lowD
 exact Nat.div_pos (Nat.gcd_le_right _ (den1_pos _)) (Nat.gcd_pos_of_pos_right _ (den1_pos _))
theorem den1_self {d : Nat} (h : 0 < d) : den1 d = d := by unfold den1; rw [if_neg (by omega)]
def okX (x : Bool × List Int × List Int) (k : Nat) : Prop := WS x.2.1 ∧ WS x.2.2 ∧ x.2.1.length ≤ k ∧ x.2.2.length ≤ k
theorem lowN_len {x : Bool × List Int × List Int} {k : Nat} (h : okX x k) : (words (lowN x)).length ≤ k := by
 have := words_len_le (Nat.div_le_self (val x.2.1) (Nat.gcd (val x.2.1) (den1 (val x.2.2))))
 have := wl h.1
 have := h.2.2.1
 unfold lowN; omega
theorem lowD_len {x : Bool × List Int × List Int} {k : Nat} (h : okX x k) : (words (lowD x)).length ≤ k + 1 := by
 have h1 := words_len_le (Nat.div_le_self (den1 (val x.2.2)) (Nat.gcd (val x.2.1) (den1 (val x.2.2))))
 have h2 := wl h.2.1
 have h3 := h.2.2.2
 have h4 : (words (den1 (val x.2.2))).length ≤ k + 1 := by
  unfold den1
  split
  ·rw [words_one (by omega) (by omega)]; simp
  ·omega
 unfold lowD; omega
def lowP (x : Bool × List Int × List Int) : Bool := x.1 && decide (lowN x ≠ 0)
theorem rat_Make_low {x : Bool × List Int × List Int} {k : Nat} (h : okX x k) (hk : k ≤ 6000000) : rat_Make x.1 x.2.1 x.2.2 (lowP x, words (lowN x), words (lowD x)) :=
 rat_Make_says x.1 x.2.1 x.2.2 h.1 h.2.1 (by have := h.2.2.1; omega) (by have := h.2.2.2; omega)
theorem iV_lowP (x : Bool × List Int × List Int) : iV (lowP x) (lowN x) = iV x.1 (lowN x) := by
 unfold lowP iV
 cases x.1 with
 | false => simp
 | true => by_cases h : lowN x = 0 <;> simp [h]
theorem low_eqX (x : Bool × List Int × List Int) : iV x.1 (val x.2.1) * (lowD x : Int) = iV (lowP x) (lowN x) * (den1 (val x.2.2) : Int) := by
 rw [iV_lowP]
 have hg : 0 < Nat.gcd (val x.2.1) (den1 (val x.2.2)) := Nat.gcd_pos_of_pos_right _ (den1_pos _)
 have h1 : lowN x * Nat.gcd (val x.2.1) (den1 (val x.2.2)) = val x.2.1 := Nat.div_mul_cancel (Nat.gcd_dvd_left _ _)
 have h2 : lowD x * Nat.gcd (val x.2.1) (den1 (val x.2.2)) = den1 (val x.2.2) := Nat.div_mul_cancel (Nat.gcd_dvd_right _ _)
 have key : val x.2.1 * lowD x = lowN x * den1 (val x.2.2) := by
  rw [← h2]
  generalize Nat.gcd (val x.2.1) (den1 (val x.2.2)) = g at *
  rw [← h1, Nat.mul_assoc, Nat.mul_comm g]
 have key : (val x.2.1 : Int) * (lowD x : Int) = (lowN x : Int) * (den1 (val x.2.2) : Int) := by exact_mod_cast key
 unfold iV
 cases x.1 with
 | false => simpa using key
 | true => simp only [if_true, Int.neg_mul, key]
theorem indexNo {s : By} {c : UInt8} (h : ∀ b, b ∈ s → b ≠ c) : Lib.index s [c] = -1 := by
 induction s with
 | nil => simp [Lib.index]
 | cons b l ih =>
  have hi := index1_cons b c l
  rw [if_neg (h b (by simp)), ih fun x hx => h x (by simp [hx])] at hi
  simpa using hi
theorem indexAt {a b : By} {c : UInt8} (h : ∀ x, x ∈ a → x ≠ c) : Lib.index (a ++ c :: b) [c] = a.length := by
 induction a with
 | nil =>
  have hi := index1_cons c c b
  rw [if_pos rfl] at hi
  simpa using hi
 | cons x l ih =>
  have hi := index1_cons x c (l ++ c :: b)
  rw [if_neg (h x (by simp)), ih fun y hy => h y (by simp [hy])] at hi
  have e : ((l.length : Int) == -1) = false := by rw [beq_eq_false_iff_ne]; omega
  rw [e] at hi
  simp only [Bool.false_eq_true, if_false] at hi
  rw [List.cons_append, hi]; simp
end Go.Abs
end
section
namespace Go.Abs
open Go
abbrev Fr := Bool × List Int × List Int
def qv (x : Fr) : Rat := Rat.divInt (iV x.1 (val x.2.1)) (den1 (val x.2.2))
theorem divInt_le {a c b d : Int} (hb : 0 < b) (hd : 0 < d) : Rat.divInt a b ≤ Rat.divInt c d ↔ a * d ≤ c * b := by
 rw [Rat.le_iff_sub_nonneg, Rat.sub_eq_add_neg, Rat.neg_divInt, Rat.divInt_add_divInt _ _ (by omega) (by omega), Rat.divInt_nonneg_iff_of_pos_right (Int.mul_pos hd hb), Int.neg_mul]
 omega
theorem divInt_eq {a c b d : Int} (hb : 0 < b) (hd : 0 < d) : Rat.divInt a b = Rat.divInt c d ↔ a * d = c * b := Rat.divInt_eq_divInt_iff (by omega) (by omega)
theorem divInt_lt {a c b d : Int} (hb : 0 < b) (hd : 0 < d) : Rat.divInt a b < Rat.divInt c d ↔ a * d < c * b := by
 rw [← Rat.not_le, divInt_le hd hb]; omega
theorem d1p (n : Nat) : (0 : Int) < (den1 n : Int) := by have := den1_pos n; omega
theorem qv_ratQ {z : Int} {d : Nat} (hd : 0 < d) : qv (ratQ z d) = Rat.divInt z d := by
 unfold qv ratQ
 dsimp only
 have hg : 0 < Nat.gcd z.natAbs d := Nat.gcd_pos_of_pos_right _ hd
 have h1 : z.natAbs / Nat.gcd z.natAbs d * Nat.gcd z.natAbs d = z.natAbs := Nat.div_mul_cancel (Nat.gcd_dvd_left _ _)
 have h2 : d / Nat.gcd z.natAbs d * Nat.gcd z.natAbs d = d := Nat.div_mul_cancel (Nat.gcd_dvd_right _ _)
 have h3 : 0 < d / Nat.gcd z.natAbs d := Nat.div_pos (Nat.gcd_le_right _ hd) hg
 rw [val_words, val_words, den1_self h3, divInt_eq (by omega) (by omega)]
 generalize Nat.gcd z.natAbs d = g at *
 generalize z.natAbs / g = n' at *
 generalize d / g = d' at *
 subst h2
 unfold iV
 by_cases hz : z < 0
 ·simp only [hz, decide_true, if_true]
  have e : z = -((n' * g : Nat) : Int) := by omega
  rw [e]; push_cast
  rw [Int.neg_mul, Int.neg_mul]
  congr 1
  rw [Int.mul_assoc, Int.mul_comm (g : Int)]
 ·simp only [hz, decide_false, Bool.false_eq_true, if_false]
  have e : z = ((n' * g : Nat) : Int) := by omega
  rw [e]; push_cast
  rw [Int.mul_assoc, Int.mul_comm (g : Int)]
theorem ratQ_ok {z : Int} {d k : Nat} (hz : (words z.natAbs).length ≤ k) (hd : (words d).length ≤ k) : okX (ratQ z d) k :=
 ⟨WS_words _, WS_words _, Nat.le_trans (words_len_le (Nat.div_le_self _ _)) hz, Nat.le_trans (words_len_le (Nat.div_le_self _ _)) hd⟩
theorem okX.mono {x : Fr} {a b : Nat} (h : okX x a) (hab : a ≤ b) : okX x b := ⟨h.1, h.2.1, Nat.le_trans h.2.2.1 hab, Nat.le_trans h.2.2.2 hab⟩
theorem den_len {l : List Int} {k : Nat} (hw : WS l) (hl : l.length ≤ k) : (words (den1 (val l))).length ≤ k + 1 := by
 have := wl hw
 unfold den1
 split
 ·rw [words_one (by omega) (by omega)]; simp
 ·omega
theorem mulw (a b : Nat) : (words (a * b)).length ≤ (words a).length + (words b).length := by
 have := words_mul_len (WS_words a) (WS_words b)
 rwa [val_words, val_words] at this
theorem addw {a b k : Nat} (ha : (words a).length ≤ k) (hb : (words b).length ≤ k) : (words (a + b)).length ≤ k + 1 := by
 have h1 := val_lt (WS_words a); have h2 := val_lt (WS_words b)
 rw [val_words] at h1 h2
 have p1 : 4294967296 ^ (words a).length ≤ 4294967296 ^ k := Nat.pow_le_pow_right (by omega) ha
 have p2 : 4294967296 ^ (words b).length ≤ 4294967296 ^ k := Nat.pow_le_pow_right (by omega) hb
 refine words_len _ _ ?_
 rw [Nat.pow_succ]; omega
def mulF (x y : Fr) : Fr := ratQ (iV x.1 (val x.2.1) * iV y.1 (val y.2.1)) (den1 (val x.2.2) * den1 (val y.2.2))
def addF (x y : Fr) : Fr := ratQ (iV x.1 (val x.2.1) * (den1 (val y.2.2) : Int) + iV y.1 (val y.2.1) * (den1 (val x.2.2) : Int)) (den1 (val x.2.2) * den1 (val y.2.2))
theorem mulR {x y : Fr} {a b : Nat} (hx : okX x a) (hy : okX y b) (ha : a ≤ 1000000) (hb : b ≤ 1000000) : rat_Mul x.1 x.2.1 x.2.2 y.1 y.2.1 y.2.2 (mulF x y) ∧ qv (mulF x y) = qv x * qv y ∧ okX (mulF x y) (a + b + 2) := by
 unfold mulF
 refine ⟨rat_Mul_says x.1 x.2.1 x.2.2 y.1 y.2.1 y.2.2 hx.1 hx.2.1 hy.1 hy.2.1 (by have := hx.2.2.1; omega) (by have := hx.2.2.2; omega) (by have := hy.2.2.1; omega) (by have := hy.2.2.2; omega), ?_, ratQ_ok ?_ ?_⟩
 ·rw [qv_ratQ (Nat.mul_pos (den1_pos _) (den1_pos _))]
  unfold qv
  rw [Rat.divInt_mul_divInt]; push_cast; rfl
 ·rw [Int.natAbs_mul, iV_abs, iV_abs]
  have h1 := mulw (val x.2.1) (val y.2.1)
  have h2 := wl hx.1; have h3 := wl hy.1
  have h4 := hx.2.2.1; have h5 := hy.2.2.1
  omega
 ·have h1 := mulw (den1 (val x.2.2)) (den1 (val y.2.2))
  have h2 := den_len hx.2.1 hx.2.2.2
  have h3 := den_len hy.2.1 hy.2.2.2
  omega
theorem addR {x y : Fr} {a b : Nat} (hx : okX x a) (hy : okX y b) (ha : a ≤ 1000000) (hb : b ≤ 1000000) : rat_Add x.1 x.2.1 x.2.2 y.1 y.2.1 y.2.2 (addF x y) ∧ qv (addF x y) = qv x + qv y ∧ okX (addF x y) (a + b + 2) := by
 unfold addF
 have h2 := den_len hx.2.1 hx.2.2.2
 have h3 := den_len hy.2.1 hy.2.2.2
 refine ⟨rat_Add_says x.1 x.2.1 x.2.2 y.1 y.2.1 y.2.2 hx.1 hx.2.1 hy.1 hy.2.1 (by have := hx.2.2.1; omega) (by have := hx.2.2.2; omega) (by have := hy.2.2.1; omega) (by have := hy.2.2.2; omega), ?_, ratQ_ok ?_ ?_⟩
 ·rw [qv_ratQ (Nat.mul_pos (den1_pos _) (den1_pos _))]
  unfold qv
  rw [Rat.divInt_add_divInt _ _ (by have := d1p (val x.2.2); omega) (by have := d1p (val y.2.2); omega)]; push_cast; rfl
 ·refine Nat.le_trans (words_len_le (Int.natAbs_add_le _ _)) ?_
  rw [Int.natAbs_mul, Int.natAbs_mul, iV_abs, iV_abs, Int.natAbs_natCast, Int.natAbs_natCast]
  have h4 := mulw (val x.2.1) (den1 (val y.2.2))
  have h5 := mulw (val y.2.1) (den1 (val x.2.2))
  have h6 := wl hx.1; have h7 := wl hy.1
  have h8 := hx.2.2.1; have h9 := hy.2.2.1
  exact addw (k := a + b + 1) (by omega) (by omega)
 ·have h1 := mulw (den1 (val x.2.2)) (den1 (val y.2.2))
  omega
theorem cmpR {x y : Fr} {a b : Nat} (hx : okX x a) (hy : okX y b) (ha : a ≤ 2000000) (hb : b ≤ 2000000) : ∃ c, rat_Compare x.1 x.2.1 x.2.2 y.1 y.2.1 y.2.2 c ∧ (c = 0 ↔ qv x = qv y) ∧ (c > 0 ↔ qv y < qv x) ∧ (c < 0 ↔ qv x < qv y) := by
 refine ⟨_, rat_Compare_says x.1 x.2.1 x.2.2 y.1 y.2.1 y.2.2 hx.1 hx.2.1 hy.1 hy.2.1 (by have := hx.2.2.1; omega) (by have := hx.2.2.2; omega) (by have := hy.2.2.1; omega) (by have := hy.2.2.2; omega), ?_⟩
 unfold qv
 rw [divInt_eq (d1p _) (d1p _), divInt_lt (d1p _) (d1p _), divInt_lt (d1p _) (d1p _)]
 generalize iV x.1 (val x.2.1) * (den1 (val y.2.2) : Int) = A
 generalize iV y.1 (val y.2.1) * (den1 (val x.2.2) : Int) = B
 unfold cmpZ
 split
 ·omega
 ·split <;> omega
theorem signR {x : Fr} {a : Nat} (hx : okX x a) (ha : a ≤ 2000000) : ∃ c, rat_Sign x.1 x.2.1 x.2.2 c ∧ (c = 0 ↔ qv x = 0) ∧ (c > 0 ↔ 0 < qv x) ∧ (c < 0 ↔ qv x < 0) := by
 refine ⟨_, ⟨_, whole_Sign_says x.1 x.2.1 hx.1 (by have := hx.2.2.1; omega), rfl⟩, ?_⟩
 have h := sgn_iV x.1 (val x.2.1)
 have e : (0 : Rat) = Rat.divInt 0 1 := by rw [Rat.zero_divInt]
 unfold qv
 rw [e, divInt_eq (d1p _) (by omega), divInt_lt (d1p _) (by omega), divInt_lt (by omega) (d1p _)]
 obtain ⟨h1, h2, h3, h4⟩ := h
 generalize iV x.1 (val x.2.1) = A at *
 generalize sgn x.1 (val x.2.1) = C at *
 refine ⟨?_, ?_, ?_⟩ <;> omega
def lowX (x : Fr) : Fr := (lowP x, words (lowN x), words (lowD x))
theorem makeR {x : Fr} {a : Nat} (hx : okX x a) (ha : a ≤ 2000000) : rat_Make x.1 x.2.1 x.2.2 (lowX x) ∧ qv (lowX x) = qv x ∧ okX (lowX x) (a + 1) := by
 refine ⟨rat_Make_low hx (by omega), ?_, WS_words _, WS_words _, Nat.le_trans (lowN_len hx) (by omega), lowD_len hx⟩
 unfold qv lowX
 dsimp only
 rw [val_words, val_words, den1_self (lowD_pos x), divInt_eq (by have := lowD_pos x; omega) (d1p _)]
 exact (low_eqX x).symm
def zeroF : Fr := (false, [], words 1)
theorem zeroR : rat_Int 0 zeroF ∧ qv zeroF = 0 ∧ okX zeroF 1 := by
 refine ⟨rat_Int0, ?_, WS_nil, WS_words _, by simp [zeroF], by unfold zeroF; rw [words_one (by omega) (by omega)]; simp⟩
 unfold qv iV zeroF
 simp only [val_nil, Bool.false_eq_true, if_false]
 exact Rat.zero_divInt _
end Go.Abs
end
