/- Part of a proof, in few files: GLinW DClo GCloW BNw BCw. -/
import Derived.Test.YthkcibhfbcfhlaaGreatDoorDChK15
import Derived.Test.YthkcibhfbcfhlaaGreatDoorDChK16
import Derived.Test.YthkcibhfbcfhlaaGreatDoorDChK13
import Derived.Test.YthkcibhfbcfhlaaGreatDoorProg
import Derived.WalkKit
import Derived.WalkSpells
import Derived.WalkLawsBesides
import Derived.Shelf.Slices.Clone

set_option linter.unusedVariables false
set_option linter.unusedSimpArgs false
set_option linter.unnecessarySimpa false
section
namespace Go.Abs
open Go.Proofs
set_option maxRecDepth 20000
def lvS (x : List UInt8) : List PD := [.str x]
def elS (x : List UInt8) : PD := .str x
theorem okS : LVok lvS 1 := fun _ => ⟨rfl, rfl⟩
theorem leS : ELok elS lvS := fun _ => rfl
theorem lgS : ELg elS lvS 1 := fun _ => rfl
def lvQ5 (x : Int × (List Bz)) : List PD := [.int .i64 x.1, .sl (x.2.map elS)]
def elQ5 (x : Int × (List Bz)) : PD := .agg [.int .i64 x.1, .sl (x.2.map elS)]
theorem okQ5 : LVok lvQ5 2 := fun _ => ⟨rfl, rfl⟩
theorem leQ5 : ELok elQ5 lvQ5 := fun _ => rfl
theorem lgQ5 : ELg elQ5 lvQ5 2 := fun _ => rfl
theorem lines_may_ok (m : Tp) (p0 : Int) {r : Bool} (h : lines_may p0 r) : ASpec Tryz.prog (gtT m) 38 [.pd (.int .i32 p0)] (· = .pd (.bool r)) := by
 refine ASpec_tree Tryz.f38 mixedT (askG [9, 10, 11] false) (by kernel_rfl) ?_
 unfold lines_may at h
 refine QB h (fun h => ?_) (fun h => ?_)
 ·subst r; exact QE .ret
 ·refine QB h (fun h => ?_) (fun h => ?_)
  ·refine QB h (fun h => ?_) (fun h => ?_)
   ·subst r; exact QE .ret
   ·subst r; exact QE .ret
  ·subst r; exact QE .ret
theorem lines_All_ok (m : Tp) (p0 : List UInt8) {r : (List (Int × (List Bz))) × Int} (h : lines_All p0 r) : ASpec Tryz.prog (gtT m) 13 [.pd (.str p0)] (· = .tup [.pd (.sl (r.1.map elQ5)), .pd (.int .i64 r.2)]) := by
 refine ASpec_tree Tryz.f13 mixedT (askG [9, 10, 11] true) (by kernel_rfl) ?_
 unfold lines_All at h
 let o1 : Ob := rowV lvQ5 2 ([] : List (Int × (List Bz))) 0 false
 refine QK 1 ?_
 refine QB h (fun h => ?_) (fun h => ?_)
 ·subst r; exact QX .ret (.tup [.own 1 (([] : List (Int × (List Bz))).length) 0, .pd (.int .i64 4)]) [o1, o1] (pure_tup (pl_cons (pure_1to2 (po okQ5 lgQ5 1 ([] : List (Int × (List Bz))) 0 ([] : List (Int × (List Bz))).length rfl) rfl) (pl_cons rfl pl_nil)))
 refine QLP (F := lines_All_L1 p0 r) (s0 := 0) h () 49 2
  (fun s151 () => [(0, .pd (.str p0)), (14, .it 1)])
  (fun s151 () => [o1, .iter p0 s151]) (fun s151 () => True) trivial [] mixedT (askG [9, 10, 11] true) ?_
 rintro X1 s151 ⟨⟩ - h
 dsimp only [lines_All_L1] at h
 cases hx1 : (decide (s151 < p0.length))
 ·replace h := h.f hx1
  refine QZ (ask_next0 (M := [o1, .iter p0 s151]) (b := 1) (s := p0) (pos := s151) (by kernel_rfl) hx1) ?_
  refine QR (.exit 0) ?_
  obtain ⟨x4, hx5, h⟩ := h
  refine QV (strings_Split_ok m _ _ hx5) ?_
  refine QL [o1, .iter p0 s151, o1] 25 9 elS x4 ?_
  refine QLP (F := lines_All_L2 x4 r) (s0 := ((0 : Int), ([] : List (Int × (List Bz))))) h (0, (([] : List (Int × (List Bz))).length)) 49 3
   (fun (s200, s252) (v202, n202) => [(6, .own 2 n202 v202), (22, .pd (.sl (x4.map elS))), (23, .pd (.int .i64 (x4.length : Int))), (24, .pd (.int .i64 s200))])
   (fun (s200, s252) (v202, n202) => [o1, .iter p0 s151, rowV lvQ5 2 s252 v202 false]) (fun (s200, s252) (v202, n202) => n202 = s252.length) rfl [] mixedT (askG [9, 10, 11] true) ?_
  rintro X2 ⟨s200, s252⟩ ⟨v202, n202⟩ hn202 h
  dsimp only [lines_All_L2] at h
  refine QB h (fun h => ?_) (fun h => ?_)
  ·obtain ⟨x6, hx7, h⟩ := h
   let o2 : Ob := rowV lvQ5 2 s252 v202 false
   refine QI [o1, .iter p0 s151, o2] 25 9 .i64 okS leS hx7 ?_
   refine QK 1 ?_
   obtain ⟨x8, x9, x10, hx11, h⟩ := h
   refine QV (strings_Cut_ok m _ _ hx11) ?_
   cases x10
   ·replace h := h.f rfl
    obtain ⟨x15, hx16, h⟩ := h
    refine QV (strings_Fields_ok m _ hx16) ?_
    refine QL [o1, .iter p0 s151, o2] 25 9 elS x15 ?_
    refine QB h (fun h => ?_) (fun h => ?_)
    ·refine QK 1 ?_
     obtain ⟨hx17, h⟩ := h
     refine QA [o1, .iter p0 s151, o2] 2 s252 [((IntKind.i64.wrap (s200 + 1)), x15)] v202 51 51 32 okQ5 (src_fixed okQ5 leQ5) hn202 hx17 ?_
     exact QG ((vnext s252 [((IntKind.i64.wrap (s200 + 1)), x15)] v202), ((s252 ++ [((IntKind.i64.wrap (s200 + 1)), x15)]).length)) h rfl
    exact QG (v202, n202) h hn202
   replace h := h.t rfl
   obtain ⟨x12, hx13, h⟩ := h
   refine QV (strings_Fields_ok m _ hx13) ?_
   refine QL [o1, .iter p0 s151, o2] 25 9 elS x12 ?_
   refine QB h (fun h => ?_) (fun h => ?_)
   ·refine QK 1 ?_
    obtain ⟨hx14, h⟩ := h
    refine QA [o1, .iter p0 s151, o2] 2 s252 [((IntKind.i64.wrap (s200 + 1)), x12)] v202 51 51 32 okQ5 (src_fixed okQ5 leQ5) hn202 hx14 ?_
    exact QG ((vnext s252 [((IntKind.i64.wrap (s200 + 1)), x12)] v202), ((s252 ++ [((IntKind.i64.wrap (s200 + 1)), x12)]).length)) h rfl
   exact QG (v202, n202) h hn202
  refine QR (.exit 2) ?_
  let o3 : Ob := rowV lvQ5 2 s252 v202 false
  subst r; exact QX .ret (.tup [.own 2 n202 v202, .pd (.int .i64 0)]) [o1, .iter p0 s151, o3] (pure_tup (pl_cons (pure_1to2 (po okQ5 lgQ5 2 s252 v202 n202 hn202) rfl) (pl_cons rfl pl_nil)))
 replace h := h.t hx1
 refine QZ (ask_next (M := [o1, .iter p0 s151]) (b := 1) (s := p0) (pos := s151) (by kernel_rfl) hx1) ?_
 obtain ⟨x2, hx3, h⟩ := h
 let o4 : Ob := .iter p0 (s151 + runeLen p0 s151)
 refine QV (lines_may_ok m _ hx3) ?_
 cases x2
 ·replace h := h.f rfl
  refine QR .ret ?_
  subst r; exact QX .ret (.tup [.own 2 (([] : List (Int × (List Bz))).length) 0, .pd (.int .i64 2)]) [o1, o4, o1] (pure_tup (pl_cons (pure_1to2 (po okQ5 lgQ5 2 ([] : List (Int × (List Bz))) 0 ([] : List (Int × (List Bz))).length rfl) rfl) (pl_cons rfl pl_nil)))
 replace h := h.t rfl
 exact QG () h trivial
theorem lines_Name_ok (m : Tp) (p0 : List UInt8) {r : Bool} (h : lines_Name p0 r) : ASpec Tryz.prog (gtT m) 46 [.pd (.str p0)] (· = .pd (.bool r)) := by
 refine ASpec_tree Tryz.f46 mixedT (askG [9, 10, 11] false) (by kernel_rfl) ?_
 unfold lines_Name at h
 refine QLP (F := lines_Name_L1 p0 r) (s0 := 0) h () 44 1
  (fun s150 () => [(0, .pd (.str p0)), (7, .it 0)])
  (fun s150 () => [.iter p0 s150]) (fun s150 () => True) trivial [] mixedT (askG [9, 10, 11] false) ?_
 rintro X1 s150 ⟨⟩ - h
 dsimp only [lines_Name_L1] at h
 cases hx1 : (decide (s150 < p0.length))
 ·replace h := h.f hx1
  refine QZ (ask_next0 (M := [.iter p0 s150]) (b := 0) (s := p0) (pos := s150) (by kernel_rfl) hx1) ?_
  refine QR (.exit 0) ?_
  refine QK 1 ?_
  refine QB h (fun h => ?_) (fun h => ?_)
  ·refine QK 1 ?_
   refine QB h (fun h => ?_) (fun h => ?_)
   ·subst r; exact QE .ret
   ·subst r; exact QE .ret
  ·subst r; exact QE .ret
 ·replace h := h.t hx1
  refine QZ (ask_next (M := [.iter p0 s150]) (b := 0) (s := p0) (pos := s150) (by kernel_rfl) hx1) ?_
  refine QB h (fun h => ?_) (fun h => ?_)
  ·refine QB h (fun h => ?_) (fun h => ?_)
   ·exact QG () h trivial
   ·refine QB h (fun h => ?_) (fun h => ?_)
    ·refine QR .ret ?_
     subst r; exact QE .ret
    ·refine QB h (fun h => ?_) (fun h => ?_)
     ·refine QB h (fun h => ?_) (fun h => ?_)
      ·refine QR .ret ?_
       subst r; exact QE .ret
      ·refine QB h (fun h => ?_) (fun h => ?_)
       ·refine QR .ret ?_
        subst r; exact QE .ret
       ·exact QG () h trivial
     ·exact QG () h trivial
  ·refine QB h (fun h => ?_) (fun h => ?_)
   ·refine QR .ret ?_
    subst r; exact QE .ret
   ·refine QB h (fun h => ?_) (fun h => ?_)
    ·refine QB h (fun h => ?_) (fun h => ?_)
     ·refine QR .ret ?_
      subst r; exact QE .ret
     ·refine QB h (fun h => ?_) (fun h => ?_)
      ·refine QR .ret ?_
       subst r; exact QE .ret
      ·exact QG () h trivial
    ·exact QG () h trivial
end Go.Abs
end

section
namespace Go.Abs
def slices_Clone_nat_Nat_uint32_cons (y0 : Int) (q0 : List Int) (r : (List Int)) : Prop :=
 IfB (y0 :: q0).isEmpty
  (r = [])
  (Fits (([] : List Int).length + (y0 :: q0).length) 4 ∧
  r = (([] : List Int) ++ (y0 :: q0)))
end Go.Abs
end

section
namespace Go.Abs
open Go.Proofs
set_option maxRecDepth 20000
def lvU32 (x : Int) : List PD := [.int .u32 x]
def elU32 (x : Int) : PD := .int .u32 x
theorem okU32 : LVok lvU32 1 := fun _ => ⟨rfl, rfl⟩
theorem leU32 : ELok elU32 lvU32 := fun _ => rfl
theorem lgU32 : ELg elU32 lvU32 1 := fun _ => rfl
theorem slices_Clone_nat_Nat_uint32_cons_ok (m : Tp) (y0 : Int) (q0 : List Int) {r : (List Int)} (h : slices_Clone_nat_Nat_uint32_cons y0 q0 r) : ASpec Tryz.prog (gtT m) 153 [.pd (.sl ((y0 :: q0).map elU32))] (· = .pd (.sl (r.map elU32))) := by
 refine ASpec_tree Tryz.f153 mixedT (askG [9, 10, 11] false) (by kernel_rfl) ?_
 unfold slices_Clone_nat_Nat_uint32_cons at h
 refine QK 1 ?_
 cases hx1 : ((y0 :: q0)).isEmpty
 ·replace h := h.f hx1
  obtain ⟨hx2, h⟩ := h
  refine QZ (ask_appF (P := Tryz.prog) (M := []) (lv := lvU32) (s := 1) (e := ([] : List Int)) (e2 := (y0 :: q0)) (sT := 63) (xT := 63) (by_ := 4) okU32 leU32 (by kernel_rfl) (src_pd (M := []) okU32 leU32) (ne_of_isEmpty hx1) hx2) ?_
  subst r; exact QX .ret (.own 0 ((([] : List Int) ++ (y0 :: q0)).length) 0) [.cells (rowC lvU32 (([] : List Int) ++ (y0 :: q0))) 1 0 false] (pure_2to3 (pure_1to2 (pure1_own okU32 (by decide) lgU32 (M := [.cells (rowC lvU32 (([] : List Int) ++ (y0 :: q0))) 1 0 false]) (b := 0) (o := .cells (rowC lvU32 (([] : List Int) ++ (y0 :: q0))) 1 0 false) (by kernel_rfl) (rowIs_c (lv := lvU32) (s := 1) (e := (([] : List Int) ++ (y0 :: q0))) (ver := 0) (z := false)) (n := (([] : List Int) ++ (y0 :: q0)).length) rfl) rfl) rfl)
 ·replace h := h.t hx1
  refine QZ (ask_app0 (P := Tryz.prog) (M := []) (lv := lvU32) (s := 1) (e := ([] : List Int)) (e2 := (y0 :: q0)) (sT := 63) (xT := 63) (by_ := 4) okU32 leU32 (by kernel_rfl) (src_pd (M := []) okU32 leU32) hx1) ?_
  subst r; exact QE .ret
end Go.Abs
end

section
namespace Go.Abs
open Go.RowKit Go.Proofs Go.Lib
theorem clone_nil (n c : Nat) (w : World) : Calls Tryz.prog 153 #[.slice none n c] w fun e w' => e = .returned (.slice none 0 0) ∧ w' = w := by
 have q37 : ∀ (w : World) (a : Option Addr) (n c n' c' : Nat), (binOp .eql 63 (.slice a n c) (.slice none n' c')).run Tryz.prog w = .ok (.bool a.isNone) w := fun w a n c n' c' => Lib.run_eql_slice_nil w _ _ a n c n' c' Tryz.underlying63
 go_enter Tryz.func153, Tryz.ntmps153
 go_wp2
 go_ret
 exact ⟨rfl, rfl⟩
theorem iU32 : (Tryz.prog.info? 189).map (fun i => (i.zero, i.size, i.bytes)) = some (some (Value.int .u32 0), 1, 4) := by kernel_rfl
set_option maxHeartbeats 2000000 in
set_option maxRecDepth 100000 in
theorem clone_zero (a : Addr) (c : Nat) (w : World) : Calls Tryz.prog 153 #[.slice (some a) 0 c] w fun e w' => ∃ v', e = .returned v' ∧ w'.ownsRow w.heap.size 189 1 v' 0 [] ∧ v' ≠ .slice none 0 0 ∧ Below w.heap.size w w' := by
 obtain ⟨i0, hi, hz0, hz1, hz2⟩ := info_parts iU32
 have q37 : ∀ (w : World) (a : Option Addr) (n c n' c' : Nat), (binOp .eql 63 (.slice a n c) (.slice none n' c')).run Tryz.prog w = .ok (.bool a.isNone) w := fun w a n c n' c' => Lib.run_eql_slice_nil w _ _ a n c n' c' Tryz.underlying63
 have u37 : ∀ w, Sem.run Tryz.prog (underlying 63) w = .ok (TypeDesc.slice 189) w := run_underlying Tryz.underlying63
 go_enter Tryz.func153, Tryz.ntmps153
 go_wp2_with (at_builtin; refine wpList_append_own _ rfl _ _ 63 rfl w.heap.size 189 i0 (.int .u32 0) 1 4 Tryz.underlying63 hi hz0 hz1 hz2 rfl (by decide) _ _ _ rfl (World.ownsRow_made w #[] 0 (Nat.le_refl _) (Nat.zero_le _) rfl) a 0 c [] rfl rfl (by intro j u hj; simp at hj) (by intro u hu; cases hu) (by unfold maxLen; omega) (by omega) (by simp) ?_)
 intro v' w1 hown hgrow hnil
 go_wp2
 go_ret
 refine ⟨v', rfl, by simpa using hown, ?_, ?_⟩
 ·first | exact hnil | (intro e; exact absurd (hnil.1 e).1 (by simp))
 ·exact ((Below.refl _ w).alloc (Nat.le_refl _) _).grown hgrow (by simp) (by intro k hk; simp [Value.ownBlock] at hk; omega)
theorem clone_spec {GT : Tabs} : ASpec Tryz.prog GT 153 [.pd (.sl [])] (· = .pd (.sl [])) := by
 refine ASpec.of_calls _ (by simp [AV.pure]) fun cx w vs hA hG hlt => ?_
 obtain ⟨v0, h0, r0⟩ := args_at hA 0 rfl
 rw [vs1 hA.1 h0]
 cases r0 with
 | pd v x h =>
 cases h with
 | nil =>
  refine (clone_nil 0 0 w).mono ?_
  rintro e w' ⟨rfl, rfl⟩
  exact ⟨_, rfl, Below.refl _ _, .pd _ _ .nil⟩
 | sl a n cap sz l f hsp hn hcap hI hsz hc hr =>
  simp at hn
  subst hn
  refine (clone_zero a cap w).mono ?_
  rintro e w' ⟨v', rfl, hown, _, hb⟩
  refine ⟨_, rfl, hb, .pd _ _ ?_⟩
  rcases hown.2 with ⟨rfl, _⟩ | ⟨g, cap', cur, rfl, _, _, _⟩
  ·exact .nil
  ·exact .sl _ 0 cap' 0 [] (fun _ _ => .nilIface) (fun h => by omega) rfl (Nat.zero_le _) (fun h => by omega) (by simp) (by simp) (by simp)
theorem slices_Clone_nat_Nat_uint32_ok (m : Tp) (l : List Int) {r : List Int} (h : slices_Clone_nat_Nat_uint32 l r) : ASpec Tryz.prog (gtT m) 153 [.pd (.sl (l.map elU32))] (· = .pd (.sl (r.map elU32))) := by
 obtain ⟨hf, rfl⟩ := h
 cases r with
 | nil => exact clone_spec
 | cons x l =>
  refine slices_Clone_nat_Nat_uint32_cons_ok m x l ?_
  unfold slices_Clone_nat_Nat_uint32_cons
  exact IfB_false.2 ⟨by simpa using hf, rfl⟩
end Go.Abs
end

section
namespace Go.Abs
open Go.RowKit Go.Proofs
set_option maxRecDepth 20000
theorem strings_CutPrefix_ok (m : Tp) (s p : List UInt8) {r : List UInt8 × Bool} (h : strings_CutPrefix s p r) : ASpec Tryz.prog (gtT m) 202 [.pd (.str s), .pd (.str p)] (· = .tup [.pd (.str r.1), .pd (.bool r.2)]) := by
 obtain rfl := h
 refine ASpec.of_calls _ (by simp [AV.pure]) fun cx w vs hA hG hlt => ?_
 obtain ⟨v0, h0, r0⟩ := args_at hA 0 rfl
 obtain ⟨v1, h1, r1⟩ := args_at hA 1 rfl
 rw [str_inv r0] at h0; rw [str_inv r1] at h1
 rw [vs2 hA.1 h0 h1]
 refine (Tryz.strings_CutPrefix ⟨s.toArray⟩ ⟨p.toArray⟩ w).mono ?_
 rintro e w' ⟨rfl, rfl⟩
 refine ⟨_, rfl, Below.refl _ _, .tup _ _ rfl fun i v x q1 q2 => ?_⟩
 match i with
 | 0 => simp at q1 q2; subst q1; subst q2; exact .pd _ _ (.str _)
 | 1 => simp at q1 q2; subst q1; subst q2; exact .pd _ _ (.bool _)
 | i + 2 => simp at q1
end Go.Abs
end
