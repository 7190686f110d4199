/- Part of a proof, in few files: Abs32 G21sW. -/
import Derived.Test.YthkcibhfbcfhlaaGreatDoorDChK16
import Derived.Test.YthkcibhfbcfhlaaGreatDoorDChK15
import Derived.Test.YthkcibhfbcfhlaaGreatDoorDChK18
import Derived.Test.YthkcibhfbcfhlaaGreatDoorDChK25

set_option linter.unusedVariables false
set_option linter.unusedSimpArgs false
set_option linter.unnecessarySimpa false
section
namespace Go.Abs
open Go.RowKit
variable {P : Program} {GT : Tabs} {ro : Option Nat} {Q : Exit → S → Prop}
theorem GStep.cell {M : Mem} {b sz ver : Nat} {l : List AV} {z : Bool} {j bb len v : Nat} {x : PD} {l2 : List AV} {s2 : Nat} {z2 : Bool} (hM : M[b]? = some (.cells l sz ver z)) (hl : l[j]? = some (.own bb len v)) (hx : ownPD M bb len v = some x)
  (hb : M[bb]? = some (.cells l2 s2 v z2)) (hne : bb ≠ b) : GStep M ((M.set bb (.cells l2 s2 v true)).set b (.cells (l.set j (.pd x)) sz ver z)) := by
 intro B I0 c w hS
 obtain ⟨q1, q2, q3⟩ := hS.freeze hb
 have hM1 : (M.set bb (.cells l2 s2 v true))[b]? = some (.cells l sz ver z) := by rw [List.getElem?_set_ne hne]; exact hM
 have he : Ext (c.freeze bb) (M.set bb (.cells l2 s2 v true)) (c.freeze bb) ((M.set bb (.cells l2 s2 v true)).set b (.cells (l.set j (.pd x)) sz ver z)) := Ext.set hM1 rfl (Nat.le_refl _) (fun _ => by simp [Ob.shape])
 have hst : Stp B (c.freeze bb) w (c.freeze bb) w := Stp.refl _ _ _
 have hlt := (List.getElem?_eq_some_iff.1 hM1).1
 have rs : ∀ i, real ((M.set bb (.cells l2 s2 v true)).set b (.cells (l.set j (.pd x)) sz ver z)) i → real (M.set bb (.cells l2 s2 v true)) i := fun i hi => real_set hM1 rfl hi
 refine ⟨c.freeze bb, ⟨fun i hi => q1.blkB i (rs i hi), fun i k hi hk => q1.inj i k (rs i hi) (rs k hk), q1.imm0, q1.immB, q1.immlt, ?_, ?_, q1.hB⟩, q2.trans he, q3.trans hst⟩
 ·intro i p hp hz hv
  by_cases e : b = i
  ·subst e
   rw [List.getElem?_set_self hlt] at hp; cases hp
   exact q1.sep _ _ hM1 hz rfl
  ·rw [List.getElem?_set_ne e] at hp
   exact q1.sep i p hp hz hv
 ·intro i p hp
  by_cases e : b = i
  ·subst e
   rw [List.getElem?_set_self hlt] at hp; cases hp
   obtain ⟨cs, e1, h1, h2, h3, h4⟩ := q1.obj _ _ hM1
   refine ⟨cs, e1, h1, h2, by simpa using h3, fun k y hy => ?_⟩
   by_cases ek : j = k
   ·subst ek
    rw [List.getElem?_set_self (List.getElem?_eq_some_iff.1 hl).1] at hy; cases hy
    obtain ⟨cs0, e0, k1, k2, k3, k4⟩ := hS.row hM
    obtain ⟨u, u1, u2⟩ := k4 j _ hl
    have hk : w.heap[c.blk b]? = some (.cells cs e1 (0, 0)) := h1
    rw [k1] at hk; cases hk
    exact ⟨u, u1, .pd _ _ (ownPD_ok hS u2 hx (fun _ h => .inl h) fun _ => .inr rfl)⟩
   ·rw [List.getElem?_set_ne ek] at hy
    obtain ⟨u, u1, u2⟩ := h4 k y hy
    exact ⟨u, u1, u2.mono he hst⟩
  ·rw [List.getElem?_set_ne e] at hp
   exact (q1.obj i p hp).mono he hst rfl rfl fun _ => rfl
section
variable {α κ : Type} {M M1 : Mem} {t et : TypeId} {b v n j b2 n2 v2 s2 : Nat} {k : IntKind} {i : Int} {lv : α → List PD} {e : List α} {x : α} {X : AV} {z : Bool}
end
theorem bldFz_ok {sl : Bool} {t : TypeId} {n b len ver : Nat} {M M1 M2 : Mem} {parts parts' : List (Nat × AV)} {x0 : PD} {x : AV} (hx : ownPD M b len ver = some x0) (hM : frz M b = M1) (hf : FzS b len ver x0 parts parts') (h : BldOK P sl t n parts' M1 x M2) : BldOK P sl t n parts M x M2 := by
 intro B I0 c u ps hS hp
 have main : ∀ c' : Ctx, Sim B I0 c' M1 u → Ext c M c' M1 → Stp B c u c' u → (∀ v, ARep c M u v (.own b len ver) → PRep c'.imm u v x0) → Out P B I0 c M u (bldSem sl t n ps) x M2 := by
  intro c' hS' hE hs hq
  obtain ⟨v', w', c2, h1, h2, h3, h4, h5⟩ := h B I0 c' u ps hS' (FzS.ok hE hs hq hf hp)
  exact ⟨v', w', c2, h1, h2, h3, hE.trans h4, hs.trans h5⟩
 unfold frz at hM
 split at hM
 ·rename_i l sz ver' z hb
  subst hM
  obtain ⟨q1, q2, q3⟩ := hS.freeze hb
  exact main _ q1 q2 q3 fun v hv => ownPD_ok hS hv hx (fun _ h => .inl h) fun _ => .inr rfl
 ·rename_i hno
  subst hM
  refine main c hS (Ext.refl _ _) (Stp.refl _ _ _) fun v hv => ownPD_ok hS hv hx (fun _ h => h) fun hr => ?_
  unfold ownPD at hx
  split at hx
  ·rename_i l sz ver' z hM; exact absurd hM (hno _ _ _ _)
  ·rename_i sz ver' hM
   obtain ⟨o, ho, hov⟩ := hr
   rw [hM] at ho; cases ho; cases hov
  ·cases hx
theorem H_bldFL {w : W} {t : TypeId} {parts parts' : List (Nat × AV)} {M0 M1 M2 : Mem} (b len ver : Nat) {x0 : PD} (L : List (Nat × Option Nat)) (x : AV) (hv : w.view = .bld false t 0 parts M0) (hx0 : ownPD M0 b len ver = some x0) (hM : frz M0 b = M1) (hf : FzS b len ver x0 parts parts') (hs : VStep M1 M2) (hx : bldVs P t L M2 parts' = some x) (h : (w.back x M2).holds P GT Q) : w.holds P GT Q :=
 H_bld x M2 hv (bldFz_ok hx0 hM hf (bldVs_ok hs hx)) h
theorem bel_rowVz {α : Type} {lv : α → List PD} {s : Nat} {e : List α} {ver : Nat} {z : Bool} (n : Nat) : belO n (rowV lv s e ver z) = true := by
 cases e with
 | nil => rfl
 | cons x e => exact bel_row n (x :: e)
end Go.Abs
end

section
namespace Go.Abs
open Go.Proofs
set_option maxHeartbeats 4000000
set_option maxRecDepth 20000
theorem shape_Of_ok (m : Tp) (p0 : List Bz) (p1 : List Fq) (p2 : List (Bz × (List Fq) × Int × Fq)) {r : (List (List Fq)) × (List Fq) × (List Fq) × Int} (h : shape_Of p0 p1 p2 r) : ASpec Tryz.prog (gtT m) 9 [.agg [.pd (.sl (p0.map elS)), .pd (.sl (p1.map elQ4)), .pd (.sl (p2.map elQ0))]] (· = .tup [.agg [.pd (.sl (r.1.map elQ3)), .pd (.sl (r.2.1.map elQ4)), .pd (.sl (r.2.2.1.map elQ4))], .pd (.int .i64 r.2.2.2)]) := by
 refine ASpec_tree Tryz.f9 mixedT (askO [9, 10, 11] true [38]) (by kernel_rfl) ?_
 unfold shape_Of at h
 let o1 : Ob := .cells [.pd (.sl (p0.map elS)), .pd (.sl (p1.map elQ4)), .pd (.sl (p2.map elQ0))] 1 0 false
 refine QK 1 ?_
 refine H_allocL (t := 38) (M0 := [o1]) (M1 := [o1]) (M2 := [o1, .cells [.fixed (([] : List (List Fq)).map elQ3), .fixed (([] : List Fq).map elQ4), .fixed (([] : List Fq).map elQ4)] 1 0 false]) [] [.fixed (([] : List (List Fq)).map elQ3), .fixed (([] : List Fq).map elQ4), .fixed (([] : List Fq).map elQ4)] (by kernel_rfl) (VStep.refl _) (by kernel_rfl) (by kernel_rfl) ?_
 let o2 : Ob := .cells [.fixed (([] : List (List Fq)).map elQ3), .fixed (([] : List Fq).map elQ4), .fixed (([] : List Fq).map elQ4)] 1 0 false
 refine QK 1 ?_
 obtain ⟨x1, hx2, h⟩ := h
 refine QV (model_Right_ok m _ _ _ hx2) ?_
 cases x1
 ·replace h := h.f rfl
  refine H_bldL (t := 38) (parts := []) (M0 := [o1, o2]) (M1 := [o1, o2]) [] (.agg [.fixed (([] : List (List Fq)).map elQ3), .fixed (([] : List Fq).map elQ4), .fixed (([] : List Fq).map elQ4)]) (by kernel_rfl) (VStep.refl _) (by kernel_rfl) ?_
  refine QK 1 ?_
  subst r; exact QE .ret
 replace h := h.t rfl
 refine QK 2 ?_
 refine QL [o1, o2] 25 9 elS p0 ?_
 let o3 : Ob := .cells [.pd (.int .i64 (p0.length : Int))] 1 0 false
 refine QK 3 ?_
 refine QL [o1, o2, o3] 27 74 elQ0 p2 ?_
 refine QLP (F := shape_Of_L1 p0 p1 p2 r) (s0 := ((0 : Int), (p0.length : Int))) h () 85 3
  (fun (s100, s101) () => [(1, .ptr 0 0 0), (2, .ptr 1 0 0), (4, .ptr 2 0 0), (21, .pd (.sl (p2.map elQ0))), (22, .pd (.int .i64 (p2.length : Int))), (23, .pd (.int .i64 s100))])
  (fun (s100, s101) () => [o1, o2, .cells [.pd (.int .i64 s101)] 1 0 false]) (fun (s100, s101) () => True) trivial [] mixedT (askO [9, 10, 11] true [38]) ?_
 rintro X1 ⟨s100, s101⟩ ⟨⟩ - h
 dsimp only [shape_Of_L1] at h
 refine QBp h (fun hp3 h => ?_) (fun hp3 h => ?_)
 ·obtain ⟨x4, x5, x6, x7, x8, x9, hx10, h⟩ := h
  let o4 : Ob := .cells [.pd (.int .i64 s101)] 1 0 false
  refine QI [o1, o2, o4] 27 74 .i64 okQ0 leQ0 hx10 ?_
  refine QK 4 ?_
  refine QBp h (fun hp11 h => ?_) (fun hp11 h => ?_)
  ·let o6 : Ob := .cells [.pd (.int .i64 (IntKind.i64.wrap (s101 + 1)))] 1 0 false
   refine QK 2 ?_
   exact QGC () h trivial (all_c (by kernel_rfl) (all_c (by kernel_rfl) (all_c (by kernel_rfl) all_n)))
  exact QGC () h trivial (all_c (by kernel_rfl) (all_c (by kernel_rfl) (all_c (by kernel_rfl) all_n)))
 refine QR (.exit 0) ?_
 let o7 : Ob := .cells [.pd (.int .i64 s101)] 1 0 false
 refine QK 2 ?_
 refine QIN (g := 22) (args := [.pd (.sl (p1.map elQ4)), .ptr 2 0 0]) (M := [o1, o2, o7]) Tryz.f22 mixedT (askO [9, 10, 11] true [38]) (hasT 22 (by kernel_rfl)) ?_
 let o8 : Ob := rowV lvQ4 3 ([] : List Fq) 0 false
 refine QK 1 ?_
 obtain ⟨hx12, h⟩ := h
 refine QZ (ask_make (P := Tryz.prog) (M := [o1, o2, o7, o8]) (t := 49) (k := .i64) (lv := lvI64) (by_ := 8) (n := s101) (z := (0 : Int)) okI64 ⟨3, .int .i64 0, by kernel_rfl, by kernel_rfl, rfl, by kernel_rfl, by decide, rfl⟩ hx12.1 hx12.2.1 hx12.2.2) ?_
 let o9 : Ob := .cells (rowC lvI64 (List.replicate (Int.toNat s101) (0 : Int))) 1 0 false
 refine QIN (g := 23) (args := [.own 4 ((List.replicate (Int.toNat s101) (0 : Int)).length) 0]) (M := [o1, o2, o7, o8, o9]) Tryz.f23 mixedT (askO [9, 10, 11] true [38]) (hasT 23 (by kernel_rfl)) ?_
 let m10 : Mem := [o1, o2, o7, o8, o9, o8, o8]
 refine QOc m10 49 3 lvI64 1 4 (List.replicate (Int.toNat s101) (0 : Int)) 0 rfl ?_
 refine QLP (F := shape_Of_L2 p0 p1 p2 s101 r) (s0 := ((0 : Int), ([] : List Fq))) h (0, (([] : List Fq).length)) 19 7
  (fun (s200, s256) (v206, n206) => [(3, .own 6 n206 v206), (6, .own 4 ((List.replicate (Int.toNat s101) (0 : Int)).length) 0), (7, .pd (.int .i64 ((List.replicate (Int.toNat s101) (0 : Int)).length : Int))), (8, .pd (.int .i64 s200))])
  (fun (s200, s256) (v206, n206) => [o1, o2, o7, o8, o9, o8, rowV lvQ4 3 s256 v206 false]) (fun (s200, s256) (v206, n206) => n206 = s256.length) rfl [] mixedT (askO [9, 10, 11] true [38]) ?_
 rintro X2 ⟨s200, s256⟩ ⟨v206, n206⟩ hn206 h
 dsimp only [shape_Of_L2] at h
 refine QBp h (fun hp15 h => ?_) (fun hp15 h => ?_)
 ·obtain ⟨x16, hx17, h⟩ := h
  let o11 : Ob := rowV lvQ4 3 s256 v206 false
  let m12 : Mem := [o1, o2, o7, o8, o9, o8, o11]
  refine QJc m12 49 3 .i64 lvI64 1 4 (List.replicate (Int.toNat s101) (0 : Int)) 0 rfl hx17 ?_
  refine QZ (ask_oload (P := Tryz.prog) (M := m12) (t := 3) (lv := lvI64) (b := 4) (i := s200) okI64 (by kernel_rfl) (by kernel_rfl) (by kernel_rfl) (rowIs_c (lv := lvI64) (s := 1) (e := (List.replicate (Int.toNat s101) (0 : Int))) (ver := 0) (z := false)) hx17 rfl) ?_
  obtain ⟨x18, x19, x20, hx21, h⟩ := h
  refine QV (rat_Int_ok m _ hx21) ?_
  obtain ⟨hx22, h⟩ := h
  refine QA m12 6 s256 [(x18, x19, x20)] v206 26 26 56 okQ4 (src_fixed okQ4 leQ4) hn206 hx22 ?_
  exact QG ((vnext s256 [(x18, x19, x20)] v206), ((s256 ++ [(x18, x19, x20)]).length)) h rfl
 refine QR (.exit 0) ?_
 let o13 : Ob := rowV lvQ4 3 s256 v206 false
 let m14 : Mem := [o1, o2, o7, o8, o9, o8, o13]
 refine QEM .ret (.own 6 n206 v206) (m14) ?_
 obtain ⟨x23, x24, x25, hx26, h⟩ := h
 refine QV (rat_Int_ok m _ hx26) ?_
 obtain ⟨x27, hx28, h⟩ := h
 refine QV (vec_Scale_ok m _ _ _ _ hx28) ?_
 refine QZ (ask_copyV (P := Tryz.prog) (M := m14) (dT := 26) (lv := lvQ4) (s := 3) (b := 6) (e := s256) (e2 := x27) (ver := v206) okQ4 (by kernel_rfl) (by kernel_rfl) (n := n206) hn206 (src_pd (M := m14) okQ4 leQ4)) ?_
 let o15 : Ob := rowV lvQ4 3 (cpyL x27 s256) v206 false
 let m16 : Mem := [o1, o2, o7, o8, o9, o8, o15]
 refine QEM .ret (.own 6 n206 v206) (m16) ?_
 let o17 : Ob := rowV lvQ4 3 (cpyL x27 s256) v206 true
 let m18 : Mem := [o1, o2, o7, o8, o9, o8, o17]
 refine H_bldFL (t := 38) (parts := [(2, .own 6 n206 v206)]) (parts' := [(2, .pd (.sl ((cpyL x27 s256).map elQ4)))]) (M0 := m16) (M1 := m18) (M2 := [o1, o2, o7, o8, o9, o8, o17, rowV lvQ3 1 ([] : List (List Fq)) 0 false, o8]) 6 n206 v206 [(0, some 7), (1, some 8)] (.agg [.own 7 (([] : List (List Fq)).length) 0, .own 8 (([] : List Fq).length) 0, .pd (.sl ((cpyL x27 s256).map elQ4))]) (by kernel_rfl) (own_pd okQ4 (by decide) lgQ4 (o := o15) (by kernel_rfl) (rowIs_v' (lv := lvQ4) (s := 3) (e := (cpyL x27 s256)) (ver := v206) (z := false)) (n := n206) (ls_copyO hn206)) (frz_v (b := 6) (lv := lvQ4) (s := 3) (e := (cpyL x27 s256)) (ver := v206) (z := false) (by kernel_rfl)) (.cons (.one .cut) .nil) (VStep.trans (VStep.new [o1, o2, o7, o8, o9, o8, o17] 1) (VStep.new [o1, o2, o7, o8, o9, o8, o17, rowV lvQ3 1 ([] : List (List Fq)) 0 false] 3)) (by kernel_rfl) ?_
 let o19 : Ob := rowV lvQ3 1 ([] : List (List Fq)) 0 false
 let m20 : Mem := [o1, o2, o7, o8, o9, o8, o17, o19, o8]
 refine H_allocL (t := 38) (M0 := m20) (M1 := m20) (M2 := [o1, o2, o7, o8, o9, o8, o17, o19, o8, o2]) [] [.fixed (([] : List (List Fq)).map elQ3), .fixed (([] : List Fq).map elQ4), .fixed (([] : List Fq).map elQ4)] (by kernel_rfl) (VStep.refl _) (by kernel_rfl) (by kernel_rfl) ?_
 let m21 : Mem := [o1, o2, o7, o8, o9, o8, o17, o19, o8, o2]
 refine QC m21 38 9 0 0 3 1 [.own 7 (([] : List (List Fq)).length) 0, .own 8 (([] : List Fq).length) 0, .pd (.sl ((cpyL x27 s256).map elQ4))] (.agg [.own 7 (([] : List (List Fq)).length) 0, .own 8 (([] : List Fq).length) 0, .pd (.sl ((cpyL x27 s256).map elQ4))]) (all_c (ok_own (o := o19) (by kernel_rfl) (rowIs_v' (lv := lvQ3) (s := 1) (e := ([] : List (List Fq))) (ver := 0) (z := false))) (all_c (ok_own (o := o8) (by kernel_rfl) (rowIs_v' (lv := lvQ4) (s := 3) (e := ([] : List Fq)) (ver := 0) (z := false))) (all_c (by kernel_rfl) all_n))) ?_
 let o22 : Ob := .cells [.own 7 (([] : List (List Fq)).length) 0, .own 8 (([] : List Fq).length) 0, .pd (.sl ((cpyL x27 s256).map elQ4))] 1 0 false
 let m23 : Mem := [o1, o2, o7, o8, o9, o8, o17, o19, o8, o22]
 refine QK 2 ?_
 refine QL m23 25 9 elS p0 ?_
 refine QK 2 ?_
 refine QL m23 27 74 elQ0 p2 ?_
 refine QLP (F := shape_Of_L3 p2 s101 s256 x27 r) (s0 := ((p0.length : Int), (0 : Int), ([] : List (List Fq)), ([] : List Fq))) h (0, (([] : List (List Fq)).length), 0, (([] : List Fq).length)) 85 10
  (fun (s300, s301, s357, s358) (v307, n307, v308, n308) => [(2, .ptr 1 0 0), (7, .fn (.func 22) [] [.ptr 2 0 0]), (8, .ptr 9 0 0), (9, .pd (.int .i64 s300)), (43, .pd (.sl (p2.map elQ0))), (44, .pd (.int .i64 (p2.length : Int))), (45, .pd (.int .i64 s301))])
  (fun (s300, s301, s357, s358) (v307, n307, v308, n308) => [o1, o2, o7, o8, o9, o8, o17, rowV lvQ3 1 s357 v307 false, rowV lvQ4 3 s358 v308 false, .cells [.own 7 n307 v307, .own 8 n308 v308, .pd (.sl ((cpyL x27 s256).map elQ4))] 1 0 false]) (fun (s300, s301, s357, s358) (v307, n307, v308, n308) => n307 = s357.length ∧ n308 = s358.length) ⟨rfl, rfl⟩ [] mixedT (askO [9, 10, 11] true [38]) ?_
 rintro X3 ⟨s300, s301, s357, s358⟩ ⟨v307, n307, v308, n308⟩ ⟨hn307, hn308⟩ h
 dsimp only [shape_Of_L3] at h
 refine QBp h (fun hp29 h => ?_) (fun hp29 h => ?_)
 ·obtain ⟨x30, x31, x32, x33, x34, x35, hx36, h⟩ := h
  let o24 : Ob := rowV lvQ3 1 s357 v307 false
  let o25 : Ob := rowV lvQ4 3 s358 v308 false
  let o26 : Ob := .cells [.own 7 n307 v307, .own 8 n308 v308, .pd (.sl ((cpyL x27 s256).map elQ4))] 1 0 false
  let m27 : Mem := [o1, o2, o7, o8, o9, o8, o17, o24, o25, o26]
  refine QI m27 27 74 .i64 okQ0 leQ0 hx36 ?_
  let o28 : Ob := .cells [.pd (.str x30), .pd (.sl (x31.map elQ4)), .pd (.int .i64 x32), .pd (.bool x33), .pd (.sl (x34.map elU32)), .pd (.sl (x35.map elU32))] 1 0 false
  let m29 : Mem := [o1, o2, o7, o8, o9, o8, o17, o24, o25, o26, o28]
  refine QK 4 ?_
  refine QIN (g := 22) (args := [.pd (.sl (x31.map elQ4)), .ptr 2 0 0]) (M := m29) Tryz.f22 mixedT (askO [9, 10, 11] true [38]) (hasT 22 (by kernel_rfl)) ?_
  let m30 : Mem := [o1, o2, o7, o8, o9, o8, o17, o24, o25, o26, o28, o8]
  refine QK 1 ?_
  obtain ⟨hx37, h⟩ := h
  refine QZ (ask_make (P := Tryz.prog) (M := m30) (t := 49) (k := .i64) (lv := lvI64) (by_ := 8) (n := s101) (z := (0 : Int)) okI64 ⟨3, .int .i64 0, by kernel_rfl, by kernel_rfl, rfl, by kernel_rfl, by decide, rfl⟩ hx37.1 hx37.2.1 hx37.2.2) ?_
  let m31 : Mem := [o1, o2, o7, o8, o9, o8, o17, o24, o25, o26, o28, o8, o9]
  refine QIN (g := 23) (args := [.own 12 ((List.replicate (Int.toNat s101) (0 : Int)).length) 0]) (M := m31) Tryz.f23 mixedT (askO [9, 10, 11] true [38]) (hasT 23 (by kernel_rfl)) ?_
  let m32 : Mem := [o1, o2, o7, o8, o9, o8, o17, o24, o25, o26, o28, o8, o9, o8, o8]
  refine QOc m32 49 3 lvI64 1 12 (List.replicate (Int.toNat s101) (0 : Int)) 0 rfl ?_
  refine QLP (F := shape_Of_L4 s101 s300 s301 s357 s358 X3 x31 x32 x33 x34 x35) (s0 := ((0 : Int), ([] : List Fq))) h (0, (([] : List Fq).length)) 19 15
   (fun (s400, s464) (v414, n414) => [(3, .own 14 n414 v414), (6, .own 12 ((List.replicate (Int.toNat s101) (0 : Int)).length) 0), (7, .pd (.int .i64 ((List.replicate (Int.toNat s101) (0 : Int)).length : Int))), (8, .pd (.int .i64 s400))])
   (fun (s400, s464) (v414, n414) => [o1, o2, o7, o8, o9, o8, o17, o24, o25, o26, o28, o8, o9, o8, rowV lvQ4 3 s464 v414 false]) (fun (s400, s464) (v414, n414) => n414 = s464.length) rfl [] mixedT (askO [9, 10, 11] true [38]) ?_
  rintro X4 ⟨s400, s464⟩ ⟨v414, n414⟩ hn414 h
  dsimp only [shape_Of_L4] at h
  refine QBp h (fun hp40 h => ?_) (fun hp40 h => ?_)
  ·obtain ⟨x41, hx42, h⟩ := h
   let o33 : Ob := rowV lvQ4 3 s464 v414 false
   let m34 : Mem := [o1, o2, o7, o8, o9, o8, o17, o24, o25, o26, o28, o8, o9, o8, o33]
   refine QJc m34 49 3 .i64 lvI64 1 12 (List.replicate (Int.toNat s101) (0 : Int)) 0 rfl hx42 ?_
   refine QZ (ask_oload (P := Tryz.prog) (M := m34) (t := 3) (lv := lvI64) (b := 12) (i := s400) okI64 (by kernel_rfl) (by kernel_rfl) (by kernel_rfl) (rowIs_c (lv := lvI64) (s := 1) (e := (List.replicate (Int.toNat s101) (0 : Int))) (ver := 0) (z := false)) hx42 rfl) ?_
   obtain ⟨x43, x44, x45, hx46, h⟩ := h
   refine QV (rat_Int_ok m _ hx46) ?_
   obtain ⟨hx47, h⟩ := h
   refine QA m34 14 s464 [(x43, x44, x45)] v414 26 26 56 okQ4 (src_fixed okQ4 leQ4) hn414 hx47 ?_
   exact QG ((vnext s464 [(x43, x44, x45)] v414), ((s464 ++ [(x43, x44, x45)]).length)) h rfl
  refine QR (.exit 0) ?_
  let o35 : Ob := rowV lvQ4 3 s464 v414 false
  let m36 : Mem := [o1, o2, o7, o8, o9, o8, o17, o24, o25, o26, o28, o8, o9, o8, o35]
  refine QEM .ret (.own 14 n414 v414) (m36) ?_
  obtain ⟨x48, x49, x50, hx51, h⟩ := h
  refine QV (rat_Int_ok m _ hx51) ?_
  obtain ⟨x52, hx53, h⟩ := h
  refine QV (vec_Scale_ok m _ _ _ _ hx53) ?_
  refine QZ (ask_copyV (P := Tryz.prog) (M := m36) (dT := 26) (lv := lvQ4) (s := 3) (b := 14) (e := s464) (e2 := x52) (ver := v414) okQ4 (by kernel_rfl) (by kernel_rfl) (n := n414) hn414 (src_pd (M := m36) okQ4 leQ4)) ?_
  let o37 : Ob := rowV lvQ4 3 (cpyL x52 s464) v414 false
  let m38 : Mem := [o1, o2, o7, o8, o9, o8, o17, o24, o25, o26, o28, o8, o9, o8, o37]
  refine QEM .ret (.own 14 n414 v414) (m38) ?_
  refine QK 2 ?_
  refine QBp h (fun hp54 h => ?_) (fun hp54 h => ?_)
  ·refine QK 2 ?_
   obtain ⟨x55, x56, x57, hx58, h⟩ := h
   refine QV (rat_Int_ok m _ hx58) ?_
   obtain ⟨x59, x60, x61, hx62, h⟩ := h
   refine QJ m38 26 67 .i64 lvQ4 3 14 (cpyL x52 s464) v414 (ls_copyO hn414) hx62 ?_
   refine QZ (ask_ostoreV (P := Tryz.prog) (M := m38) (t := 67) (lv := lvQ4) (b := 14) (i := s300) (y := (x55, x56, x57)) (X := .agg [.pd (.bool x55), .pd (.sl (x56.map elU32)), .pd (.sl (x57.map elU32))]) okQ4 (by kernel_rfl) (by kernel_rfl) (rowIs_v (lv := lvQ4) (s := 3) (e := (cpyL x52 s464)) (ver := v414)) hx62 (by kernel_rfl)) ?_
   let o39 : Ob := rowV lvQ4 3 ((cpyL x52 s464).set (Int.toNat s300) (x55, x56, x57)) v414 true
   let m40 : Mem := [o1, o2, o7, o8, o9, o8, o17, o24, o25, o26, o28, o8, o9, o8, o39]
   let o41 : Ob := rowV lvQ4 3 ((cpyL x52 s464).set (Int.toNat s300) (x55, x56, x57)) v414 false
   let m42 : Mem := [o1, o2, o7, o8, o9, o8, o17, o24, o25, o26, o28, o8, o9, o8, o41]
   refine H_drawTM [5, 6, 7, 8, 9, 10, 11, 12, 16] [(5, (fun M => ∃ (Y7 : Ob) (RR : Mem), M = ([o1, o2, o7, o8, o9, o8, o17, Y7, o25, o26, o28, o8, o9, o8, o39] : Mem) ++ RR)), (6, (fun M => ∃ (Y7 : Ob) (RR : Mem), M = ([o1, o2, o7, o8, o9, o8, o17, Y7, o25, o26, o28, o8, o9, o8, o39] : Mem) ++ RR)), (7, (fun M => ∃ (Y7 : Ob) (RR : Mem), M = ([o1, o2, o7, o8, o9, o8, o17, Y7, o25, o26, o28, o8, o9, o8, o39] : Mem) ++ RR)), (8, (fun M => ∃ (Y7 : Ob) (RR : Mem), M = ([o1, o2, o7, o8, o9, o8, o17, Y7, o25, o26, o28, o8, o9, o8, o39] : Mem) ++ RR)), (9, (fun M => ∃ (Y7 : Ob) (RR : Mem), M = ([o1, o2, o7, o8, o9, o8, o17, Y7, o25, o26, o28, o8, o9, o8, o39] : Mem) ++ RR)), (10, (fun M => ∃ (Y7 : Ob) (RR : Mem), M = ([o1, o2, o7, o8, o9, o8, o17, Y7, o25, o26, o28, o8, o9, o8, o39] : Mem) ++ RR)), (11, (fun M => ∃ (Y7 : Ob) (RR : Mem), M = ([o1, o2, o7, o8, o9, o8, o17, Y7, o25, o26, o28, o8, o9, o8, o39] : Mem) ++ RR)), (12, (fun M => ∃ (Y7 : Ob) (RR : Mem), M = ([o1, o2, o7, o8, o9, o8, o17, Y7, o25, o26, o28, o8, o9, o8, o39] : Mem) ++ RR)), (16, (fun M => ∃ (Y7 : Ob) (Y8 : Ob) (RR : Mem), M = ([o1, o2, o7, o8, o9, o8, o17, Y7, Y8, o26, o28, o8, o9, o8, o39] : Mem) ++ RR))] 12 14 n414 v414 (m40) (m42) (by kernel_rfl) (by kernel_rfl) (by kernel_rfl) (own_pd okQ4 (by decide) lgQ4 (o := o41) (by kernel_rfl) (rowIs_v' (lv := lvQ4) (s := 3) (e := ((cpyL x52 s464).set (Int.toNat s300) (x55, x56, x57))) (ver := v414) (z := false)) (n := n414) (ls_set (ls_copyO hn414))) (frz_v (b := 14) (lv := lvQ4) (s := 3) (e := ((cpyL x52 s464).set (Int.toNat s300) (x55, x56, x57))) (ver := v414) (z := false) (by kernel_rfl)) ⟨⟨o24, [], rfl⟩, ⟨o24, [], rfl⟩, ⟨o24, [], rfl⟩, ⟨o24, [], rfl⟩, ⟨o24, [], rfl⟩, ⟨o24, [], rfl⟩, ⟨o24, [], rfl⟩, ⟨o24, [], rfl⟩, ⟨o24, o25, [], rfl⟩, trivial⟩ ?_
   refine QK 2 ?_
   obtain ⟨hx63, h⟩ := h
   refine QA m40 7 s357 [((cpyL x52 s464).set (Int.toNat s300) (x55, x56, x57))] v307 36 36 24 okQ3 (src_fixed okQ3 leQ3) hn307 hx63 ?_
   refine H_chk (p := (fun M => ∃ (Y7 : Ob) (RR : Mem), M = ([o1, o2, o7, o8, o9, o8, o17, Y7, o25, o26, o28, o8, o9, o8, o39] : Mem) ++ RR) [o1, o2, o7, o8, o9, o8, o17, rowV lvQ3 1 (s357 ++ [((cpyL x52 s464).set (Int.toNat s300) (x55, x56, x57))]) (vnext s357 [((cpyL x52 s464).set (Int.toNat s300) (x55, x56, x57))] v307) false, o25, o26, o28, o8, o9, o8, o39] ∧ (fun M => ∃ (Y7 : Ob) (RR : Mem), M = ([o1, o2, o7, o8, o9, o8, o17, Y7, o25, o26, o28, o8, o9, o8, o39] : Mem) ++ RR) [o1, o2, o7, o8, o9, o8, o17, rowV lvQ3 1 (s357 ++ [((cpyL x52 s464).set (Int.toNat s300) (x55, x56, x57))]) (vnext s357 [((cpyL x52 s464).set (Int.toNat s300) (x55, x56, x57))] v307) false, o25, o26, o28, o8, o9, o8, o39] ∧ (fun M => ∃ (Y7 : Ob) (RR : Mem), M = ([o1, o2, o7, o8, o9, o8, o17, Y7, o25, o26, o28, o8, o9, o8, o39] : Mem) ++ RR) [o1, o2, o7, o8, o9, o8, o17, rowV lvQ3 1 (s357 ++ [((cpyL x52 s464).set (Int.toNat s300) (x55, x56, x57))]) (vnext s357 [((cpyL x52 s464).set (Int.toNat s300) (x55, x56, x57))] v307) false, o25, o26, o28, o8, o9, o8, o39] ∧ (fun M => ∃ (Y7 : Ob) (RR : Mem), M = ([o1, o2, o7, o8, o9, o8, o17, Y7, o25, o26, o28, o8, o9, o8, o39] : Mem) ++ RR) [o1, o2, o7, o8, o9, o8, o17, rowV lvQ3 1 (s357 ++ [((cpyL x52 s464).set (Int.toNat s300) (x55, x56, x57))]) (vnext s357 [((cpyL x52 s464).set (Int.toNat s300) (x55, x56, x57))] v307) false, o25, o26, o28, o8, o9, o8, o39] ∧ (fun M => ∃ (Y7 : Ob) (RR : Mem), M = ([o1, o2, o7, o8, o9, o8, o17, Y7, o25, o26, o28, o8, o9, o8, o39] : Mem) ++ RR) [o1, o2, o7, o8, o9, o8, o17, rowV lvQ3 1 (s357 ++ [((cpyL x52 s464).set (Int.toNat s300) (x55, x56, x57))]) (vnext s357 [((cpyL x52 s464).set (Int.toNat s300) (x55, x56, x57))] v307) false, o25, o26, o28, o8, o9, o8, o39] ∧ (fun M => ∃ (Y7 : Ob) (RR : Mem), M = ([o1, o2, o7, o8, o9, o8, o17, Y7, o25, o26, o28, o8, o9, o8, o39] : Mem) ++ RR) [o1, o2, o7, o8, o9, o8, o17, rowV lvQ3 1 (s357 ++ [((cpyL x52 s464).set (Int.toNat s300) (x55, x56, x57))]) (vnext s357 [((cpyL x52 s464).set (Int.toNat s300) (x55, x56, x57))] v307) false, o25, o26, o28, o8, o9, o8, o39] ∧ (fun M => ∃ (Y7 : Ob) (RR : Mem), M = ([o1, o2, o7, o8, o9, o8, o17, Y7, o25, o26, o28, o8, o9, o8, o39] : Mem) ++ RR) [o1, o2, o7, o8, o9, o8, o17, rowV lvQ3 1 (s357 ++ [((cpyL x52 s464).set (Int.toNat s300) (x55, x56, x57))]) (vnext s357 [((cpyL x52 s464).set (Int.toNat s300) (x55, x56, x57))] v307) false, o25, o26, o28, o8, o9, o8, o39] ∧ (fun M => ∃ (Y7 : Ob) (RR : Mem), M = ([o1, o2, o7, o8, o9, o8, o17, Y7, o25, o26, o28, o8, o9, o8, o39] : Mem) ++ RR) [o1, o2, o7, o8, o9, o8, o17, rowV lvQ3 1 (s357 ++ [((cpyL x52 s464).set (Int.toNat s300) (x55, x56, x57))]) (vnext s357 [((cpyL x52 s464).set (Int.toNat s300) (x55, x56, x57))] v307) false, o25, o26, o28, o8, o9, o8, o39] ∧ (fun M => ∃ (Y7 : Ob) (Y8 : Ob) (RR : Mem), M = ([o1, o2, o7, o8, o9, o8, o17, Y7, Y8, o26, o28, o8, o9, o8, o39] : Mem) ++ RR) [o1, o2, o7, o8, o9, o8, o17, rowV lvQ3 1 (s357 ++ [((cpyL x52 s464).set (Int.toNat s300) (x55, x56, x57))]) (vnext s357 [((cpyL x52 s464).set (Int.toNat s300) (x55, x56, x57))] v307) false, o25, o26, o28, o8, o9, o8, o39] ∧ True) (by kernel_rfl) (by kernel_rfl) ⟨⟨rowV lvQ3 1 (s357 ++ [((cpyL x52 s464).set (Int.toNat s300) (x55, x56, x57))]) (vnext s357 [((cpyL x52 s464).set (Int.toNat s300) (x55, x56, x57))] v307) false, [], rfl⟩, ⟨rowV lvQ3 1 (s357 ++ [((cpyL x52 s464).set (Int.toNat s300) (x55, x56, x57))]) (vnext s357 [((cpyL x52 s464).set (Int.toNat s300) (x55, x56, x57))] v307) false, [], rfl⟩, ⟨rowV lvQ3 1 (s357 ++ [((cpyL x52 s464).set (Int.toNat s300) (x55, x56, x57))]) (vnext s357 [((cpyL x52 s464).set (Int.toNat s300) (x55, x56, x57))] v307) false, [], rfl⟩, ⟨rowV lvQ3 1 (s357 ++ [((cpyL x52 s464).set (Int.toNat s300) (x55, x56, x57))]) (vnext s357 [((cpyL x52 s464).set (Int.toNat s300) (x55, x56, x57))] v307) false, [], rfl⟩, ⟨rowV lvQ3 1 (s357 ++ [((cpyL x52 s464).set (Int.toNat s300) (x55, x56, x57))]) (vnext s357 [((cpyL x52 s464).set (Int.toNat s300) (x55, x56, x57))] v307) false, [], rfl⟩, ⟨rowV lvQ3 1 (s357 ++ [((cpyL x52 s464).set (Int.toNat s300) (x55, x56, x57))]) (vnext s357 [((cpyL x52 s464).set (Int.toNat s300) (x55, x56, x57))] v307) false, [], rfl⟩, ⟨rowV lvQ3 1 (s357 ++ [((cpyL x52 s464).set (Int.toNat s300) (x55, x56, x57))]) (vnext s357 [((cpyL x52 s464).set (Int.toNat s300) (x55, x56, x57))] v307) false, [], rfl⟩, ⟨rowV lvQ3 1 (s357 ++ [((cpyL x52 s464).set (Int.toNat s300) (x55, x56, x57))]) (vnext s357 [((cpyL x52 s464).set (Int.toNat s300) (x55, x56, x57))] v307) false, [], rfl⟩, ⟨rowV lvQ3 1 (s357 ++ [((cpyL x52 s464).set (Int.toNat s300) (x55, x56, x57))]) (vnext s357 [((cpyL x52 s464).set (Int.toNat s300) (x55, x56, x57))] v307) false, o25, [], rfl⟩, trivial⟩ ?_
   refine H_askM (fun M => ∃ (Y7 : Ob) (RR : Mem), M = ([o1, o2, o7, o8, o9, o8, o17, Y7, o25, o26, o28, o8, o9, o8, o39] : Mem) ++ RR) (.ptr 9 1 0) (by kernel_rfl) (by kernel_rfl) (by rintro _ ⟨_, _, rfl⟩; kernel_rfl) ?_
   refine H_askM (fun M => ∃ (Y7 : Ob) (RR : Mem), M = ([o1, o2, o7, o8, o9, o8, o17, Y7, o25, o26, o28, o8, o9, o8, o39] : Mem) ++ RR) (.own 8 n308 v308) (by kernel_rfl) (by kernel_rfl) (by rintro _ ⟨_, _, rfl⟩; kernel_rfl) ?_
   refine H_askM (fun M => ∃ (Y7 : Ob) (RR : Mem), M = ([o1, o2, o7, o8, o9, o8, o17, Y7, o25, o26, o28, o8, o9, o8, o39] : Mem) ++ RR) (.ptr 10 3 0) (by kernel_rfl) (by kernel_rfl) (by rintro _ ⟨_, _, rfl⟩; kernel_rfl) ?_
   refine H_askM (fun M => ∃ (Y7 : Ob) (RR : Mem), M = ([o1, o2, o7, o8, o9, o8, o17, Y7, o25, o26, o28, o8, o9, o8, o39] : Mem) ++ RR) (.ptr 10 3 0) (by kernel_rfl) (by kernel_rfl) (by rintro _ ⟨_, _, rfl⟩; kernel_rfl) ?_
   refine H_askM (fun M => ∃ (Y7 : Ob) (RR : Mem), M = ([o1, o2, o7, o8, o9, o8, o17, Y7, o25, o26, o28, o8, o9, o8, o39] : Mem) ++ RR) (.agg [.pd (.bool x33), .pd (.sl (x34.map elU32))]) (by kernel_rfl) (by kernel_rfl) (by rintro _ ⟨_, _, rfl⟩; kernel_rfl) ?_
   refine H_askM (fun M => ∃ (Y7 : Ob) (RR : Mem), M = ([o1, o2, o7, o8, o9, o8, o17, Y7, o25, o26, o28, o8, o9, o8, o39] : Mem) ++ RR) (.ptr 10 3 0) (by kernel_rfl) (by kernel_rfl) (by rintro _ ⟨_, _, rfl⟩; kernel_rfl) ?_
   refine H_askM (fun M => ∃ (Y7 : Ob) (RR : Mem), M = ([o1, o2, o7, o8, o9, o8, o17, Y7, o25, o26, o28, o8, o9, o8, o39] : Mem) ++ RR) (.ptr 10 5 0) (by kernel_rfl) (by kernel_rfl) (by rintro _ ⟨_, _, rfl⟩; kernel_rfl) ?_
   refine H_askM (fun M => ∃ (Y7 : Ob) (RR : Mem), M = ([o1, o2, o7, o8, o9, o8, o17, Y7, o25, o26, o28, o8, o9, o8, o39] : Mem) ++ RR) (.pd (.sl (x35.map elU32))) (by kernel_rfl) (by kernel_rfl) (by rintro _ ⟨_, _, rfl⟩; kernel_rfl) ?_
   obtain ⟨x64, x65, x66, hx67, h⟩ := h
   let o43 : Ob := rowV lvQ3 1 (s357 ++ [((cpyL x52 s464).set (Int.toNat s300) (x55, x56, x57))]) (vnext s357 [((cpyL x52 s464).set (Int.toNat s300) (x55, x56, x57))] v307) false
   let m44 : Mem := [o1, o2, o7, o8, o9, o8, o17, o43, o25, o26, o28, o8, o9, o8, o39]
   refine QVd (rat_Make_ok m _ _ _ hx67) ?_
   obtain ⟨hx68, h⟩ := h
   refine QA m44 8 s358 [(x64, x65, x66)] v308 26 26 56 okQ4 (src_fixed okQ4 leQ4) hn308 hx68 ?_
   refine H_chk (p := (fun M => ∃ (Y7 : Ob) (Y8 : Ob) (RR : Mem), M = ([o1, o2, o7, o8, o9, o8, o17, Y7, Y8, o26, o28, o8, o9, o8, o39] : Mem) ++ RR) [o1, o2, o7, o8, o9, o8, o17, o43, rowV lvQ4 3 (s358 ++ [(x64, x65, x66)]) (vnext s358 [(x64, x65, x66)] v308) false, o26, o28, o8, o9, o8, o39] ∧ True) (by kernel_rfl) (by kernel_rfl) ⟨⟨o43, rowV lvQ4 3 (s358 ++ [(x64, x65, x66)]) (vnext s358 [(x64, x65, x66)] v308) false, [], rfl⟩, trivial⟩ ?_
   refine H_askM (fun M => ∃ (Y7 : Ob) (Y8 : Ob) (RR : Mem), M = ([o1, o2, o7, o8, o9, o8, o17, Y7, Y8, o26, o28, o8, o9, o8, o39] : Mem) ++ RR) (.ptr 9 0 0) (by kernel_rfl) (by kernel_rfl) (by rintro _ ⟨_, _, _, rfl⟩; kernel_rfl) ?_
   let o45 : Ob := rowV lvQ4 3 (s358 ++ [(x64, x65, x66)]) (vnext s358 [(x64, x65, x66)] v308) false
   let m46 : Mem := [o1, o2, o7, o8, o9, o8, o17, o43, o45, o26, o28, o8, o9, o8, o39]
   refine QC m46 36 9 0 0 1 1 [.own 7 ((s357 ++ [((cpyL x52 s464).set (Int.toNat s300) (x55, x56, x57))]).length) (vnext s357 [((cpyL x52 s464).set (Int.toNat s300) (x55, x56, x57))] v307)] (.own 7 ((s357 ++ [((cpyL x52 s464).set (Int.toNat s300) (x55, x56, x57))]).length) (vnext s357 [((cpyL x52 s464).set (Int.toNat s300) (x55, x56, x57))] v307)) (all_c (ok_own (o := o43) (by kernel_rfl) (rowIs_v' (lv := lvQ3) (s := 1) (e := (s357 ++ [((cpyL x52 s464).set (Int.toNat s300) (x55, x56, x57))])) (ver := (vnext s357 [((cpyL x52 s464).set (Int.toNat s300) (x55, x56, x57))] v307)) (z := false))) all_n) ?_
   refine H_chk (p := True) (by kernel_rfl) (by kernel_rfl) trivial ?_
   let o47 : Ob := .cells [.own 7 ((s357 ++ [((cpyL x52 s464).set (Int.toNat s300) (x55, x56, x57))]).length) (vnext s357 [((cpyL x52 s464).set (Int.toNat s300) (x55, x56, x57))] v307), .own 8 n308 v308, .pd (.sl ((cpyL x27 s256).map elQ4))] 1 0 false
   let m48 : Mem := [o1, o2, o7, o8, o9, o8, o17, o43, o45, o47, o28, o8, o9, o8, o39]
   refine QK 1 ?_
   refine QC m48 26 9 1 0 1 1 [.own 8 ((s358 ++ [(x64, x65, x66)]).length) (vnext s358 [(x64, x65, x66)] v308)] (.own 8 ((s358 ++ [(x64, x65, x66)]).length) (vnext s358 [(x64, x65, x66)] v308)) (all_c (ok_own (o := o45) (by kernel_rfl) (rowIs_v' (lv := lvQ4) (s := 3) (e := (s358 ++ [(x64, x65, x66)])) (ver := (vnext s358 [(x64, x65, x66)] v308)) (z := false))) all_n) ?_
   refine H_chk (p := True) (by kernel_rfl) (by kernel_rfl) trivial ?_
   exact QGC ((vnext s357 [((cpyL x52 s464).set (Int.toNat s300) (x55, x56, x57))] v307), ((s357 ++ [((cpyL x52 s464).set (Int.toNat s300) (x55, x56, x57))]).length), (vnext s358 [(x64, x65, x66)] v308), ((s358 ++ [(x64, x65, x66)]).length)) h ⟨rfl, rfl⟩ (all_c (by kernel_rfl) (all_c (by kernel_rfl) (all_c (by kernel_rfl) (all_c (bel_rowV _) (all_c (bel_rowO _) (all_c (bel_rowV _) (all_c (bel_rowVz _) (all_c (bel_rowV _) (all_c (bel_rowV _) (all_c (by kernel_rfl) all_n))))))))))
  let o49 : Ob := rowV lvQ4 3 (cpyL x52 s464) v414 true
  let m50 : Mem := [o1, o2, o7, o8, o9, o8, o17, o24, o25, o26, o28, o8, o9, o8, o49]
  refine H_drawTM [5, 6, 7, 8, 9, 10, 11, 12, 16] [(5, (fun M => ∃ (Y7 : Ob) (RR : Mem), M = ([o1, o2, o7, o8, o9, o8, o17, Y7, o25, o26, o28, o8, o9, o8, o49] : Mem) ++ RR)), (6, (fun M => ∃ (Y7 : Ob) (RR : Mem), M = ([o1, o2, o7, o8, o9, o8, o17, Y7, o25, o26, o28, o8, o9, o8, o49] : Mem) ++ RR)), (7, (fun M => ∃ (Y7 : Ob) (RR : Mem), M = ([o1, o2, o7, o8, o9, o8, o17, Y7, o25, o26, o28, o8, o9, o8, o49] : Mem) ++ RR)), (8, (fun M => ∃ (Y7 : Ob) (RR : Mem), M = ([o1, o2, o7, o8, o9, o8, o17, Y7, o25, o26, o28, o8, o9, o8, o49] : Mem) ++ RR)), (9, (fun M => ∃ (Y7 : Ob) (RR : Mem), M = ([o1, o2, o7, o8, o9, o8, o17, Y7, o25, o26, o28, o8, o9, o8, o49] : Mem) ++ RR)), (10, (fun M => ∃ (Y7 : Ob) (RR : Mem), M = ([o1, o2, o7, o8, o9, o8, o17, Y7, o25, o26, o28, o8, o9, o8, o49] : Mem) ++ RR)), (11, (fun M => ∃ (Y7 : Ob) (RR : Mem), M = ([o1, o2, o7, o8, o9, o8, o17, Y7, o25, o26, o28, o8, o9, o8, o49] : Mem) ++ RR)), (12, (fun M => ∃ (Y7 : Ob) (RR : Mem), M = ([o1, o2, o7, o8, o9, o8, o17, Y7, o25, o26, o28, o8, o9, o8, o49] : Mem) ++ RR)), (16, (fun M => ∃ (Y7 : Ob) (Y8 : Ob) (RR : Mem), M = ([o1, o2, o7, o8, o9, o8, o17, Y7, Y8, o26, o28, o8, o9, o8, o49] : Mem) ++ RR))] 12 14 n414 v414 (m50) (m38) (by kernel_rfl) (by kernel_rfl) (by kernel_rfl) (own_pd okQ4 (by decide) lgQ4 (o := o37) (by kernel_rfl) (rowIs_v' (lv := lvQ4) (s := 3) (e := (cpyL x52 s464)) (ver := v414) (z := false)) (n := n414) (ls_copyO hn414)) (frz_v (b := 14) (lv := lvQ4) (s := 3) (e := (cpyL x52 s464)) (ver := v414) (z := false) (by kernel_rfl)) ⟨⟨o24, [], rfl⟩, ⟨o24, [], rfl⟩, ⟨o24, [], rfl⟩, ⟨o24, [], rfl⟩, ⟨o24, [], rfl⟩, ⟨o24, [], rfl⟩, ⟨o24, [], rfl⟩, ⟨o24, [], rfl⟩, ⟨o24, o25, [], rfl⟩, trivial⟩ ?_
  refine QK 2 ?_
  obtain ⟨hx69, h⟩ := h
  refine QA m50 7 s357 [(cpyL x52 s464)] v307 36 36 24 okQ3 (src_fixed okQ3 leQ3) hn307 hx69 ?_
  refine H_chk (p := (fun M => ∃ (Y7 : Ob) (RR : Mem), M = ([o1, o2, o7, o8, o9, o8, o17, Y7, o25, o26, o28, o8, o9, o8, o49] : Mem) ++ RR) [o1, o2, o7, o8, o9, o8, o17, rowV lvQ3 1 (s357 ++ [(cpyL x52 s464)]) (vnext s357 [(cpyL x52 s464)] v307) false, o25, o26, o28, o8, o9, o8, o49] ∧ (fun M => ∃ (Y7 : Ob) (RR : Mem), M = ([o1, o2, o7, o8, o9, o8, o17, Y7, o25, o26, o28, o8, o9, o8, o49] : Mem) ++ RR) [o1, o2, o7, o8, o9, o8, o17, rowV lvQ3 1 (s357 ++ [(cpyL x52 s464)]) (vnext s357 [(cpyL x52 s464)] v307) false, o25, o26, o28, o8, o9, o8, o49] ∧ (fun M => ∃ (Y7 : Ob) (RR : Mem), M = ([o1, o2, o7, o8, o9, o8, o17, Y7, o25, o26, o28, o8, o9, o8, o49] : Mem) ++ RR) [o1, o2, o7, o8, o9, o8, o17, rowV lvQ3 1 (s357 ++ [(cpyL x52 s464)]) (vnext s357 [(cpyL x52 s464)] v307) false, o25, o26, o28, o8, o9, o8, o49] ∧ (fun M => ∃ (Y7 : Ob) (RR : Mem), M = ([o1, o2, o7, o8, o9, o8, o17, Y7, o25, o26, o28, o8, o9, o8, o49] : Mem) ++ RR) [o1, o2, o7, o8, o9, o8, o17, rowV lvQ3 1 (s357 ++ [(cpyL x52 s464)]) (vnext s357 [(cpyL x52 s464)] v307) false, o25, o26, o28, o8, o9, o8, o49] ∧ (fun M => ∃ (Y7 : Ob) (RR : Mem), M = ([o1, o2, o7, o8, o9, o8, o17, Y7, o25, o26, o28, o8, o9, o8, o49] : Mem) ++ RR) [o1, o2, o7, o8, o9, o8, o17, rowV lvQ3 1 (s357 ++ [(cpyL x52 s464)]) (vnext s357 [(cpyL x52 s464)] v307) false, o25, o26, o28, o8, o9, o8, o49] ∧ (fun M => ∃ (Y7 : Ob) (RR : Mem), M = ([o1, o2, o7, o8, o9, o8, o17, Y7, o25, o26, o28, o8, o9, o8, o49] : Mem) ++ RR) [o1, o2, o7, o8, o9, o8, o17, rowV lvQ3 1 (s357 ++ [(cpyL x52 s464)]) (vnext s357 [(cpyL x52 s464)] v307) false, o25, o26, o28, o8, o9, o8, o49] ∧ (fun M => ∃ (Y7 : Ob) (RR : Mem), M = ([o1, o2, o7, o8, o9, o8, o17, Y7, o25, o26, o28, o8, o9, o8, o49] : Mem) ++ RR) [o1, o2, o7, o8, o9, o8, o17, rowV lvQ3 1 (s357 ++ [(cpyL x52 s464)]) (vnext s357 [(cpyL x52 s464)] v307) false, o25, o26, o28, o8, o9, o8, o49] ∧ (fun M => ∃ (Y7 : Ob) (RR : Mem), M = ([o1, o2, o7, o8, o9, o8, o17, Y7, o25, o26, o28, o8, o9, o8, o49] : Mem) ++ RR) [o1, o2, o7, o8, o9, o8, o17, rowV lvQ3 1 (s357 ++ [(cpyL x52 s464)]) (vnext s357 [(cpyL x52 s464)] v307) false, o25, o26, o28, o8, o9, o8, o49] ∧ (fun M => ∃ (Y7 : Ob) (Y8 : Ob) (RR : Mem), M = ([o1, o2, o7, o8, o9, o8, o17, Y7, Y8, o26, o28, o8, o9, o8, o49] : Mem) ++ RR) [o1, o2, o7, o8, o9, o8, o17, rowV lvQ3 1 (s357 ++ [(cpyL x52 s464)]) (vnext s357 [(cpyL x52 s464)] v307) false, o25, o26, o28, o8, o9, o8, o49] ∧ True) (by kernel_rfl) (by kernel_rfl) ⟨⟨rowV lvQ3 1 (s357 ++ [(cpyL x52 s464)]) (vnext s357 [(cpyL x52 s464)] v307) false, [], rfl⟩, ⟨rowV lvQ3 1 (s357 ++ [(cpyL x52 s464)]) (vnext s357 [(cpyL x52 s464)] v307) false, [], rfl⟩, ⟨rowV lvQ3 1 (s357 ++ [(cpyL x52 s464)]) (vnext s357 [(cpyL x52 s464)] v307) false, [], rfl⟩, ⟨rowV lvQ3 1 (s357 ++ [(cpyL x52 s464)]) (vnext s357 [(cpyL x52 s464)] v307) false, [], rfl⟩, ⟨rowV lvQ3 1 (s357 ++ [(cpyL x52 s464)]) (vnext s357 [(cpyL x52 s464)] v307) false, [], rfl⟩, ⟨rowV lvQ3 1 (s357 ++ [(cpyL x52 s464)]) (vnext s357 [(cpyL x52 s464)] v307) false, [], rfl⟩, ⟨rowV lvQ3 1 (s357 ++ [(cpyL x52 s464)]) (vnext s357 [(cpyL x52 s464)] v307) false, [], rfl⟩, ⟨rowV lvQ3 1 (s357 ++ [(cpyL x52 s464)]) (vnext s357 [(cpyL x52 s464)] v307) false, [], rfl⟩, ⟨rowV lvQ3 1 (s357 ++ [(cpyL x52 s464)]) (vnext s357 [(cpyL x52 s464)] v307) false, o25, [], rfl⟩, trivial⟩ ?_
  refine H_askM (fun M => ∃ (Y7 : Ob) (RR : Mem), M = ([o1, o2, o7, o8, o9, o8, o17, Y7, o25, o26, o28, o8, o9, o8, o49] : Mem) ++ RR) (.ptr 9 1 0) (by kernel_rfl) (by kernel_rfl) (by rintro _ ⟨_, _, rfl⟩; kernel_rfl) ?_
  refine H_askM (fun M => ∃ (Y7 : Ob) (RR : Mem), M = ([o1, o2, o7, o8, o9, o8, o17, Y7, o25, o26, o28, o8, o9, o8, o49] : Mem) ++ RR) (.own 8 n308 v308) (by kernel_rfl) (by kernel_rfl) (by rintro _ ⟨_, _, rfl⟩; kernel_rfl) ?_
  refine H_askM (fun M => ∃ (Y7 : Ob) (RR : Mem), M = ([o1, o2, o7, o8, o9, o8, o17, Y7, o25, o26, o28, o8, o9, o8, o49] : Mem) ++ RR) (.ptr 10 3 0) (by kernel_rfl) (by kernel_rfl) (by rintro _ ⟨_, _, rfl⟩; kernel_rfl) ?_
  refine H_askM (fun M => ∃ (Y7 : Ob) (RR : Mem), M = ([o1, o2, o7, o8, o9, o8, o17, Y7, o25, o26, o28, o8, o9, o8, o49] : Mem) ++ RR) (.ptr 10 3 0) (by kernel_rfl) (by kernel_rfl) (by rintro _ ⟨_, _, rfl⟩; kernel_rfl) ?_
  refine H_askM (fun M => ∃ (Y7 : Ob) (RR : Mem), M = ([o1, o2, o7, o8, o9, o8, o17, Y7, o25, o26, o28, o8, o9, o8, o49] : Mem) ++ RR) (.agg [.pd (.bool x33), .pd (.sl (x34.map elU32))]) (by kernel_rfl) (by kernel_rfl) (by rintro _ ⟨_, _, rfl⟩; kernel_rfl) ?_
  refine H_askM (fun M => ∃ (Y7 : Ob) (RR : Mem), M = ([o1, o2, o7, o8, o9, o8, o17, Y7, o25, o26, o28, o8, o9, o8, o49] : Mem) ++ RR) (.ptr 10 3 0) (by kernel_rfl) (by kernel_rfl) (by rintro _ ⟨_, _, rfl⟩; kernel_rfl) ?_
  refine H_askM (fun M => ∃ (Y7 : Ob) (RR : Mem), M = ([o1, o2, o7, o8, o9, o8, o17, Y7, o25, o26, o28, o8, o9, o8, o49] : Mem) ++ RR) (.ptr 10 5 0) (by kernel_rfl) (by kernel_rfl) (by rintro _ ⟨_, _, rfl⟩; kernel_rfl) ?_
  refine H_askM (fun M => ∃ (Y7 : Ob) (RR : Mem), M = ([o1, o2, o7, o8, o9, o8, o17, Y7, o25, o26, o28, o8, o9, o8, o49] : Mem) ++ RR) (.pd (.sl (x35.map elU32))) (by kernel_rfl) (by kernel_rfl) (by rintro _ ⟨_, _, rfl⟩; kernel_rfl) ?_
  obtain ⟨x70, x71, x72, hx73, h⟩ := h
  let o51 : Ob := rowV lvQ3 1 (s357 ++ [(cpyL x52 s464)]) (vnext s357 [(cpyL x52 s464)] v307) false
  let m52 : Mem := [o1, o2, o7, o8, o9, o8, o17, o51, o25, o26, o28, o8, o9, o8, o49]
  refine QVd (rat_Make_ok m _ _ _ hx73) ?_
  obtain ⟨hx74, h⟩ := h
  refine QA m52 8 s358 [(x70, x71, x72)] v308 26 26 56 okQ4 (src_fixed okQ4 leQ4) hn308 hx74 ?_
  refine H_chk (p := (fun M => ∃ (Y7 : Ob) (Y8 : Ob) (RR : Mem), M = ([o1, o2, o7, o8, o9, o8, o17, Y7, Y8, o26, o28, o8, o9, o8, o49] : Mem) ++ RR) [o1, o2, o7, o8, o9, o8, o17, o51, rowV lvQ4 3 (s358 ++ [(x70, x71, x72)]) (vnext s358 [(x70, x71, x72)] v308) false, o26, o28, o8, o9, o8, o49] ∧ True) (by kernel_rfl) (by kernel_rfl) ⟨⟨o51, rowV lvQ4 3 (s358 ++ [(x70, x71, x72)]) (vnext s358 [(x70, x71, x72)] v308) false, [], rfl⟩, trivial⟩ ?_
  refine H_askM (fun M => ∃ (Y7 : Ob) (Y8 : Ob) (RR : Mem), M = ([o1, o2, o7, o8, o9, o8, o17, Y7, Y8, o26, o28, o8, o9, o8, o49] : Mem) ++ RR) (.ptr 9 0 0) (by kernel_rfl) (by kernel_rfl) (by rintro _ ⟨_, _, _, rfl⟩; kernel_rfl) ?_
  let o53 : Ob := rowV lvQ4 3 (s358 ++ [(x70, x71, x72)]) (vnext s358 [(x70, x71, x72)] v308) false
  let m54 : Mem := [o1, o2, o7, o8, o9, o8, o17, o51, o53, o26, o28, o8, o9, o8, o49]
  refine QC m54 36 9 0 0 1 1 [.own 7 ((s357 ++ [(cpyL x52 s464)]).length) (vnext s357 [(cpyL x52 s464)] v307)] (.own 7 ((s357 ++ [(cpyL x52 s464)]).length) (vnext s357 [(cpyL x52 s464)] v307)) (all_c (ok_own (o := o51) (by kernel_rfl) (rowIs_v' (lv := lvQ3) (s := 1) (e := (s357 ++ [(cpyL x52 s464)])) (ver := (vnext s357 [(cpyL x52 s464)] v307)) (z := false))) all_n) ?_
  refine H_chk (p := True) (by kernel_rfl) (by kernel_rfl) trivial ?_
  let o55 : Ob := .cells [.own 7 ((s357 ++ [(cpyL x52 s464)]).length) (vnext s357 [(cpyL x52 s464)] v307), .own 8 n308 v308, .pd (.sl ((cpyL x27 s256).map elQ4))] 1 0 false
  let m56 : Mem := [o1, o2, o7, o8, o9, o8, o17, o51, o53, o55, o28, o8, o9, o8, o49]
  refine QK 1 ?_
  refine QC m56 26 9 1 0 1 1 [.own 8 ((s358 ++ [(x70, x71, x72)]).length) (vnext s358 [(x70, x71, x72)] v308)] (.own 8 ((s358 ++ [(x70, x71, x72)]).length) (vnext s358 [(x70, x71, x72)] v308)) (all_c (ok_own (o := o53) (by kernel_rfl) (rowIs_v' (lv := lvQ4) (s := 3) (e := (s358 ++ [(x70, x71, x72)])) (ver := (vnext s358 [(x70, x71, x72)] v308)) (z := false))) all_n) ?_
  refine H_chk (p := True) (by kernel_rfl) (by kernel_rfl) trivial ?_
  exact QGC ((vnext s357 [(cpyL x52 s464)] v307), ((s357 ++ [(cpyL x52 s464)]).length), (vnext s358 [(x70, x71, x72)] v308), ((s358 ++ [(x70, x71, x72)]).length)) h ⟨rfl, rfl⟩ (all_c (by kernel_rfl) (all_c (by kernel_rfl) (all_c (by kernel_rfl) (all_c (bel_rowV _) (all_c (bel_rowO _) (all_c (bel_rowV _) (all_c (bel_rowVz _) (all_c (bel_rowV _) (all_c (bel_rowV _) (all_c (by kernel_rfl) all_n))))))))))
 refine QR (.exit 2) ?_
 let o57 : Ob := rowV lvQ3 1 s357 v307 false
 let o58 : Ob := rowV lvQ4 3 s358 v308 false
 let o59 : Ob := .cells [.own 7 n307 v307, .own 8 n308 v308, .pd (.sl ((cpyL x27 s256).map elQ4))] 1 0 false
 let m60 : Mem := [o1, o2, o7, o8, o9, o8, o17, o57, o58, o59]
 refine QK 1 ?_
 refine QC m60 38 1 0 0 3 1 [.own 7 n307 v307, .own 8 n308 v308, .pd (.sl ((cpyL x27 s256).map elQ4))] (.agg [.own 7 n307 v307, .own 8 n308 v308, .pd (.sl ((cpyL x27 s256).map elQ4))]) (all_c (ok_own (o := o57) (by kernel_rfl) (rowIs_v' (lv := lvQ3) (s := 1) (e := s357) (ver := v307) (z := false))) (all_c (ok_own (o := o58) (by kernel_rfl) (rowIs_v' (lv := lvQ4) (s := 3) (e := s358) (ver := v308) (z := false))) (all_c (by kernel_rfl) all_n))) ?_
 let m61 : Mem := [o1, o59, o7, o8, o9, o8, o17, o57, o58, o59]
 subst r; exact QX .ret (.tup [.agg [.own 7 n307 v307, .own 8 n308 v308, .pd (.sl ((cpyL x27 s256).map elQ4))], .pd (.int .i64 0)]) m61 (pure_tup (pl_cons (pure_agg (pl_cons (po okQ3 lgQ3 7 s357 v307 n307 hn307) (pl_cons (po okQ4 lgQ4 8 s358 v308 n308 hn308) (pl_cons rfl pl_nil)))) (pl_cons rfl pl_nil)))
end Go.Abs
end
