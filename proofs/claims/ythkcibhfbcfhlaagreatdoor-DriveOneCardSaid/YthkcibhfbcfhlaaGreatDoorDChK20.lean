/- Part of a proof, in few files: GNatW. -/
import Derived.Test.YthkcibhfbcfhlaaGreatDoorDChK15
import Derived.Test.YthkcibhfbcfhlaaGreatDoorDChK16
import Derived.Test.YthkcibhfbcfhlaaGreatDoorDChK19

set_option linter.unusedVariables false
set_option linter.unusedSimpArgs false
set_option linter.unnecessarySimpa false
section
namespace Go.Abs
open Go.Proofs
set_option maxRecDepth 20000
def lvQ4 (x : Fq) : List PD := [.bool x.1, .sl (x.2.1.map elU32), .sl (x.2.2.map elU32)]
def elQ4 (x : Fq) : PD := .agg [.bool x.1, .sl (x.2.1.map elU32), .sl (x.2.2.map elU32)]
theorem okQ4 : LVok lvQ4 3 := fun _ => ⟨rfl, rfl⟩
theorem leQ4 : ELok elQ4 lvQ4 := fun _ => rfl
theorem lgQ4 : ELg elQ4 lvQ4 3 := fun _ => rfl
theorem math_bits_Len32_ok (m : Tp) (p0 : Int) {r : Int} (h : math_bits_Len32 p0 r) : ASpec Tryz.prog (gtT m) 154 [.pd (.int .u32 p0)] (· = .pd (.int .i64 r)) := by
 refine ASpec_tree Tryz.f154 mixedT (askG [9, 10, 11] false) (by kernel_rfl) ?_
 unfold math_bits_Len32 at h
 refine QB h (fun h => ?_) (fun h => ?_)
 ·refine QZ (ask_shr (P := Tryz.prog) (M := []) (t := 189) (k := .u32) (k2 := .u64) (a := p0) (b := (16 : Int)) (by decide)) ?_
  refine QB h (fun h => ?_) (fun h => ?_)
  ·refine QZ (ask_shr (P := Tryz.prog) (M := []) (t := 189) (k := .u32) (k2 := .u64) (a := (Int.fdiv p0 (2 ^ (min (Int.toNat (16 : Int)) (IntKind.bits .u32))))) (b := (8 : Int)) (by decide)) ?_
   obtain ⟨c1, hx2, h⟩ := h
   refine QZ (ask_sidx (P := Tryz.prog) (M := []) (t := 9) (k := .u8) (by kernel_rfl) hx2) ?_
   subst r; exact QE .ret
  ·obtain ⟨c3, hx4, h⟩ := h
   refine QZ (ask_sidx (P := Tryz.prog) (M := []) (t := 9) (k := .u8) (by kernel_rfl) hx4) ?_
   subst r; exact QE .ret
 ·refine QB h (fun h => ?_) (fun h => ?_)
  ·refine QZ (ask_shr (P := Tryz.prog) (M := []) (t := 189) (k := .u32) (k2 := .u64) (a := p0) (b := (8 : Int)) (by decide)) ?_
   obtain ⟨c5, hx6, h⟩ := h
   refine QZ (ask_sidx (P := Tryz.prog) (M := []) (t := 9) (k := .u8) (by kernel_rfl) hx6) ?_
   subst r; exact QE .ret
  ·obtain ⟨c7, hx8, h⟩ := h
   refine QZ (ask_sidx (P := Tryz.prog) (M := []) (t := 9) (k := .u8) (by kernel_rfl) hx8) ?_
   subst r; exact QE .ret
theorem nat_trim_ok (m : Tp) (p0 : List Int) {r : (List Int)} (h : nat_trim p0 r) : ASpec Tryz.prog (gtT m) 99 [.pd (.sl (p0.map elU32))] (· = .pd (.sl (r.map elU32))) := by
 refine ASpec_tree Tryz.f99 mixedT (askG [9, 10, 11] false) (by kernel_rfl) ?_
 unfold nat_trim at h
 refine QL [] 63 189 elU32 p0 ?_
 refine QLP (F := nat_trim_L1 p0 r) (s0 := (p0.length : Int)) h () 22 0
  (fun s100 () => [(0, .pd (.sl (p0.map elU32))), (3, .pd (.int .i64 s100))])
  (fun s100 () => []) (fun s100 () => True) trivial [] mixedT (askG [9, 10, 11] false) ?_
 rintro X1 s100 ⟨⟩ - h
 dsimp only [nat_trim_L1] at h
 refine QB h (fun h => ?_) (fun h => ?_)
 ·obtain ⟨x1, hx2, h⟩ := h
  refine QI [] 63 189 .i64 okU32 leU32 hx2 ?_
  refine QK 1 ?_
  refine QB h (fun h => ?_) (fun h => ?_)
  ·exact QG () h trivial
  ·refine QR (.exit 0) ?_
   obtain ⟨hx3, h⟩ := h
   refine QS [] 63 189 none (some s100) okU32 leU32 hx3 ?_
   obtain ⟨x4, hx5, h⟩ := h
   refine QV (slices_Clone_nat_Nat_uint32_ok m _ hx5) ?_
   subst r; exact QE .ret
 ·refine QR (.exit 0) ?_
  obtain ⟨hx6, h⟩ := h
  refine QS [] 63 189 none (some s100) okU32 leU32 hx6 ?_
  obtain ⟨x7, hx8, h⟩ := h
  refine QV (slices_Clone_nat_Nat_uint32_ok m _ hx8) ?_
  subst r; exact QE .ret
theorem nat_Of_ok (m : Tp) (p0 : Int) {r : (List Int)} (h : nat_Of p0 r) : ASpec Tryz.prog (gtT m) 55 [.pd (.int .u64 p0)] (· = .pd (.sl (r.map elU32))) := by
 refine ASpec_tree Tryz.f55 mixedT (askG [9, 10, 11] false) (by kernel_rfl) ?_
 unfold nat_Of at h
 refine QZ (ask_shr (P := Tryz.prog) (M := []) (t := 136) (k := .u64) (k2 := .u64) (a := p0) (b := (32 : Int)) (by decide)) ?_
 obtain ⟨x1, hx2, h⟩ := h
 refine H_valW (g := 99) (args := [.fixed ([(IntKind.u32.wrap p0), (IntKind.u32.wrap (Int.fdiv p0 (2 ^ (min (Int.toNat (32 : Int)) (IntKind.bits .u64)))))].map elU32)]) (M := []) (.pd (.sl (x1.map elU32))) (.inl (by kernel_rfl)) (by kernel_rfl) (nat_trim_ok m _ hx2) (by kernel_rfl) (hasT 99 (by kernel_rfl)) ?_
 subst r; exact QE .ret
theorem nat_Small_ok (m : Tp) (p0 : List Int) {r : Int × Bool} (h : nat_Small p0 r) : ASpec Tryz.prog (gtT m) 102 [.pd (.sl (p0.map elU32))] (· = .tup [.pd (.int .u64 r.1), .pd (.bool r.2)]) := by
 refine ASpec_tree Tryz.f102 mixedT (askG [9, 10, 11] false) (by kernel_rfl) ?_
 unfold nat_Small at h
 obtain ⟨x1, hx2, h⟩ := h
 refine QV (nat_trim_ok m _ hx2) ?_
 refine QL [] 63 189 elU32 x1 ?_
 refine QB h (fun h => ?_) (fun h => ?_)
 ·subst r; exact QE .ret
 refine QK 1 ?_
 refine QIN (g := 101) (args := [.pd (.sl (x1.map elU32))]) (M := [.cells [.pd (.int .u64 0)] 1 0 false]) Tryz.f101 mixedT (askG [9, 10, 11] false) (hasT 101 (by kernel_rfl)) ?_
 let o1 : Ob := .cells [.pd (.int .u64 0)] 1 0 false
 let o2 : Ob := .cells [.pd (.sl (x1.map elU32))] 1 0 false
 refine QK 1 ?_
 refine QEM .ret (.fn (.func 155) [] [.ptr 1 0 0]) ([o1, o2]) ?_
 refine H_gen fun w1 hw1 => ?_
 let o3 : Ob := .loop .ready none w1.stS.T w1.rps w1.rasg w1.rbo 2
 let m4 : Mem := [o1, o2, .defers false, o3]
 refine H_range (gf := 155) (l1 := []) (l2 := [.ptr 1 0 0]) (m4) 3 (by subst hw1; kernel_rfl) (by subst hw1; kernel_rfl) (hasT 155 (by kernel_rfl)) (by subst hw1; kernel_rfl) (by subst hw1; kernel_rfl) ?_
 refine ACall_tree Tryz.f155 mixedT (askG [9, 10, 11] false) (by kernel_rfl) ?_
 refine H_askK (.pd (.sl (x1.map elU32))) (m4) (by subst hw1; kernel_rfl) ?_
 refine H_ask _ _ (by subst hw1; kernel_rfl) (ask_len (P := Tryz.prog) (M := m4) (t := 63) (et := 189) (el := elU32) (by kernel_rfl) (e := x1)) ?_
 refine H_loopP (F := nat_Small_L1 x1 r) (s0 := ((IntKind.i64.wrap ((x1.length : Int) - 1)), (0 : Int))) h () 19 4
  (fun (s100, s101) () => [(0, .yld 3), (1, .ptr 1 0 0), (3, .pd (.int .i64 s100))])
  (fun (s100, s101) () => [.cells [.pd (.int .u64 s101)] 1 0 false, o2, .defers false, o3]) (fun (s100, s101) () => True) trivial [] mixedT (askG [9, 10, 11] false)
  (by subst hw1; kernel_rfl) (by subst hw1; kernel_rfl) (by subst hw1; kernel_rfl) (by subst hw1; kernel_rfl) (by subst hw1; kernel_rfl) (fun _ _ => rfl) ?_
 rintro X1 ⟨s100, s101⟩ ⟨⟩ - h
 dsimp only [nat_Small_L1] at h
 refine H_split (decide (s100 ≥ (0 : Int))) (by subst hw1; kernel_rfl) (fun hc => ?_) (fun hc => ?_)
 ·replace h := h.t hc; clear hc
  let o5 : Ob := .cells [.pd (.int .u64 s101)] 1 0 false
  let m6 : Mem := [o5, o2, .defers false, o3]
  refine H_askK (.pd (.sl (x1.map elU32))) (m6) (by subst hw1; kernel_rfl) ?_
  obtain ⟨x3, hx4, h⟩ := h
  refine H_ask _ _ (by subst hw1; kernel_rfl) (ask_idx (P := Tryz.prog) (M := m6) (t := 63) (et := 189) (k := .i64) (lv := lvU32) okU32 leU32 (by kernel_rfl) (by kernel_rfl) hx4) ?_
  refine H_askK (.pd (.int .u32 x3)) (m6) (by subst hw1; kernel_rfl) ?_
  refine H_yld (l := 3) (args := [.pd (.int .i64 s100), .pd (.int .u32 x3)]) (M := m6) (by subst hw1; kernel_rfl) ?_
  refine H_round mixedT (askG [9, 10, 11] false) (by subst hw1; kernel_rfl) ?_
  let o7 : Ob := .loop .busy none w1.stS.T w1.rps w1.rasg w1.rbo 2
  let m8 : Mem := [o5, o2, .defers false, o7]
  refine H_askK (.pd (.int .u64 s101)) (m8) (by subst hw1; kernel_rfl) ?_
  refine H_ask _ _ (by subst hw1; kernel_rfl) (ask_shl (P := Tryz.prog) (M := m8) (t := 136) (k := .u64) (k2 := .u64) (a := s101) (b := (32 : Int)) (by decide)) ?_
  let o9 : Ob := .cells [.pd (.int .u64 (bitO .u64 (IntKind.u64.wrap (s101 * 2 ^ (min (Int.toNat (32 : Int)) (IntKind.bits .u64)))) (IntKind.u64.wrap x3)))] 1 0 false
  let m10 : Mem := [o9, o2, .defers false, o7]
  refine H_askK (.junk) (m10) (by subst hw1; kernel_rfl) ?_
  let m11 : Mem := [o9, o2, .defers false, o3]
  refine H_rnd .normal .ready none true (m11) (by subst hw1; kernel_rfl) rfl (by subst hw1; kernel_rfl) ?_
  exact H_againP (st := _) ((IntKind.i64.wrap (s100 - 1)), (bitO .u64 (IntKind.u64.wrap (s101 * 2 ^ (min (Int.toNat (32 : Int)) (IntKind.bits .u64)))) (IntKind.u64.wrap x3))) () h trivial (by subst hw1; kernel_rfl) (by subst hw1; kernel_rfl) (by subst hw1; kernel_rfl) (by subst hw1; kernel_rfl) (by subst hw1; kernel_rfl)
 replace h := h.f hc; clear hc
 refine H_leaveP (.exit 0) (by subst hw1; kernel_rfl) rfl ?_
 let o12 : Ob := .cells [.pd (.int .u64 s101)] 1 0 false
 let m13 : Mem := [o12, o2, .defers false, o3]
 refine H_endM .normal (.tup []) (m13) (by subst hw1; kernel_rfl) rfl (by subst hw1; kernel_rfl) (by subst hw1; kernel_rfl) (by subst hw1; kernel_rfl) ?_
 let o14 : Ob := .loop .exhausted none w1.stS.T w1.rps w1.rasg w1.rbo 2
 let m15 : Mem := [o12, o2, .defers false, o14]
 refine aft_done (st := .ready) (M' := m15) (by subst hw1; kernel_rfl) (by simp) (by subst hw1; kernel_rfl) ?_
 refine H_askK (.pd (.int .u64 s101)) (m15) (by subst hw1; kernel_rfl) ?_
 exact H_end .ret (.tup [.pd (.int .u64 s101), .pd (.bool true)]) (by subst hw1; kernel_rfl) rfl (by subst hw1; kernel_rfl) (by subst h; rfl)
theorem nat_Compare_ok (m : Tp) (p0 : List Int) (p1 : List Int) {r : Int} (h : nat_Compare p0 p1 r) : ASpec Tryz.prog (gtT m) 138 [.pd (.sl (p0.map elU32)), .pd (.sl (p1.map elU32))] (· = .pd (.int .i64 r)) := by
 refine ASpec_tree Tryz.f138 mixedT (askG [9, 10, 11] false) (by kernel_rfl) ?_
 unfold nat_Compare at h
 refine QK 1 ?_
 refine QD ?_
 obtain ⟨x1, hx2, h⟩ := h
 let o2 : Ob := .cells [.pd (.int .i64 0)] 1 0 false
 refine QVd (nat_trim_ok m _ hx2) ?_
 refine QK 1 ?_
 obtain ⟨x3, hx4, h⟩ := h
 refine QVd (nat_trim_ok m _ hx4) ?_
 let o3 : Ob := .cells [.pd (.sl (x3.map elU32))] 1 0 false
 refine QK 1 ?_
 refine QL [o3, o2] 63 189 elU32 x1 ?_
 refine QK 1 ?_
 refine QL [o3, o2] 63 189 elU32 x3 ?_
 refine QB h (fun h => ?_) (fun h => ?_)
 ·refine QL [o3, o2] 63 189 elU32 x1 ?_
  refine QK 1 ?_
  refine QL [o3, o2] 63 189 elU32 x3 ?_
  refine QK 1 ?_
  subst r; exact QE .ret
 refine QIN (g := 101) (args := [.pd (.sl (x1.map elU32))]) (M := [o3, o2]) Tryz.f101 mixedT (askG [9, 10, 11] false) (hasT 101 (by kernel_rfl)) ?_
 let o5 : Ob := .cells [.pd (.sl (x1.map elU32))] 1 0 false
 refine QK 1 ?_
 refine QEM .ret (.fn (.func 155) [] [.ptr 2 0 0]) ([o3, o2, o5]) ?_
 refine H_gen fun w1 hw1 => ?_
 let o6 : Ob := .loop .ready none w1.stS.T w1.rps w1.rasg w1.rbo 3
 let m7 : Mem := [o3, o2, o5, .defers false, o6]
 refine H_range (gf := 155) (l1 := []) (l2 := [.ptr 2 0 0]) (m7) 4 (by subst hw1; kernel_rfl) (by subst hw1; kernel_rfl) (hasT 155 (by kernel_rfl)) (by subst hw1; kernel_rfl) (by subst hw1; kernel_rfl) ?_
 refine ACall_tree Tryz.f155 mixedT (askG [9, 10, 11] false) (by kernel_rfl) ?_
 refine H_askK (.pd (.sl (x1.map elU32))) (m7) (by subst hw1; kernel_rfl) ?_
 refine H_ask _ _ (by subst hw1; kernel_rfl) (ask_len (P := Tryz.prog) (M := m7) (t := 63) (et := 189) (el := elU32) (by kernel_rfl) (e := x1)) ?_
 refine H_loopP (F := nat_Compare_L1 x1 x3 r) (s0 := (IntKind.i64.wrap ((x1.length : Int) - 1))) h () 19 5
  (fun s100 () => [(0, .yld 4), (1, .ptr 2 0 0), (3, .pd (.int .i64 s100))])
  (fun s100 () => [o3, o2, o5, .defers false, o6]) (fun s100 () => True) trivial [] mixedT (askG [9, 10, 11] false)
  (by subst hw1; kernel_rfl) (by subst hw1; kernel_rfl) (by subst hw1; kernel_rfl) (by subst hw1; kernel_rfl) (by subst hw1; kernel_rfl) (fun _ _ => rfl) ?_
 rintro X1 s100 ⟨⟩ - h
 dsimp only [nat_Compare_L1] at h
 refine H_split (decide (s100 ≥ (0 : Int))) (by subst hw1; kernel_rfl) (fun hc => ?_) (fun hc => ?_)
 ·replace h := h.t hc; clear hc
  refine H_askK (.pd (.sl (x1.map elU32))) (m7) (by subst hw1; kernel_rfl) ?_
  obtain ⟨x5, hx6, h⟩ := h
  refine H_ask _ _ (by subst hw1; kernel_rfl) (ask_idx (P := Tryz.prog) (M := m7) (t := 63) (et := 189) (k := .i64) (lv := lvU32) okU32 leU32 (by kernel_rfl) (by kernel_rfl) hx6) ?_
  refine H_askK (.pd (.int .u32 x5)) (m7) (by subst hw1; kernel_rfl) ?_
  refine H_yld (l := 4) (args := [.pd (.int .i64 s100), .pd (.int .u32 x5)]) (M := m7) (by subst hw1; kernel_rfl) ?_
  refine H_round mixedT (askG [9, 10, 11] false) (by subst hw1; kernel_rfl) ?_
  let o8 : Ob := .loop .busy none w1.stS.T w1.rps w1.rasg w1.rbo 3
  let m9 : Mem := [o3, o2, o5, .defers false, o8]
  refine H_askK (.pd (.sl (x3.map elU32))) (m9) (by subst hw1; kernel_rfl) ?_
  obtain ⟨x7, hx8, h⟩ := h
  refine H_ask _ _ (by subst hw1; kernel_rfl) (ask_idx (P := Tryz.prog) (M := m9) (t := 63) (et := 189) (k := .i64) (lv := lvU32) okU32 leU32 (by kernel_rfl) (by kernel_rfl) hx8) ?_
  refine H_askK (.pd (.int .u32 x7)) (m9) (by subst hw1; kernel_rfl) ?_
  refine H_split (decide (x5 < x7)) (by subst hw1; kernel_rfl) (fun hc => ?_) (fun hc => ?_)
  ·replace h := h.t hc; clear hc
   let o10 : Ob := .cells [.pd (.int .i64 (-1))] 1 0 false
   let m11 : Mem := [o3, o10, o5, .defers false, o8]
   refine H_askK (.junk) (m11) (by subst hw1; kernel_rfl) ?_
   let o12 : Ob := .loop .done (some .ret) w1.stS.T w1.rps w1.rasg w1.rbo 3
   let m13 : Mem := [o3, o10, o5, .defers false, o12]
   refine H_rnd .ret .done (some .ret) false (m13) (by subst hw1; kernel_rfl) rfl (by subst hw1; kernel_rfl) ?_
   refine H_leaveP .ret (by subst hw1; kernel_rfl) rfl ?_
   refine H_endM .ret (.tup []) (m13) (by subst hw1; kernel_rfl) rfl (by subst hw1; kernel_rfl) (by subst hw1; kernel_rfl) (by subst hw1; kernel_rfl) ?_
   let o14 : Ob := .loop .exhausted (some .ret) w1.stS.T w1.rps w1.rasg w1.rbo 3
   let m15 : Mem := [o3, o10, o5, .defers false, o14]
   refine aft_pend (st := .done) (c := .ret) (M' := m15) (by subst hw1; kernel_rfl) (by simp) (by subst hw1; kernel_rfl) mixedT (askG [9, 10, 11] false) ?_
   refine H_done .ret (by subst hw1; kernel_rfl) ?_
   exact H_end .ret (.pd (.int .i64 (-1))) (by subst hw1; kernel_rfl) rfl (by subst hw1; kernel_rfl) (by subst h; rfl)
  replace h := h.f hc; clear hc
  refine H_askK (.pd (.sl (x3.map elU32))) (m9) (by subst hw1; kernel_rfl) ?_
  obtain ⟨x9, hx10, h⟩ := h
  refine H_ask _ _ (by subst hw1; kernel_rfl) (ask_idx (P := Tryz.prog) (M := m9) (t := 63) (et := 189) (k := .i64) (lv := lvU32) okU32 leU32 (by kernel_rfl) (by kernel_rfl) hx10) ?_
  refine H_askK (.pd (.int .u32 x9)) (m9) (by subst hw1; kernel_rfl) ?_
  refine H_split (decide (x5 > x9)) (by subst hw1; kernel_rfl) (fun hc => ?_) (fun hc => ?_)
  ·replace h := h.t hc; clear hc
   let o16 : Ob := .cells [.pd (.int .i64 1)] 1 0 false
   let m17 : Mem := [o3, o16, o5, .defers false, o8]
   refine H_askK (.junk) (m17) (by subst hw1; kernel_rfl) ?_
   let o18 : Ob := .loop .done (some .ret) w1.stS.T w1.rps w1.rasg w1.rbo 3
   let m19 : Mem := [o3, o16, o5, .defers false, o18]
   refine H_rnd .ret .done (some .ret) false (m19) (by subst hw1; kernel_rfl) rfl (by subst hw1; kernel_rfl) ?_
   refine H_leaveP .ret (by subst hw1; kernel_rfl) rfl ?_
   refine H_endM .ret (.tup []) (m19) (by subst hw1; kernel_rfl) rfl (by subst hw1; kernel_rfl) (by subst hw1; kernel_rfl) (by subst hw1; kernel_rfl) ?_
   let o20 : Ob := .loop .exhausted (some .ret) w1.stS.T w1.rps w1.rasg w1.rbo 3
   let m21 : Mem := [o3, o16, o5, .defers false, o20]
   refine aft_pend (st := .done) (c := .ret) (M' := m21) (by subst hw1; kernel_rfl) (by simp) (by subst hw1; kernel_rfl) mixedT (askG [9, 10, 11] false) ?_
   refine H_done .ret (by subst hw1; kernel_rfl) ?_
   exact H_end .ret (.pd (.int .i64 1)) (by subst hw1; kernel_rfl) rfl (by subst hw1; kernel_rfl) (by subst h; rfl)
  replace h := h.f hc; clear hc
  refine H_rnd .normal .ready none true (m7) (by subst hw1; kernel_rfl) rfl (by subst hw1; kernel_rfl) ?_
  exact H_againP (st := _) (IntKind.i64.wrap (s100 - 1)) () h trivial (by subst hw1; kernel_rfl) (by subst hw1; kernel_rfl) (by subst hw1; kernel_rfl) (by subst hw1; kernel_rfl) (by subst hw1; kernel_rfl)
 replace h := h.f hc; clear hc
 refine H_leaveP (.exit 0) (by subst hw1; kernel_rfl) rfl ?_
 refine H_endM .normal (.tup []) (m7) (by subst hw1; kernel_rfl) rfl (by subst hw1; kernel_rfl) (by subst hw1; kernel_rfl) (by subst hw1; kernel_rfl) ?_
 let o22 : Ob := .loop .exhausted none w1.stS.T w1.rps w1.rasg w1.rbo 3
 let m23 : Mem := [o3, o2, o5, .defers false, o22]
 refine aft_done (st := .ready) (M' := m23) (by subst hw1; kernel_rfl) (by simp) (by subst hw1; kernel_rfl) ?_
 refine H_askK (.junk) (m23) (by subst hw1; kernel_rfl) ?_
 exact H_end .ret (.pd (.int .i64 0)) (by subst hw1; kernel_rfl) rfl (by subst hw1; kernel_rfl) (by subst h; rfl)
theorem nat_at_ok (m : Tp) (p0 : List Int) (p1 : Int) {r : Int} (h : nat_at p0 p1 r) : ASpec Tryz.prog (gtT m) 205 [.pd (.sl (p0.map elU32)), .pd (.int .i64 p1)] (· = .pd (.int .u64 r)) := by
 refine ASpec_tree Tryz.f205 mixedT (askG [9, 10, 11] false) (by kernel_rfl) ?_
 unfold nat_at at h
 refine QL [] 63 189 elU32 p0 ?_
 refine QB h (fun h => ?_) (fun h => ?_)
 ·obtain ⟨x1, hx2, h⟩ := h
  refine QI [] 63 189 .i64 okU32 leU32 hx2 ?_
  refine QK 1 ?_
  subst r; exact QE .ret
 ·subst r; exact QE .ret
theorem nat_Add_ok (m : Tp) (p0 : List Int) (p1 : List Int) {r : (List Int)} (h : nat_Add p0 p1 r) : ASpec Tryz.prog (gtT m) 204 [.pd (.sl (p0.map elU32)), .pd (.sl (p1.map elU32))] (· = .pd (.sl (r.map elU32))) := by
 refine ASpec_tree Tryz.f204 mixedT (askG [9, 10, 11] false) (by kernel_rfl) ?_
 unfold nat_Add at h
 refine QL [] 63 189 elU32 p0 ?_
 refine QL [] 63 189 elU32 p1 ?_
 obtain ⟨hx1, h⟩ := h
 refine QZ (ask_make (P := Tryz.prog) (M := []) (t := 63) (k := .i64) (lv := lvU32) (by_ := 4) (n := (IntKind.i64.wrap ((if (p1.length : Int) > (p0.length : Int) then (p1.length : Int) else (p0.length : Int)) + 1))) (z := (0 : Int)) okU32 ⟨189, .int .u32 0, by kernel_rfl, by kernel_rfl, rfl, by kernel_rfl, by decide, rfl⟩ hx1.1 hx1.2.1 hx1.2.2) ?_
 let o1 : Ob := .cells (rowC lvU32 (List.replicate (Int.toNat (IntKind.i64.wrap ((if (p1.length : Int) > (p0.length : Int) then (p1.length : Int) else (p0.length : Int)) + 1))) (0 : Int))) 1 0 false
 refine QOc [o1] 63 189 lvU32 1 0 (List.replicate (Int.toNat (IntKind.i64.wrap ((if (p1.length : Int) > (p0.length : Int) then (p1.length : Int) else (p0.length : Int)) + 1))) (0 : Int)) 0 rfl ?_
 refine QLP (F := nat_Add_L1 p0 p1 r) (s0 := ((0 : Int), (0 : Int), (List.replicate (Int.toNat (IntKind.i64.wrap ((if (p1.length : Int) > (p0.length : Int) then (p1.length : Int) else (p0.length : Int)) + 1))) (0 : Int)))) h () 39 1
  (fun (s100, s101, s150) () => [(0, .pd (.sl (p0.map elU32))), (1, .pd (.sl (p1.map elU32))), (5, .own 0 ((List.replicate (Int.toNat (IntKind.i64.wrap ((if (p1.length : Int) > (p0.length : Int) then (p1.length : Int) else (p0.length : Int)) + 1))) (0 : Int)).length) 0), (6, .pd (.int .u64 s100)), (16, .pd (.int .i64 ((List.replicate (Int.toNat (IntKind.i64.wrap ((if (p1.length : Int) > (p0.length : Int) then (p1.length : Int) else (p0.length : Int)) + 1))) (0 : Int)).length : Int))), (17, .pd (.int .i64 s101))])
  (fun (s100, s101, s150) () => [.cells (rowC lvU32 s150) 1 0 false]) (fun (s100, s101, s150) () => (List.replicate (Int.toNat (IntKind.i64.wrap ((if (p1.length : Int) > (p0.length : Int) then (p1.length : Int) else (p0.length : Int)) + 1))) (0 : Int)).length = s150.length) rfl [] mixedT (askG [9, 10, 11] false) ?_
 rintro X1 ⟨s100, s101, s150⟩ ⟨⟩ hn100 h
 dsimp only [nat_Add_L1] at h
 refine QB h (fun h => ?_) (fun h => ?_)
 ·obtain ⟨x4, hx5, h⟩ := h
  refine QV (nat_at_ok m _ _ hx5) ?_
  obtain ⟨x6, hx7, h⟩ := h
  refine QV (nat_at_ok m _ _ hx7) ?_
  obtain ⟨x8, hx9, h⟩ := h
  refine QJc [.cells (rowC lvU32 s150) 1 0 false] 63 189 .i64 lvU32 1 0 s150 0 hn100 hx9 ?_
  refine QZ (ask_ostore (P := Tryz.prog) (M := [.cells (rowC lvU32 s150) 1 0 false]) (t := 189) (lv := lvU32) (b := 0) (i := s101) (y := (IntKind.u32.wrap (IntKind.u64.wrap (s100 + (IntKind.u64.wrap (x4 + x6)))))) (X := .pd (.int .u32 (IntKind.u32.wrap (IntKind.u64.wrap (s100 + (IntKind.u64.wrap (x4 + x6))))))) okU32 (by kernel_rfl) (by kernel_rfl) (rowIs_c (lv := lvU32) (s := 1) (e := s150) (ver := 0) (z := false)) hx9 (by kernel_rfl)) ?_
  let o2 : Ob := .cells (rowC lvU32 (s150.set (Int.toNat s101) (IntKind.u32.wrap (IntKind.u64.wrap (s100 + (IntKind.u64.wrap (x4 + x6))))))) 1 0 false
  refine QZ (ask_shr (P := Tryz.prog) (M := [o2]) (t := 136) (k := .u64) (k2 := .u64) (a := (IntKind.u64.wrap (s100 + (IntKind.u64.wrap (x4 + x6))))) (b := (32 : Int)) (by decide)) ?_
  exact QG () h (ls_set hn100)
 refine QR (.exit 0) ?_
 obtain ⟨x10, hx11, h⟩ := h
 refine H_valF (g := 99) (pre := []) (post := []) (M := [.cells (rowC lvU32 s150) 1 0 false]) 0 ((List.replicate (Int.toNat (IntKind.i64.wrap ((if (p1.length : Int) > (p0.length : Int) then (p1.length : Int) else (p0.length : Int)) + 1))) (0 : Int)).length) 0 (.pd (.sl (x10.map elU32))) (by kernel_rfl) (own_pd okU32 (by decide) lgU32 (o := .cells (rowC lvU32 s150) 1 0 false) (by kernel_rfl) (rowIs_c (lv := lvU32) (s := 1) (e := s150) (ver := 0) (z := false)) (n := (List.replicate (Int.toNat (IntKind.i64.wrap ((if (p1.length : Int) > (p0.length : Int) then (p1.length : Int) else (p0.length : Int)) + 1))) (0 : Int)).length) hn100) (frz_c (b := 0) (l := rowC lvU32 s150) (s := 1) (ver := 0) (z := false) (by kernel_rfl)) (by kernel_rfl) (nat_trim_ok m _ hx11) (by kernel_rfl) (hasT 99 (by kernel_rfl)) ?_
 subst r; exact QE .ret
theorem nat_Sub_ok (m : Tp) (p0 : List Int) (p1 : List Int) {r : (List Int) × Bool} (h : nat_Sub p0 p1 r) : ASpec Tryz.prog (gtT m) 156 [.pd (.sl (p0.map elU32)), .pd (.sl (p1.map elU32))] (· = .tup [.pd (.sl (r.1.map elU32)), .pd (.bool r.2)]) := by
 refine ASpec_tree Tryz.f156 mixedT (askG [9, 10, 11] false) (by kernel_rfl) ?_
 unfold nat_Sub at h
 obtain ⟨x1, hx2, h⟩ := h
 refine QV (nat_Compare_ok m _ _ hx2) ?_
 refine QB h (fun h => ?_) (fun h => ?_)
 ·subst r; exact QE .ret
 refine QL [] 63 189 elU32 p0 ?_
 obtain ⟨hx3, h⟩ := h
 refine QZ (ask_make (P := Tryz.prog) (M := []) (t := 63) (k := .i64) (lv := lvU32) (by_ := 4) (n := (p0.length : Int)) (z := (0 : Int)) okU32 ⟨189, .int .u32 0, by kernel_rfl, by kernel_rfl, rfl, by kernel_rfl, by decide, rfl⟩ hx3.1 hx3.2.1 hx3.2.2) ?_
 let o1 : Ob := .cells (rowC lvU32 (List.replicate (Int.toNat (p0.length : Int)) (0 : Int))) 1 0 false
 refine QOc [o1] 63 189 lvU32 1 0 (List.replicate (Int.toNat (p0.length : Int)) (0 : Int)) 0 rfl ?_
 refine QLP (F := nat_Sub_L1 p0 p1 r) (s0 := ((0 : Int), (0 : Int), (List.replicate (Int.toNat (p0.length : Int)) (0 : Int)))) h () 41 1
  (fun (s100, s101, s150) () => [(0, .pd (.sl (p0.map elU32))), (1, .pd (.sl (p1.map elU32))), (6, .own 0 ((List.replicate (Int.toNat (p0.length : Int)) (0 : Int)).length) 0), (7, .pd (.int .u64 s100)), (18, .pd (.int .i64 ((List.replicate (Int.toNat (p0.length : Int)) (0 : Int)).length : Int))), (19, .pd (.int .i64 s101))])
  (fun (s100, s101, s150) () => [.cells (rowC lvU32 s150) 1 0 false]) (fun (s100, s101, s150) () => (List.replicate (Int.toNat (p0.length : Int)) (0 : Int)).length = s150.length) rfl [] mixedT (askG [9, 10, 11] false) ?_
 rintro X1 ⟨s100, s101, s150⟩ ⟨⟩ hn100 h
 dsimp only [nat_Sub_L1] at h
 refine QB h (fun h => ?_) (fun h => ?_)
 ·obtain ⟨x6, hx7, h⟩ := h
  refine QV (nat_at_ok m _ _ hx7) ?_
  obtain ⟨x8, hx9, h⟩ := h
  refine QV (nat_at_ok m _ _ hx9) ?_
  obtain ⟨x10, hx11, h⟩ := h
  refine QJc [.cells (rowC lvU32 s150) 1 0 false] 63 189 .i64 lvU32 1 0 s150 0 hn100 hx11 ?_
  refine QZ (ask_ostore (P := Tryz.prog) (M := [.cells (rowC lvU32 s150) 1 0 false]) (t := 189) (lv := lvU32) (b := 0) (i := s101) (y := (IntKind.u32.wrap (IntKind.u64.wrap ((IntKind.u64.wrap (x6 - x8)) - s100)))) (X := .pd (.int .u32 (IntKind.u32.wrap (IntKind.u64.wrap ((IntKind.u64.wrap (x6 - x8)) - s100))))) okU32 (by kernel_rfl) (by kernel_rfl) (rowIs_c (lv := lvU32) (s := 1) (e := s150) (ver := 0) (z := false)) hx11 (by kernel_rfl)) ?_
  let o2 : Ob := .cells (rowC lvU32 (s150.set (Int.toNat s101) (IntKind.u32.wrap (IntKind.u64.wrap ((IntKind.u64.wrap (x6 - x8)) - s100))))) 1 0 false
  refine QZ (ask_shr (P := Tryz.prog) (M := [o2]) (t := 136) (k := .u64) (k2 := .u64) (a := (IntKind.u64.wrap ((IntKind.u64.wrap (x6 - x8)) - s100))) (b := (63 : Int)) (by decide)) ?_
  exact QG () h (ls_set hn100)
 refine QR (.exit 0) ?_
 obtain ⟨x12, hx13, h⟩ := h
 refine H_valF (g := 99) (pre := []) (post := []) (M := [.cells (rowC lvU32 s150) 1 0 false]) 0 ((List.replicate (Int.toNat (p0.length : Int)) (0 : Int)).length) 0 (.pd (.sl (x12.map elU32))) (by kernel_rfl) (own_pd okU32 (by decide) lgU32 (o := .cells (rowC lvU32 s150) 1 0 false) (by kernel_rfl) (rowIs_c (lv := lvU32) (s := 1) (e := s150) (ver := 0) (z := false)) (n := (List.replicate (Int.toNat (p0.length : Int)) (0 : Int)).length) hn100) (frz_c (b := 0) (l := rowC lvU32 s150) (s := 1) (ver := 0) (z := false) (by kernel_rfl)) (by kernel_rfl) (nat_trim_ok m _ hx13) (by kernel_rfl) (hasT 99 (by kernel_rfl)) ?_
 subst r; exact QE .ret
theorem nat_Mul_ok (m : Tp) (p0 : List Int) (p1 : List Int) {r : (List Int)} (h : nat_Mul p0 p1 r) : ASpec Tryz.prog (gtT m) 98 [.pd (.sl (p0.map elU32)), .pd (.sl (p1.map elU32))] (· = .pd (.sl (r.map elU32))) := by
 refine ASpec_tree Tryz.f98 mixedT (askG [9, 10, 11] false) (by kernel_rfl) ?_
 unfold nat_Mul at h
 refine QL [] 63 189 elU32 p0 ?_
 refine QL [] 63 189 elU32 p1 ?_
 obtain ⟨hx1, h⟩ := h
 refine QZ (ask_make (P := Tryz.prog) (M := []) (t := 63) (k := .i64) (lv := lvU32) (by_ := 4) (n := (IntKind.i64.wrap ((p0.length : Int) + (p1.length : Int)))) (z := (0 : Int)) okU32 ⟨189, .int .u32 0, by kernel_rfl, by kernel_rfl, rfl, by kernel_rfl, by decide, rfl⟩ hx1.1 hx1.2.1 hx1.2.2) ?_
 let o1 : Ob := .cells (rowC lvU32 (List.replicate (Int.toNat (IntKind.i64.wrap ((p0.length : Int) + (p1.length : Int)))) (0 : Int))) 1 0 false
 refine QL [o1] 63 189 elU32 p0 ?_
 refine QLP (F := nat_Mul_L1 p0 p1 r) (s0 := ((0 : Int), (List.replicate (Int.toNat (IntKind.i64.wrap ((p0.length : Int) + (p1.length : Int)))) (0 : Int)))) h () 67 1
  (fun (s100, s150) () => [(1, .pd (.sl (p1.map elU32))), (5, .own 0 ((List.replicate (Int.toNat (IntKind.i64.wrap ((p0.length : Int) + (p1.length : Int)))) (0 : Int)).length) 0), (17, .pd (.sl (p0.map elU32))), (18, .pd (.int .i64 (p0.length : Int))), (19, .pd (.int .i64 s100))])
  (fun (s100, s150) () => [.cells (rowC lvU32 s150) 1 0 false]) (fun (s100, s150) () => (List.replicate (Int.toNat (IntKind.i64.wrap ((p0.length : Int) + (p1.length : Int)))) (0 : Int)).length = s150.length) rfl [] mixedT (askG [9, 10, 11] false) ?_
 rintro X1 ⟨s100, s150⟩ ⟨⟩ hn100 h
 dsimp only [nat_Mul_L1] at h
 refine QB h (fun h => ?_) (fun h => ?_)
 ·obtain ⟨x4, hx5, h⟩ := h
  refine QI [.cells (rowC lvU32 s150) 1 0 false] 63 189 .i64 okU32 leU32 hx5 ?_
  refine QK 1 ?_
  refine QL [.cells (rowC lvU32 s150) 1 0 false] 63 189 elU32 p1 ?_
  refine QLP (F := nat_Mul_L2 p1 s100 X1 x4) (s0 := ((0 : Int), (0 : Int), s150)) h () 67 1
   (fun (s200, s201, s250) () => [(1, .pd (.sl (p1.map elU32))), (5, .own 0 ((List.replicate (Int.toNat (IntKind.i64.wrap ((p0.length : Int) + (p1.length : Int)))) (0 : Int)).length) 0), (6, .pd (.int .i64 s100)), (7, .pd (.int .u32 x4)), (8, .pd (.int .u64 s200)), (17, .pd (.sl (p0.map elU32))), (18, .pd (.int .i64 (p0.length : Int))), (19, .pd (.int .i64 s100)), (24, .pd (.sl (p1.map elU32))), (25, .pd (.int .i64 (p1.length : Int))), (26, .pd (.int .i64 s201))])
   (fun (s200, s201, s250) () => [.cells (rowC lvU32 s250) 1 0 false]) (fun (s200, s201, s250) () => (List.replicate (Int.toNat (IntKind.i64.wrap ((p0.length : Int) + (p1.length : Int)))) (0 : Int)).length = s250.length) hn100 [] mixedT (askG [9, 10, 11] false) ?_
  rintro X2 ⟨s200, s201, s250⟩ ⟨⟩ hn200 h
  dsimp only [nat_Mul_L2] at h
  refine QB h (fun h => ?_) (fun h => ?_)
  ·obtain ⟨x6, hx7, h⟩ := h
   refine QI [.cells (rowC lvU32 s250) 1 0 false] 63 189 .i64 okU32 leU32 hx7 ?_
   refine QK 1 ?_
   obtain ⟨x8, hx9, h⟩ := h
   refine QJc [.cells (rowC lvU32 s250) 1 0 false] 63 189 .i64 lvU32 1 0 s250 0 hn200 hx9 ?_
   refine QZ (ask_oload (P := Tryz.prog) (M := [.cells (rowC lvU32 s250) 1 0 false]) (t := 189) (lv := lvU32) (b := 0) (i := (IntKind.i64.wrap (s100 + s201))) okU32 (by kernel_rfl) (by kernel_rfl) (by kernel_rfl) (rowIs_c (lv := lvU32) (s := 1) (e := s250) (ver := 0) (z := false)) hx9 rfl) ?_
   obtain ⟨x10, hx11, h⟩ := h
   refine QJc [.cells (rowC lvU32 s250) 1 0 false] 63 189 .i64 lvU32 1 0 s250 0 hn200 hx11 ?_
   refine QZ (ask_ostore (P := Tryz.prog) (M := [.cells (rowC lvU32 s250) 1 0 false]) (t := 189) (lv := lvU32) (b := 0) (i := (IntKind.i64.wrap (s100 + s201))) (y := (IntKind.u32.wrap (IntKind.u64.wrap (s200 + (IntKind.u64.wrap ((IntKind.u64.wrap ((IntKind.u64.wrap x4) * (IntKind.u64.wrap x6))) + (IntKind.u64.wrap x8))))))) (X := .pd (.int .u32 (IntKind.u32.wrap (IntKind.u64.wrap (s200 + (IntKind.u64.wrap ((IntKind.u64.wrap ((IntKind.u64.wrap x4) * (IntKind.u64.wrap x6))) + (IntKind.u64.wrap x8)))))))) okU32 (by kernel_rfl) (by kernel_rfl) (rowIs_c (lv := lvU32) (s := 1) (e := s250) (ver := 0) (z := false)) hx11 (by kernel_rfl)) ?_
   let o2 : Ob := .cells (rowC lvU32 (s250.set (Int.toNat (IntKind.i64.wrap (s100 + s201))) (IntKind.u32.wrap (IntKind.u64.wrap (s200 + (IntKind.u64.wrap ((IntKind.u64.wrap ((IntKind.u64.wrap x4) * (IntKind.u64.wrap x6))) + (IntKind.u64.wrap x8)))))))) 1 0 false
   refine QZ (ask_shr (P := Tryz.prog) (M := [o2]) (t := 136) (k := .u64) (k2 := .u64) (a := (IntKind.u64.wrap (s200 + (IntKind.u64.wrap ((IntKind.u64.wrap ((IntKind.u64.wrap x4) * (IntKind.u64.wrap x6))) + (IntKind.u64.wrap x8)))))) (b := (32 : Int)) (by decide)) ?_
   exact QG () h (ls_set hn200)
  refine QR (.exit 2) ?_
  refine QL [.cells (rowC lvU32 s250) 1 0 false] 63 189 elU32 p1 ?_
  obtain ⟨x12, hx13, h⟩ := h
  refine QJc [.cells (rowC lvU32 s250) 1 0 false] 63 189 .i64 lvU32 1 0 s250 0 hn200 hx13 ?_
  refine QZ (ask_ostore (P := Tryz.prog) (M := [.cells (rowC lvU32 s250) 1 0 false]) (t := 189) (lv := lvU32) (b := 0) (i := (IntKind.i64.wrap (s100 + (p1.length : Int)))) (y := (IntKind.u32.wrap s200)) (X := .pd (.int .u32 (IntKind.u32.wrap s200))) okU32 (by kernel_rfl) (by kernel_rfl) (rowIs_c (lv := lvU32) (s := 1) (e := s250) (ver := 0) (z := false)) hx13 (by kernel_rfl)) ?_
  exact QG () h (ls_set hn200)
 refine QR (.exit 0) ?_
 obtain ⟨x14, hx15, h⟩ := h
 refine H_valF (g := 99) (pre := []) (post := []) (M := [.cells (rowC lvU32 s150) 1 0 false]) 0 ((List.replicate (Int.toNat (IntKind.i64.wrap ((p0.length : Int) + (p1.length : Int)))) (0 : Int)).length) 0 (.pd (.sl (x14.map elU32))) (by kernel_rfl) (own_pd okU32 (by decide) lgU32 (o := .cells (rowC lvU32 s150) 1 0 false) (by kernel_rfl) (rowIs_c (lv := lvU32) (s := 1) (e := s150) (ver := 0) (z := false)) (n := (List.replicate (Int.toNat (IntKind.i64.wrap ((p0.length : Int) + (p1.length : Int)))) (0 : Int)).length) hn100) (frz_c (b := 0) (l := rowC lvU32 s150) (s := 1) (ver := 0) (z := false) (by kernel_rfl)) (by kernel_rfl) (nat_trim_ok m _ hx15) (by kernel_rfl) (hasT 99 (by kernel_rfl)) ?_
 subst r; exact QE .ret
theorem nat_Bits_ok (m : Tp) (p0 : List Int) {r : Int} (h : nat_Bits p0 r) : ASpec Tryz.prog (gtT m) 100 [.pd (.sl (p0.map elU32))] (· = .pd (.int .i64 r)) := by
 refine ASpec_tree Tryz.f100 mixedT (askG [9, 10, 11] false) (by kernel_rfl) ?_
 unfold nat_Bits at h
 obtain ⟨x1, hx2, h⟩ := h
 refine QV (nat_trim_ok m _ hx2) ?_
 refine QL [] 63 189 elU32 x1 ?_
 refine QB h (fun h => ?_) (fun h => ?_)
 ·subst r; exact QE .ret
 ·refine QL [] 63 189 elU32 x1 ?_
  refine QL [] 63 189 elU32 x1 ?_
  obtain ⟨x3, hx4, h⟩ := h
  refine QI [] 63 189 .i64 okU32 leU32 hx4 ?_
  refine QK 1 ?_
  obtain ⟨x5, hx6, h⟩ := h
  refine QV (math_bits_Len32_ok m _ hx6) ?_
  subst r; exact QE .ret
theorem nat_Shift_ok (m : Tp) (p0 : List Int) (p1 : Int) {r : (List Int)} (h : nat_Shift p0 p1 r) : ASpec Tryz.prog (gtT m) 104 [.pd (.sl (p0.map elU32)), .pd (.int .i64 p1)] (· = .pd (.sl (r.map elU32))) := by
 refine ASpec_tree Tryz.f104 mixedT (askG [9, 10, 11] false) (by kernel_rfl) ?_
 unfold nat_Shift at h
 refine QB h (fun h => ?_) (fun h => ?_)
 ·obtain ⟨x1, hx2, h⟩ := h
  refine QV (nat_trim_ok m _ hx2) ?_
  subst r; exact QE .ret
 refine QB h (fun h => ?_) (fun h => ?_)
 ·obtain ⟨x3, hx4, h⟩ := h
  refine QV (nat_trim_ok m _ hx4) ?_
  subst r; exact QE .ret
 refine QL [] 63 189 elU32 p0 ?_
 refine QZ (ask_quoK (P := Tryz.prog) (M := []) (t := 3) (k := .i64) (a := p1) (b := (32 : Int)) (by decide)) ?_
 obtain ⟨hx5, h⟩ := h
 refine QZ (ask_make (P := Tryz.prog) (M := []) (t := 63) (k := .i64) (lv := lvU32) (by_ := 4) (n := (IntKind.i64.wrap ((IntKind.i64.wrap ((p0.length : Int) + (IntKind.i64.wrap (Int.tdiv p1 (32 : Int))))) + 1))) (z := (0 : Int)) okU32 ⟨189, .int .u32 0, by kernel_rfl, by kernel_rfl, rfl, by kernel_rfl, by decide, rfl⟩ hx5.1 hx5.2.1 hx5.2.2) ?_
 let o1 : Ob := .cells (rowC lvU32 (List.replicate (Int.toNat (IntKind.i64.wrap ((IntKind.i64.wrap ((p0.length : Int) + (IntKind.i64.wrap (Int.tdiv p1 (32 : Int))))) + 1))) (0 : Int))) 1 0 false
 refine QL [o1] 63 189 elU32 p0 ?_
 refine QLP (F := nat_Shift_L1 p0 p1 r) (s0 := ((0 : Int), (List.replicate (Int.toNat (IntKind.i64.wrap ((IntKind.i64.wrap ((p0.length : Int) + (IntKind.i64.wrap (Int.tdiv p1 (32 : Int))))) + 1))) (0 : Int)))) h () 63 1
  (fun (s100, s150) () => [(1, .pd (.int .i64 p1)), (5, .own 0 ((List.replicate (Int.toNat (IntKind.i64.wrap ((IntKind.i64.wrap ((p0.length : Int) + (IntKind.i64.wrap (Int.tdiv p1 (32 : Int))))) + 1))) (0 : Int)).length) 0), (24, .pd (.sl (p0.map elU32))), (25, .pd (.int .i64 (p0.length : Int))), (26, .pd (.int .i64 s100))])
  (fun (s100, s150) () => [.cells (rowC lvU32 s150) 1 0 false]) (fun (s100, s150) () => (List.replicate (Int.toNat (IntKind.i64.wrap ((IntKind.i64.wrap ((p0.length : Int) + (IntKind.i64.wrap (Int.tdiv p1 (32 : Int))))) + 1))) (0 : Int)).length = s150.length) rfl [] mixedT (askG [9, 10, 11] false) ?_
 rintro X1 ⟨s100, s150⟩ ⟨⟩ hn100 h
 dsimp only [nat_Shift_L1] at h
 refine QB h (fun h => ?_) (fun h => ?_)
 ·obtain ⟨x8, hx9, h⟩ := h
  refine QI [.cells (rowC lvU32 s150) 1 0 false] 63 189 .i64 okU32 leU32 hx9 ?_
  refine QK 1 ?_
  refine QZ (ask_remK (P := Tryz.prog) (M := [.cells (rowC lvU32 s150) 1 0 false]) (t := 3) (k := .i64) (a := p1) (b := (32 : Int)) (by decide)) ?_
  obtain ⟨hx10, h⟩ := h
  refine QZ (ask_shl (P := Tryz.prog) (M := [.cells (rowC lvU32 s150) 1 0 false]) (t := 136) (k := .u64) (k2 := .i64) (a := (IntKind.u64.wrap x8)) (b := (Int.tmod p1 (32 : Int))) hx10) ?_
  refine QZ (ask_quoK (P := Tryz.prog) (M := [.cells (rowC lvU32 s150) 1 0 false]) (t := 3) (k := .i64) (a := p1) (b := (32 : Int)) (by decide)) ?_
  obtain ⟨x11, hx12, h⟩ := h
  refine QJc [.cells (rowC lvU32 s150) 1 0 false] 63 189 .i64 lvU32 1 0 s150 0 hn100 hx12 ?_
  refine QZ (ask_oload (P := Tryz.prog) (M := [.cells (rowC lvU32 s150) 1 0 false]) (t := 189) (lv := lvU32) (b := 0) (i := (IntKind.i64.wrap (s100 + (IntKind.i64.wrap (Int.tdiv p1 (32 : Int)))))) okU32 (by kernel_rfl) (by kernel_rfl) (by kernel_rfl) (rowIs_c (lv := lvU32) (s := 1) (e := s150) (ver := 0) (z := false)) hx12 rfl) ?_
  obtain ⟨x13, hx14, h⟩ := h
  refine QJc [.cells (rowC lvU32 s150) 1 0 false] 63 189 .i64 lvU32 1 0 s150 0 hn100 hx14 ?_
  refine QZ (ask_ostore (P := Tryz.prog) (M := [.cells (rowC lvU32 s150) 1 0 false]) (t := 189) (lv := lvU32) (b := 0) (i := (IntKind.i64.wrap (s100 + (IntKind.i64.wrap (Int.tdiv p1 (32 : Int)))))) (y := (bitO .u32 x11 (IntKind.u32.wrap (IntKind.u64.wrap ((IntKind.u64.wrap x8) * 2 ^ (min (Int.toNat (Int.tmod p1 (32 : Int))) (IntKind.bits .u64))))))) (X := .pd (.int .u32 (bitO .u32 x11 (IntKind.u32.wrap (IntKind.u64.wrap ((IntKind.u64.wrap x8) * 2 ^ (min (Int.toNat (Int.tmod p1 (32 : Int))) (IntKind.bits .u64)))))))) okU32 (by kernel_rfl) (by kernel_rfl) (rowIs_c (lv := lvU32) (s := 1) (e := s150) (ver := 0) (z := false)) hx14 (by kernel_rfl)) ?_
  let o2 : Ob := .cells (rowC lvU32 (s150.set (Int.toNat (IntKind.i64.wrap (s100 + (IntKind.i64.wrap (Int.tdiv p1 (32 : Int)))))) (bitO .u32 x11 (IntKind.u32.wrap (IntKind.u64.wrap ((IntKind.u64.wrap x8) * 2 ^ (min (Int.toNat (Int.tmod p1 (32 : Int))) (IntKind.bits .u64)))))))) 1 0 false
  refine QZ (ask_quoK (P := Tryz.prog) (M := [o2]) (t := 3) (k := .i64) (a := p1) (b := (32 : Int)) (by decide)) ?_
  obtain ⟨x15, hx16, h⟩ := h
  refine QJc [o2] 63 189 .i64 lvU32 1 0 (s150.set (Int.toNat (IntKind.i64.wrap (s100 + (IntKind.i64.wrap (Int.tdiv p1 (32 : Int)))))) (bitO .u32 x11 (IntKind.u32.wrap (IntKind.u64.wrap ((IntKind.u64.wrap x8) * 2 ^ (min (Int.toNat (Int.tmod p1 (32 : Int))) (IntKind.bits .u64))))))) 0 (ls_set hn100) hx16 ?_
  refine QZ (ask_oload (P := Tryz.prog) (M := [o2]) (t := 189) (lv := lvU32) (b := 0) (i := (IntKind.i64.wrap ((IntKind.i64.wrap (s100 + (IntKind.i64.wrap (Int.tdiv p1 (32 : Int))))) + 1))) okU32 (by kernel_rfl) (by kernel_rfl) (by kernel_rfl) (rowIs_c (lv := lvU32) (s := 1) (e := (s150.set (Int.toNat (IntKind.i64.wrap (s100 + (IntKind.i64.wrap (Int.tdiv p1 (32 : Int)))))) (bitO .u32 x11 (IntKind.u32.wrap (IntKind.u64.wrap ((IntKind.u64.wrap x8) * 2 ^ (min (Int.toNat (Int.tmod p1 (32 : Int))) (IntKind.bits .u64)))))))) (ver := 0) (z := false)) hx16 rfl) ?_
  refine QZ (ask_shr (P := Tryz.prog) (M := [o2]) (t := 136) (k := .u64) (k2 := .u64) (a := (IntKind.u64.wrap ((IntKind.u64.wrap x8) * 2 ^ (min (Int.toNat (Int.tmod p1 (32 : Int))) (IntKind.bits .u64))))) (b := (32 : Int)) (by decide)) ?_
  obtain ⟨x17, hx18, h⟩ := h
  refine QJc [o2] 63 189 .i64 lvU32 1 0 (s150.set (Int.toNat (IntKind.i64.wrap (s100 + (IntKind.i64.wrap (Int.tdiv p1 (32 : Int)))))) (bitO .u32 x11 (IntKind.u32.wrap (IntKind.u64.wrap ((IntKind.u64.wrap x8) * 2 ^ (min (Int.toNat (Int.tmod p1 (32 : Int))) (IntKind.bits .u64))))))) 0 (ls_set hn100) hx18 ?_
  refine QZ (ask_ostore (P := Tryz.prog) (M := [o2]) (t := 189) (lv := lvU32) (b := 0) (i := (IntKind.i64.wrap ((IntKind.i64.wrap (s100 + (IntKind.i64.wrap (Int.tdiv p1 (32 : Int))))) + 1))) (y := (bitO .u32 x15 (IntKind.u32.wrap (Int.fdiv (IntKind.u64.wrap ((IntKind.u64.wrap x8) * 2 ^ (min (Int.toNat (Int.tmod p1 (32 : Int))) (IntKind.bits .u64)))) (2 ^ (min (Int.toNat (32 : Int)) (IntKind.bits .u64))))))) (X := .pd (.int .u32 (bitO .u32 x15 (IntKind.u32.wrap (Int.fdiv (IntKind.u64.wrap ((IntKind.u64.wrap x8) * 2 ^ (min (Int.toNat (Int.tmod p1 (32 : Int))) (IntKind.bits .u64)))) (2 ^ (min (Int.toNat (32 : Int)) (IntKind.bits .u64)))))))) okU32 (by kernel_rfl) (by kernel_rfl) (rowIs_c (lv := lvU32) (s := 1) (e := (s150.set (Int.toNat (IntKind.i64.wrap (s100 + (IntKind.i64.wrap (Int.tdiv p1 (32 : Int)))))) (bitO .u32 x11 (IntKind.u32.wrap (IntKind.u64.wrap ((IntKind.u64.wrap x8) * 2 ^ (min (Int.toNat (Int.tmod p1 (32 : Int))) (IntKind.bits .u64)))))))) (ver := 0) (z := false)) hx18 (by kernel_rfl)) ?_
  exact QG () h (ls_set (ls_set hn100))
 refine QR (.exit 0) ?_
 obtain ⟨x19, hx20, h⟩ := h
 refine H_valF (g := 99) (pre := []) (post := []) (M := [.cells (rowC lvU32 s150) 1 0 false]) 0 ((List.replicate (Int.toNat (IntKind.i64.wrap ((IntKind.i64.wrap ((p0.length : Int) + (IntKind.i64.wrap (Int.tdiv p1 (32 : Int))))) + 1))) (0 : Int)).length) 0 (.pd (.sl (x19.map elU32))) (by kernel_rfl) (own_pd okU32 (by decide) lgU32 (o := .cells (rowC lvU32 s150) 1 0 false) (by kernel_rfl) (rowIs_c (lv := lvU32) (s := 1) (e := s150) (ver := 0) (z := false)) (n := (List.replicate (Int.toNat (IntKind.i64.wrap ((IntKind.i64.wrap ((p0.length : Int) + (IntKind.i64.wrap (Int.tdiv p1 (32 : Int))))) + 1))) (0 : Int)).length) hn100) (frz_c (b := 0) (l := rowC lvU32 s150) (s := 1) (ver := 0) (z := false) (by kernel_rfl)) (by kernel_rfl) (nat_trim_ok m _ hx20) (by kernel_rfl) (hasT 99 (by kernel_rfl)) ?_
 subst r; exact QE .ret
theorem nat_digit_ok (m : Tp) (p0 : List Int) (p1 : List Int) {r : Int × (List Int)} (h : nat_digit p0 p1 r) : ASpec Tryz.prog (gtT m) 103 [.pd (.sl (p0.map elU32)), .pd (.sl (p1.map elU32))] (· = .tup [.pd (.int .u32 r.1), .pd (.sl (r.2.map elU32))]) := by
 refine ASpec_tree Tryz.f103 mixedT (askG [9, 10, 11] false) (by kernel_rfl) ?_
 unfold nat_digit at h
 refine QLP (F := nat_digit_L1 p1 r) (s0 := (p0, (0 : Int), (31 : Int))) h () 30 0
  (fun (s100, s101, s102) () => [(0, .pd (.sl (s100.map elU32))), (1, .pd (.sl (p1.map elU32))), (6, .pd (.int .u32 s101)), (7, .pd (.int .i64 s102))])
  (fun (s100, s101, s102) () => []) (fun (s100, s101, s102) () => True) trivial [] mixedT (askG [9, 10, 11] false) ?_
 rintro X1 ⟨s100, s101, s102⟩ ⟨⟩ - h
 dsimp only [nat_digit_L1] at h
 refine QB h (fun h => ?_) (fun h => ?_)
 ·obtain ⟨x1, hx2, h⟩ := h
  refine QV (nat_Shift_ok m _ _ hx2) ?_
  obtain ⟨x3, x4, hx5, h⟩ := h
  refine QV (nat_Sub_ok m _ _ hx5) ?_
  cases x4
  ·replace h := h.f rfl
   exact QG () h trivial
  ·replace h := h.t rfl
   obtain ⟨hx6, h⟩ := h
   refine QZ (ask_shl (P := Tryz.prog) (M := []) (t := 189) (k := .u32) (k2 := .i64) (a := (1 : Int)) (b := s102) hx6) ?_
   exact QG () h trivial
 ·refine QR (.exit 0) ?_
  subst r; exact QE .ret
theorem nat_DivMod_ok (m : Tp) (p0 : List Int) (p1 : List Int) {r : (List Int) × (List Int) × Int} (h : nat_DivMod p0 p1 r) : ASpec Tryz.prog (gtT m) 58 [.pd (.sl (p0.map elU32)), .pd (.sl (p1.map elU32))] (· = .tup [.pd (.sl (r.1.map elU32)), .pd (.sl (r.2.1.map elU32)), .pd (.int .i64 r.2.2)]) := by
 refine ASpec_tree Tryz.f58 mixedT (askO [9, 10, 11] false [63]) (by kernel_rfl) ?_
 unfold nat_DivMod at h
 refine QK 1 ?_
 refine QD ?_
 obtain ⟨x1, hx2, h⟩ := h
 refine QVd (nat_trim_ok m _ hx2) ?_
 refine QK 1 ?_
 obtain ⟨x3, hx4, h⟩ := h
 refine QVd (nat_trim_ok m _ hx4) ?_
 let o2 : Ob := .cells [.pd (.sl (x3.map elU32))] 1 0 false
 refine QK 2 ?_
 refine QL [o2] 63 189 elU32 x3 ?_
 refine QB h (fun h => ?_) (fun h => ?_)
 ·subst r; exact QE .ret
 refine QL [o2] 63 189 elU32 x1 ?_
 obtain ⟨hx5, h⟩ := h
 refine QZ (ask_make (P := Tryz.prog) (M := [o2]) (t := 63) (k := .i64) (lv := lvU32) (by_ := 4) (n := (x1.length : Int)) (z := (0 : Int)) okU32 ⟨189, .int .u32 0, by kernel_rfl, by kernel_rfl, rfl, by kernel_rfl, by decide, rfl⟩ hx5.1 hx5.2.1 hx5.2.2) ?_
 let o3 : Ob := .cells (rowC lvU32 (List.replicate (Int.toNat (x1.length : Int)) (0 : Int))) 1 0 false
 refine H_allocL (t := 63) (M0 := [o2, o3]) (M1 := [o2, o3]) (M2 := [o2, o3, .cells [.fixed (([] : List Int).map elU32)] 1 0 false]) [] [.fixed (([] : List Int).map elU32)] (by kernel_rfl) (VStep.refl _) (by kernel_rfl) (by kernel_rfl) ?_
 let o4 : Ob := .cells [.fixed (([] : List Int).map elU32)] 1 0 false
 refine QC [o2, o3, o4] 63 2 0 0 1 1 [.own 1 ((List.replicate (Int.toNat (x1.length : Int)) (0 : Int)).length) 0] (.own 1 ((List.replicate (Int.toNat (x1.length : Int)) (0 : Int)).length) 0) (all_c (ok_own (o := o3) (by kernel_rfl) (rowIs_c (lv := lvU32) (s := 1) (e := (List.replicate (Int.toNat (x1.length : Int)) (0 : Int))) (ver := 0) (z := false))) all_n) ?_
 let o5 : Ob := .cells [.own 1 ((List.replicate (Int.toNat (x1.length : Int)) (0 : Int)).length) 0] 1 0 false
 refine H_allocL (t := 63) (M0 := [o2, o3, o5]) (M1 := [o2, o3, o5]) (M2 := [o2, o3, o5, .cells [.pd (.sl (([] : List Int).map elU32))] 1 0 false]) [(0, none)] [.pd (.sl (([] : List Int).map elU32))] (by kernel_rfl) (VStep.refl _) (by kernel_rfl) (by kernel_rfl) ?_
 let o6 : Ob := .cells [.pd (.sl (([] : List Int).map elU32))] 1 0 false
 refine QIN (g := 101) (args := [.pd (.sl (x1.map elU32))]) (M := [o2, o3, o5, o6]) Tryz.f101 mixedT (askO [9, 10, 11] false [63]) (hasT 101 (by kernel_rfl)) ?_
 let o7 : Ob := .cells [.pd (.sl (x1.map elU32))] 1 0 false
 refine QK 1 ?_
 refine QEM .ret (.fn (.func 155) [] [.ptr 4 0 0]) ([o2, o3, o5, o6, o7]) ?_
 refine H_gen fun w1 hw1 => ?_
 let o8 : Ob := .loop .ready none w1.stS.T w1.rps w1.rasg w1.rbo 5
 let m9 : Mem := [o2, o3, o5, o6, o7, .defers false, o8]
 refine H_range (gf := 155) (l1 := []) (l2 := [.ptr 4 0 0]) (m9) 6 (by subst hw1; kernel_rfl) (by subst hw1; kernel_rfl) (hasT 155 (by kernel_rfl)) (by subst hw1; kernel_rfl) (by subst hw1; kernel_rfl) ?_
 refine ACall_tree Tryz.f155 mixedT (askO [9, 10, 11] false [63]) (by kernel_rfl) ?_
 refine H_askK (.pd (.sl (x1.map elU32))) (m9) (by subst hw1; kernel_rfl) ?_
 refine H_ask _ _ (by subst hw1; kernel_rfl) (ask_len (P := Tryz.prog) (M := m9) (t := 63) (et := 189) (el := elU32) (by kernel_rfl) (e := x1)) ?_
 refine H_loopP (F := nat_DivMod_L1 x1 x3 r) (s0 := ((IntKind.i64.wrap ((x1.length : Int) - 1)), ([] : List Int), (List.replicate (Int.toNat (x1.length : Int)) (0 : Int)))) h () 19 7
  (fun (s100, s101, s151) () => [(0, .yld 6), (1, .ptr 4 0 0), (3, .pd (.int .i64 s100))])
  (fun (s100, s101, s151) () => [o2, .cells (rowC lvU32 s151) 1 0 false, o5, .cells [.pd (.sl (s101.map elU32))] 1 0 false, o7, .defers false, o8]) (fun (s100, s101, s151) () => (List.replicate (Int.toNat (x1.length : Int)) (0 : Int)).length = s151.length) rfl [] mixedT (askO [9, 10, 11] false [63])
  (by subst hw1; kernel_rfl) (by subst hw1; kernel_rfl) (by subst hw1; kernel_rfl) (by subst hw1; kernel_rfl) (by subst hw1; kernel_rfl) (fun _ _ => rfl) ?_
 rintro X1 ⟨s100, s101, s151⟩ ⟨⟩ hn101 h
 dsimp only [nat_DivMod_L1] at h
 refine H_split (decide (s100 ≥ (0 : Int))) (by subst hw1; kernel_rfl) (fun hc => ?_) (fun hc => ?_)
 ·replace h := h.t hc; clear hc
  let o10 : Ob := .cells (rowC lvU32 s151) 1 0 false
  let o11 : Ob := .cells [.pd (.sl (s101.map elU32))] 1 0 false
  let m12 : Mem := [o2, o10, o5, o11, o7, .defers false, o8]
  refine H_askK (.pd (.sl (x1.map elU32))) (m12) (by subst hw1; kernel_rfl) ?_
  obtain ⟨x8, hx9, h⟩ := h
  refine H_ask _ _ (by subst hw1; kernel_rfl) (ask_idx (P := Tryz.prog) (M := m12) (t := 63) (et := 189) (k := .i64) (lv := lvU32) okU32 leU32 (by kernel_rfl) (by kernel_rfl) hx9) ?_
  refine H_askK (.pd (.int .u32 x8)) (m12) (by subst hw1; kernel_rfl) ?_
  refine H_yld (l := 6) (args := [.pd (.int .i64 s100), .pd (.int .u32 x8)]) (M := m12) (by subst hw1; kernel_rfl) ?_
  refine H_round mixedT (askO [9, 10, 11] false [63]) (by subst hw1; kernel_rfl) ?_
  let o13 : Ob := .loop .busy none w1.stS.T w1.rps w1.rasg w1.rbo 5
  let m14 : Mem := [o2, o10, o5, o11, o7, .defers false, o13]
  refine H_bldS0 (t := 63) (n := 1) (parts := [(0, .pd (.int .u32 x8))]) (M0 := m14) (.fixed ([x8].map elU32)) (by subst hw1; kernel_rfl) (by subst hw1; kernel_rfl) ?_
  refine H_askK (.pd (.sl (s101.map elU32))) (m14) (by subst hw1; kernel_rfl) ?_
  cases hx10 : (s101).isEmpty
  ·replace h := h.f hx10
   obtain ⟨hx41, h⟩ := h
   refine H_ask _ _ (by subst hw1; kernel_rfl) (ask_appF (P := Tryz.prog) (M := m14) (lv := lvU32) (s := 1) (e := [x8]) (e2 := s101) (sT := 63) (xT := 63) (by_ := 4) okU32 leU32 (by kernel_rfl) (src_pd (M := m14) okU32 leU32) (ne_of_isEmpty hx10) hx41) ?_
   obtain ⟨x42, hx43, h⟩ := h
   let o15 : Ob := .cells (rowC lvU32 ([x8] ++ s101)) 1 0 false
   let m16 : Mem := [o2, o10, o5, o11, o7, .defers false, o13, o15]
   refine H_valF (g := 99) (pre := []) (post := []) (M := m16) 7 (([x8] ++ s101).length) 0 (.pd (.sl (x42.map elU32))) (by subst hw1; kernel_rfl) (own_pd okU32 (by decide) lgU32 (o := o15) (by subst hw1; kernel_rfl) (rowIs_c (lv := lvU32) (s := 1) (e := ([x8] ++ s101)) (ver := 0) (z := false)) (n := ([x8] ++ s101).length) rfl) (frz_c (b := 7) (l := rowC lvU32 ([x8] ++ s101)) (s := 1) (ver := 0) (z := false) (by subst hw1; kernel_rfl)) (by subst hw1; kernel_rfl) (nat_trim_ok m _ hx43) (by kernel_rfl) (hasT 99 (by kernel_rfl)) ?_
   let o17 : Ob := .cells [.pd (.sl (x42.map elU32))] 1 0 false
   let o18 : Ob := .cells (rowC lvU32 ([x8] ++ s101)) 1 0 true
   let m19 : Mem := [o2, o10, o5, o17, o7, .defers false, o13, o18]
   refine H_askK (.junk) (m19) (by subst hw1; kernel_rfl) ?_
   refine H_askK (.pd (.sl (x3.map elU32))) (m19) (by subst hw1; kernel_rfl) ?_
   refine H_ask _ _ (by subst hw1; kernel_rfl) (ask_len (P := Tryz.prog) (M := m19) (t := 63) (et := 189) (el := elU32) (by kernel_rfl) (e := x3)) ?_
   refine H_split ((x3.length : Int) == (1 : Int)) (by subst hw1; kernel_rfl) (fun hc => ?_) (fun hc => ?_)
   ·replace h := h.t hc; clear hc
    refine H_askK (.pd (.sl (x42.map elU32))) (m19) (by subst hw1; kernel_rfl) ?_
    obtain ⟨x44, x45, hx46, h⟩ := h
    refine H_valW (g := 102) (args := [.pd (.sl (x42.map elU32))]) (M := m19) (.tup [.pd (.int .u64 x44), .pd (.bool x45)]) (.inl (by subst hw1; kernel_rfl)) (by subst hw1; kernel_rfl) (nat_Small_ok m _ hx46) (by kernel_rfl) (hasT 102 (by kernel_rfl)) ?_
    cases x45
    ·replace h := h.f rfl
     refine H_draw (by subst hw1; kernel_rfl) ?_
     refine H_askK (.own 1 ((List.replicate (Int.toNat (x1.length : Int)) (0 : Int)).length) 0) (m19) (by subst hw1; kernel_rfl) ?_
     refine H_askK (.pd (.sl (x3.map elU32))) (m19) (by subst hw1; kernel_rfl) ?_
     obtain ⟨x57, hx58, h⟩ := h
     refine H_ask _ _ (by subst hw1; kernel_rfl) (ask_idx (P := Tryz.prog) (M := m19) (t := 63) (et := 189) (k := .i64) (lv := lvU32) okU32 leU32 (by kernel_rfl) (by kernel_rfl) hx58) ?_
     refine H_askK (.pd (.int .u32 x57)) (m19) (by subst hw1; kernel_rfl) ?_
     obtain ⟨hx59, h⟩ := h
     refine H_ask _ _ (by subst hw1; kernel_rfl) (ask_quoK (P := Tryz.prog) (M := m19) (t := 136) (k := .u64) (a := x44) (b := (IntKind.u64.wrap x57)) hx59) ?_
     obtain ⟨x60, hx61, h⟩ := h
     refine H_ask _ _ (by subst hw1; kernel_rfl) (ask_oidx (P := Tryz.prog) (M := m19) (t := 63) (et := 189) (k := .i64) (lv := lvU32) (e := s151) (s := 1) (b := 1) (by kernel_rfl) (by kernel_rfl) (by subst hw1; kernel_rfl) (rowIs_c (lv := lvU32) (s := 1) (e := s151) (ver := 0) (z := false)) (n := (List.replicate (Int.toNat (x1.length : Int)) (0 : Int)).length) hn101 hx61) ?_
     refine H_ask _ _ (by subst hw1; kernel_rfl) (ask_ostore (P := Tryz.prog) (M := m19) (t := 189) (lv := lvU32) (b := 1) (i := s100) (y := (IntKind.u32.wrap (IntKind.u64.wrap (Int.tdiv x44 (IntKind.u64.wrap x57))))) (X := .pd (.int .u32 (IntKind.u32.wrap (IntKind.u64.wrap (Int.tdiv x44 (IntKind.u64.wrap x57)))))) okU32 (by kernel_rfl) (by subst hw1; kernel_rfl) (rowIs_c (lv := lvU32) (s := 1) (e := s151) (ver := 0) (z := false)) hx61 (by kernel_rfl)) ?_
     let o20 : Ob := .cells (rowC lvU32 (s151.set (Int.toNat s100) (IntKind.u32.wrap (IntKind.u64.wrap (Int.tdiv x44 (IntKind.u64.wrap x57)))))) 1 0 false
     let m21 : Mem := [o2, o20, o5, o17, o7, .defers false, o13, o18]
     refine H_askK (.pd (.sl (x3.map elU32))) (m21) (by subst hw1; kernel_rfl) ?_
     obtain ⟨x62, hx63, h⟩ := h
     refine H_ask _ _ (by subst hw1; kernel_rfl) (ask_idx (P := Tryz.prog) (M := m21) (t := 63) (et := 189) (k := .i64) (lv := lvU32) okU32 leU32 (by kernel_rfl) (by kernel_rfl) hx63) ?_
     refine H_askK (.pd (.int .u32 x62)) (m21) (by subst hw1; kernel_rfl) ?_
     obtain ⟨hx64, h⟩ := h
     refine H_ask _ _ (by subst hw1; kernel_rfl) (ask_remK (P := Tryz.prog) (M := m21) (t := 136) (k := .u64) (a := x44) (b := (IntKind.u64.wrap x62)) hx64) ?_
     obtain ⟨x65, hx66, h⟩ := h
     refine H_valW (g := 55) (args := [.pd (.int .u64 (Int.tmod x44 (IntKind.u64.wrap x62)))]) (M := m21) (.pd (.sl (x65.map elU32))) (.inl (by subst hw1; kernel_rfl)) (by subst hw1; kernel_rfl) (nat_Of_ok m _ hx66) (by kernel_rfl) (hasT 55 (by kernel_rfl)) ?_
     let o22 : Ob := .cells [.pd (.sl (x65.map elU32))] 1 0 false
     let m23 : Mem := [o2, o20, o5, o22, o7, .defers false, o13, o18]
     refine H_askK (.junk) (m23) (by subst hw1; kernel_rfl) ?_
     let m24 : Mem := [o2, o20, o5, o22, o7, .defers false, o8, o18]
     refine H_rnd .normal .ready none true (m24) (by subst hw1; kernel_rfl) rfl (by subst hw1; kernel_rfl) ?_
     exact H_againC (st := _) ((IntKind.i64.wrap (s100 - 1)), x65, (s151.set (Int.toNat s100) (IntKind.u32.wrap (IntKind.u64.wrap (Int.tdiv x44 (IntKind.u64.wrap x57)))))) () h (ls_set hn101) (by subst hw1; kernel_rfl) (by subst hw1; kernel_rfl) (by subst hw1; kernel_rfl) (by subst hw1; kernel_rfl) (by subst hw1; kernel_rfl) (by subst hw1; kernel_rfl) (all_c (by subst hw1; kernel_rfl) (all_c (bel_rowO _) (all_c (by subst hw1; kernel_rfl) (all_c (by subst hw1; kernel_rfl) (all_c (by subst hw1; kernel_rfl) (all_c (by subst hw1; kernel_rfl) (all_c (by subst hw1; kernel_rfl) all_n))))))) (by subst hw1; kernel_rfl) (by kernel_rfl)
    replace h := h.t rfl
    refine H_draw (by subst hw1; kernel_rfl) ?_
    refine H_askK (.own 1 ((List.replicate (Int.toNat (x1.length : Int)) (0 : Int)).length) 0) (m19) (by subst hw1; kernel_rfl) ?_
    refine H_askK (.pd (.sl (x3.map elU32))) (m19) (by subst hw1; kernel_rfl) ?_
    obtain ⟨x47, hx48, h⟩ := h
    refine H_ask _ _ (by subst hw1; kernel_rfl) (ask_idx (P := Tryz.prog) (M := m19) (t := 63) (et := 189) (k := .i64) (lv := lvU32) okU32 leU32 (by kernel_rfl) (by kernel_rfl) hx48) ?_
    refine H_askK (.pd (.int .u32 x47)) (m19) (by subst hw1; kernel_rfl) ?_
    obtain ⟨hx49, h⟩ := h
    refine H_ask _ _ (by subst hw1; kernel_rfl) (ask_quoK (P := Tryz.prog) (M := m19) (t := 136) (k := .u64) (a := x44) (b := (IntKind.u64.wrap x47)) hx49) ?_
    obtain ⟨x50, hx51, h⟩ := h
    refine H_ask _ _ (by subst hw1; kernel_rfl) (ask_oidx (P := Tryz.prog) (M := m19) (t := 63) (et := 189) (k := .i64) (lv := lvU32) (e := s151) (s := 1) (b := 1) (by kernel_rfl) (by kernel_rfl) (by subst hw1; kernel_rfl) (rowIs_c (lv := lvU32) (s := 1) (e := s151) (ver := 0) (z := false)) (n := (List.replicate (Int.toNat (x1.length : Int)) (0 : Int)).length) hn101 hx51) ?_
    refine H_ask _ _ (by subst hw1; kernel_rfl) (ask_ostore (P := Tryz.prog) (M := m19) (t := 189) (lv := lvU32) (b := 1) (i := s100) (y := (IntKind.u32.wrap (IntKind.u64.wrap (Int.tdiv x44 (IntKind.u64.wrap x47))))) (X := .pd (.int .u32 (IntKind.u32.wrap (IntKind.u64.wrap (Int.tdiv x44 (IntKind.u64.wrap x47)))))) okU32 (by kernel_rfl) (by subst hw1; kernel_rfl) (rowIs_c (lv := lvU32) (s := 1) (e := s151) (ver := 0) (z := false)) hx51 (by kernel_rfl)) ?_
    let o25 : Ob := .cells (rowC lvU32 (s151.set (Int.toNat s100) (IntKind.u32.wrap (IntKind.u64.wrap (Int.tdiv x44 (IntKind.u64.wrap x47)))))) 1 0 false
    let m26 : Mem := [o2, o25, o5, o17, o7, .defers false, o13, o18]
    refine H_askK (.pd (.sl (x3.map elU32))) (m26) (by subst hw1; kernel_rfl) ?_
    obtain ⟨x52, hx53, h⟩ := h
    refine H_ask _ _ (by subst hw1; kernel_rfl) (ask_idx (P := Tryz.prog) (M := m26) (t := 63) (et := 189) (k := .i64) (lv := lvU32) okU32 leU32 (by kernel_rfl) (by kernel_rfl) hx53) ?_
    refine H_askK (.pd (.int .u32 x52)) (m26) (by subst hw1; kernel_rfl) ?_
    obtain ⟨hx54, h⟩ := h
    refine H_ask _ _ (by subst hw1; kernel_rfl) (ask_remK (P := Tryz.prog) (M := m26) (t := 136) (k := .u64) (a := x44) (b := (IntKind.u64.wrap x52)) hx54) ?_
    obtain ⟨x55, hx56, h⟩ := h
    refine H_valW (g := 55) (args := [.pd (.int .u64 (Int.tmod x44 (IntKind.u64.wrap x52)))]) (M := m26) (.pd (.sl (x55.map elU32))) (.inl (by subst hw1; kernel_rfl)) (by subst hw1; kernel_rfl) (nat_Of_ok m _ hx56) (by kernel_rfl) (hasT 55 (by kernel_rfl)) ?_
    let o27 : Ob := .cells [.pd (.sl (x55.map elU32))] 1 0 false
    let m28 : Mem := [o2, o25, o5, o27, o7, .defers false, o13, o18]
    refine H_askK (.junk) (m28) (by subst hw1; kernel_rfl) ?_
    let m29 : Mem := [o2, o25, o5, o27, o7, .defers false, o8, o18]
    refine H_rnd .normal .ready none true (m29) (by subst hw1; kernel_rfl) rfl (by subst hw1; kernel_rfl) ?_
    exact H_againC (st := _) ((IntKind.i64.wrap (s100 - 1)), x55, (s151.set (Int.toNat s100) (IntKind.u32.wrap (IntKind.u64.wrap (Int.tdiv x44 (IntKind.u64.wrap x47)))))) () h (ls_set hn101) (by subst hw1; kernel_rfl) (by subst hw1; kernel_rfl) (by subst hw1; kernel_rfl) (by subst hw1; kernel_rfl) (by subst hw1; kernel_rfl) (by subst hw1; kernel_rfl) (all_c (by subst hw1; kernel_rfl) (all_c (bel_rowO _) (all_c (by subst hw1; kernel_rfl) (all_c (by subst hw1; kernel_rfl) (all_c (by subst hw1; kernel_rfl) (all_c (by subst hw1; kernel_rfl) (all_c (by subst hw1; kernel_rfl) all_n))))))) (by subst hw1; kernel_rfl) (by kernel_rfl)
   replace h := h.f hc; clear hc
   refine H_draw (by subst hw1; kernel_rfl) ?_
   refine H_askK (.own 1 ((List.replicate (Int.toNat (x1.length : Int)) (0 : Int)).length) 0) (m19) (by subst hw1; kernel_rfl) ?_
   refine H_askK (.pd (.sl (x42.map elU32))) (m19) (by subst hw1; kernel_rfl) ?_
   refine H_askK (.pd (.sl (x3.map elU32))) (m19) (by subst hw1; kernel_rfl) ?_
   obtain ⟨x67, x68, hx69, h⟩ := h
   refine H_valW (g := 103) (args := [.pd (.sl (x42.map elU32)), .pd (.sl (x3.map elU32))]) (M := m19) (.tup [.pd (.int .u32 x67), .pd (.sl (x68.map elU32))]) (.inr (by subst hw1; kernel_rfl)) (by subst hw1; kernel_rfl) (nat_digit_ok m _ _ hx69) (by kernel_rfl) (hasT 103 (by kernel_rfl)) ?_
   obtain ⟨x70, hx71, h⟩ := h
   refine H_ask _ _ (by subst hw1; kernel_rfl) (ask_oidx (P := Tryz.prog) (M := m19) (t := 63) (et := 189) (k := .i64) (lv := lvU32) (e := s151) (s := 1) (b := 1) (by kernel_rfl) (by kernel_rfl) (by subst hw1; kernel_rfl) (rowIs_c (lv := lvU32) (s := 1) (e := s151) (ver := 0) (z := false)) (n := (List.replicate (Int.toNat (x1.length : Int)) (0 : Int)).length) hn101 hx71) ?_
   refine H_ask _ _ (by subst hw1; kernel_rfl) (ask_ostore (P := Tryz.prog) (M := m19) (t := 189) (lv := lvU32) (b := 1) (i := s100) (y := x67) (X := .pd (.int .u32 x67)) okU32 (by kernel_rfl) (by subst hw1; kernel_rfl) (rowIs_c (lv := lvU32) (s := 1) (e := s151) (ver := 0) (z := false)) hx71 (by kernel_rfl)) ?_
   let o30 : Ob := .cells (rowC lvU32 (s151.set (Int.toNat s100) x67)) 1 0 false
   let o31 : Ob := .cells [.pd (.sl (x68.map elU32))] 1 0 false
   let m32 : Mem := [o2, o30, o5, o31, o7, .defers false, o13, o18]
   refine H_askK (.junk) (m32) (by subst hw1; kernel_rfl) ?_
   let m33 : Mem := [o2, o30, o5, o31, o7, .defers false, o8, o18]
   refine H_rnd .normal .ready none true (m33) (by subst hw1; kernel_rfl) rfl (by subst hw1; kernel_rfl) ?_
   exact H_againC (st := _) ((IntKind.i64.wrap (s100 - 1)), x68, (s151.set (Int.toNat s100) x67)) () h (ls_set hn101) (by subst hw1; kernel_rfl) (by subst hw1; kernel_rfl) (by subst hw1; kernel_rfl) (by subst hw1; kernel_rfl) (by subst hw1; kernel_rfl) (by subst hw1; kernel_rfl) (all_c (by subst hw1; kernel_rfl) (all_c (bel_rowO _) (all_c (by subst hw1; kernel_rfl) (all_c (by subst hw1; kernel_rfl) (all_c (by subst hw1; kernel_rfl) (all_c (by subst hw1; kernel_rfl) (all_c (by subst hw1; kernel_rfl) all_n))))))) (by subst hw1; kernel_rfl) (by kernel_rfl)
  replace h := h.t hx10
  refine H_ask _ _ (by subst hw1; kernel_rfl) (ask_app0 (P := Tryz.prog) (M := m14) (lv := lvU32) (s := 1) (e := [x8]) (e2 := s101) (sT := 63) (xT := 63) (by_ := 4) okU32 leU32 (by kernel_rfl) (src_pd (M := m14) okU32 leU32) hx10) ?_
  obtain ⟨x11, hx12, h⟩ := h
  refine H_valW (g := 99) (args := [.fixed ([x8].map elU32)]) (M := m14) (.pd (.sl (x11.map elU32))) (.inl (by subst hw1; kernel_rfl)) (by subst hw1; kernel_rfl) (nat_trim_ok m _ hx12) (by kernel_rfl) (hasT 99 (by kernel_rfl)) ?_
  let o34 : Ob := .cells [.pd (.sl (x11.map elU32))] 1 0 false
  let m35 : Mem := [o2, o10, o5, o34, o7, .defers false, o13]
  refine H_askK (.junk) (m35) (by subst hw1; kernel_rfl) ?_
  refine H_askK (.pd (.sl (x3.map elU32))) (m35) (by subst hw1; kernel_rfl) ?_
  refine H_ask _ _ (by subst hw1; kernel_rfl) (ask_len (P := Tryz.prog) (M := m35) (t := 63) (et := 189) (el := elU32) (by kernel_rfl) (e := x3)) ?_
  refine H_split ((x3.length : Int) == (1 : Int)) (by subst hw1; kernel_rfl) (fun hc => ?_) (fun hc => ?_)
  ·replace h := h.t hc; clear hc
   refine H_askK (.pd (.sl (x11.map elU32))) (m35) (by subst hw1; kernel_rfl) ?_
   obtain ⟨x13, x14, hx15, h⟩ := h
   refine H_valW (g := 102) (args := [.pd (.sl (x11.map elU32))]) (M := m35) (.tup [.pd (.int .u64 x13), .pd (.bool x14)]) (.inl (by subst hw1; kernel_rfl)) (by subst hw1; kernel_rfl) (nat_Small_ok m _ hx15) (by kernel_rfl) (hasT 102 (by kernel_rfl)) ?_
   cases x14
   ·replace h := h.f rfl
    refine H_draw (by subst hw1; kernel_rfl) ?_
    refine H_askK (.own 1 ((List.replicate (Int.toNat (x1.length : Int)) (0 : Int)).length) 0) (m35) (by subst hw1; kernel_rfl) ?_
    refine H_askK (.pd (.sl (x3.map elU32))) (m35) (by subst hw1; kernel_rfl) ?_
    obtain ⟨x26, hx27, h⟩ := h
    refine H_ask _ _ (by subst hw1; kernel_rfl) (ask_idx (P := Tryz.prog) (M := m35) (t := 63) (et := 189) (k := .i64) (lv := lvU32) okU32 leU32 (by kernel_rfl) (by kernel_rfl) hx27) ?_
    refine H_askK (.pd (.int .u32 x26)) (m35) (by subst hw1; kernel_rfl) ?_
    obtain ⟨hx28, h⟩ := h
    refine H_ask _ _ (by subst hw1; kernel_rfl) (ask_quoK (P := Tryz.prog) (M := m35) (t := 136) (k := .u64) (a := x13) (b := (IntKind.u64.wrap x26)) hx28) ?_
    obtain ⟨x29, hx30, h⟩ := h
    refine H_ask _ _ (by subst hw1; kernel_rfl) (ask_oidx (P := Tryz.prog) (M := m35) (t := 63) (et := 189) (k := .i64) (lv := lvU32) (e := s151) (s := 1) (b := 1) (by kernel_rfl) (by kernel_rfl) (by subst hw1; kernel_rfl) (rowIs_c (lv := lvU32) (s := 1) (e := s151) (ver := 0) (z := false)) (n := (List.replicate (Int.toNat (x1.length : Int)) (0 : Int)).length) hn101 hx30) ?_
    refine H_ask _ _ (by subst hw1; kernel_rfl) (ask_ostore (P := Tryz.prog) (M := m35) (t := 189) (lv := lvU32) (b := 1) (i := s100) (y := (IntKind.u32.wrap (IntKind.u64.wrap (Int.tdiv x13 (IntKind.u64.wrap x26))))) (X := .pd (.int .u32 (IntKind.u32.wrap (IntKind.u64.wrap (Int.tdiv x13 (IntKind.u64.wrap x26)))))) okU32 (by kernel_rfl) (by subst hw1; kernel_rfl) (rowIs_c (lv := lvU32) (s := 1) (e := s151) (ver := 0) (z := false)) hx30 (by kernel_rfl)) ?_
    let o36 : Ob := .cells (rowC lvU32 (s151.set (Int.toNat s100) (IntKind.u32.wrap (IntKind.u64.wrap (Int.tdiv x13 (IntKind.u64.wrap x26)))))) 1 0 false
    let m37 : Mem := [o2, o36, o5, o34, o7, .defers false, o13]
    refine H_askK (.pd (.sl (x3.map elU32))) (m37) (by subst hw1; kernel_rfl) ?_
    obtain ⟨x31, hx32, h⟩ := h
    refine H_ask _ _ (by subst hw1; kernel_rfl) (ask_idx (P := Tryz.prog) (M := m37) (t := 63) (et := 189) (k := .i64) (lv := lvU32) okU32 leU32 (by kernel_rfl) (by kernel_rfl) hx32) ?_
    refine H_askK (.pd (.int .u32 x31)) (m37) (by subst hw1; kernel_rfl) ?_
    obtain ⟨hx33, h⟩ := h
    refine H_ask _ _ (by subst hw1; kernel_rfl) (ask_remK (P := Tryz.prog) (M := m37) (t := 136) (k := .u64) (a := x13) (b := (IntKind.u64.wrap x31)) hx33) ?_
    obtain ⟨x34, hx35, h⟩ := h
    refine H_valW (g := 55) (args := [.pd (.int .u64 (Int.tmod x13 (IntKind.u64.wrap x31)))]) (M := m37) (.pd (.sl (x34.map elU32))) (.inl (by subst hw1; kernel_rfl)) (by subst hw1; kernel_rfl) (nat_Of_ok m _ hx35) (by kernel_rfl) (hasT 55 (by kernel_rfl)) ?_
    let o38 : Ob := .cells [.pd (.sl (x34.map elU32))] 1 0 false
    let m39 : Mem := [o2, o36, o5, o38, o7, .defers false, o13]
    refine H_askK (.junk) (m39) (by subst hw1; kernel_rfl) ?_
    let m40 : Mem := [o2, o36, o5, o38, o7, .defers false, o8]
    refine H_rnd .normal .ready none true (m40) (by subst hw1; kernel_rfl) rfl (by subst hw1; kernel_rfl) ?_
    exact H_againP (st := _) ((IntKind.i64.wrap (s100 - 1)), x34, (s151.set (Int.toNat s100) (IntKind.u32.wrap (IntKind.u64.wrap (Int.tdiv x13 (IntKind.u64.wrap x26)))))) () h (ls_set hn101) (by subst hw1; kernel_rfl) (by subst hw1; kernel_rfl) (by subst hw1; kernel_rfl) (by subst hw1; kernel_rfl) (by subst hw1; kernel_rfl)
   replace h := h.t rfl
   refine H_draw (by subst hw1; kernel_rfl) ?_
   refine H_askK (.own 1 ((List.replicate (Int.toNat (x1.length : Int)) (0 : Int)).length) 0) (m35) (by subst hw1; kernel_rfl) ?_
   refine H_askK (.pd (.sl (x3.map elU32))) (m35) (by subst hw1; kernel_rfl) ?_
   obtain ⟨x16, hx17, h⟩ := h
   refine H_ask _ _ (by subst hw1; kernel_rfl) (ask_idx (P := Tryz.prog) (M := m35) (t := 63) (et := 189) (k := .i64) (lv := lvU32) okU32 leU32 (by kernel_rfl) (by kernel_rfl) hx17) ?_
   refine H_askK (.pd (.int .u32 x16)) (m35) (by subst hw1; kernel_rfl) ?_
   obtain ⟨hx18, h⟩ := h
   refine H_ask _ _ (by subst hw1; kernel_rfl) (ask_quoK (P := Tryz.prog) (M := m35) (t := 136) (k := .u64) (a := x13) (b := (IntKind.u64.wrap x16)) hx18) ?_
   obtain ⟨x19, hx20, h⟩ := h
   refine H_ask _ _ (by subst hw1; kernel_rfl) (ask_oidx (P := Tryz.prog) (M := m35) (t := 63) (et := 189) (k := .i64) (lv := lvU32) (e := s151) (s := 1) (b := 1) (by kernel_rfl) (by kernel_rfl) (by subst hw1; kernel_rfl) (rowIs_c (lv := lvU32) (s := 1) (e := s151) (ver := 0) (z := false)) (n := (List.replicate (Int.toNat (x1.length : Int)) (0 : Int)).length) hn101 hx20) ?_
   refine H_ask _ _ (by subst hw1; kernel_rfl) (ask_ostore (P := Tryz.prog) (M := m35) (t := 189) (lv := lvU32) (b := 1) (i := s100) (y := (IntKind.u32.wrap (IntKind.u64.wrap (Int.tdiv x13 (IntKind.u64.wrap x16))))) (X := .pd (.int .u32 (IntKind.u32.wrap (IntKind.u64.wrap (Int.tdiv x13 (IntKind.u64.wrap x16)))))) okU32 (by kernel_rfl) (by subst hw1; kernel_rfl) (rowIs_c (lv := lvU32) (s := 1) (e := s151) (ver := 0) (z := false)) hx20 (by kernel_rfl)) ?_
   let o41 : Ob := .cells (rowC lvU32 (s151.set (Int.toNat s100) (IntKind.u32.wrap (IntKind.u64.wrap (Int.tdiv x13 (IntKind.u64.wrap x16)))))) 1 0 false
   let m42 : Mem := [o2, o41, o5, o34, o7, .defers false, o13]
   refine H_askK (.pd (.sl (x3.map elU32))) (m42) (by subst hw1; kernel_rfl) ?_
   obtain ⟨x21, hx22, h⟩ := h
   refine H_ask _ _ (by subst hw1; kernel_rfl) (ask_idx (P := Tryz.prog) (M := m42) (t := 63) (et := 189) (k := .i64) (lv := lvU32) okU32 leU32 (by kernel_rfl) (by kernel_rfl) hx22) ?_
   refine H_askK (.pd (.int .u32 x21)) (m42) (by subst hw1; kernel_rfl) ?_
   obtain ⟨hx23, h⟩ := h
   refine H_ask _ _ (by subst hw1; kernel_rfl) (ask_remK (P := Tryz.prog) (M := m42) (t := 136) (k := .u64) (a := x13) (b := (IntKind.u64.wrap x21)) hx23) ?_
   obtain ⟨x24, hx25, h⟩ := h
   refine H_valW (g := 55) (args := [.pd (.int .u64 (Int.tmod x13 (IntKind.u64.wrap x21)))]) (M := m42) (.pd (.sl (x24.map elU32))) (.inl (by subst hw1; kernel_rfl)) (by subst hw1; kernel_rfl) (nat_Of_ok m _ hx25) (by kernel_rfl) (hasT 55 (by kernel_rfl)) ?_
   let o43 : Ob := .cells [.pd (.sl (x24.map elU32))] 1 0 false
   let m44 : Mem := [o2, o41, o5, o43, o7, .defers false, o13]
   refine H_askK (.junk) (m44) (by subst hw1; kernel_rfl) ?_
   let m45 : Mem := [o2, o41, o5, o43, o7, .defers false, o8]
   refine H_rnd .normal .ready none true (m45) (by subst hw1; kernel_rfl) rfl (by subst hw1; kernel_rfl) ?_
   exact H_againP (st := _) ((IntKind.i64.wrap (s100 - 1)), x24, (s151.set (Int.toNat s100) (IntKind.u32.wrap (IntKind.u64.wrap (Int.tdiv x13 (IntKind.u64.wrap x16)))))) () h (ls_set hn101) (by subst hw1; kernel_rfl) (by subst hw1; kernel_rfl) (by subst hw1; kernel_rfl) (by subst hw1; kernel_rfl) (by subst hw1; kernel_rfl)
  replace h := h.f hc; clear hc
  refine H_draw (by subst hw1; kernel_rfl) ?_
  refine H_askK (.own 1 ((List.replicate (Int.toNat (x1.length : Int)) (0 : Int)).length) 0) (m35) (by subst hw1; kernel_rfl) ?_
  refine H_askK (.pd (.sl (x11.map elU32))) (m35) (by subst hw1; kernel_rfl) ?_
  refine H_askK (.pd (.sl (x3.map elU32))) (m35) (by subst hw1; kernel_rfl) ?_
  obtain ⟨x36, x37, hx38, h⟩ := h
  refine H_valW (g := 103) (args := [.pd (.sl (x11.map elU32)), .pd (.sl (x3.map elU32))]) (M := m35) (.tup [.pd (.int .u32 x36), .pd (.sl (x37.map elU32))]) (.inr (by subst hw1; kernel_rfl)) (by subst hw1; kernel_rfl) (nat_digit_ok m _ _ hx38) (by kernel_rfl) (hasT 103 (by kernel_rfl)) ?_
  obtain ⟨x39, hx40, h⟩ := h
  refine H_ask _ _ (by subst hw1; kernel_rfl) (ask_oidx (P := Tryz.prog) (M := m35) (t := 63) (et := 189) (k := .i64) (lv := lvU32) (e := s151) (s := 1) (b := 1) (by kernel_rfl) (by kernel_rfl) (by subst hw1; kernel_rfl) (rowIs_c (lv := lvU32) (s := 1) (e := s151) (ver := 0) (z := false)) (n := (List.replicate (Int.toNat (x1.length : Int)) (0 : Int)).length) hn101 hx40) ?_
  refine H_ask _ _ (by subst hw1; kernel_rfl) (ask_ostore (P := Tryz.prog) (M := m35) (t := 189) (lv := lvU32) (b := 1) (i := s100) (y := x36) (X := .pd (.int .u32 x36)) okU32 (by kernel_rfl) (by subst hw1; kernel_rfl) (rowIs_c (lv := lvU32) (s := 1) (e := s151) (ver := 0) (z := false)) hx40 (by kernel_rfl)) ?_
  let o46 : Ob := .cells (rowC lvU32 (s151.set (Int.toNat s100) x36)) 1 0 false
  let o47 : Ob := .cells [.pd (.sl (x37.map elU32))] 1 0 false
  let m48 : Mem := [o2, o46, o5, o47, o7, .defers false, o13]
  refine H_askK (.junk) (m48) (by subst hw1; kernel_rfl) ?_
  let m49 : Mem := [o2, o46, o5, o47, o7, .defers false, o8]
  refine H_rnd .normal .ready none true (m49) (by subst hw1; kernel_rfl) rfl (by subst hw1; kernel_rfl) ?_
  exact H_againP (st := _) ((IntKind.i64.wrap (s100 - 1)), x37, (s151.set (Int.toNat s100) x36)) () h (ls_set hn101) (by subst hw1; kernel_rfl) (by subst hw1; kernel_rfl) (by subst hw1; kernel_rfl) (by subst hw1; kernel_rfl) (by subst hw1; kernel_rfl)
 replace h := h.f hc; clear hc
 refine H_leaveP (.exit 0) (by subst hw1; kernel_rfl) rfl ?_
 let o50 : Ob := .cells (rowC lvU32 s151) 1 0 false
 let o51 : Ob := .cells [.pd (.sl (s101.map elU32))] 1 0 false
 let m52 : Mem := [o2, o50, o5, o51, o7, .defers false, o8]
 refine H_endM .normal (.tup []) (m52) (by subst hw1; kernel_rfl) rfl (by subst hw1; kernel_rfl) (by subst hw1; kernel_rfl) (by subst hw1; kernel_rfl) ?_
 let o53 : Ob := .loop .exhausted none w1.stS.T w1.rps w1.rasg w1.rbo 5
 let m54 : Mem := [o2, o50, o5, o51, o7, .defers false, o53]
 refine aft_done (st := .ready) (M' := m54) (by subst hw1; kernel_rfl) (by simp) (by subst hw1; kernel_rfl) ?_
 let o55 : Ob := .cells (rowC lvU32 s151) 1 0 true
 let m56 : Mem := [o2, o55, o5, o51, o7, .defers false, o53]
 refine H_drawG [] (m56) (m54) (by subst hw1; kernel_rfl) (by subst hw1; kernel_rfl) (GStep.to (GStep.frz [o2, o50, o5, o51, o7, .defers false, o53] 1) (frz_c (b := 1) (l := rowC lvU32 s151) (s := 1) (ver := 0) (z := false) (by subst hw1; kernel_rfl))) ?_
 refine H_askK (.own 1 ((List.replicate (Int.toNat (x1.length : Int)) (0 : Int)).length) 0) (m56) (by subst hw1; kernel_rfl) ?_
 obtain ⟨x72, hx73, h⟩ := h
 refine H_dvalX (g := 99) (pre := []) (post := []) (M := m56) 1 ((List.replicate (Int.toNat (x1.length : Int)) (0 : Int)).length) 0 (.pd (.sl (x72.map elU32))) (by subst hw1; kernel_rfl) (own_pd okU32 (by decide) lgU32 (o := o55) (by subst hw1; kernel_rfl) (rowIs_c (lv := lvU32) (s := 1) (e := s151) (ver := 0) (z := true)) (n := (List.replicate (Int.toNat (x1.length : Int)) (0 : Int)).length) hn101) (frz_c (b := 1) (l := rowC lvU32 s151) (s := 1) (ver := 0) (z := true) (by subst hw1; kernel_rfl)) (by subst hw1; kernel_rfl) (by subst hw1; kernel_rfl) (nat_trim_ok m _ hx73) (by kernel_rfl) (hasT 99 (by kernel_rfl)) ?_
 refine H_askK (.pd (.sl (s101.map elU32))) (m56) (by subst hw1; kernel_rfl) ?_
 exact H_end .ret (.tup [.pd (.sl (x72.map elU32)), .pd (.sl (s101.map elU32)), .pd (.int .i64 0)]) (by subst hw1; kernel_rfl) rfl (by subst hw1; kernel_rfl) (by subst h; rfl)
theorem nat_Gcd_ok (m : Tp) (p0 : List Int) (p1 : List Int) {r : (List Int)} (h : nat_Gcd p0 p1 r) : ASpec Tryz.prog (gtT m) 57 [.pd (.sl (p0.map elU32)), .pd (.sl (p1.map elU32))] (· = .pd (.sl (r.map elU32))) := by
 refine ASpec_tree Tryz.f57 mixedT (askG [9, 10, 11] false) (by kernel_rfl) ?_
 unfold nat_Gcd at h
 obtain ⟨x1, hx2, h⟩ := h
 refine QV (nat_trim_ok m _ hx2) ?_
 obtain ⟨x3, hx4, h⟩ := h
 refine QV (nat_trim_ok m _ hx4) ?_
 refine QLP (F := nat_Gcd_L1 r) (s0 := (x1, x3)) h () 25 0
  (fun (s100, s101) () => [(0, .pd (.sl (s100.map elU32))), (1, .pd (.sl (s101.map elU32)))])
  (fun (s100, s101) () => []) (fun (s100, s101) () => True) trivial [] mixedT (askG [9, 10, 11] false) ?_
 rintro X1 ⟨s100, s101⟩ ⟨⟩ - h
 dsimp only [nat_Gcd_L1] at h
 refine QL [] 63 189 elU32 s101 ?_
 refine QB h (fun h => ?_) (fun h => ?_)
 ·obtain ⟨x5, x6, x7, hx8, h⟩ := h
  refine QV (nat_DivMod_ok m _ _ hx8) ?_
  exact QG () h trivial
 ·refine QR (.exit 0) ?_
  subst r; exact QE .ret
theorem nat_Parse_1_ok (m : Tp) (p0 : Int) {r : Bool} (h : nat_Parse_1 p0 r) : ASpec Tryz.prog (gtT m) 203 [.pd (.int .u8 p0)] (· = .pd (.bool r)) := by
 refine ASpec_tree Tryz.f203 mixedT (askG [9, 10, 11] false) (by kernel_rfl) ?_
 unfold nat_Parse_1 at h
 refine QB h (fun h => ?_) (fun h => ?_)
 ·refine QB h (fun h => ?_) (fun h => ?_)
  ·subst r; exact QE .ret
  ·subst r; exact QE .ret
 ·subst r; exact QE .ret
theorem nat_Parse_ok (m : Tp) (p0 : List UInt8) {r : (List Int) × Int} (h : nat_Parse p0 r) : ASpec Tryz.prog (gtT m) 151 [.pd (.str p0)] (· = .tup [.pd (.sl (r.1.map elU32)), .pd (.int .i64 r.2)]) := by
 refine ASpec_tree Tryz.f151 mixedT (askG [9, 10, 11] false) (by kernel_rfl) ?_
 unfold nat_Parse at h
 refine QK 1 ?_
 refine QLP (F := nat_Parse_L1 p0 r) (s0 := (([] : List Int), (0 : Int))) h () 39 0
  (fun (s100, s101) () => [(0, .pd (.str p0)), (4, .fn (.func 203) [] []), (5, .pd (.sl (s100.map elU32))), (8, .pd (.int .i64 (p0.length : Int))), (9, .pd (.int .i64 s101))])
  (fun (s100, s101) () => []) (fun (s100, s101) () => True) trivial [] mixedT (askG [9, 10, 11] false) ?_
 rintro X1 ⟨s100, s101⟩ ⟨⟩ - h
 dsimp only [nat_Parse_L1] at h
 refine QB h (fun h => ?_) (fun h => ?_)
 ·obtain ⟨c1, hx2, h⟩ := h
  refine QZ (ask_sidx (P := Tryz.prog) (M := []) (t := 9) (k := .i64) (by kernel_rfl) hx2) ?_
  obtain ⟨x3, hx4, h⟩ := h
  refine QV (nat_Parse_1_ok m _ hx4) ?_
  cases x3
  ·replace h := h.f rfl
   refine QR .ret ?_
   subst r; exact QE .ret
  ·replace h := h.t rfl
   refine QB h (fun h => ?_) (fun h => ?_)
   ·refine QD ?_
    obtain ⟨x5, hx6, h⟩ := h
    refine QVd (nat_Of_ok m _ hx6) ?_
    obtain ⟨x7, hx8, h⟩ := h
    refine QVd (nat_Mul_ok m _ _ hx8) ?_
    obtain ⟨c9, hx10, h⟩ := h
    refine QZ (ask_sidx (P := Tryz.prog) (M := []) (t := 9) (k := .i64) (by kernel_rfl) hx10) ?_
    obtain ⟨x11, hx12, h⟩ := h
    refine QVd (nat_Of_ok m _ hx12) ?_
    obtain ⟨x13, hx14, h⟩ := h
    refine QVd (nat_Add_ok m _ _ hx14) ?_
    exact QG () h trivial
   ·exact QG () h trivial
 ·refine QR (.exit 0) ?_
  refine QB h (fun h => ?_) (fun h => ?_)
  ·subst r; exact QE .ret
  ·refine QK 1 ?_
   refine QB h (fun h => ?_) (fun h => ?_)
   ·subst r; exact QE .ret
   ·subst r; exact QE .ret
theorem whole_Make_ok (m : Tp) (p0 : Bool) (p1 : List Int) {r : Bool × (List Int)} (h : whole_Make p0 p1 r) : ASpec Tryz.prog (gtT m) 59 [.pd (.bool p0), .pd (.sl (p1.map elU32))] (· = .agg [.pd (.bool r.1), .pd (.sl (r.2.map elU32))]) := by
 refine ASpec_tree Tryz.f59 mixedT (askG [9, 10, 11] false) (by kernel_rfl) ?_
 unfold whole_Make at h
 cases p0
 ·replace h := h.f rfl
  obtain ⟨x3, hx4, h⟩ := h
  refine QV (nat_Shift_ok m _ _ hx4) ?_
  refine QK 2 ?_
  subst r; exact QE .ret
 ·replace h := h.t rfl
  obtain ⟨x1, hx2, h⟩ := h
  refine QV (nat_Shift_ok m _ _ hx2) ?_
  refine QL [.cells [.pd (.bool false), .fixed (([] : List Int).map elU32)] 1 0 false] 63 189 elU32 x1 ?_
  refine QB h (fun h => ?_) (fun h => ?_)
  ·refine QK 2 ?_
   subst r; exact QE .ret
  ·refine QK 2 ?_
   subst r; exact QE .ret
theorem whole_Of_ok (m : Tp) (p0 : Int) {r : Bool × (List Int)} (h : whole_Of p0 r) : ASpec Tryz.prog (gtT m) 54 [.pd (.int .i64 p0)] (· = .agg [.pd (.bool r.1), .pd (.sl (r.2.map elU32))]) := by
 refine ASpec_tree Tryz.f54 mixedT (askG [9, 10, 11] false) (by kernel_rfl) ?_
 unfold whole_Of at h
 refine QB h (fun h => ?_) (fun h => ?_)
 ·obtain ⟨x1, hx2, h⟩ := h
  refine QV (nat_Of_ok m _ hx2) ?_
  obtain ⟨x3, x4, hx5, h⟩ := h
  refine QV (whole_Make_ok m _ _ hx5) ?_
  refine QK 1 ?_
  subst r; exact QE .ret
 ·obtain ⟨x6, hx7, h⟩ := h
  refine QV (nat_Of_ok m _ hx7) ?_
  obtain ⟨x8, x9, hx10, h⟩ := h
  refine QV (whole_Make_ok m _ _ hx10) ?_
  refine QK 1 ?_
  subst r; exact QE .ret
theorem whole_Sign_ok (m : Tp) (p0 : Bool) (p1 : List Int) {r : Int} (h : whole_Sign p0 p1 r) : ASpec Tryz.prog (gtT m) 114 [.agg [.pd (.bool p0), .pd (.sl (p1.map elU32))]] (· = .pd (.int .i64 r)) := by
 refine ASpec_tree Tryz.f114 mixedT (askG [9, 10, 11] false) (by kernel_rfl) ?_
 unfold whole_Sign at h
 refine QK 5 ?_
 obtain ⟨x1, x2, hx3, h⟩ := h
 refine QV (whole_Make_ok m _ _ hx3) ?_
 cases x1
 ·replace h := h.f rfl
  refine QK 3 ?_
  refine QL [.cells [.pd (.bool false), .pd (.sl (x2.map elU32))] 1 0 false] 63 189 elU32 x2 ?_
  refine QB h (fun h => ?_) (fun h => ?_)
  ·subst r; exact QE .ret
  ·refine QK 2 ?_
   subst r; exact QE .ret
 ·replace h := h.t rfl
  refine QK 3 ?_
  refine QL [.cells [.pd (.bool true), .pd (.sl (x2.map elU32))] 1 0 false] 63 189 elU32 x2 ?_
  refine QB h (fun h => ?_) (fun h => ?_)
  ·subst r; exact QE .ret
  ·refine QK 2 ?_
   subst r; exact QE .ret
theorem whole_Compare_ok (m : Tp) (p0 : Bool) (p1 : List Int) (p2 : Bool) (p3 : List Int) {r : Int} (h : whole_Compare p0 p1 p2 p3 r) : ASpec Tryz.prog (gtT m) 109 [.agg [.pd (.bool p0), .pd (.sl (p1.map elU32))], .agg [.pd (.bool p2), .pd (.sl (p3.map elU32))]] (· = .pd (.int .i64 r)) := by
 refine ASpec_tree Tryz.f109 mixedT (askG [9, 10, 11] false) (by kernel_rfl) ?_
 unfold whole_Compare at h
 refine QK 2 ?_
 refine QD ?_
 refine QK 1 ?_
 obtain ⟨x1, hx2, h⟩ := h
 refine QVd (whole_Sign_ok m _ _ hx2) ?_
 refine QK 1 ?_
 obtain ⟨x3, hx4, h⟩ := h
 refine QVd (whole_Sign_ok m _ _ hx4) ?_
 refine QB h (fun h => ?_) (fun h => ?_)
 ·subst r; exact QE .ret
 ·refine QB h (fun h => ?_) (fun h => ?_)
  ·refine QK 4 ?_
   obtain ⟨x5, hx6, h⟩ := h
   refine QV (nat_Compare_ok m _ _ hx6) ?_
   subst r; exact QE .ret
  ·refine QK 4 ?_
   obtain ⟨x7, hx8, h⟩ := h
   refine QV (nat_Compare_ok m _ _ hx8) ?_
   subst r; exact QE .ret
theorem whole_Add_ok (m : Tp) (p0 : Bool) (p1 : List Int) (p2 : Bool) (p3 : List Int) {r : Bool × (List Int)} (h : whole_Add p0 p1 p2 p3 r) : ASpec Tryz.prog (gtT m) 159 [.agg [.pd (.bool p0), .pd (.sl (p1.map elU32))], .agg [.pd (.bool p2), .pd (.sl (p3.map elU32))]] (· = .agg [.pd (.bool r.1), .pd (.sl (r.2.map elU32))]) := by
 refine ASpec_tree Tryz.f159 mixedT (askG [9, 10, 11] false) (by kernel_rfl) ?_
 unfold whole_Add at h
 refine QK 2 ?_
 refine QD ?_
 refine QK 1 ?_
 obtain ⟨x1, hx2, h⟩ := h
 refine QVd (whole_Sign_ok m _ _ hx2) ?_
 refine QB h (fun h => ?_) (fun h => ?_)
 ·refine QK 1 ?_
  obtain ⟨x3, hx4, h⟩ := h
  refine QVd (whole_Sign_ok m _ _ hx4) ?_
  refine QB h (fun h => ?_) (fun h => ?_)
  ·refine QP true (fun _ => ?_) (fun hc => by cases hc)
   refine QD ?_
   refine QK 1 ?_
   obtain ⟨x5, hx6, h⟩ := h
   refine QVd (whole_Sign_ok m _ _ hx6) ?_
   refine QB h (fun h => ?_) (fun h => ?_)
   ·refine QK 4 ?_
    obtain ⟨x7, hx8, h⟩ := h
    refine QVd (nat_Add_ok m _ _ hx8) ?_
    obtain ⟨x9, x10, hx11, h⟩ := h
    refine QVd (whole_Make_ok m _ _ hx11) ?_
    refine QK 1 ?_
    subst r; exact QE .ret
   refine QK 4 ?_
   obtain ⟨x12, hx13, h⟩ := h
   refine QVd (nat_Add_ok m _ _ hx13) ?_
   obtain ⟨x14, x15, hx16, h⟩ := h
   refine QVd (whole_Make_ok m _ _ hx16) ?_
   refine QK 1 ?_
   subst r; exact QE .ret
  refine QP false (fun hc => by cases hc) (fun _ => ?_)
  refine QK 4 ?_
  obtain ⟨x17, x18, hx19, h⟩ := h
  refine QV (nat_Sub_ok m _ _ hx19) ?_
  cases x18
  ·replace h := h.f rfl
   refine QK 4 ?_
   obtain ⟨x28, x29, hx30, h⟩ := h
   refine QV (nat_Sub_ok m _ _ hx30) ?_
   cases x29
   ·replace h := h.f rfl
    refine QK 1 ?_
    obtain ⟨x39, hx40, h⟩ := h
    refine QV (whole_Sign_ok m _ _ hx40) ?_
    refine QB h (fun h => ?_) (fun h => ?_)
    ·obtain ⟨x41, x42, hx43, h⟩ := h
     refine QV (whole_Make_ok m _ _ hx43) ?_
     refine QK 1 ?_
     subst r; exact QE .ret
    obtain ⟨x44, x45, hx46, h⟩ := h
    refine QV (whole_Make_ok m _ _ hx46) ?_
    refine QK 1 ?_
    subst r; exact QE .ret
   replace h := h.t rfl
   refine QK 1 ?_
   obtain ⟨x31, hx32, h⟩ := h
   refine QV (whole_Sign_ok m _ _ hx32) ?_
   refine QB h (fun h => ?_) (fun h => ?_)
   ·obtain ⟨x33, x34, hx35, h⟩ := h
    refine QV (whole_Make_ok m _ _ hx35) ?_
    refine QK 1 ?_
    subst r; exact QE .ret
   obtain ⟨x36, x37, hx38, h⟩ := h
   refine QV (whole_Make_ok m _ _ hx38) ?_
   refine QK 1 ?_
   subst r; exact QE .ret
  replace h := h.t rfl
  refine QK 1 ?_
  obtain ⟨x20, hx21, h⟩ := h
  refine QV (whole_Sign_ok m _ _ hx21) ?_
  refine QB h (fun h => ?_) (fun h => ?_)
  ·obtain ⟨x22, x23, hx24, h⟩ := h
   refine QV (whole_Make_ok m _ _ hx24) ?_
   refine QK 1 ?_
   subst r; exact QE .ret
  obtain ⟨x25, x26, hx27, h⟩ := h
  refine QV (whole_Make_ok m _ _ hx27) ?_
  refine QK 1 ?_
  subst r; exact QE .ret
 refine QK 1 ?_
 obtain ⟨x47, hx48, h⟩ := h
 refine QVd (whole_Sign_ok m _ _ hx48) ?_
 refine QB h (fun h => ?_) (fun h => ?_)
 ·refine QP false (fun hc => by cases hc) (fun _ => ?_)
  refine QK 4 ?_
  obtain ⟨x49, x50, hx51, h⟩ := h
  refine QV (nat_Sub_ok m _ _ hx51) ?_
  cases x50
  ·replace h := h.f rfl
   refine QK 4 ?_
   obtain ⟨x60, x61, hx62, h⟩ := h
   refine QV (nat_Sub_ok m _ _ hx62) ?_
   cases x61
   ·replace h := h.f rfl
    refine QK 1 ?_
    obtain ⟨x71, hx72, h⟩ := h
    refine QV (whole_Sign_ok m _ _ hx72) ?_
    refine QB h (fun h => ?_) (fun h => ?_)
    ·obtain ⟨x73, x74, hx75, h⟩ := h
     refine QV (whole_Make_ok m _ _ hx75) ?_
     refine QK 1 ?_
     subst r; exact QE .ret
    obtain ⟨x76, x77, hx78, h⟩ := h
    refine QV (whole_Make_ok m _ _ hx78) ?_
    refine QK 1 ?_
    subst r; exact QE .ret
   replace h := h.t rfl
   refine QK 1 ?_
   obtain ⟨x63, hx64, h⟩ := h
   refine QV (whole_Sign_ok m _ _ hx64) ?_
   refine QB h (fun h => ?_) (fun h => ?_)
   ·obtain ⟨x65, x66, hx67, h⟩ := h
    refine QV (whole_Make_ok m _ _ hx67) ?_
    refine QK 1 ?_
    subst r; exact QE .ret
   obtain ⟨x68, x69, hx70, h⟩ := h
   refine QV (whole_Make_ok m _ _ hx70) ?_
   refine QK 1 ?_
   subst r; exact QE .ret
  replace h := h.t rfl
  refine QK 1 ?_
  obtain ⟨x52, hx53, h⟩ := h
  refine QV (whole_Sign_ok m _ _ hx53) ?_
  refine QB h (fun h => ?_) (fun h => ?_)
  ·obtain ⟨x54, x55, hx56, h⟩ := h
   refine QV (whole_Make_ok m _ _ hx56) ?_
   refine QK 1 ?_
   subst r; exact QE .ret
  obtain ⟨x57, x58, hx59, h⟩ := h
  refine QV (whole_Make_ok m _ _ hx59) ?_
  refine QK 1 ?_
  subst r; exact QE .ret
 refine QP true (fun _ => ?_) (fun hc => by cases hc)
 refine QD ?_
 refine QK 1 ?_
 obtain ⟨x79, hx80, h⟩ := h
 refine QVd (whole_Sign_ok m _ _ hx80) ?_
 refine QB h (fun h => ?_) (fun h => ?_)
 ·refine QK 4 ?_
  obtain ⟨x81, hx82, h⟩ := h
  refine QVd (nat_Add_ok m _ _ hx82) ?_
  obtain ⟨x83, x84, hx85, h⟩ := h
  refine QVd (whole_Make_ok m _ _ hx85) ?_
  refine QK 1 ?_
  subst r; exact QE .ret
 refine QK 4 ?_
 obtain ⟨x86, hx87, h⟩ := h
 refine QVd (nat_Add_ok m _ _ hx87) ?_
 obtain ⟨x88, x89, hx90, h⟩ := h
 refine QVd (whole_Make_ok m _ _ hx90) ?_
 refine QK 1 ?_
 subst r; exact QE .ret
theorem whole_Mul_ok (m : Tp) (p0 : Bool) (p1 : List Int) (p2 : Bool) (p3 : List Int) {r : Bool × (List Int)} (h : whole_Mul p0 p1 p2 p3 r) : ASpec Tryz.prog (gtT m) 97 [.agg [.pd (.bool p0), .pd (.sl (p1.map elU32))], .agg [.pd (.bool p2), .pd (.sl (p3.map elU32))]] (· = .agg [.pd (.bool r.1), .pd (.sl (r.2.map elU32))]) := by
 refine ASpec_tree Tryz.f97 mixedT (askG [9, 10, 11] false) (by kernel_rfl) ?_
 unfold whole_Mul at h
 refine QK 2 ?_
 refine QD ?_
 refine QK 1 ?_
 obtain ⟨x1, hx2, h⟩ := h
 refine QVd (whole_Sign_ok m _ _ hx2) ?_
 refine QK 1 ?_
 obtain ⟨x3, hx4, h⟩ := h
 refine QVd (whole_Sign_ok m _ _ hx4) ?_
 refine QB h (fun h => ?_) (fun h => ?_)
 ·refine QK 4 ?_
  obtain ⟨x5, hx6, h⟩ := h
  refine QVd (nat_Mul_ok m _ _ hx6) ?_
  obtain ⟨x7, x8, hx9, h⟩ := h
  refine QVd (whole_Make_ok m _ _ hx9) ?_
  refine QK 1 ?_
  subst r; exact QE .ret
 refine QK 4 ?_
 obtain ⟨x10, hx11, h⟩ := h
 refine QVd (nat_Mul_ok m _ _ hx11) ?_
 obtain ⟨x12, x13, hx14, h⟩ := h
 refine QVd (whole_Make_ok m _ _ hx14) ?_
 refine QK 1 ?_
 subst r; exact QE .ret
theorem whole_Parse_ok (m : Tp) (p0 : List UInt8) {r : Bool × (List Int) × Int} (h : whole_Parse p0 r) : ASpec Tryz.prog (gtT m) 150 [.pd (.str p0)] (· = .tup [.agg [.pd (.bool r.1), .pd (.sl (r.2.1.map elU32))], .pd (.int .i64 r.2.2)]) := by
 refine ASpec_tree Tryz.f150 mixedT (askG [9, 10, 11] false) (by kernel_rfl) ?_
 unfold whole_Parse at h
 obtain ⟨x1, x2, hx3, h⟩ := h
 refine QV (strings_CutPrefix_ok m _ _ hx3) ?_
 cases x2
 ·replace h := h.f rfl
  obtain ⟨x10, x11, hx12, h⟩ := h
  refine QV (nat_Parse_ok m _ hx12) ?_
  refine QB h (fun h => ?_) (fun h => ?_)
  ·refine QK 2 ?_
   subst r; exact QE .ret
  ·obtain ⟨x13, x14, hx15, h⟩ := h
   refine QV (whole_Make_ok m _ _ hx15) ?_
   refine QK 1 ?_
   subst r; exact QE .ret
 ·replace h := h.t rfl
  obtain ⟨x4, x5, hx6, h⟩ := h
  refine QV (nat_Parse_ok m _ hx6) ?_
  refine QB h (fun h => ?_) (fun h => ?_)
  ·refine QK 2 ?_
   subst r; exact QE .ret
  ·obtain ⟨x7, x8, hx9, h⟩ := h
   refine QV (whole_Make_ok m _ _ hx9) ?_
   refine QK 1 ?_
   subst r; exact QE .ret
theorem rat_den_ok (m : Tp) (p0 : Bool) (p1 : List Int) (p2 : List Int) {r : (List Int)} (h : rat_den p0 p1 p2 r) : ASpec Tryz.prog (gtT m) 56 [.agg [.pd (.bool p0), .pd (.sl (p1.map elU32)), .pd (.sl (p2.map elU32))]] (· = .pd (.sl (r.map elU32))) := by
 refine ASpec_tree Tryz.f56 mixedT (askG [9, 10, 11] false) (by kernel_rfl) ?_
 unfold rat_den at h
 refine QK 3 ?_
 obtain ⟨x1, hx2, h⟩ := h
 refine QV (nat_Bits_ok m _ hx2) ?_
 refine QB h (fun h => ?_) (fun h => ?_)
 ·obtain ⟨x3, hx4, h⟩ := h
  refine QV (nat_Of_ok m _ hx4) ?_
  subst r; exact QE .ret
 ·refine QK 2 ?_
  subst r; exact QE .ret
theorem rat_Make_ok (m : Tp) (p0 : Bool) (p1 : List Int) (p2 : List Int) {r : Fq} (h : rat_Make p0 p1 p2 r) : ASpec Tryz.prog (gtT m) 26 [.agg [.pd (.bool p0), .pd (.sl (p1.map elU32))], .pd (.sl (p2.map elU32))] (· = .agg [.pd (.bool r.1), .pd (.sl (r.2.1.map elU32)), .pd (.sl (r.2.2.map elU32))]) := by
 refine ASpec_tree Tryz.f26 mixedT (askG [9, 10, 11] false) (by kernel_rfl) ?_
 unfold rat_Make at h
 refine QK 2 ?_
 obtain ⟨x1, hx2, h⟩ := h
 refine H_valW (g := 56) (args := [.agg [.pd (.bool false), .fixed (([] : List Int).map elU32), .pd (.sl (p2.map elU32))]]) (M := [.cells [.pd (.bool p0), .pd (.sl (p1.map elU32))] 1 0 false, .cells [.pd (.bool false), .fixed (([] : List Int).map elU32), .fixed (([] : List Int).map elU32)] 1 0 false]) (.pd (.sl (x1.map elU32))) (.inl (by kernel_rfl)) (by kernel_rfl) (rat_den_ok m _ _ _ hx2) (by kernel_rfl) (hasT 56 (by kernel_rfl)) ?_
 refine QK 2 ?_
 obtain ⟨x3, hx4, h⟩ := h
 refine QV (nat_Gcd_ok m _ _ hx4) ?_
 refine QK 2 ?_
 obtain ⟨x5, x6, x7, hx8, h⟩ := h
 refine QV (nat_DivMod_ok m _ _ hx8) ?_
 obtain ⟨x9, x10, x11, hx12, h⟩ := h
 refine QV (nat_DivMod_ok m _ _ hx12) ?_
 refine QK 2 ?_
 obtain ⟨x13, x14, hx15, h⟩ := h
 refine QV (whole_Make_ok m _ _ hx15) ?_
 refine QK 2 ?_
 subst r; exact QE .ret
theorem rat_Int_ok (m : Tp) (p0 : Int) {r : Fq} (h : rat_Int p0 r) : ASpec Tryz.prog (gtT m) 25 [.pd (.int .i64 p0)] (· = .agg [.pd (.bool r.1), .pd (.sl (r.2.1.map elU32)), .pd (.sl (r.2.2.map elU32))]) := by
 refine ASpec_tree Tryz.f25 mixedT (askG [9, 10, 11] false) (by kernel_rfl) ?_
 unfold rat_Int at h
 obtain ⟨x1, x2, hx3, h⟩ := h
 refine QV (whole_Of_ok m _ hx3) ?_
 obtain ⟨x4, hx5, h⟩ := h
 refine QV (nat_Of_ok m _ hx5) ?_
 obtain ⟨x6, x7, x8, hx9, h⟩ := h
 refine QV (rat_Make_ok m _ _ _ hx9) ?_
 refine QK 1 ?_
 subst r; exact QE .ret
theorem rat_Sign_ok (m : Tp) (p0 : Bool) (p1 : List Int) (p2 : List Int) {r : Int} (h : rat_Sign p0 p1 p2 r) : ASpec Tryz.prog (gtT m) 68 [.agg [.pd (.bool p0), .pd (.sl (p1.map elU32)), .pd (.sl (p2.map elU32))]] (· = .pd (.int .i64 r)) := by
 refine ASpec_tree Tryz.f68 mixedT (askG [9, 10, 11] false) (by kernel_rfl) ?_
 unfold rat_Sign at h
 refine QK 3 ?_
 obtain ⟨x1, hx2, h⟩ := h
 refine QV (whole_Sign_ok m _ _ hx2) ?_
 subst r; exact QE .ret
theorem rat_over_ok (m : Tp) (p0 : Bool) (p1 : List Int) (p2 : List Int) (p3 : Bool) (p4 : List Int) (p5 : List Int) {r : Bool × (List Int)} (h : rat_over p0 p1 p2 p3 p4 p5 r) : ASpec Tryz.prog (gtT m) 110 [.agg [.pd (.bool p0), .pd (.sl (p1.map elU32)), .pd (.sl (p2.map elU32))], .agg [.pd (.bool p3), .pd (.sl (p4.map elU32)), .pd (.sl (p5.map elU32))]] (· = .agg [.pd (.bool r.1), .pd (.sl (r.2.map elU32))]) := by
 refine ASpec_tree Tryz.f110 mixedT (askG [9, 10, 11] false) (by kernel_rfl) ?_
 unfold rat_over at h
 refine QK 2 ?_
 refine QD ?_
 refine QK 3 ?_
 obtain ⟨x1, hx2, h⟩ := h
 refine QVd (rat_den_ok m _ _ _ hx2) ?_
 obtain ⟨x3, x4, hx5, h⟩ := h
 refine QVd (whole_Make_ok m _ _ hx5) ?_
 obtain ⟨x6, x7, hx8, h⟩ := h
 refine QVd (whole_Mul_ok m _ _ _ _ hx8) ?_
 refine QK 1 ?_
 subst r; exact QE .ret
theorem rat_Compare_ok (m : Tp) (p0 : Bool) (p1 : List Int) (p2 : List Int) (p3 : Bool) (p4 : List Int) (p5 : List Int) {r : Int} (h : rat_Compare p0 p1 p2 p3 p4 p5 r) : ASpec Tryz.prog (gtT m) 64 [.agg [.pd (.bool p0), .pd (.sl (p1.map elU32)), .pd (.sl (p2.map elU32))], .agg [.pd (.bool p3), .pd (.sl (p4.map elU32)), .pd (.sl (p5.map elU32))]] (· = .pd (.int .i64 r)) := by
 refine ASpec_tree Tryz.f64 mixedT (askG [9, 10, 11] false) (by kernel_rfl) ?_
 unfold rat_Compare at h
 refine QK 2 ?_
 refine QD ?_
 refine QK 2 ?_
 obtain ⟨x1, x2, hx3, h⟩ := h
 refine QVd (rat_over_ok m _ _ _ _ _ _ hx3) ?_
 refine QK 2 ?_
 obtain ⟨x4, x5, hx6, h⟩ := h
 refine QVd (rat_over_ok m _ _ _ _ _ _ hx6) ?_
 obtain ⟨x7, hx8, h⟩ := h
 refine QVd (whole_Compare_ok m _ _ _ _ hx8) ?_
 subst r; exact QE .ret
theorem rat_Add_ok (m : Tp) (p0 : Bool) (p1 : List Int) (p2 : List Int) (p3 : Bool) (p4 : List Int) (p5 : List Int) {r : Fq} (h : rat_Add p0 p1 p2 p3 p4 p5 r) : ASpec Tryz.prog (gtT m) 112 [.agg [.pd (.bool p0), .pd (.sl (p1.map elU32)), .pd (.sl (p2.map elU32))], .agg [.pd (.bool p3), .pd (.sl (p4.map elU32)), .pd (.sl (p5.map elU32))]] (· = .agg [.pd (.bool r.1), .pd (.sl (r.2.1.map elU32)), .pd (.sl (r.2.2.map elU32))]) := by
 refine ASpec_tree Tryz.f112 mixedT (askG [9, 10, 11] false) (by kernel_rfl) ?_
 unfold rat_Add at h
 refine QK 2 ?_
 refine QD ?_
 refine QK 2 ?_
 obtain ⟨x1, x2, hx3, h⟩ := h
 refine QVd (rat_over_ok m _ _ _ _ _ _ hx3) ?_
 refine QK 2 ?_
 obtain ⟨x4, x5, hx6, h⟩ := h
 refine QVd (rat_over_ok m _ _ _ _ _ _ hx6) ?_
 obtain ⟨x7, x8, hx9, h⟩ := h
 refine QVd (whole_Add_ok m _ _ _ _ hx9) ?_
 refine QK 1 ?_
 obtain ⟨x10, hx11, h⟩ := h
 refine QVd (rat_den_ok m _ _ _ hx11) ?_
 refine QK 1 ?_
 obtain ⟨x12, hx13, h⟩ := h
 refine QVd (rat_den_ok m _ _ _ hx13) ?_
 obtain ⟨x14, hx15, h⟩ := h
 refine QVd (nat_Mul_ok m _ _ hx15) ?_
 obtain ⟨x16, x17, x18, hx19, h⟩ := h
 refine QVd (rat_Make_ok m _ _ _ hx19) ?_
 refine QK 1 ?_
 subst r; exact QE .ret
theorem rat_Mul_ok (m : Tp) (p0 : Bool) (p1 : List Int) (p2 : List Int) (p3 : Bool) (p4 : List Int) (p5 : List Int) {r : Fq} (h : rat_Mul p0 p1 p2 p3 p4 p5 r) : ASpec Tryz.prog (gtT m) 53 [.agg [.pd (.bool p0), .pd (.sl (p1.map elU32)), .pd (.sl (p2.map elU32))], .agg [.pd (.bool p3), .pd (.sl (p4.map elU32)), .pd (.sl (p5.map elU32))]] (· = .agg [.pd (.bool r.1), .pd (.sl (r.2.1.map elU32)), .pd (.sl (r.2.2.map elU32))]) := by
 refine ASpec_tree Tryz.f53 mixedT (askG [9, 10, 11] false) (by kernel_rfl) ?_
 unfold rat_Mul at h
 refine QK 2 ?_
 refine QD ?_
 refine QK 4 ?_
 obtain ⟨x1, x2, hx3, h⟩ := h
 refine QVd (whole_Mul_ok m _ _ _ _ hx3) ?_
 refine QK 1 ?_
 obtain ⟨x4, hx5, h⟩ := h
 refine QVd (rat_den_ok m _ _ _ hx5) ?_
 refine QK 1 ?_
 obtain ⟨x6, hx7, h⟩ := h
 refine QVd (rat_den_ok m _ _ _ hx7) ?_
 obtain ⟨x8, hx9, h⟩ := h
 refine QVd (nat_Mul_ok m _ _ hx9) ?_
 obtain ⟨x10, x11, x12, hx13, h⟩ := h
 refine QVd (rat_Make_ok m _ _ _ hx13) ?_
 refine QK 1 ?_
 subst r; exact QE .ret
theorem rat_Parse_ok (m : Tp) (p0 : List UInt8) {r : Bool × (List Int) × (List Int) × Int} (h : rat_Parse p0 r) : ASpec Tryz.prog (gtT m) 91 [.pd (.str p0)] (· = .tup [.agg [.pd (.bool r.1), .pd (.sl (r.2.1.map elU32)), .pd (.sl (r.2.2.1.map elU32))], .pd (.int .i64 r.2.2.2)]) := by
 refine ASpec_tree Tryz.f91 mixedT (askG [9, 10, 11] false) (by kernel_rfl) ?_
 unfold rat_Parse at h
 obtain ⟨x1, x2, x3, hx4, h⟩ := h
 refine QV (strings_Cut_ok m _ _ hx4) ?_
 cases x3
 ·replace h := h.f rfl
  obtain ⟨x18, x19, x20, hx21, h⟩ := h
  refine QV (whole_Parse_ok m _ hx21) ?_
  refine QK 1 ?_
  refine QB h (fun h => ?_) (fun h => ?_)
  ·refine QK 2 ?_
   subst r; exact QE .ret
  obtain ⟨x22, x23, hx24, h⟩ := h
  refine QV (nat_Parse_ok m _ hx24) ?_
  refine QB h (fun h => ?_) (fun h => ?_)
  ·refine QK 2 ?_
   subst r; exact QE .ret
  obtain ⟨x25, hx26, h⟩ := h
  refine QV (nat_Bits_ok m _ hx26) ?_
  refine QB h (fun h => ?_) (fun h => ?_)
  ·refine QK 2 ?_
   subst r; exact QE .ret
  refine QK 1 ?_
  obtain ⟨x27, x28, x29, hx30, h⟩ := h
  refine QV (rat_Make_ok m _ _ _ hx30) ?_
  refine QK 1 ?_
  subst r; exact QE .ret
 replace h := h.t rfl
 obtain ⟨x5, x6, x7, hx8, h⟩ := h
 refine QV (whole_Parse_ok m _ hx8) ?_
 refine QK 1 ?_
 refine QB h (fun h => ?_) (fun h => ?_)
 ·refine QK 2 ?_
  subst r; exact QE .ret
 obtain ⟨x9, x10, hx11, h⟩ := h
 refine QV (nat_Parse_ok m _ hx11) ?_
 refine QB h (fun h => ?_) (fun h => ?_)
 ·refine QK 2 ?_
  subst r; exact QE .ret
 obtain ⟨x12, hx13, h⟩ := h
 refine QV (nat_Bits_ok m _ hx13) ?_
 refine QB h (fun h => ?_) (fun h => ?_)
 ·refine QK 2 ?_
  subst r; exact QE .ret
 refine QK 1 ?_
 obtain ⟨x14, x15, x16, hx17, h⟩ := h
 refine QV (rat_Make_ok m _ _ _ hx17) ?_
 refine QK 1 ?_
 subst r; exact QE .ret
end Go.Abs
end
