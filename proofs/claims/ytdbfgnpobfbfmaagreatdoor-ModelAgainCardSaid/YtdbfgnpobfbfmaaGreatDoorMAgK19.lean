/- Part of a proof, in few files: MSw BDw BIw M08w. -/
import Derived.Test.YtdbfgnpobfbfmaaGreatDoorMAgK13
import Derived.Test.YtdbfgnpobfbfmaaGreatDoorMAgK9
import Derived.Test.YtdbfgnpobfbfmaaGreatDoorMAgK15
import Derived.Test.YtdbfgnpobfbfmaaGreatDoorMAgK17

section
namespace Go.Abs
open Go.RowKit Go.Proofs
set_option maxRecDepth 100000
def strsOf : List PD → Option (List (List UInt8))
  | [] => some []
  | .str s :: l => match strsOf l with | some r => some (s :: r) | none => none
  | _ => none
theorem strsOf_ok : ∀ {l : List PD} {r : List (List UInt8)}, strsOf l = some r → l = r.map PD.str
  | [], r, h => by cases h; rfl
  | .str s :: l, r, h => by
    unfold strsOf at h
    split at h
    · rename_i r' hr
      cases h
      rw [strsOf_ok hr]; rfl
    · cases h
  | .int .. :: _, _, h => by cases h
  | .bool .. :: _, _, h => by cases h
  | .flt .. :: _, _, h => by cases h
  | .err .. :: _, _, h => by cases h
  | .agg .. :: _, _, h => by cases h
  | .sl .. :: _, _, h => by cases h
def orcSplit (s sep : List UInt8) (M : Mem) : Option (AV × Mem × Bool) :=
  match Nat.blt s.length 1000, sep with
  | true, [c] => some (.pd (.sl ((splitC c s).map PD.str)), M, false)
  | _, _ => none
def orcCut (s sep : List UInt8) (M : Mem) : Option (AV × Mem × Bool) :=
  match Nat.blt s.length 1000, sep with
  | true, [c] => some (.tup [.pd (.str (Lib.cut s [c]).1), .pd (.str (Lib.cut s [c]).2.1), .pd (.bool (Lib.cut s [c]).2.2)], M, false)
  | _, _ => none
def orcJ (l : List PD) (sep : List UInt8) (M : Mem) : Option (AV × Mem × Bool) :=
  match strsOf l with
  | some r => if Nat.blt r.length 1000 && Nat.blt (Lib.join r sep).length 1000 then some (.pd (.str (Lib.join r sep)), M, false) else none
  | none => none
def orcS (g : FuncId) (args : List AV) (M : Mem) : Option (AV × Mem × Bool) :=
  match g, args with
  | 107, [.pd (.str s), .pd (.str sep)] => orcSplit s sep M
  | 65, [.pd (.str s), .pd (.str sep)] => orcCut s sep M
  | 108, [.pd (.str s)] => if Nat.blt s.length 1000 && s.all (fun b => Nat.blt b.toNat 128) then some (.pd (.sl ((Lib.fields s).map PD.str)), M, false) else none
  | 105, [.pd (.sl l), .pd (.str sep)] => orcJ l sep M
  | 105, [.fixed l, .pd (.str sep)] => orcJ l sep M
  | _, _ => none
theorem told_ok {GT : Tabs} {f : FuncId} {args : List AV} {x : AV} {M : Mem} (he : Enters Tryz.prog f) (h : ASpec Tryz.prog GT f (args.map wk) (· = x)) (hp : (args.map wk).all pur2 = true) : CallOK Tryz.prog GT f args M (x, M, false) :=
  ⟨he, ACall.wk (h.atM (fun x hx => pur2_pure (List.all_eq_true.1 hp x hx)) M) rfl, fun _ => rfl⟩
theorem orcS_ok (m : Tp) (f : FuncId) (args : List AV) (M : Mem) (z : AV × Mem × Bool) (h : orcS f args M = some z) : CallOK Tryz.prog (gtT m) f args M z := by
  unfold orcS at h
  split at h
  · rename_i s sep
    unfold orcSplit at h
    split at h
    · rename_i c hl
      cases h
      refine told_ok (hasT 107 (by kernel_rfl)) (strings_Split_ok m s [c] ⟨?_, c, rfl, rfl⟩) rfl
      simp at hl; unfold Short; omega
    · cases h
  · rename_i s sep
    unfold orcCut at h
    split at h
    · rename_i c hl
      cases h
      refine told_ok (hasT 65 (by kernel_rfl)) (strings_Cut_ok m s [c] ⟨?_, c, rfl, rfl⟩) rfl
      simp at hl; unfold Short; omega
    · cases h
  · rename_i s
    split at h
    · rename_i hl
      cases h
      simp only [Bool.and_eq_true, Nat.blt_eq, List.all_eq_true] at hl
      refine told_ok (hasT 108 (by kernel_rfl)) (strings_Fields_ok m s ⟨?_, hl.2, rfl⟩) rfl
      unfold Short; omega
    · cases h
  · rename_i l sep
    unfold orcJ at h
    split at h
    · rename_i r hr
      split at h
      · rename_i hl
        cases h
        simp only [Bool.and_eq_true, Nat.blt_eq] at hl
        obtain rfl := strsOf_ok hr
        exact told_ok (hasT 105 (by kernel_rfl)) (strings_Join_ok m r sep ⟨by omega, by omega, rfl⟩) rfl
      · cases h
    · cases h
  · rename_i l sep
    unfold orcJ at h
    split at h
    · rename_i r hr
      split at h
      · rename_i hl
        cases h
        simp only [Bool.and_eq_true, Nat.blt_eq] at hl
        obtain rfl := strsOf_ok hr
        exact told_ok (hasT 105 (by kernel_rfl)) (strings_Join_ok m r sep ⟨by omega, by omega, rfl⟩) rfl
      · cases h
    · cases h
  · cases h
end Go.Abs
end

section
namespace Go.Abs
open Go.RowKit Go.Proofs
set_option maxRecDepth 20000
theorem strings_CutSuffix_ok (m : Tp) (s p : List UInt8) {r : List UInt8 × Bool} (h : strings_CutSuffix s p r) : ASpec Tryz.prog (gtT m) 119 [.pd (.str s), .pd (.str p)] (· = .tup [.pd (.str r.1), .pd (.bool r.2)]) := by
  obtain ⟨hs, rfl⟩ := h
  refine ASpec.of_calls _ (by simp [AV.pure]) fun cx w vs hA hG hlt => ?_
  obtain ⟨v0, h0, r0⟩ := args_at hA 0 rfl
  obtain ⟨v1, h1, r1⟩ := args_at hA 1 rfl
  rw [str_inv r0] at h0; rw [str_inv r1] at h1
  rw [vs2 hA.1 h0 h1]
  refine (Tryz.strings_CutSuffix ⟨s.toArray⟩ ⟨p.toArray⟩ w hs).mono ?_
  rintro e w' ⟨rfl, rfl⟩
  refine ⟨_, rfl, Below.refl _ _, .tup _ _ rfl fun i v x q1 q2 => ?_⟩
  match i with
  | 0 => simp at q1 q2; subst q1; subst q2; exact .pd _ _ (.str _)
  | 1 => simp at q1 q2; subst q1; subst q2; exact .pd _ _ (.bool _)
  | i + 2 => simp at q1
theorem strings_Contains_ok (m : Tp) (s p : List UInt8) {r : Bool} (h : strings_Contains s p r) : ASpec Tryz.prog (gtT m) 150 [.pd (.str s), .pd (.str p)] (· = .pd (.bool r)) := by
  obtain ⟨hs, rfl⟩ := h
  refine ASpec.of_calls _ (by simp [AV.pure]) fun cx w vs hA hG hlt => ?_
  obtain ⟨v0, h0, r0⟩ := args_at hA 0 rfl
  obtain ⟨v1, h1, r1⟩ := args_at hA 1 rfl
  rw [str_inv r0] at h0; rw [str_inv r1] at h1
  rw [vs2 hA.1 h0 h1]
  have hm := glob_int (g := 2) (k := .i64) (m := m.1) hG rfl
  refine (Tryz.strings_Contains ⟨s.toArray⟩ ⟨p.toArray⟩ m.1 w hs hm).mono ?_
  rintro e w' ⟨rfl, rfl⟩
  exact ⟨_, rfl, Below.refl _ _, .pd _ _ (.bool _)⟩
end Go.Abs
end

section
namespace Go.Abs
open Go.RowKit Go.Proofs
set_option maxRecDepth 20000
theorem slices_Index_string_string_ok (m : Tp) (l : List (List UInt8)) (x : List UInt8) {r : Int} (h : slices_Index_string_string l x r) : ASpec Tryz.prog (gtT m) 153 [.pd (.sl (l.map PD.str)), .pd (.str x)] (· = .pd (.int .i64 r)) := by
  obtain ⟨hn, rfl⟩ := h
  refine ASpec.of_calls _ (by simp [AV.pure]) fun cx w vs hA hG hlt => ?_
  obtain ⟨v0, h0, r0⟩ := args_at hA 0 rfl
  obtain ⟨v1, h1, r1⟩ := args_at hA 1 rfl
  rw [str_inv r1] at h1
  have hp : PRep cx.imm w v0 (.sl (l.map PD.str)) := by cases r0 with | pd v x h => exact h
  rcases strs_inv hp with ⟨rfl, rfl⟩ | ⟨a, cap, rfl, hcap, hI, hc⟩
  · rw [vs2 hA.1 h0 h1]
    refine (Tryz.slices_Index_string_empty none 0 ⟨x.toArray⟩ w).mono ?_
    rintro e w' ⟨rfl, rfl⟩
    exact ⟨_, rfl, Below.refl _ _, .pd _ _ (.int _ _)⟩
  · rw [vs2 hA.1 h0 h1]
    cases l with
    | nil =>
      refine (Tryz.slices_Index_string_empty (some a) cap ⟨x.toArray⟩ w).mono ?_
      rintro e w' ⟨rfl, rfl⟩
      exact ⟨_, rfl, Below.refl _ _, .pd _ _ (.int _ _)⟩
    | cons y t =>
      obtain ⟨hsp, hIa⟩ := hI (by simp)
      have ea : a = ⟨a.block, a.off, none⟩ := by cases a; simp at hsp; subst hsp; rfl
      have := Tryz.slices_Index_string a.block a.off (y :: t).length cap ((y :: t).map fun s => ⟨s.toArray⟩) ⟨x.toArray⟩ w (by simp) (by omega) (fun j hj => ?_)
      · rw [ea]
        refine this.mono ?_
        rintro e w' ⟨rfl, rfl⟩
        rw [List.take_of_length_le (by simp)]
        exact ⟨_, rfl, Below.refl _ _, .pd _ _ (.int _ _)⟩
      · have hj' : j < (y :: t).length := by simpa using hj
        have := hc j _ (List.getElem?_eq_getElem hj')
        rw [this]
        simp only [List.getD_eq_getElem?_getD, List.getElem?_map, List.getElem?_eq_getElem hj', Option.map_some, Option.getD_some]
end Go.Abs
end

section
namespace Go.Abs
open Go.RowKit Go.Proofs
set_option maxRecDepth 100000
def orcX (l : List PD) (x : List UInt8) (M : Mem) : Option (AV × Mem × Bool) :=
  match strsOf l with
  | some r => if Nat.blt r.length 1000 then some (.pd (.int .i64 (Lib.idxOfS (r.map fun s => (⟨s.toArray⟩ : ByteArray)) ⟨x.toArray⟩)), M, false) else none
  | none => none
def orcN (g : FuncId) (args : List AV) (M : Mem) : Option (AV × Mem × Bool) :=
  match orcS g args M with
  | some z => some z
  | none =>
    match g, args with
    | 112, [.pd (.str s), .pd (.str sep)] => some (.tup [.pd (.str (Lib.trimPrefix s sep)), .pd (.bool (Lib.hasPrefix s sep))], M, false)
    | 119, [.pd (.str s), .pd (.str sep)] => if Nat.blt s.length 1000 then some (.tup [.pd (.str (Lib.trimSuffix s sep)), .pd (.bool (Lib.hasSuffix s sep))], M, false) else none
    | 150, [.pd (.str s), .pd (.str sep)] => if Nat.blt s.length 1000 then some (.pd (.bool (Lib.contains s sep)), M, false) else none
    | 146, [.pd (.sl [])] => some (.pd (.sl []), M, false)
    | 146, [.fixed []] => some (.pd (.sl []), M, false)
    | 153, [.pd (.sl l), .pd (.str x)] => orcX l x M
    | 153, [.fixed l, .pd (.str x)] => orcX l x M
    | _, _ => none
theorem orcX_ok (m : Tp) (l : List PD) (x : List UInt8) (a : AV) (M : Mem) (z : AV × Mem × Bool) (ha : a = .pd (.sl l) ∨ a = .fixed l) (h : orcX l x M = some z) : CallOK Tryz.prog (gtT m) 153 [a, .pd (.str x)] M z := by
  unfold orcX at h
  split at h
  · rename_i r hr
    split at h
    · rename_i hl
      cases h
      simp only [Nat.blt_eq] at hl
      obtain rfl := strsOf_ok hr
      have := slices_Index_string_string_ok m r x ⟨by omega, rfl⟩
      rcases ha with rfl | rfl
      · exact told_ok (hasT 153 (by kernel_rfl)) this rfl
      · exact told_ok (hasT 153 (by kernel_rfl)) this rfl
    · cases h
  · cases h
theorem orcN_ok (m : Tp) (f : FuncId) (args : List AV) (M : Mem) (z : AV × Mem × Bool) (h : orcN f args M = some z) : CallOK Tryz.prog (gtT m) f args M z := by
  unfold orcN at h
  split at h
  · rename_i z' hz
    cases h
    exact orcS_ok m f args M _ hz
  · split at h
    · rename_i s sep _
      cases h
      exact told_ok (hasT 112 (by kernel_rfl)) (strings_CutPrefix_ok m s sep rfl) rfl
    · rename_i s sep _
      split at h
      · rename_i hl
        cases h
        simp only [Nat.blt_eq] at hl
        exact told_ok (hasT 119 (by kernel_rfl)) (strings_CutSuffix_ok m s sep ⟨by omega, rfl⟩) rfl
      · cases h
    · rename_i s sep _
      split at h
      · rename_i hl
        cases h
        simp only [Nat.blt_eq] at hl
        exact told_ok (hasT 150 (by kernel_rfl)) (strings_Contains_ok m s sep ⟨by unfold Short; omega, rfl⟩) rfl
      · cases h
    · cases h
      exact told_ok (hasT 146 (by kernel_rfl)) clone_spec rfl
    · cases h
      exact told_ok (hasT 146 (by kernel_rfl)) clone_spec rfl
    · rename_i l x _
      exact orcX_ok m l x _ M z (.inl rfl) h
    · rename_i l x _
      exact orcX_ok m l x _ M z (.inr rfl) h
    · cases h
end Go.Abs
end
