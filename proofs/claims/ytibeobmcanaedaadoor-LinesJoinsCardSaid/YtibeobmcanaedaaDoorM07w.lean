/- Chapter 07: awake answers yes: run by the interpreter, with the library's functions told. -/
import Derived.Test.YtibeobmcanaedaaDoorB07w
import Derived.Test.YtibeobmcanaedaaDoorB07d
import Derived.Test.YtibeobmcanaedaaDoorAbs21
import Derived.Test.YtibeobmcanaedaaDoorC07
namespace Go.Abs
open Go.RowKit Go.Proofs
set_option maxRecDepth 100000

def strsOf : List PD → Option (List (List UInt8))
  | [] => some []
  | .str s :: l => match strsOf l with | some r => some (s :: r) | none => none
  | _ => none

theorem strsOf_ok : ∀ {l : List PD} {r : List (List UInt8)}, strsOf l = some r → l = r.map PD.str
  | [], r, h => by cases h; rfl
  | .str s :: l, r, h => by
    unfold strsOf at h
    split at h
    · rename_i r' hr
      cases h
      rw [strsOf_ok hr]; rfl
    · cases h
  | .int .. :: _, _, h => by cases h
  | .bool .. :: _, _, h => by cases h
  | .flt .. :: _, _, h => by cases h
  | .agg .. :: _, _, h => by cases h
  | .sl .. :: _, _, h => by cases h

def orc28 (s sep : List UInt8) (M : Mem) : Option (AV × Mem × Bool) :=
  match Nat.blt s.length 1000, sep with
  | true, [c] => some (.pd (.sl ((splitC c s).map PD.str)), M, false)
  | _, _ => none
def orc29 (s sep : List UInt8) (M : Mem) : Option (AV × Mem × Bool) :=
  match Nat.blt s.length 1000, sep with
  | true, [c] => some (.tup [.pd (.str (Lib.cut s [c]).1), .pd (.str (Lib.cut s [c]).2.1), .pd (.bool (Lib.cut s [c]).2.2)], M, false)
  | _, _ => none

def orcJ (l : List PD) (sep : List UInt8) (M : Mem) : Option (AV × Mem × Bool) :=
  match strsOf l with
  | some r => if Nat.blt r.length 1000 && Nat.blt (Lib.join r sep).length 1000 then some (.pd (.str (Lib.join r sep)), M, false) else none
  | none => none

/-- What is known of the library's functions. -/
def orc07 (g : FuncId) (args : List AV) (M : Mem) : Option (AV × Mem × Bool) :=
  match g, args with
  | 28, [.pd (.str s), .pd (.str sep)] => orc28 s sep M
  | 29, [.pd (.str s), .pd (.str sep)] => orc29 s sep M
  | 64, [.pd (.str s), .pd (.str sep)] => some (.tup [.pd (.str (Lib.trimPrefix s sep)), .pd (.bool (Lib.hasPrefix s sep))], M, false)
  | 30, [.pd (.str s)] => if Nat.blt s.length 1000 && s.all (fun b => Nat.blt b.toNat 128) then some (.pd (.sl ((Lib.fields s).map PD.str)), M, false) else none
  | 13, [.pd (.sl l), .pd (.str sep)] => orcJ l sep M
  | 13, [.fixed l, .pd (.str sep)] => orcJ l sep M
  | 104, [.pd (.sl [])] => some (.pd (.sl []), M, false)
  | 104, [.fixed []] => some (.pd (.sl []), M, false)
  | _, _ => none

theorem f64_told (m : Int) (s p : List UInt8) : ASpec Tryd.prog (gt07 m) 64 [.pd (.str s), .pd (.str p)] (· = .tup [.pd (.str (Lib.trimPrefix s p)), .pd (.bool (Lib.hasPrefix s p))]) := by
  refine ASpec.of_calls _ (by simp [AV.pure]) fun cx w vs hA hG hlt => ?_
  obtain ⟨v0, h0, r0⟩ := args_at hA 0 rfl
  obtain ⟨v1, h1, r1⟩ := args_at hA 1 rfl
  rw [str_inv r0] at h0; rw [str_inv r1] at h1
  rw [vs2 hA.1 h0 h1]
  refine (Tryd.strings_CutPrefix ⟨s.toArray⟩ ⟨p.toArray⟩ w).mono ?_
  rintro e w' ⟨rfl, rfl⟩
  refine ⟨_, rfl, Below.refl _ _, .tup _ _ rfl fun i v x q1 q2 => ?_⟩
  match i with
  | 0 => simp at q1 q2; subst q1; subst q2; exact .pd _ _ (.str _)
  | 1 => simp at q1 q2; subst q1; subst q2; exact .pd _ _ (.bool _)
  | i + 2 => simp at q1

theorem told_ok {GT : Tabs} {f : FuncId} {args : List AV} {x : AV} {M : Mem} (he : Enters Tryd.prog f) (h : ASpec Tryd.prog GT f (args.map wk) (· = x)) (hp : (args.map wk).all pur2 = true) : CallOK Tryd.prog GT f args M (x, M, false) :=
  ⟨he, ACall.wk (h.atM (fun x hx => pur2_pure (List.all_eq_true.1 hp x hx)) M) rfl, fun _ => rfl⟩

theorem orc07_ok (m : Int) (f : FuncId) (args : List AV) (M : Mem) (z : AV × Mem × Bool) (h : orc07 f args M = some z) : CallOK Tryd.prog (gt07 m) f args M z := by
  unfold orc07 at h
  split at h
  · rename_i s sep
    unfold orc28 at h
    split at h
    · rename_i c hl
      cases h
      refine told_ok (has07 28 (by kernel_rfl)) (f28_ok m s [c] ⟨?_, c, rfl, rfl⟩) rfl
      simp at hl; unfold Short; omega
    · cases h
  · rename_i s sep
    unfold orc29 at h
    split at h
    · rename_i c hl
      cases h
      refine told_ok (has07 29 (by kernel_rfl)) (f29_ok m s [c] ⟨?_, c, rfl, rfl⟩) rfl
      simp at hl; unfold Short; omega
    · cases h
  · rename_i s sep
    cases h
    exact told_ok (has07 64 (by kernel_rfl)) (f64_told m s sep) rfl
  · rename_i s
    split at h
    · rename_i hl
      cases h
      simp only [Bool.and_eq_true, Nat.blt_eq, List.all_eq_true] at hl
      refine told_ok (has07 30 (by kernel_rfl)) (f30_ok m s ⟨?_, hl.2, rfl⟩) rfl
      unfold Short; omega
    · cases h
  · rename_i l sep
    unfold orcJ at h
    split at h
    · rename_i r hr
      split at h
      · rename_i hl
        cases h
        simp only [Bool.and_eq_true, Nat.blt_eq] at hl
        obtain rfl := strsOf_ok hr
        exact told_ok (has07 13 (by kernel_rfl)) (f13_ok m r sep ⟨by omega, by omega, rfl⟩) rfl
      · cases h
    · cases h
  · rename_i l sep
    unfold orcJ at h
    split at h
    · rename_i r hr
      split at h
      · rename_i hl
        cases h
        simp only [Bool.and_eq_true, Nat.blt_eq] at hl
        obtain rfl := strsOf_ok hr
        exact told_ok (has07 13 (by kernel_rfl)) (f13_ok m r sep ⟨by omega, by omega, rfl⟩) rfl
      · cases h
    · cases h
  · cases h
    exact told_ok (has07 104 (by kernel_rfl)) clone_spec rfl
  · cases h
    exact told_ok (has07 104 (by kernel_rfl)) clone_spec rfl
  · cases h

theorem awake_runs (m : Int) : saysTrue Tryd.prog (gt07 m) orc07 (fun _ => false) 400 9 [] = true := by kernel_rfl
theorem awake9 (m : Int) : ASpec Tryd.prog (gt07 m) 9 [] (· = .pd (.bool true)) := saysTrue_ok mixed07 names07 (orc07_ok m) (awake_runs m)
theorem f9_ok (m : Int) {r : Bool} (h : f9 r) : ASpec Tryd.prog (gt07 m) 9 [] (· = .pd (.bool r)) := by
  obtain rfl := h
  exact awake9 m

end Go.Abs
