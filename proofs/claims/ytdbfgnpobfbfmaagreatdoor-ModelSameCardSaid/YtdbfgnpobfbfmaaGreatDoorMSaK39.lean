/- Part of a proof, in few files: MSw. -/
import Derived.Test.YtdbfgnpobfbfmaaGreatDoorMSaK27
import Derived.Test.YtdbfgnpobfbfmaaGreatDoorMSaK15

section
/- What is known of the library's functions on texts, for the interpreter. -/
namespace Go.Abs
open Go.RowKit Go.Proofs
set_option maxRecDepth 100000

def strsOf : List PD → Option (List (List UInt8))
  | [] => some []
  | .str s :: l => match strsOf l with | some r => some (s :: r) | none => none
  | _ => none

theorem strsOf_ok : ∀ {l : List PD} {r : List (List UInt8)}, strsOf l = some r → l = r.map PD.str
  | [], r, h => by cases h; rfl
  | .str s :: l, r, h => by
    unfold strsOf at h
    split at h
    · rename_i r' hr
      cases h
      rw [strsOf_ok hr]; rfl
    · cases h
  | .int .. :: _, _, h => by cases h
  | .bool .. :: _, _, h => by cases h
  | .flt .. :: _, _, h => by cases h
  | .err .. :: _, _, h => by cases h
  | .agg .. :: _, _, h => by cases h
  | .sl .. :: _, _, h => by cases h

def orcSplit (s sep : List UInt8) (M : Mem) : Option (AV × Mem × Bool) :=
  match Nat.blt s.length 1000, sep with
  | true, [c] => some (.pd (.sl ((splitC c s).map PD.str)), M, false)
  | _, _ => none
def orcCut (s sep : List UInt8) (M : Mem) : Option (AV × Mem × Bool) :=
  match Nat.blt s.length 1000, sep with
  | true, [c] => some (.tup [.pd (.str (Lib.cut s [c]).1), .pd (.str (Lib.cut s [c]).2.1), .pd (.bool (Lib.cut s [c]).2.2)], M, false)
  | _, _ => none

def orcJ (l : List PD) (sep : List UInt8) (M : Mem) : Option (AV × Mem × Bool) :=
  match strsOf l with
  | some r => if Nat.blt r.length 1000 && Nat.blt (Lib.join r sep).length 1000 then some (.pd (.str (Lib.join r sep)), M, false) else none
  | none => none

/-- The library's functions on texts. -/
def orcS (g : FuncId) (args : List AV) (M : Mem) : Option (AV × Mem × Bool) :=
  match g, args with
  | 107, [.pd (.str s), .pd (.str sep)] => orcSplit s sep M
  | 65, [.pd (.str s), .pd (.str sep)] => orcCut s sep M
  | 108, [.pd (.str s)] => if Nat.blt s.length 1000 && s.all (fun b => Nat.blt b.toNat 128) then some (.pd (.sl ((Lib.fields s).map PD.str)), M, false) else none
  | 105, [.pd (.sl l), .pd (.str sep)] => orcJ l sep M
  | 105, [.fixed l, .pd (.str sep)] => orcJ l sep M
  | _, _ => none

theorem told_ok {GT : Tabs} {f : FuncId} {args : List AV} {x : AV} {M : Mem} (he : Enters Tryz.prog f) (h : ASpec Tryz.prog GT f (args.map wk) (· = x)) (hp : (args.map wk).all pur2 = true) : CallOK Tryz.prog GT f args M (x, M, false) :=
  ⟨he, ACall.wk (h.atM (fun x hx => pur2_pure (List.all_eq_true.1 hp x hx)) M) rfl, fun _ => rfl⟩

theorem orcS_ok (m : Tp) (f : FuncId) (args : List AV) (M : Mem) (z : AV × Mem × Bool) (h : orcS f args M = some z) : CallOK Tryz.prog (gtT m) f args M z := by
  unfold orcS at h
  split at h
  · rename_i s sep
    unfold orcSplit at h
    split at h
    · rename_i c hl
      cases h
      refine told_ok (hasT 107 (by kernel_rfl)) (strings_Split_ok m s [c] ⟨?_, c, rfl, rfl⟩) rfl
      simp at hl; unfold Short; omega
    · cases h
  · rename_i s sep
    unfold orcCut at h
    split at h
    · rename_i c hl
      cases h
      refine told_ok (hasT 65 (by kernel_rfl)) (strings_Cut_ok m s [c] ⟨?_, c, rfl, rfl⟩) rfl
      simp at hl; unfold Short; omega
    · cases h
  · rename_i s
    split at h
    · rename_i hl
      cases h
      simp only [Bool.and_eq_true, Nat.blt_eq, List.all_eq_true] at hl
      refine told_ok (hasT 108 (by kernel_rfl)) (strings_Fields_ok m s ⟨?_, hl.2, rfl⟩) rfl
      unfold Short; omega
    · cases h
  · rename_i l sep
    unfold orcJ at h
    split at h
    · rename_i r hr
      split at h
      · rename_i hl
        cases h
        simp only [Bool.and_eq_true, Nat.blt_eq] at hl
        obtain rfl := strsOf_ok hr
        exact told_ok (hasT 105 (by kernel_rfl)) (strings_Join_ok m r sep ⟨by omega, by omega, rfl⟩) rfl
      · cases h
    · cases h
  · rename_i l sep
    unfold orcJ at h
    split at h
    · rename_i r hr
      split at h
      · rename_i hl
        cases h
        simp only [Bool.and_eq_true, Nat.blt_eq] at hl
        obtain rfl := strsOf_ok hr
        exact told_ok (hasT 105 (by kernel_rfl)) (strings_Join_ok m r sep ⟨by omega, by omega, rfl⟩) rfl
      · cases h
    · cases h
  · cases h

end Go.Abs
end
