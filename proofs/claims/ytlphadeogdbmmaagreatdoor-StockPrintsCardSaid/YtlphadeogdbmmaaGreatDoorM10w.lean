/- Chapter 10: awake answers yes: run by the interpreter, with the library's functions told. -/
import Derived.Test.YtlphadeogdbmmaaGreatDoorMSw
import Derived.Test.YtlphadeogdbmmaaGreatDoorB10w
namespace Go.Abs
open Go.RowKit Go.Proofs
set_option maxRecDepth 100000

/-- A number's digits, so many at most. -/
def decF : Nat → Nat → List UInt8
  | 0, _ => []
  | f + 1, u => if Nat.blt u 10 then [UInt8.ofNat (48 + u)] else decF f (u / 10) ++ [UInt8.ofNat (48 + u % 10)]
theorem decF_eq : ∀ (f u : Nat), u < 10 ^ f → 0 < f → decF f u = Lib.decDigits u
  | 0, _, _, h => by omega
  | f + 1, u, h, _ => by
    unfold decF
    rw [Lib.decDigits]
    by_cases hu : u < 10
    · simp [hu]
    · have hf : 0 < f := by
        cases f with
        | zero => simp at h; omega
        | succ f => omega
      have : u / 10 < 10 ^ f := by
        rw [Nat.pow_succ] at h
        omega
      simp [hu, decF_eq f (u / 10) this hf]

def orcI (n : Int) (M : Mem) : Option (AV × Mem × Bool) :=
  match n with
  | .ofNat k => if Nat.blt k 1000000000 then some (.pd (.str (decF 9 k)), M, false) else none
  | _ => none
def orcA (s : List UInt8) (M : Mem) : Option (AV × Mem × Bool) :=
  match Nat.blt s.length 1000, Lib.atoiAll s with
  | true, .ok v => some (.tup [.pd (.int .i64 v), .pd (.err false)], M, false)
  | _, _ => none
def orcT (left : Bool) (s cs : List UInt8) (M : Mem) : Option (AV × Mem × Bool) :=
  if Nat.blt s.length 1000 && Nat.blt cs.length 1000 && cs.all (fun b => Nat.blt b.toNat 128) then some (.pd (.str (if left then Lib.trimLeftS s cs else Lib.trimS s cs)), M, false) else none

def orc10 (g : FuncId) (args : List AV) (M : Mem) : Option (AV × Mem × Bool) :=
  match orcS g args M with
  | some z => some z
  | none =>
    match g, args with
    | 23, [.pd (.int .i64 n)] => orcI n M
    | 40, [.pd (.str s)] => orcA s M
    | 41, [.pd (.str s), .pd (.str cs)] => orcT false s cs M
    | 42, [.pd (.str s), .pd (.str cs)] => orcT true s cs M
    | _, _ => none

theorem orc10_ok (m : Tp) (f : FuncId) (args : List AV) (M : Mem) (z : AV × Mem × Bool) (h : orc10 f args M = some z) : CallOK Tryz.prog (gtT m) f args M z := by
  unfold orc10 at h
  split at h
  · rename_i z' hz
    cases h
    exact orcS_ok m f args M _ hz
  · split at h
    · rename_i n _
      unfold orcI at h
      split at h
      · rename_i k _
        split at h
        · rename_i hk
          cases h
          simp only [Nat.blt_eq] at hk
          have e : Lib.itoa (Int.ofNat k) = decF 9 k := by
            rw [decF_eq 9 k (by omega) (by omega)]
            unfold Lib.itoa
            rw [if_neg (by simp)]
            rfl
          exact told_ok (hasT 23 (by kernel_rfl)) (strconv_Itoa_ok m (Int.ofNat k) ⟨by simp only [Int.ofNat_eq_natCast]; omega, by simp only [Int.ofNat_eq_natCast]; omega, e.symm⟩) rfl
        · cases h
      · cases h
    · rename_i s _
      unfold orcA at h
      split at h
      · rename_i v hl ha
        cases h
        simp only [Nat.blt_eq] at hl
        have := strconv_Atoi_ok m s (r := (v, false)) ⟨by omega, by rw [ha]⟩
        exact told_ok (hasT 40 (by kernel_rfl)) this rfl
      · cases h
    · rename_i s cs _
      unfold orcT at h
      split at h
      · rename_i hl
        cases h
        simp only [Bool.and_eq_true, Nat.blt_eq, List.all_eq_true] at hl
        exact told_ok (hasT 41 (by kernel_rfl)) (strings_Trim_ok m s cs ⟨by unfold Short; omega, by unfold Short; omega, hl.2, rfl⟩) rfl
      · cases h
    · rename_i s cs _
      unfold orcT at h
      split at h
      · rename_i hl
        cases h
        simp only [Bool.and_eq_true, Nat.blt_eq, List.all_eq_true] at hl
        exact told_ok (hasT 42 (by kernel_rfl)) (strings_TrimLeft_ok m s cs ⟨by unfold Short; omega, by unfold Short; omega, hl.2, rfl⟩) rfl
      · cases h
    · cases h

theorem awake_runs (m : Tp) : saysTrue Tryz.prog (gtT m) orc10 (fun _ => false) 400 5 [] = true := by kernel_rfl
theorem awakeT (m : Tp) : ASpec Tryz.prog (gtT m) 5 [] (· = .pd (.bool true)) := saysTrue_ok mixedT namesT (orc10_ok m) (awake_runs m)
theorem offcutlaw10_awake_ok (m : Tp) {r : Bool} (h : offcutlaw10_awake r) : ASpec Tryz.prog (gtT m) 5 [] (· = .pd (.bool r)) := by
  obtain rfl := h
  exact awakeT m

end Go.Abs
