/- Part of a proof, in few files: Abs22. -/
import Derived.Test.YthkcibhfbcfhlaaGreatDoorDChK10

set_option linter.unusedVariables false
set_option linter.unusedSimpArgs false
set_option linter.unnecessarySimpa false
section
namespace Go.Abs
open Go.RowKit Go.Proofs
def two (b : Bool) (k : Bool → Prop) : Prop := (b = true → k true) ∧ (b = false → k false)
def Rnd (P : Program) (GT : Tabs) (l : Nat) (args : List AV) (M : Mem) (K : Bool → Mem → Prop) : Prop :=
 ∃ pe T ps asg bo df, M[l]? = some (.loop .ready pe T ps asg bo df) ∧ args.length = ps.size ∧
  AW P GT (some l) asg ⟨setAll T ps.toList args, M, []⟩ (thn (fun s1 => (loopSt s1.M l).map (·.1) = some .ready ∧ ∃ M1 pe1, (loopSt s1.M l).map (·.2) = some pe1 ∧ setLoop s1.M l .busy pe1 = some M1 ∧ AW P GT (some l) bo ⟨s1.T, M1, s1.D⟩ (rndQ l K)) fun _ _ => False)
variable {P : Program} {GT : Tabs} {ro : Option Nat}
theorem Rnd.yield {ops : Array Oper} {o : Oper} {rest : List Oper} {f : Operand} {args : Array Operand} {ts : Array TypeId} {l : Nat} {s : S} {Q : Exit → S → Prop} (hg : aGuard ops s.T o = some true) (ho : o.op = .call { callee := .value f, args := args, argTypes := ts })
  (hf : aev GT s.T f = .yld l) (h : Rnd P GT l (args.toList.map (aev GT s.T)) s.M fun b M' => AL P GT ro ops rest ⟨aput s.T o.dst (.pd (.bool b)), M', s.D⟩ Q) : AL P GT ro ops (o :: rest) s Q := by
 obtain ⟨pe, T, ps, asg, bo, df, h1, h2, h3⟩ := h
 exact AL_yield hg ho hf h1 (by simpa using h2) h3
theorem Rnd.mono {l : Nat} {args : List AV} {M : Mem} {K K' : Bool → Mem → Prop} (hk : ∀ b M, K b M → K' b M) (h : Rnd P GT l args M K) : Rnd P GT l args M K' := by
 obtain ⟨pe, T, ps, asg, bo, df, h1, h2, h3⟩ := h
 refine ⟨pe, T, ps, asg, bo, df, h1, h2, h3.mono ?_⟩
 intro e s' hq
 cases e with
 | normal =>
  obtain ⟨q1, M1, pe1, q2, q3, q4⟩ := hq
  refine ⟨q1, M1, pe1, q2, q3, q4.mono ?_⟩
  rintro e s2 ⟨st, pe, b, M', r1, r2, r3⟩
  exact ⟨st, pe, b, M', r1, r2, hk _ _ r3⟩
 | _ => exact hq
end Go.Abs
end
