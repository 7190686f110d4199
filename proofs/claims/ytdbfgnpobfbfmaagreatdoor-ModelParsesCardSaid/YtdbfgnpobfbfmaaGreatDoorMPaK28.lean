/- Part of a proof, in few files: RD. -/
import Derived.Test.YtdbfgnpobfbfmaaGreatDoorMPaK20
import Derived.Deep.Slices
import Derived.ChangeArms

section
namespace Go.Abs
open Go.ChangeShapes Go.WideShapes Go.Deep
set_option linter.unusedVariables false
inductive TS where
  | int (k : IntKind)
  | bool
  | str
  | sl (agg : Bool) (ls : List TS)
def elemP (agg : Bool) (xs : List PD) : PD := if agg then .agg xs else xs.headD (.bool false)
inductive Sh : TS → PD → Prop
  | int (k : IntKind) (z : Int) (h : (Lit.int k z).wf = true) : Sh (.int k) (.int k z)
  | bool (b : Bool) : Sh .bool (.bool b)
  | str (s : List UInt8) (h : s.length ≤ maxLen) : Sh .str (.str s)
  | sl (agg : Bool) (ls : List TS) (xss : List (List PD)) (hm : xss.length ≤ maxLen) (hn : ∀ xs, xs ∈ xss → xs.length = ls.length)
      (h : ∀ (i j : Nat) (xs : List PD) (u : TS) (z : PD), xss[i]? = some xs → ls[j]? = some u → xs[j]? = some z → Sh u z) : Sh (.sl agg ls) (.sl (xss.map (elemP agg)))
variable {H : Type} {enc : TypeId × Value → H} {P : Program} {w : World} {sp : Nat → Bool} {held : Bool}
abbrev Iw (w : World) : Nat → Prop := (ctx0 w).imm
def CellsSh (w : World) (ls : List TS) (cs : List Value) : Prop := cs.length = ls.length ∧ ∀ (i : Nat) (u : TS) (v : Value), ls[i]? = some u → cs[i]? = some v → ∃ y, Sh u y ∧ PRep (Iw w) w v y
theorem CellsSh.one {u : TS} {v : Value} {y : PD} (h1 : Sh u y) (h2 : PRep (Iw w) w v y) : CellsSh w [u] [v] := by
  refine ⟨rfl, fun i u' v' q1 q2 => ?_⟩
  cases i with
  | zero => simp at q1 q2; subst q1; subst q2; exact ⟨y, h1, h2⟩
  | succ i => simp at q1
end Go.Abs
end
