/- Answers that recur: yes and no from a call, whole numbers, rows of whole numbers. -/
import Derived.Test.YtibeobmcanaedaaDoorAbs24
namespace Go.Abs
set_option linter.unusedVariables false
set_option linter.unusedSimpArgs false
open Go.RowKit Go.Proofs
variable {P : Program} {GT : Tabs} {w : W} {Q : Exit → S → Prop}

/-- A call whose answer is told, and that leaves the own memory as it is. -/
theorem H_callV {g : FuncId} {args : List AV} {M : Mem} (x : AV) (hv : w.view = .call g args M ∨ w.view = .dcall g args M) (hc : ACall P GT g args M fun r M' => r = x ∧ M' = M) (he : Enters P g) (h : (w.back x M).holds P GT Q) : w.holds P GT Q := by
  rcases hv with hv | hv
  · exact H_call _ hv hc he fun r M' ⟨a, b⟩ => by rw [a, b]; exact h
  · exact H_dcall x hv hc he h

theorem H_callVB {g : FuncId} {args : List AV} {M : Mem} (b : Bool) (hv : w.view = .call g args M ∨ w.view = .dcall g args M) (hc : ACall P GT g args M fun r M' => r = .pd (.bool b) ∧ M' = M) (he : Enters P g)
    (h1 : b = true → (w.back (.pd (.bool true)) M).holds P GT Q) (h2 : b = false → (w.back (.pd (.bool false)) M).holds P GT Q) : w.holds P GT Q := by
  cases b
  · exact H_callV _ hv hc he (h2 rfl)
  · exact H_callV _ hv hc he (h1 rfl)

theorem ASpec.atM {f : FuncId} {args : List AV} {x : AV} (h : ASpec P GT f args (· = x)) (hp : ∀ x, x ∈ args → x.pure = true) (M : Mem) : ACall P GT f args M fun r M' => r = x ∧ M' = M := (h.call hp M).mono fun r M' ⟨a, _, b⟩ => ⟨b, a⟩

/-- A call that answers yes or no. -/
theorem H_valB {g : FuncId} {args : List AV} {M : Mem} (b : Bool) (hv : w.view = .call g args M ∨ w.view = .dcall g args M) (hc : ASpec P GT g args (· = .pd (.bool b))) (hp : ∀ x, x ∈ args → x.pure = true) (he : Enters P g)
    (h1 : b = true → (w.back (.pd (.bool true)) M).holds P GT Q) (h2 : b = false → (w.back (.pd (.bool false)) M).holds P GT Q) : w.holds P GT Q := by
  cases b
  · exact H_val _ hv hc hp he (h2 rfl)
  · exact H_val _ hv hc hp he (h1 rfl)

def i64 (n : Int) : PD := .int .i64 n
def ints (l : List Int) : PD := .sl (l.map i64)

/-- Whole numbers of 64 bits. -/
def In64 (n : Int) : Prop := -9223372036854775808 ≤ n ∧ n ≤ 9223372036854775807

theorem wrap64 {n : Int} (h : In64 n) : IntKind.i64.wrap n = n := by
  obtain ⟨h1, h2⟩ := h
  simp [IntKind.wrap, IntKind.bits, IntKind.signed]; omega

theorem ask_ints {ws : List Int} {i : Nat} (h : i < ws.length) {M : Mem} {t : TypeId} (e : TypeId) (hu : P.underlying t = some (.slice e)) (hs : szOf P e = some 1) :
    (aIndexAddr P M t (.pd (ints ws)) (.pd (i64 i))).map (·, M) = some (.rd [i64 ws[i]], M) := by
  have hi : idx (i : Int) (ws.map i64).length = some i := by simp [idx]; omega
  simp [aIndexAddr, hu, hs, ints, i64] at *
  simp [hi, h, PD.leaves, i64]

theorem ask_intsZ {ws : List Int} {z : Int} (h0 : 0 ≤ z) (h : z.toNat < ws.length) {M : Mem} {t : TypeId} (e : TypeId) (hu : P.underlying t = some (.slice e)) (hs : szOf P e = some 1) :
    (aIndexAddr P M t (.pd (ints ws)) (.pd (i64 z))).map (·, M) = some (.rd [i64 ws[z.toNat]], M) := by
  have e1 : z = ((z.toNat : Nat) : Int) := by omega
  have := ask_ints (P := P) h (M := M) e hu hs
  rw [← e1] at this; exact this

theorem ask_quo {M : Mem} {t : TypeId} {a b : Int} (hb : b ≠ 0) : (aBin P .quo t (.pd (i64 a)) (.pd (i64 b))).map (·, M) = some (.pd (i64 (IntKind.i64.wrap (a.tdiv b))), M) := by
  simp [aBin, i64, arithI, isShift, hb]

theorem ask_rem {M : Mem} {t : TypeId} {a b : Int} (hb : b ≠ 0) : (aBin P .rem t (.pd (i64 a)) (.pd (i64 b))).map (·, M) = some (.pd (i64 (a.tmod b)), M) := by
  simp [aBin, i64, arithI, isShift, hb]

/-- The round is at its end, once more: with what the slots hold told first, and then that it is what was to be. -/
theorem H_again {α : Type} {w0 : W} {n : Nat} {st : α → List (Nat × AV)} {mm : α → Mem} {D : List Nat} {J : α → Prop} {μ : α → Nat} {a : α} (a' : α) (vals : List AV) (hv : w.view = .done .normal) (hT : pickT w.stS.T ((st a').map (·.1)) = vals.map some) (hn : w.stS.T.length = n) (hM : w.stS.M = mm a') (hD : w.stS.D = D)
    (hJ : J a') (hμ : μ a' < μ a) (he : vals = (st a').map (·.2)) : w.holds P GT (RndQ P GT Q w0 n st mm D J μ a) :=
  H_next a' hv hJ hμ hn (by rw [hT, he]; simp) hM hD

theorem tdiv64 {n m : Int} (h : In64 n) (hm : 0 < m) : In64 (n.tdiv m) := by
  have := Int.natAbs_tdiv n m
  have h2 : (n.tdiv m).natAbs ≤ n.natAbs := by rw [this]; exact Nat.div_le_self _ _
  obtain ⟨h1, h3⟩ := h
  by_cases hn : 0 ≤ n
  · have : 0 ≤ n.tdiv m := Int.tdiv_nonneg hn (by omega)
    constructor <;> omega
  · have : n.tdiv m ≤ 0 := by
      have := Int.tdiv_nonneg (a := -n) (b := m) (by omega) (by omega)
      rw [Int.neg_tdiv] at this; omega
    constructor <;> omega

/-- As askOp, but quotients and remainders (by a number written out) are worked out. -/
def askIdx : Op → Bool
  | .indexAddr .. | .index .. | .slice .. | .makeSlice .. => true
  | .binOp op _ _ _ _ => match op with | .shl | .shr => true | _ => false
  | .call { callee := .builtin b, .. } => match b with | .append | .copy => true | _ => false
  | _ => false

theorem enters (hn : P.funcs.all (fun fn => !(fn.name == "runtime.NumGoroutine")) = true) {f : FuncId} (fn : Func) (c : Code) (hf : P.funcs[f]? = some fn) (hb : fn.body = some c) : Enters P f := by
  have hname : (fn.name == "runtime.NumGoroutine") = false := by
    have := Array.all_eq_true_iff_forall_mem.1 hn fn (Array.mem_of_getElem? hf)
    simpa using this
  exact enters_of hf hname hb

/-- A function that can be entered. -/
def hasBody (P : Program) (f : FuncId) : Bool := match P.funcs[f]? with | some fn => fn.body.isSome | none => false

theorem entersB (hn : P.funcs.all (fun fn => !(fn.name == "runtime.NumGoroutine")) = true) {f : FuncId} (h : hasBody P f = true) : Enters P f := by
  unfold hasBody at h
  split at h
  · rename_i fn hf
    obtain ⟨c, hc⟩ := Option.isSome_iff_exists.1 h
    exact enters hn fn c hf hc
  · cases h

end Go.Abs
