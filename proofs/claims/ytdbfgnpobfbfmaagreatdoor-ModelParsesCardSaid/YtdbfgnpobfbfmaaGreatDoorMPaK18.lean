/- Part of a proof, in few files: Abs24. -/
import Derived.Test.YtdbfgnpobfbfmaaGreatDoorMPaK17

section
namespace Go.Abs
open Go.RowKit Go.Proofs
variable {P : Program} {GT : Tabs} {q : Op → Bool} {ro : Option Nat} {w : W}
def endVal (P : Program) (fn : Func) (s : S) : Option AV := (resOf P fn s.T (shut s.M s.D)).bind (pure3 (shut s.M s.D))
def EndQ (P : Program) (fn : Func) (R : AV → Prop) (e : Exit) (s : S) : Prop := endOk e = true ∧ ∃ r, endVal P fn s = some r ∧ R r
def fnW (P : Program) (GT : Tabs) (q : Op → Bool) (fn : Func) (args : List AV) (M : Mem) : W :=
  match fn.body with
  | some code => wc P GT q none code ⟨args ++ List.replicate (fn.ntmps - args.length) .junk, M, []⟩ .done
  | none => .fail
theorem ASpec_tree {f : FuncId} (fn : Func) {args : List AV} {R : AV → Prop} (hm : P.follows .mixedOrders = true) (q : Op → Bool) (hf : P.funcs[f]? = some fn) (h : (fnW P GT q fn args []).holds P GT (EndQ P fn R)) : ASpec P GT f args R := by
  unfold fnW at h
  split at h
  · rename_i code hb
    refine ASpec_of_body hf hb ((AW_tree hm q h).mono ?_)
    rintro e s' ⟨he, r, hr, hR⟩
    refine ⟨by cases e <;> simp_all [endOk], ?_⟩
    simp only [endVal, Option.bind_eq_some_iff] at hr
    obtain ⟨r1, h1, h2⟩ := hr
    exact ⟨r1, r, h1, h2, hR⟩
  · exact (W.holds_fail h).elim
theorem H_end {fn : Func} {R : AV → Prop} (e : Exit) (r : AV) (hv : w.view = .done e) (he : endOk e = true) (hr : endVal P fn w.stS = some r) (h : R r) : w.holds P GT (EndQ P fn R) := H_done (Q := EndQ P fn R) e hv ⟨he, r, hr, h⟩
def EndM (P : Program) (fn : Func) (n : Nat) (R : AV → Mem → Prop) (e : Exit) (s : S) : Prop := endOk e = true ∧ s.D.all (fun d => Nat.ble n d) = true ∧ ∃ r, resOf P fn s.T (shut s.M s.D) = some r ∧ R r (shut s.M s.D)
theorem ACall_tree {f : FuncId} (fn : Func) {args : List AV} {M : Mem} {R : AV → Mem → Prop} (hm : P.follows .mixedOrders = true) (q : Op → Bool) (hf : P.funcs[f]? = some fn) (h : (fnW P GT q fn args M).holds P GT (EndM P fn M.length R)) : ACall P GT f args M R := by
  unfold fnW at h
  split at h
  · rename_i code hb
    refine ACall_of_body hf hb ((AW_tree hm q h).mono ?_)
    rintro e s' ⟨he, hd, r, hr, hR⟩
    simp only [List.all_eq_true] at hd
    exact ⟨by cases e <;> simp_all [endOk], fun d h => Nat.le_of_ble_eq_true (hd d h), r, hr, hR⟩
  · exact (W.holds_fail h).elim
theorem H_endM {fn : Func} {n : Nat} {R : AV → Mem → Prop} (e : Exit) (r : AV) (M : Mem) (hv : w.view = .done e) (he : endOk e = true) (hd : w.stS.D.all (fun d => Nat.ble n d) = true) (hr : resOf P fn w.stS.T (shut w.stS.M w.stS.D) = some r) (hM : shut w.stS.M w.stS.D = M) (h : R r M) : w.holds P GT (EndM P fn n R) :=
  H_done e hv ⟨he, hd, r, hr, by rw [hM]; exact h⟩
def RndQ {α : Type} (P : Program) (GT : Tabs) (Q : Exit → S → Prop) (w : W) (n : Nat) (st : α → List (Nat × AV)) (mm : α → Mem) (D : List Nat) (J : α → Prop) (μ : α → Nat) (a : α) (e : Exit) (s' : S) : Prop :=
  match e with
  | .normal => ∃ a', J a' ∧ μ a' < μ a ∧ s'.T.length = n ∧ pickT s'.T ((st a').map (·.1)) = ((st a').map fun p => some p.2) ∧ s'.M = mm a' ∧ s'.D = D
  | e => (w.go e s').holds P GT Q
def W.isLoop : W → Bool | .loop .. => true | _ => false
def W.lx : W → Code | .loop _ x _ _ => x | _ => .skip
def W.lro : W → Option Nat | .loop ro _ _ _ => ro | _ => none
variable {α : Type} {Q : Exit → S → Prop} {w0 : W} {n : Nat} {st : α → List (Nat × AV)} {mm : α → Mem} {D : List Nat} {J : α → Prop} {μ : α → Nat} {a : α}
attribute [irreducible] W.isLoop W.lx W.lro fnW endVal EndQ EndM RndQ
end Go.Abs
namespace Go.Abs
set_option linter.unusedVariables false
set_option linter.unusedSimpArgs false
open Go.RowKit Go.Proofs
variable {P : Program} {GT : Tabs} {w : W} {Q : Exit → S → Prop}
theorem H_callV {g : FuncId} {args : List AV} {M : Mem} (x : AV) (hv : w.view = .call g args M ∨ w.view = .dcall g args M) (hc : ACall P GT g args M fun r M' => r = x ∧ M' = M) (he : Enters P g) (h : (w.back x M).holds P GT Q) : w.holds P GT Q := by
  rcases hv with hv | hv
  · exact H_call _ hv hc he fun r M' ⟨a, b⟩ => by rw [a, b]; exact h
  · exact H_dcall x hv hc he h
theorem ASpec.atM {f : FuncId} {args : List AV} {x : AV} (h : ASpec P GT f args (· = x)) (hp : ∀ x, x ∈ args → x.pure = true) (M : Mem) : ACall P GT f args M fun r M' => r = x ∧ M' = M := (h.call hp M).mono fun r M' ⟨a, _, b⟩ => ⟨b, a⟩
def i64 (n : Int) : PD := .int .i64 n
def In64 (n : Int) : Prop := -9223372036854775808 ≤ n ∧ n ≤ 9223372036854775807
theorem wrap64 {n : Int} (h : In64 n) : IntKind.i64.wrap n = n := by
  obtain ⟨h1, h2⟩ := h
  simp [IntKind.wrap, IntKind.bits, IntKind.signed]; omega
theorem enters (hn : P.funcs.all (fun fn => !(fn.name == "runtime.NumGoroutine")) = true) {f : FuncId} (fn : Func) (c : Code) (hf : P.funcs[f]? = some fn) (hb : fn.body = some c) : Enters P f := by
  have hname : (fn.name == "runtime.NumGoroutine") = false := by
    have := Array.all_eq_true_iff_forall_mem.1 hn fn (Array.mem_of_getElem? hf)
    simpa using this
  exact enters_of hf hname hb
def hasBody (P : Program) (f : FuncId) : Bool := match P.funcs[f]? with | some fn => fn.body.isSome | none => false
theorem entersB (hn : P.funcs.all (fun fn => !(fn.name == "runtime.NumGoroutine")) = true) {f : FuncId} (h : hasBody P f = true) : Enters P f := by
  unfold hasBody at h
  split at h
  · rename_i fn hf
    obtain ⟨c, hc⟩ := Option.isSome_iff_exists.1 h
    exact enters hn fn c hf hc
  · cases h
end Go.Abs
end
