/- Functions, walked as trees; texts' own small words. -/
import Derived.Test.YtibeobmcanaedaaDoorAbs23
namespace Go.Abs
open Go.RowKit Go.Proofs
variable {P : Program} {GT : Tabs} {q : Op → Bool} {ro : Option Nat} {w : W}

def endVal (P : Program) (fn : Func) (s : S) : Option AV := (resOf P fn s.T (shut s.M s.D)).bind (pure3 (shut s.M s.D))

def EndQ (P : Program) (fn : Func) (R : AV → Prop) (e : Exit) (s : S) : Prop := endOk e = true ∧ ∃ r, endVal P fn s = some r ∧ R r

/-- The tree of a function's body. -/
def fnW (P : Program) (GT : Tabs) (q : Op → Bool) (fn : Func) (args : List AV) (M : Mem) : W :=
  match fn.body with
  | some code => wc P GT q none code ⟨args ++ List.replicate (fn.ntmps - args.length) .junk, M, []⟩ .done
  | none => .fail

theorem ASpec_tree {f : FuncId} (fn : Func) {args : List AV} {R : AV → Prop} (hm : P.follows .mixedOrders = true) (q : Op → Bool) (hf : P.funcs[f]? = some fn) (h : (fnW P GT q fn args []).holds P GT (EndQ P fn R)) : ASpec P GT f args R := by
  unfold fnW at h
  split at h
  · rename_i code hb
    refine ASpec_of_body hf hb ((AW_tree hm q h).mono ?_)
    rintro e s' ⟨he, r, hr, hR⟩
    refine ⟨by cases e <;> simp_all [endOk], ?_⟩
    simp only [endVal, Option.bind_eq_some_iff] at hr
    obtain ⟨r1, h1, h2⟩ := hr
    exact ⟨r1, r, h1, h2, hR⟩
  · exact (W.holds_fail h).elim

theorem H_end {fn : Func} {R : AV → Prop} (e : Exit) (r : AV) (hv : w.view = .done e) (he : endOk e = true) (hr : endVal P fn w.stS = some r) (h : R r) : w.holds P GT (EndQ P fn R) := H_done (Q := EndQ P fn R) e hv ⟨he, r, hr, h⟩

/-- The same with an own memory: what is left of it is told. -/
def EndM (P : Program) (fn : Func) (n : Nat) (R : AV → Mem → Prop) (e : Exit) (s : S) : Prop := endOk e = true ∧ s.D.all (fun d => Nat.ble n d) = true ∧ ∃ r, resOf P fn s.T (shut s.M s.D) = some r ∧ R r (shut s.M s.D)

theorem ACall_tree {f : FuncId} (fn : Func) {args : List AV} {M : Mem} {R : AV → Mem → Prop} (hm : P.follows .mixedOrders = true) (q : Op → Bool) (hf : P.funcs[f]? = some fn) (h : (fnW P GT q fn args M).holds P GT (EndM P fn M.length R)) : ACall P GT f args M R := by
  unfold fnW at h
  split at h
  · rename_i code hb
    refine ACall_of_body hf hb ((AW_tree hm q h).mono ?_)
    rintro e s' ⟨he, hd, r, hr, hR⟩
    simp only [List.all_eq_true] at hd
    exact ⟨by cases e <;> simp_all [endOk], fun d h => Nat.le_of_ble_eq_true (hd d h), r, hr, hR⟩
  · exact (W.holds_fail h).elim

theorem H_endM {fn : Func} {n : Nat} {R : AV → Mem → Prop} (e : Exit) (r : AV) (M : Mem) (hv : w.view = .done e) (he : endOk e = true) (hd : w.stS.D.all (fun d => Nat.ble n d) = true) (hr : resOf P fn w.stS.T (shut w.stS.M w.stS.D) = some r) (hM : shut w.stS.M w.stS.D = M) (h : R r M) : w.holds P GT (EndM P fn n R) :=
  H_done e hv ⟨he, hd, r, hr, by rw [hM]; exact h⟩

/-- What a round of a loop must come to. -/
def RndQ {α : Type} (P : Program) (GT : Tabs) (Q : Exit → S → Prop) (w : W) (n : Nat) (st : α → List (Nat × AV)) (mm : α → Mem) (D : List Nat) (J : α → Prop) (μ : α → Nat) (a : α) (e : Exit) (s' : S) : Prop :=
  match e with
  | .normal => ∃ a', J a' ∧ μ a' < μ a ∧ s'.T.length = n ∧ pickT s'.T ((st a').map (·.1)) = ((st a').map fun p => some p.2) ∧ s'.M = mm a' ∧ s'.D = D
  | e => (w.go e s').holds P GT Q

def W.isLoop : W → Bool | .loop .. => true | _ => false
def W.lx : W → Code | .loop _ x _ _ => x | _ => .skip
def W.lro : W → Option Nat | .loop ro _ _ _ => ro | _ => none

theorem H_loop2 {α : Type} {Q : Exit → S → Prop} (n : Nat) (st : α → List (Nat × AV)) (mm : α → Mem) (D : List Nat) (J : α → Prop) (μ : α → Nat) (a0 : α) (hm : P.follows .mixedOrders = true) (q : Op → Bool)
    (hv : w.isLoop = true) (hn : w.stS.T.length = n) (hT : pickT w.stS.T ((st a0).map (·.1)) = (st a0).map fun p => some p.2) (hM : w.stS.M = mm a0) (hD : w.stS.D = D) (h0 : J a0)
    (h : ∀ a, J a → (wc P GT q w.lro w.lx ⟨mkT n (st a), mm a, D⟩ .done).holds P GT (RndQ P GT Q w n st mm D J μ a)) : w.holds P GT Q := by
  have hv' : w.view = .loop w.lro w.lx := by
    cases w <;> simp [W.isLoop] at hv
    simp [W.view, W.lro, W.lx]
  exact H_loop n st mm D J μ a0 hm q hv' hn hT hM hD h0 h

variable {α : Type} {Q : Exit → S → Prop} {w0 : W} {n : Nat} {st : α → List (Nat × AV)} {mm : α → Mem} {D : List Nat} {J : α → Prop} {μ : α → Nat} {a : α}

/-- The round is at its end: once more. -/
theorem H_next (a' : α) (hv : w.view = .done .normal) (hJ : J a') (hμ : μ a' < μ a) (hn : w.stS.T.length = n) (hT : pickT w.stS.T ((st a').map (·.1)) = (st a').map fun p => some p.2) (hM : w.stS.M = mm a') (hD : w.stS.D = D) : w.holds P GT (RndQ P GT Q w0 n st mm D J μ a) :=
  H_done .normal hv ⟨a', hJ, hμ, hn, hT, hM, hD⟩

/-- The loop is left. -/
theorem H_leave (e : Exit) (hv : w.view = .done e) (hne : (match e with | .normal => false | _ => true) = true) (h : (w0.go e w.stS).holds P GT Q) : w.holds P GT (RndQ P GT Q w0 n st mm D J μ a) := by
  refine H_done e hv ?_
  cases e with
  | normal => cases hne
  | _ => exact h

/-! ### whole numbers -/
theorem wrap_id {k : IntKind} {n : Int} (h : k.min ≤ n ∧ n ≤ k.max) : k.wrap n = n := by
  cases k <;> simp only [IntKind.min, IntKind.max, IntKind.signed, IntKind.bits] at h <;> simp [IntKind.wrap, IntKind.bits, IntKind.signed] <;> (simp at h; omega)

attribute [irreducible] W.isLoop W.lx W.lro fnW endVal EndQ EndM RndQ

end Go.Abs
