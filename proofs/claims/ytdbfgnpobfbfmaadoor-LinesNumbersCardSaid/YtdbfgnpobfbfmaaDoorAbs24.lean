/- Functions, walked as trees; texts' own small words. -/
import Derived.Test.YtdbfgnpobfbfmaaDoorAbs23
namespace Go.Abs
open Go.RowKit Go.Proofs
variable {P : Program} {GT : Tabs} {q : Op → Bool} {ro : Option Nat} {w : W}

def endVal (P : Program) (fn : Func) (s : S) : Option AV := (resOf P fn s.T (shut s.M s.D)).bind (pure3 (shut s.M s.D))

def EndQ (P : Program) (fn : Func) (R : AV → Prop) (e : Exit) (s : S) : Prop := endOk e = true ∧ ∃ r, endVal P fn s = some r ∧ R r

/-- The tree of a function's body. -/
def fnW (P : Program) (GT : Tabs) (q : Op → Bool) (fn : Func) (args : List AV) (M : Mem) : W :=
  match fn.body with
  | some code => wc P GT q none code ⟨args ++ List.replicate (fn.ntmps - args.length) .junk, M, []⟩ .done
  | none => .fail

theorem ASpec_tree {f : FuncId} (fn : Func) {args : List AV} {R : AV → Prop} (hm : P.follows .mixedOrders = true) (q : Op → Bool) (hf : P.funcs[f]? = some fn) (h : (fnW P GT q fn args []).holds P GT (EndQ P fn R)) : ASpec P GT f args R := by
  unfold fnW at h
  split at h
  · rename_i code hb
    refine ASpec_of_body hf hb ((AW_tree hm q h).mono ?_)
    rintro e s' ⟨he, r, hr, hR⟩
    refine ⟨by cases e <;> simp_all [endOk], ?_⟩
    simp only [endVal, Option.bind_eq_some_iff] at hr
    obtain ⟨r1, h1, h2⟩ := hr
    exact ⟨r1, r, h1, h2, hR⟩
  · exact (W.holds_fail h).elim

theorem H_end {fn : Func} {R : AV → Prop} (e : Exit) (r : AV) (hv : w.view = .done e) (he : endOk e = true) (hr : endVal P fn w.stS = some r) (h : R r) : w.holds P GT (EndQ P fn R) := H_done (Q := EndQ P fn R) e hv ⟨he, r, hr, h⟩

/-- The same with an own memory: what is left of it is told. -/
def EndM (P : Program) (fn : Func) (n : Nat) (R : AV → Mem → Prop) (e : Exit) (s : S) : Prop := endOk e = true ∧ s.D.all (fun d => Nat.ble n d) = true ∧ ∃ r, resOf P fn s.T (shut s.M s.D) = some r ∧ R r (shut s.M s.D)

theorem ACall_tree {f : FuncId} (fn : Func) {args : List AV} {M : Mem} {R : AV → Mem → Prop} (hm : P.follows .mixedOrders = true) (q : Op → Bool) (hf : P.funcs[f]? = some fn) (h : (fnW P GT q fn args M).holds P GT (EndM P fn M.length R)) : ACall P GT f args M R := by
  unfold fnW at h
  split at h
  · rename_i code hb
    refine ACall_of_body hf hb ((AW_tree hm q h).mono ?_)
    rintro e s' ⟨he, hd, r, hr, hR⟩
    simp only [List.all_eq_true] at hd
    exact ⟨by cases e <;> simp_all [endOk], fun d h => Nat.le_of_ble_eq_true (hd d h), r, hr, hR⟩
  · exact (W.holds_fail h).elim

theorem H_endM {fn : Func} {n : Nat} {R : AV → Mem → Prop} (e : Exit) (r : AV) (M : Mem) (hv : w.view = .done e) (he : endOk e = true) (hd : w.stS.D.all (fun d => Nat.ble n d) = true) (hr : resOf P fn w.stS.T (shut w.stS.M w.stS.D) = some r) (hM : shut w.stS.M w.stS.D = M) (h : R r M) : w.holds P GT (EndM P fn n R) :=
  H_done e hv ⟨he, hd, r, hr, by rw [hM]; exact h⟩

/-- What a round of a loop must come to. -/
def RndQ {α : Type} (P : Program) (GT : Tabs) (Q : Exit → S → Prop) (w : W) (n : Nat) (st : α → List (Nat × AV)) (mm : α → Mem) (D : List Nat) (J : α → Prop) (μ : α → Nat) (a : α) (e : Exit) (s' : S) : Prop :=
  match e with
  | .normal => ∃ a', J a' ∧ μ a' < μ a ∧ s'.T.length = n ∧ pickT s'.T ((st a').map (·.1)) = ((st a').map fun p => some p.2) ∧ s'.M = mm a' ∧ s'.D = D
  | e => (w.go e s').holds P GT Q

def W.isLoop : W → Bool | .loop .. => true | _ => false
def W.lx : W → Code | .loop _ x _ _ => x | _ => .skip
def W.lro : W → Option Nat | .loop ro _ _ _ => ro | _ => none

theorem H_loop2 {α : Type} {Q : Exit → S → Prop} (n : Nat) (st : α → List (Nat × AV)) (mm : α → Mem) (D : List Nat) (J : α → Prop) (μ : α → Nat) (a0 : α) (hm : P.follows .mixedOrders = true) (q : Op → Bool)
    (hv : w.isLoop = true) (hn : w.stS.T.length = n) (hT : pickT w.stS.T ((st a0).map (·.1)) = (st a0).map fun p => some p.2) (hM : w.stS.M = mm a0) (hD : w.stS.D = D) (h0 : J a0)
    (h : ∀ a, J a → (wc P GT q w.lro w.lx ⟨mkT n (st a), mm a, D⟩ .done).holds P GT (RndQ P GT Q w n st mm D J μ a)) : w.holds P GT Q := by
  have hv' : w.view = .loop w.lro w.lx := by
    cases w <;> simp [W.isLoop] at hv
    simp [W.view, W.lro, W.lx]
  exact H_loop n st mm D J μ a0 hm q hv' hn hT hM hD h0 h

variable {α : Type} {Q : Exit → S → Prop} {w0 : W} {n : Nat} {st : α → List (Nat × AV)} {mm : α → Mem} {D : List Nat} {J : α → Prop} {μ : α → Nat} {a : α}

/-- The round is at its end: once more. -/
theorem H_next (a' : α) (hv : w.view = .done .normal) (hJ : J a') (hμ : μ a' < μ a) (hn : w.stS.T.length = n) (hT : pickT w.stS.T ((st a').map (·.1)) = (st a').map fun p => some p.2) (hM : w.stS.M = mm a') (hD : w.stS.D = D) : w.holds P GT (RndQ P GT Q w0 n st mm D J μ a) :=
  H_done .normal hv ⟨a', hJ, hμ, hn, hT, hM, hD⟩

/-- The loop is left. -/
theorem H_leave (e : Exit) (hv : w.view = .done e) (hne : (match e with | .normal => false | _ => true) = true) (h : (w0.go e w.stS).holds P GT Q) : w.holds P GT (RndQ P GT Q w0 n st mm D J μ a) := by
  refine H_done e hv ?_
  cases e with
  | normal => cases hne
  | _ => exact h

/-! ### whole numbers -/
theorem wrap_id {k : IntKind} {n : Int} (h : k.min ≤ n ∧ n ≤ k.max) : k.wrap n = n := by
  cases k <;> simp only [IntKind.min, IntKind.max, IntKind.signed, IntKind.bits] at h <;> simp [IntKind.wrap, IntKind.bits, IntKind.signed] <;> (simp at h; omega)

attribute [irreducible] W.isLoop W.lx W.lro fnW endVal EndQ EndM RndQ

end Go.Abs

/- Answers that recur: yes and no from a call, whole numbers, rows of whole numbers. -/
namespace Go.Abs
set_option linter.unusedVariables false
set_option linter.unusedSimpArgs false
open Go.RowKit Go.Proofs
variable {P : Program} {GT : Tabs} {w : W} {Q : Exit → S → Prop}

/-- A call whose answer is told, and that leaves the own memory as it is. -/
theorem H_callV {g : FuncId} {args : List AV} {M : Mem} (x : AV) (hv : w.view = .call g args M ∨ w.view = .dcall g args M) (hc : ACall P GT g args M fun r M' => r = x ∧ M' = M) (he : Enters P g) (h : (w.back x M).holds P GT Q) : w.holds P GT Q := by
  rcases hv with hv | hv
  · exact H_call _ hv hc he fun r M' ⟨a, b⟩ => by rw [a, b]; exact h
  · exact H_dcall x hv hc he h

theorem H_callVB {g : FuncId} {args : List AV} {M : Mem} (b : Bool) (hv : w.view = .call g args M ∨ w.view = .dcall g args M) (hc : ACall P GT g args M fun r M' => r = .pd (.bool b) ∧ M' = M) (he : Enters P g)
    (h1 : b = true → (w.back (.pd (.bool true)) M).holds P GT Q) (h2 : b = false → (w.back (.pd (.bool false)) M).holds P GT Q) : w.holds P GT Q := by
  cases b
  · exact H_callV _ hv hc he (h2 rfl)
  · exact H_callV _ hv hc he (h1 rfl)

theorem ASpec.atM {f : FuncId} {args : List AV} {x : AV} (h : ASpec P GT f args (· = x)) (hp : ∀ x, x ∈ args → x.pure = true) (M : Mem) : ACall P GT f args M fun r M' => r = x ∧ M' = M := (h.call hp M).mono fun r M' ⟨a, _, b⟩ => ⟨b, a⟩

/-- A call that answers yes or no. -/
theorem H_valB {g : FuncId} {args : List AV} {M : Mem} (b : Bool) (hv : w.view = .call g args M ∨ w.view = .dcall g args M) (hc : ASpec P GT g args (· = .pd (.bool b))) (hp : ∀ x, x ∈ args → x.pure = true) (he : Enters P g)
    (h1 : b = true → (w.back (.pd (.bool true)) M).holds P GT Q) (h2 : b = false → (w.back (.pd (.bool false)) M).holds P GT Q) : w.holds P GT Q := by
  cases b
  · exact H_val _ hv hc hp he (h2 rfl)
  · exact H_val _ hv hc hp he (h1 rfl)

def i64 (n : Int) : PD := .int .i64 n
def ints (l : List Int) : PD := .sl (l.map i64)

/-- Whole numbers of 64 bits. -/
def In64 (n : Int) : Prop := -9223372036854775808 ≤ n ∧ n ≤ 9223372036854775807

theorem wrap64 {n : Int} (h : In64 n) : IntKind.i64.wrap n = n := by
  obtain ⟨h1, h2⟩ := h
  simp [IntKind.wrap, IntKind.bits, IntKind.signed]; omega

theorem ask_ints {ws : List Int} {i : Nat} (h : i < ws.length) {M : Mem} {t : TypeId} (e : TypeId) (hu : P.underlying t = some (.slice e)) (hs : szOf P e = some 1) :
    (aIndexAddr P M t (.pd (ints ws)) (.pd (i64 i))).map (·, M) = some (.rd [i64 ws[i]], M) := by
  have hi : idx (i : Int) (ws.map i64).length = some i := by simp [idx]; omega
  simp [aIndexAddr, hu, hs, ints, i64] at *
  simp [hi, h, PD.leaves, i64]

theorem ask_intsZ {ws : List Int} {z : Int} (h0 : 0 ≤ z) (h : z.toNat < ws.length) {M : Mem} {t : TypeId} (e : TypeId) (hu : P.underlying t = some (.slice e)) (hs : szOf P e = some 1) :
    (aIndexAddr P M t (.pd (ints ws)) (.pd (i64 z))).map (·, M) = some (.rd [i64 ws[z.toNat]], M) := by
  have e1 : z = ((z.toNat : Nat) : Int) := by omega
  have := ask_ints (P := P) h (M := M) e hu hs
  rw [← e1] at this; exact this

theorem ask_quo {M : Mem} {t : TypeId} {a b : Int} (hb : b ≠ 0) : (aBin P .quo t (.pd (i64 a)) (.pd (i64 b))).map (·, M) = some (.pd (i64 (IntKind.i64.wrap (a.tdiv b))), M) := by
  simp [aBin, i64, arithI, isShift, hb]

theorem ask_rem {M : Mem} {t : TypeId} {a b : Int} (hb : b ≠ 0) : (aBin P .rem t (.pd (i64 a)) (.pd (i64 b))).map (·, M) = some (.pd (i64 (a.tmod b)), M) := by
  simp [aBin, i64, arithI, isShift, hb]

/-- The round is at its end, once more: with what the slots hold told first, and then that it is what was to be. -/
theorem H_again {α : Type} {w0 : W} {n : Nat} {st : α → List (Nat × AV)} {mm : α → Mem} {D : List Nat} {J : α → Prop} {μ : α → Nat} {a : α} (a' : α) (vals : List AV) (hv : w.view = .done .normal) (hT : pickT w.stS.T ((st a').map (·.1)) = vals.map some) (hn : w.stS.T.length = n) (hM : w.stS.M = mm a') (hD : w.stS.D = D)
    (hJ : J a') (hμ : μ a' < μ a) (he : vals = (st a').map (·.2)) : w.holds P GT (RndQ P GT Q w0 n st mm D J μ a) :=
  H_next a' hv hJ hμ hn (by rw [hT, he]; simp) hM hD

theorem tdiv64 {n m : Int} (h : In64 n) (hm : 0 < m) : In64 (n.tdiv m) := by
  have := Int.natAbs_tdiv n m
  have h2 : (n.tdiv m).natAbs ≤ n.natAbs := by rw [this]; exact Nat.div_le_self _ _
  obtain ⟨h1, h3⟩ := h
  by_cases hn : 0 ≤ n
  · have : 0 ≤ n.tdiv m := Int.tdiv_nonneg hn (by omega)
    constructor <;> omega
  · have : n.tdiv m ≤ 0 := by
      have := Int.tdiv_nonneg (a := -n) (b := m) (by omega) (by omega)
      rw [Int.neg_tdiv] at this; omega
    constructor <;> omega

/-- As askOp, but quotients and remainders (by a number written out) are worked out. -/
def askIdx : Op → Bool
  | .indexAddr .. | .index .. | .slice .. | .makeSlice .. => true
  | .binOp op _ _ _ _ => match op with | .shl | .shr => true | _ => false
  | .call { callee := .builtin b, .. } => match b with | .append | .copy => true | _ => false
  | _ => false

theorem enters (hn : P.funcs.all (fun fn => !(fn.name == "runtime.NumGoroutine")) = true) {f : FuncId} (fn : Func) (c : Code) (hf : P.funcs[f]? = some fn) (hb : fn.body = some c) : Enters P f := by
  have hname : (fn.name == "runtime.NumGoroutine") = false := by
    have := Array.all_eq_true_iff_forall_mem.1 hn fn (Array.mem_of_getElem? hf)
    simpa using this
  exact enters_of hf hname hb

/-- A function that can be entered. -/
def hasBody (P : Program) (f : FuncId) : Bool := match P.funcs[f]? with | some fn => fn.body.isSome | none => false

theorem entersB (hn : P.funcs.all (fun fn => !(fn.name == "runtime.NumGoroutine")) = true) {f : FuncId} (h : hasBody P f = true) : Enters P f := by
  unfold hasBody at h
  split at h
  · rename_i fn hf
    obtain ⟨c, hc⟩ := Option.isSome_iff_exists.1 h
    exact enters hn fn c hf hc
  · cases h

end Go.Abs
