/- Part of a proof, in few files: Abs24 GW Abs26 T29 BSd. -/
import Derived.Test.YthkcibhfbcfhlaaGreatDoorDChK12
import GoSem.Core.View
import GoSem.Core.Utf8
import Derived.KernelRfl
import Derived.Lib.LaidTab
import Derived.ProofKit
import Derived.OpenShut
import Derived.ShutString
import Derived.ChangeOld
import Derived.SizedLaws
import Derived.Deep.DeepHandedRow
import Derived.Lib.SplitLaws
import Derived.Lib.Fields
import Derived.Lib.Join
import Derived.Lib.IndexMore
import Derived.Lib.SlicesS

set_option linter.unusedVariables false
set_option linter.unusedSimpArgs false
set_option linter.unnecessarySimpa false
section
namespace Go.Abs
open Go.RowKit Go.Proofs
variable {P : Program} {GT : Tabs} {q : Op → Bool} {ro : Option Nat} {w : W}
def endVal (P : Program) (fn : Func) (s : S) : Option AV := (resOf P fn s.T (shut s.M s.D)).bind (pure3 (shut s.M s.D))
def EndQ (P : Program) (fn : Func) (R : AV → Prop) (e : Exit) (s : S) : Prop := endOk e = true ∧ ∃ r, endVal P fn s = some r ∧ R r
def fnW (P : Program) (GT : Tabs) (q : Op → Bool) (fn : Func) (args : List AV) (M : Mem) : W :=
 match fn.body with
 | some code => wc P GT q none code ⟨args ++ List.replicate (fn.ntmps - args.length) .junk, M, []⟩ .done
 | none => .fail
theorem ASpec_tree {f : FuncId} (fn : Func) {args : List AV} {R : AV → Prop} (hm : P.follows .mixedOrders = true) (q : Op → Bool) (hf : P.funcs[f]? = some fn) (h : (fnW P GT q fn args []).holds P GT (EndQ P fn R)) : ASpec P GT f args R := by
 unfold fnW at h
 split at h
 ·rename_i code hb
  refine ASpec_of_body hf hb ((AW_tree hm q h).mono ?_)
  rintro e s' ⟨he, r, hr, hR⟩
  refine ⟨by cases e <;> simp_all [endOk], ?_⟩
  simp only [endVal, Option.bind_eq_some_iff] at hr
  obtain ⟨r1, h1, h2⟩ := hr
  exact ⟨r1, r, h1, h2, hR⟩
 ·exact (W.holds_fail h).elim
theorem H_end {fn : Func} {R : AV → Prop} (e : Exit) (r : AV) (hv : w.view = .done e) (he : endOk e = true) (hr : endVal P fn w.stS = some r) (h : R r) : w.holds P GT (EndQ P fn R) := H_done (Q := EndQ P fn R) e hv ⟨he, r, hr, h⟩
def EndM (P : Program) (fn : Func) (n : Nat) (R : AV → Mem → Prop) (e : Exit) (s : S) : Prop := endOk e = true ∧ s.D.all (fun d => Nat.ble n d) = true ∧ ∃ r, resOf P fn s.T (shut s.M s.D) = some r ∧ R r (shut s.M s.D)
theorem ACall_tree {f : FuncId} (fn : Func) {args : List AV} {M : Mem} {R : AV → Mem → Prop} (hm : P.follows .mixedOrders = true) (q : Op → Bool) (hf : P.funcs[f]? = some fn) (h : (fnW P GT q fn args M).holds P GT (EndM P fn M.length R)) : ACall P GT f args M R := by
 unfold fnW at h
 split at h
 ·rename_i code hb
  refine ACall_of_body hf hb ((AW_tree hm q h).mono ?_)
  rintro e s' ⟨he, hd, r, hr, hR⟩
  simp only [List.all_eq_true] at hd
  exact ⟨by cases e <;> simp_all [endOk], fun d h => Nat.le_of_ble_eq_true (hd d h), r, hr, hR⟩
 ·exact (W.holds_fail h).elim
theorem H_endM {fn : Func} {n : Nat} {R : AV → Mem → Prop} (e : Exit) (r : AV) (M : Mem) (hv : w.view = .done e) (he : endOk e = true) (hd : w.stS.D.all (fun d => Nat.ble n d) = true) (hr : resOf P fn w.stS.T (shut w.stS.M w.stS.D) = some r) (hM : shut w.stS.M w.stS.D = M) (h : R r M) : w.holds P GT (EndM P fn n R) :=
 H_done e hv ⟨he, hd, r, hr, by rw [hM]; exact h⟩
def RndQ {α : Type} (P : Program) (GT : Tabs) (Q : Exit → S → Prop) (w : W) (n : Nat) (st : α → List (Nat × AV)) (mm : α → Mem) (D : List Nat) (J : α → Prop) (μ : α → Nat) (a : α) (e : Exit) (s' : S) : Prop :=
 match e with
 | .normal => ∃ a', J a' ∧ μ a' < μ a ∧ s'.T.length = n ∧ pickT s'.T ((st a').map (·.1)) = ((st a').map fun p => some p.2) ∧ s'.M = mm a' ∧ s'.D = D
 | e => (w.go e s').holds P GT Q
def W.isLoop : W → Bool | .loop .. => true | _ => false
def W.lx : W → Code | .loop _ x _ _ => x | _ => .skip
def W.lro : W → Option Nat | .loop ro _ _ _ => ro | _ => none
variable {α : Type} {Q : Exit → S → Prop} {w0 : W} {n : Nat} {st : α → List (Nat × AV)} {mm : α → Mem} {D : List Nat} {J : α → Prop} {μ : α → Nat} {a : α}
attribute [irreducible] W.isLoop W.lx W.lro fnW endVal EndQ EndM RndQ
end Go.Abs
namespace Go.Abs
open Go.RowKit Go.Proofs
variable {P : Program} {GT : Tabs} {w : W} {Q : Exit → S → Prop}
theorem H_callV {g : FuncId} {args : List AV} {M : Mem} (x : AV) (hv : w.view = .call g args M ∨ w.view = .dcall g args M) (hc : ACall P GT g args M fun r M' => r = x ∧ M' = M) (he : Enters P g) (h : (w.back x M).holds P GT Q) : w.holds P GT Q := by
 rcases hv with hv | hv
 ·exact H_call _ hv hc he fun r M' ⟨a, b⟩ => by rw [a, b]; exact h
 ·exact H_dcall x hv hc he h
theorem ASpec.atM {f : FuncId} {args : List AV} {x : AV} (h : ASpec P GT f args (· = x)) (hp : ∀ x, x ∈ args → x.pure = true) (M : Mem) : ACall P GT f args M fun r M' => r = x ∧ M' = M := (h.call hp M).mono fun r M' ⟨a, _, b⟩ => ⟨b, a⟩
def i64 (n : Int) : PD := .int .i64 n
def In64 (n : Int) : Prop := -9223372036854775808 ≤ n ∧ n ≤ 9223372036854775807
theorem wrap64 {n : Int} (h : In64 n) : IntKind.i64.wrap n = n := by
 obtain ⟨h1, h2⟩ := h
 simp [IntKind.wrap, IntKind.bits, IntKind.signed]; omega
theorem enters (hn : P.funcs.all (fun fn => !(fn.name == "runtime.NumGoroutine")) = true) {f : FuncId} (fn : Func) (c : Code) (hf : P.funcs[f]? = some fn) (hb : fn.body = some c) : Enters P f := by
 have hname : (fn.name == "runtime.NumGoroutine") = false := by
  have := Array.all_eq_true_iff_forall_mem.1 hn fn (Array.mem_of_getElem? hf)
  simpa using this
 exact enters_of hf hname hb
def hasBody (P : Program) (f : FuncId) : Bool := match P.funcs[f]? with | some fn => fn.body.isSome | none => false
theorem entersB (hn : P.funcs.all (fun fn => !(fn.name == "runtime.NumGoroutine")) = true) {f : FuncId} (h : hasBody P f = true) : Enters P f := by
 unfold hasBody at h
 split at h
 ·rename_i fn hf
  obtain ⟨c, hc⟩ := Option.isSome_iff_exists.1 h
  exact enters hn fn c hf hc
 ·cases h
end Go.Abs
end

section
namespace Go.Abs
def IfB (b : Bool) (A B : Prop) : Prop := (b = true → A) ∧ (b = false → B)
theorem IfB.t {b : Bool} {A B : Prop} (h : IfB b A B) (e : b = true) : A := h.1 e
theorem IfB.f {b : Bool} {A B : Prop} (h : IfB b A B) (e : b = false) : B := h.2 e
theorem IfB.intro {b : Bool} {A B : Prop} (h1 : b = true → A) (h2 : b = false → B) : IfB b A B := ⟨h1, h2⟩
@[simp] theorem IfB_true {A B : Prop} : IfB true A B ↔ A := ⟨fun h => h.1 rfl, fun h => ⟨fun _ => h, fun e => by cases e⟩⟩
@[simp] theorem IfB_false {A B : Prop} : IfB false A B ↔ B := ⟨fun h => h.2 rfl, fun h => ⟨fun e => (by cases e), fun _ => h⟩⟩
def Idx {α : Type} (l : List α) (z : Int) (x : α) : Prop := 0 ≤ z ∧ l[z.toNat]? = some x
theorem Idx.of {α : Type} {l : List α} {z : Int} (h0 : 0 ≤ z) (h : z.toNat < l.length) : Idx l z l[z.toNat] := ⟨h0, List.getElem?_eq_getElem h⟩
theorem Idx.nat {α : Type} {l : List α} {k : Nat} (h : k < l.length) : Idx l (k : Int) l[k] := ⟨Int.natCast_nonneg _, by simp [h]⟩
theorem Idx.lt {α : Type} {l : List α} {z : Int} {x : α} (h : Idx l z x) : z.toNat < l.length := (List.getElem?_eq_some_iff.1 h.2).1
theorem Idx.keep {α : Type} {l : List α} {z : Int} {x : α} (h : Idx l z x) (i : Nat) (y : α) : Idx (l.set i y) z (if i = z.toNat then y else x) := by
 refine ⟨h.1, ?_⟩
 have hlt := Idx.lt h
 by_cases e : i = z.toNat
 ·subst e; rw [if_pos rfl, List.getElem?_set_self hlt]
 ·rw [if_neg e, List.getElem?_set_ne e]; exact h.2
def sub {α : Type} (l : List α) (lo hi : Int) : List α := (l.drop lo.toNat).take (hi.toNat - lo.toNat)
def SubOk {α : Type} (l : List α) (lo hi : Int) : Prop := 0 ≤ lo ∧ lo ≤ hi ∧ hi ≤ (l.length : Int)
def bitO (k : IntKind) (a b : Int) : Int := k.wrap ((BitVec.ofInt k.bits a ||| BitVec.ofInt k.bits b).toNat)
def runeAt (s : List UInt8) (pos : Nat) : Int := ((Utf8.decode ⟨s.toArray⟩ pos).1 : Nat)
def runeLen (s : List UInt8) (pos : Nat) : Nat := (Utf8.decode ⟨s.toArray⟩ pos).2
def Fits (n by_ : Nat) : Prop := n * by_ ≤ 140737488355328
def LoopP {σ : Type} (F : (σ → Prop) → σ → Prop) (s : σ) : Prop := ∀ X : σ → Prop, (∀ s, F X s → X s) → X s
theorem LoopP.intro {σ : Type} {F : (σ → Prop) → σ → Prop} (J : σ → Prop) (μ : σ → Nat) {s0 : σ} (h0 : J s0) (h : ∀ (X : σ → Prop) (s : σ), J s → (∀ s', J s' → μ s' < μ s → X s') → F X s) : LoopP F s0 := by
 intro X hX
 have : ∀ n s, μ s = n → J s → X s := by
  intro n
  induction n using Nat.strongRecOn with
  | _ n ih =>
   intro s hs hJ
   exact hX s (h X s hJ fun s' hJ' hlt => ih _ (hs ▸ hlt) s' rfl hJ')
 exact this _ s0 rfl h0
end Go.Abs
end

section
namespace Go.Abs
open Go.RowKit Go.Proofs
variable {P : Program} {GT : Tabs}
def ctx0 (W : World) : Ctx := ⟨fun _ => 0, fun _ => 0, fun b => b < W.heap.size⟩
theorem sim0 (W : World) : Sim W.heap.size (ctx0 W).imm (ctx0 W) [] W :=
 ⟨fun i hi => absurd hi.lt (by simp), fun i j hi => absurd hi.lt (by simp), fun _ h => h, fun _ h _ => h, fun _ h => h, by simp, by simp, Nat.le_refl _⟩
theorem enter {f : FuncId} {args : List AV} {R : AV → Prop} (h : ASpec P GT f args R) {W : World} {vs : Array Value} (hG : GRep GT (ctx0 W) W) (hA : ArgsRep (ctx0 W) [] W vs args) :
  Calls P f vs W fun e W' => ∃ v r c', e = .returned v ∧ R r ∧ ARep c' [] W' v r ∧ Below W.heap.size W W' := by
 rw [← callsIn_wide (n := 0)]
 refine (h W.heap.size (ctx0 W).imm (ctx0 W) W vs 0 (sim0 W) hG hA).mono ?_
 rintro e W' ⟨v, r, M', c', rfl, ⟨rfl, _, hR⟩, hv, _, _, hs⟩
 exact ⟨v, r, c', rfl, hR, hv, hs.below⟩
theorem enter_true {f : FuncId} {args : List AV} (h : ASpec P GT f args (· = .pd (.bool true))) {W : World} {vs : Array Value} (hG : GRep GT (ctx0 W) W) (hA : ArgsRep (ctx0 W) [] W vs args) :
  Calls P f vs W fun e W' => e = .returned (.bool true) ∧ Below W.heap.size W W' := by
 refine (enter h hG hA).mono ?_
 rintro e W' ⟨v, r, c', rfl, rfl, hv, hb⟩
 refine ⟨?_, hb⟩
 cases hv with
 | pd v x hx => cases hx; rfl
theorem args_nil {c : Ctx} {M : Mem} {w : World} : ArgsRep c M w #[] [] := ⟨rfl, by simp⟩
theorem args_cons {c : Ctx} {M : Mem} {w : World} {v : Value} {x : AV} {vs : Array Value} {xs : List AV} (h : ARep c M w v x) (k : ArgsRep c M w vs xs) : ArgsRep c M w (#[v] ++ vs) (x :: xs) := by
 have : ArgsRep c M w #[v] [x] := by
  refine ⟨rfl, fun i u y q1 q2 => ?_⟩
  match i with
  | 0 => simp at q1 q2; subst q1; subst q2; exact h
  | i + 1 => simp at q1
 exact this.append k
theorem laid_tail {x : String × DataW Unit} {r : List (String × DataW Unit)} {W : World} (h : laidMet P (x :: r) W) : laidMet P r W := by
 obtain ⟨n, d⟩ := x
 obtain ⟨ps, ⟨g, t, cs, fuel, p, q, _, _, _, _, hr, rfl⟩, hn, hc⟩ := h
 exact ⟨q, hr, (List.nodup_append.1 hn).2.1, fun b off hm => hc b off (by simp [hm])⟩
theorem rd_of_tab {W : World} {name : String} {k : IntKind} {zs : List Int} {g : Nat} (h : Lib.TabIs P W name k zs) (hg : P.globalNamed name = some g) (hz : 0 < zs.length) : ARep (ctx0 W) [] W (.pointer (some ⟨g, 0, none⟩)) (.rd (zs.map (PD.int k))) ∧ (ctx0 W).imm g ∧ ∃ cs e z, W.heap[g]? = some (.cells cs e z) ∧ cs.size = (zs.map (PD.int k)).length := by
 have hv : ∃ cs e z, W.heap[g]? = some (.cells cs e z) ∧ cs.size = (zs.map (PD.int k)).length := by
  unfold Lib.TabIs World.var? at h
  rw [hg] at h
  simp only [Option.bind_some] at h
  split at h
  ·rename_i cs e z hb
   exact ⟨cs, e, z, hb, by cases h; simp⟩
  ·cases h
 refine ⟨?_, ?_, hv⟩
 rotate_left
 ·obtain ⟨cs, e, z, hb, _⟩ := hv
  exact (Array.getElem?_eq_some_iff.1 hb).1
 refine .rd _ _ (fun i => .int k (zs.getD i 0)) rfl (fun _ => ?_) (fun j hj => ?_) fun j y hy => ?_
 ·have := h.cell hg 0 hz
  show g < W.heap.size
  unfold World.cell? at this
  cases hb : W.heap[g]? with
  | none => simp [hb] at this
  | some o => exact (Array.getElem?_eq_some_iff.1 hb).1
 ·have := h.cell hg j (by simpa using hj)
  simpa using this
 ·simp only [List.getElem?_map, Option.map_eq_some_iff] at hy
  obtain ⟨n, hn, rfl⟩ := hy
  have : zs.getD j 0 = n := by simp [List.getD_eq_getElem?_getD, hn]
  simp only [this]; exact .int _ _
end Go.Abs
namespace Go.Abs
open Go.RowKit Go.Proofs
variable {P : Program} {GT : Tabs} {ro : Option Nat} {Q : Exit → S → Prop} {s : S} {w : W} {q : Op → Bool}
def LoopAW (P : Program) (GT : Tabs) (ro : Option Nat) (x : Code) (Q : Exit → S → Prop) (s : S) : Prop :=
 ∀ B I0 c a w, Rel GT B I0 c s a w → (∀ l, ro = some l → obj s.M l) → ∀ b kk cs, b.roundOf = (fen c ro).round →
  ∃ e a' w', Aft GT B I0 c s.M w Q e a' w' ∧ ArrivesIn (Machine.fenced P (fen c ro)) P (lone (b.atR a (.code x :: .inLoop x :: kk)) cs w) b kk cs e a' w'
theorem LoopAW.loop {x : Code} (h : LoopAW P GT ro x Q s) : AW P GT ro (.loop x) s Q := by
 intro B I0 c a w n hr ho b kk cs hro hb hroom
 obtain ⟨e, a', w', hq, harr⟩ := h B I0 c a w hr ho b kk cs hro
 exact ⟨e, a', w', hq, .of_steps (.one (fenced_calm hb hroom rfl) stepR_loop) harr⟩
theorem LoopAW.step {x : Code} (h : AW P GT ro x s (thn (LoopAW P GT ro x Q) Q)) : LoopAW P GT ro x Q s := by
 intro B I0 c a w hr ho b kk cs hro
 have n : Nat := 0
 have hroom' : ∀ m, (fen c ro).room m := fun m d hd => by cases ro <;> simp [fen, Fence.wide, Fence.inRound] at hd
 obtain ⟨e, a₁, w₁, hq, harr⟩ := h B I0 c a w n hr ho b (.inLoop x :: kk) cs hro (fen_fn _ _ _) (hroom' _)
 have pass : ∀ {e : Exit} {a₁ : Act} {w₁ : World}, Aft GT B I0 c s.M w (thn (LoopAW P GT ro x Q) Q) e a₁ w₁ → ArrivesIn (Machine.fenced P (fen c ro)) P (lone (b.atR a (.code x :: .inLoop x :: kk)) cs w) b (.inLoop x :: kk) cs e a₁ w₁ → e ≠ .normal →
   ∃ e a' w', Aft GT B I0 c s.M w Q e a' w' ∧ ArrivesIn (Machine.fenced P (fen c ro)) P (lone (b.atR a (.code x :: .inLoop x :: kk)) cs w) b kk cs e a' w' := by
  intro e a₁ w₁ hq harr hne
  cases e with
  | normal => exact absurd rfl hne
  | exit id => exact ⟨_, a₁, w₁, hq, .pass (x := .inLoop x) rfl (fun _ _ => .inl (by simp)) harr⟩
  | goto l => exact ⟨_, a₁, w₁, hq, .pass (x := .inLoop x) rfl (fun _ _ => .inl (by simp)) harr⟩
  | ret => exact ⟨_, a₁, w₁, hq, .pass (x := .inLoop x) rfl (fun _ _ => .inl (by simp)) harr⟩
  | panic ch => exact ⟨_, a₁, w₁, hq, .pass (x := .inLoop x) rfl (fun _ _ => .inl (by simp)) harr⟩
  | outgrown => exact ⟨_, a₁, w₁, hq, .pass (x := .inLoop x) rfl (fun _ _ => .inl (by simp)) harr⟩
 by_cases hne : e = .normal
 ·subst hne
  obtain ⟨s', c', hI', r, he, hs⟩ := hq
  have hf := fen_ext he ho
  obtain ⟨e₂, a₂, w₂, hq₂, harr₂⟩ := hI' B I0 c' a₁ w₁ r (fun l hl => he.obj l (ho l hl)) b kk cs (by rw [hf]; exact hro)
  rw [hf] at harr₂
  exact ⟨e₂, a₂, w₂, Aft.from he hs hq₂, .of_steps (StepsIn.trans harr (.one (fenced_calm (n := n) (fen_fn _ _ _) (hroom' _) rfl) stepR_inLoop)) harr₂⟩
 ·exact pass hq harr hne
theorem LoopAW.less {x : Code} {T T' : List AV} {M : Mem} {D : List Nat} (h : LoopAW P GT ro x Q ⟨T', M, D⟩) (hl : Less T T') : LoopAW P GT ro x Q ⟨T, M, D⟩ :=
 fun B I0 c a w hr ho => h B I0 c a w ⟨hr.sim, hr.glob, hr.tmps.less hl, hr.dfs⟩ ho
def wk1 : AV → AV
 | .fixed l => .pd (.sl l)
 | x => x
def wk : AV → AV
 | .fixed l => .pd (.sl l)
 | .agg l => .agg (l.map wk1)
 | x => x
theorem wk1_rep {c : Ctx} {M : Mem} {w : World} {v : Value} {x : AV} (h : ARep c M w v x) : ARep c M w v (wk1 x) := by
 cases h <;> first | exact .pd _ _ (by assumption) | (simp only [wk1]; constructor <;> assumption)
theorem wk_rep {c : Ctx} {M : Mem} {w : World} {v : Value} {x : AV} (h : ARep c M w v x) : ARep c M w v (wk x) := by
 cases x with
 | agg l =>
  cases h with
  | agg vs l hs h =>
   refine .agg vs _ (by simpa using hs) fun i v y h1 h2 => ?_
   rw [List.getElem?_map, Option.map_eq_some_iff] at h2
   obtain ⟨z, hz, rfl⟩ := h2
   exact wk1_rep (h i v z h1 hz)
 | _ => exact wk1_rep h
def LessW (T T' : List AV) : Prop := T'.length ≤ T.length ∧ ∀ (i : Nat) (x : AV), T'[i]? = some x → x = .junk ∨ (T[i]?).map wk = some x
theorem TRep.lessW {c : Ctx} {M : Mem} {w : World} {tmps : Array Value} {T T' : List AV} (h : TRep c M w tmps T) (hl : LessW T T') : TRep c M w tmps T' :=
 ⟨Nat.le_trans hl.1 h.1, fun i x hx => by
  rcases hl.2 i x hx with rfl | h'
  ·exact .junk _
  ·rw [Option.map_eq_some_iff] at h'
   obtain ⟨y, h1, rfl⟩ := h'
   exact wk_rep (h.2 i y h1)⟩
theorem AW.lessW {code : Code} {s : S} {T' : List AV} (h : AW P GT ro code ⟨T', s.M, s.D⟩ Q) (hl : LessW s.T T') : AW P GT ro code s Q := by
 obtain ⟨T, M, D⟩ := s
 exact fun B I0 c a w n hr ho => h B I0 c a w n ⟨hr.sim, hr.glob, hr.tmps.lessW hl, hr.dfs⟩ ho
theorem LoopAW.lessW {x : Code} {T T' : List AV} {M : Mem} {D : List Nat} (h : LoopAW P GT ro x Q ⟨T', M, D⟩) (hl : LessW T T') : LoopAW P GT ro x Q ⟨T, M, D⟩ :=
 fun B I0 c a w hr ho => h B I0 c a w ⟨hr.sim, hr.glob, hr.tmps.lessW hl, hr.dfs⟩ ho
def pickW (T : List AV) (l : List Nat) : List (Option AV) := l.map fun i => (T[i]?).map wk
theorem less_mkW {T : List AV} {n : Nat} {sp : List (Nat × AV)} (hn : T.length = n) (h : pickW T (sp.map (·.1)) = sp.map fun p => some p.2) : LessW T (mkT n sp) := by
 have h' : pickT (T.map wk) (sp.map (·.1)) = sp.map fun p => some p.2 := by
  rw [← h]; simp [pickT, pickW]
 obtain ⟨h1, h2⟩ := less_mk (T := T.map wk) (by simpa using hn) h'
 refine ⟨by simpa using h1, fun i x hx => ?_⟩
 rcases h2 i x hx with h | h
 ·exact .inl h
 ·right; simpa using h
structure CutTo (n : Nat) (s s2 : S) : Prop where
 T : LessW s.T s2.T
 bel : s2.T.all (bel3 n) = true
 len : n ≤ s.M.length
 M : s2.M = s.M.take n
 Mok : (s.M.take n).all (belO n) = true
 D : s2.D = s.D
 Dok : s.D.all (fun d => Nat.blt d n) = true
theorem CutTo.rel {B : Nat} {I0 : Nat → Prop} {c : Ctx} {a : Act} {w : World} {n : Nat} {s s2 : S} (h : CutTo n s s2) (r : Rel GT B I0 c s a w) : Rel GT B I0 c s2 a w := by
 obtain ⟨T, M, D⟩ := s
 obtain ⟨T2, M2, D2⟩ := s2
 obtain ⟨h1, h2, h3, h4, h5, h6, h7⟩ := h
 simp only at h1 h2 h3 h4 h5 h6 h7
 subst h4; subst h6
 obtain ⟨r1, r2, r3, r4⟩ := r
 refine ⟨r1.take h3 h5, r2, ?_, ?_⟩
 ·have := r3.lessW h1
  refine ⟨this.1, fun i x hx => ?_⟩
  exact bel3_ok (List.all_eq_true.1 h2 x (List.mem_of_getElem? hx)) _ _ _ _ (this.2 i x hx) h3
 ·refine ⟨r4.1, r4.2.1, fun d hd => ?_⟩
  have hlt : d < n := by simpa using List.all_eq_true.1 h7 d hd
  show (M.take n)[d]? = _
  rw [List.getElem?_take, if_pos hlt]; exact r4.2.2 d hd
theorem AW.cutQ {x : Code} {Q' : Exit → S → Prop} (h : AW P GT ro x s Q) (hq : ∀ e s', Q e s' → Q' e s' ∨ ∃ s2, CutTo s.M.length s' s2 ∧ Q' e s2) : AW P GT ro x s Q' := by
 intro B I0 c a w n hr ho
 refine wpIn_mono (h B I0 c a w n hr ho) ?_
 rintro e a' w' ⟨s', c', q, r, he, hs⟩
 rcases hq e s' q with h1 | ⟨s2, h1, h2⟩
 ·exact ⟨s', c', h1, r, he, hs⟩
 ·refine ⟨s2, c', h2, h1.rel r, ?_, hs⟩
  rw [h1.M]; exact he.cut
theorem AW.gpost {code : Code} {s : S} {Q' : Exit → S → Prop} (h : AW P GT ro code s Q') (hq : ∀ e s', Q' e s' → ∃ M1, GStep s'.M M1 ∧ Q e ⟨s'.T, M1, s'.D⟩) : AW P GT ro code s Q := by
 intro B I0 c a w n hr ho
 refine wpIn_mono (h B I0 c a w n hr ho) ?_
 rintro e a' w' ⟨s', c', q, r, he, hs⟩
 obtain ⟨M1, hg, hQ⟩ := hq e s' q
 obtain ⟨c2, g1, g2, g3⟩ := hg _ _ _ _ r.sim
 exact ⟨⟨s'.T, M1, s'.D⟩, c2, hQ, ⟨g1, r.glob.mono g3, r.tmps.mono g2 g3, r.dfs.mono g2⟩, he.trans g2, hs.trans g3⟩
def RndC {σ γ : Type} (P : Program) (GT : Tabs) (Q : Exit → S → Prop) (w : W) (n m : Nat) (st : σ → γ → List (Nat × AV)) (mm : σ → γ → Mem) (I : σ → γ → Prop) (D : List Nat) (X : σ → Prop) (e : Exit) (s' : S) : Prop :=
 match e with
 | .normal => ∃ a g, X a ∧ I a g ∧ s'.T.length = n ∧ pickW s'.T ((st a g).map (·.1)) = ((st a g).map fun p => some p.2) ∧ s'.D = D ∧
   (s'.M = mm a g ∨ (m ≤ s'.M.length ∧ s'.M.take m = mm a g ∧ (mm a g).all (belO m) = true ∧ (st a g).all (fun p => bel3 m p.2) = true ∧ D.all (fun d => Nat.blt d m) = true))
 | e => (w.go e s').holds P GT Q
def RndP {σ γ : Type} (P : Program) (GT : Tabs) (Q : Exit → S → Prop) (w : W) (n m : Nat) (st : σ → γ → List (Nat × AV)) (mm : σ → γ → Mem) (I : σ → γ → Prop) (D : List Nat) (X : σ → Prop) (e : Exit) (s' : S) : Prop :=
 ∃ M1, GStep s'.M M1 ∧ RndC P GT Q w n m st mm I D X e ⟨s'.T, M1, s'.D⟩
theorem mkT_all {n : Nat} {sp : List (Nat × AV)} {f : AV → Bool} (hj : f .junk = true) (h : sp.all (fun p => f p.2) = true) : (mkT n sp).all f = true := by
 have : ∀ (sp : List (Nat × AV)) (T : List AV), T.all f = true → sp.all (fun p => f p.2) = true → (sp.foldl (fun T p => T.set p.1 p.2) T).all f = true := by
  intro sp
  induction sp with
  | nil => intro T hT _; exact hT
  | cons p sp ih =>
   intro T hT hsp
   rw [List.all_cons, Bool.and_eq_true] at hsp
   rw [List.foldl_cons]
   refine ih _ ?_ hsp.2
   rw [List.all_eq_true] at hT ⊢
   intro y hy
   rcases List.mem_or_eq_of_mem_set hy with hy | rfl
   ·exact hT y hy
   ·exact hsp.1
 refine this sp _ ?_ h
 rw [List.all_eq_true]
 intro y hy
 rw [(List.mem_replicate.1 hy).2]; exact hj
theorem H_loopP {σ γ : Type} {F : (σ → Prop) → σ → Prop} {s0 : σ} (hF : LoopP F s0) (g0 : γ) (n m : Nat) (st : σ → γ → List (Nat × AV)) (mm : σ → γ → Mem) (I : σ → γ → Prop) (hI : I s0 g0) (D : List Nat) (hm : P.follows .mixedOrders = true) (q : Op → Bool)
  (hv : w.isLoop = true) (hn : w.stS.T.length = n) (hT : pickW w.stS.T ((st s0 g0).map (·.1)) = (st s0 g0).map fun p => some p.2) (hM : w.stS.M = mm s0 g0) (hD : w.stS.D = D) (hlen : ∀ s g, (mm s g).length = m)
  (h : ∀ (X : σ → Prop) s g, I s g → F X s → (wc P GT q w.lro w.lx ⟨mkT n (st s g), mm s g, D⟩ .done).holds P GT (RndP P GT Q w n m st mm I D X)) : w.holds P GT Q := by
 have hv' : w.view = .loop w.lro w.lx := by
  cases w <;> simp [W.isLoop] at hv
  simp [W.view, W.lro, W.lx]
 have key : ∀ g, I s0 g → LoopAW P GT w.lro w.lx (fun e s' => (w.go e s').holds P GT Q) ⟨mkT n (st s0 g), mm s0 g, D⟩ := by
  refine hF (fun s => ∀ g, I s g → LoopAW P GT w.lro w.lx (fun e s' => (w.go e s').holds P GT Q) ⟨mkT n (st s g), mm s g, D⟩) ?_
  intro s hs g hg
  refine LoopAW.step (((AW_tree hm q (h _ s g hg hs)).gpost (Q := RndC P GT Q w n m st mm I D fun s => ∀ g, I s g → LoopAW P GT w.lro w.lx (fun e s' => (w.go e s').holds P GT Q) ⟨mkT n (st s g), mm s g, D⟩) fun e s' hq => hq).cutQ ?_)
  intro e s' hq
  cases e with
  | normal =>
   obtain ⟨a, g', hX, hI', h1, h2, h3, h4⟩ := hq
   obtain ⟨T', M', D'⟩ := s'
   simp only at h1 h2 h3 h4
   subst h3
   rcases h4 with rfl | ⟨h4, h5, h6, h7, h8⟩
   ·left; exact LoopAW.lessW (hX g' hI') (less_mkW h1 h2)
   ·right
    refine ⟨⟨mkT n (st a g'), mm a g', D'⟩, ⟨less_mkW h1 h2, mkT_all rfl ?_, ?_, ?_, ?_, rfl, ?_⟩, hX g' hI'⟩
    ·rw [hlen]; exact h7
    ·rw [hlen]; exact h4
    ·rw [hlen]; exact h5.symm
    ·rw [hlen]; show (M'.take m).all (belO m) = true; rw [h5]; exact h6
    ·rw [hlen]; exact h8
  | _ => left; exact hq
 refine H_loopAW hv' (AW.lessW (T' := mkT n (st s0 g0)) ?_ (less_mkW hn hT))
 rw [hM, hD]
 exact (key g0 hI).loop
variable {σ γ : Type} {w0 : W} {n m : Nat} {st : σ → γ → List (Nat × AV)} {mm : σ → γ → Mem} {I : σ → γ → Prop} {D : List Nat} {X : σ → Prop}
theorem H_againP (a : σ) (g : γ) (hX : X a) (hI : I a g) (hv : w.view = .done .normal) (hn : w.stS.T.length = n) (hT : pickW w.stS.T ((st a g).map (·.1)) = (st a g).map fun p => some p.2) (hM : w.stS.M = mm a g) (hD : w.stS.D = D) : w.holds P GT (RndP P GT Q w0 n m st mm I D X) :=
 H_done .normal hv ⟨_, GStep.refl _, a, g, hX, hI, hn, hT, hD, .inl hM⟩
theorem H_againC (a : σ) (g : γ) (hX : X a) (hI : I a g) (hv : w.view = .done .normal) (hn : w.stS.T.length = n) (hT : pickW w.stS.T ((st a g).map (·.1)) = (st a g).map fun p => some p.2) (hD : w.stS.D = D) (hl : Nat.ble m w.stS.M.length = true) (hM : w.stS.M.take m = mm a g)
  (hb : (mm a g).all (belO m) = true) (hs : (st a g).all (fun p => bel3 m p.2) = true) (hd : D.all (fun d => Nat.blt d m) = true) : w.holds P GT (RndP P GT Q w0 n m st mm I D X) :=
 H_done .normal hv ⟨_, GStep.refl _, a, g, hX, hI, hn, hT, hD, .inr ⟨Nat.le_of_ble_eq_true hl, hM, hb, hs, hd⟩⟩
theorem H_leaveP (e : Exit) (hv : w.view = .done e) (hne : (match e with | .normal => false | _ => true) = true) (h : (w0.go e w.stS).holds P GT Q) : w.holds P GT (RndP P GT Q w0 n m st mm I D X) := by
 refine H_done e hv ⟨_, GStep.refl _, ?_⟩
 cases e with
 | normal => cases hne
 | _ => exact h
theorem H_gen (h : ∀ w', w' = w → w'.holds P GT Q) : w.holds P GT Q := h w rfl
theorem H_inl {g : FuncId} {args : List AV} {M : Mem} (fn : Func) (hm : P.follows .mixedOrders = true) (q : Op → Bool) (hv : w.view = .call g args M) (hf : P.funcs[g]? = some fn) (he : Enters P g)
  (h : (fnW P GT q fn args M).holds P GT (EndM P fn M.length fun r M' => (w.back r M').holds P GT Q)) : w.holds P GT Q :=
 H_call (fun r M' => (w.back r M').holds P GT Q) hv (ACall_tree fn hm q hf h) he fun _ _ h => h
theorem ACall.pureC {f : FuncId} {args : List AV} {M : Mem} {x : PD} (h : ACall P GT f args M fun r M' => ∃ b len ver, r = .own b len ver ∧ M.length ≤ b ∧ ownPD M' b len ver = some x ∧ M'.take M.length = M) (hM : M.all (belO M.length) = true) :
  ACall P GT f args M fun r M' => r = .pd x ∧ M' = M := by
 intro B I0 c w vs n h1 h2 h3
 refine (h B I0 c w vs n h1 h2 h3).mono ?_
 rintro e w' ⟨v, r, M', c', rfl, ⟨b, len, ver, rfl, hb, hx, hT⟩, q1, q2, q3, q4⟩
 have q3' := q3.cut
 rw [hT] at q3'
 have main : ∀ (c2 : Ctx) (M2 : Mem), Sim B I0 c2 M2 w' → M2.take M.length = M → M.length ≤ M2.length → Ext c M c2 M → Stp B c' w' c2 w' → PRep c2.imm w' v x →
   ∃ v_1 r M' c', Ending.returned v = .returned v_1 ∧ (r = .pd x ∧ M' = M) ∧ ARep c' M' w' v_1 r ∧ Sim B I0 c' M' w' ∧ Ext c M c' M' ∧ Stp B c w c' w' := by
  intro c2 M2 hS ht hl hE hs hp
  have := hS.take hl (by rw [ht]; exact hM)
  rw [ht] at this
  exact ⟨v, .pd x, M, c2, rfl, ⟨rfl, rfl⟩, .pd _ _ hp, this, hE, q4.trans hs⟩
 have hlen := q3.len
 unfold ownPD at hx
 split at hx
 ·rename_i l sz ver' z hMb
  obtain ⟨f1, f2, f3⟩ := q2.freeze hMb
  refine main (c'.freeze b) _ f1 ?_ (by simpa using hlen) (q3'.trans (Ext.grown _ _ _)) f3 ?_
  ·rw [List.take_set_of_le hb]; exact hT
  ·exact ownPD_ok q2 q1 (show ownPD M' b len ver = some x by unfold ownPD; rw [hMb]; exact hx) (fun _ h => .inl h) fun _ => .inr rfl
 ·rename_i sz ver' hMb
  refine main c' M' q2 hT hlen q3' (Stp.refl _ _ _) ?_
  refine ownPD_ok q2 q1 (show ownPD M' b len ver = some x by unfold ownPD; rw [hMb]; exact hx) (fun _ h => h) fun hr => ?_
  obtain ⟨o, ho, hov⟩ := hr
  rw [hMb] at ho; cases ho; cases hov
 ·cases hx
theorem H_dinlP {g : FuncId} {args : List AV} {M : Mem} (fn : Func) (x : PD) (hm : P.follows .mixedOrders = true) (q : Op → Bool) (hv : w.view = .dcall g args M) (hf : P.funcs[g]? = some fn) (he : Enters P g) (hM : M.all (belO M.length) = true)
  (hc : (fnW P GT q fn args M).holds P GT (EndM P fn M.length fun r M' => ∃ b len ver, r = .own b len ver ∧ M.length ≤ b ∧ ownPD M' b len ver = some x ∧ M'.take M.length = M)) (h : (w.back (.pd x) M).holds P GT Q) : w.holds P GT Q :=
 H_dcall (.pd x) hv (ACall.pureC (ACall_tree fn hm q hf hc) hM) he h
theorem wk_args {c : Ctx} {M : Mem} {w : World} {vs : Array Value} {xs : List AV} (h : ArgsRep c M w vs xs) : ArgsRep c M w vs (xs.map wk) := by
 refine ⟨by simp [h.1], fun i v x h1 h2 => ?_⟩
 simp only [List.getElem?_map, Option.map_eq_some_iff] at h2
 obtain ⟨y, h2, rfl⟩ := h2
 exact wk_rep (h.2 i v y h1 h2)
theorem ACall.wk {f : FuncId} {args args' : List AV} {M : Mem} {R : AV → Mem → Prop} (h : ACall P GT f args' M R) (e : args.map wk = args') : ACall P GT f args M R :=
 fun B I0 c w vs n h1 h2 h3 => h B I0 c w vs n h1 h2 (e ▸ wk_args h3)
theorem ACall.frz1 {f : FuncId} (pre post : List AV) (b len ver : Nat) {M : Mem} {x : PD} {R : AV → Mem → Prop} (hx : ownPD M b len ver = some x) (h : ACall P GT f (pre ++ .pd x :: post) (frz M b) R) : ACall P GT f (pre ++ .own b len ver :: post) M R := by
 intro B I0 c w vs n hS hG hA
 have hlt : pre.length < vs.size := by rw [hA.1]; simp
 have hv : ARep c M w vs[pre.length] (.own b len ver) := hA.2 pre.length _ _ (Array.getElem?_eq_getElem hlt) (by simp)
 have main : ∀ (c' : Ctx) (M' : Mem), Sim B I0 c' M' w → Ext c M c' M' → Stp B c w c' w → PRep c'.imm w vs[pre.length] x → M' = frz M b →
   CallsIn Fence.wide n P f vs w fun e w' => ∃ v r M' c', e = .returned v ∧ R r M' ∧ ARep c' M' w' v r ∧ Sim B I0 c' M' w' ∧ Ext c M c' M' ∧ Stp B c w c' w' := by
  intro c' M' hS' hE hs hp e
  subst e
  refine (h B I0 c' w vs n hS' (hG.mono hs) ⟨by rw [hA.1]; simp, fun i v y h1 h2 => ?_⟩).mono ?_
  ·by_cases hi : i = pre.length
   ·subst hi
    simp at h2; subst h2
    rw [Array.getElem?_eq_getElem hlt] at h1; cases h1
    exact .pd _ _ hp
   ·refine (hA.2 i v y h1 ?_).mono hE.toExt0 hs
    rcases Nat.lt_or_ge i pre.length with hlt | hge
    ·rw [List.getElem?_append_left hlt] at h2 ⊢; exact h2
    ·rw [List.getElem?_append_right hge] at h2 ⊢
     obtain ⟨j, hj⟩ : ∃ j, i - pre.length = j + 1 := ⟨i - pre.length - 1, by omega⟩
     rw [hj] at h2 ⊢; simpa using h2
  ·rintro e w' ⟨v, r, M1, c1, q1, q2, q3, q4, q5, q6⟩
   exact ⟨v, r, M1, c1, q1, q2, q3, q4, hE.trans q5, hs.trans q6⟩
 unfold frz at main
 split at main
 ·rename_i l sz ver' z hM
  obtain ⟨q1, q2, q3⟩ := hS.freeze hM
  exact main _ _ q1 q2 q3 (ownPD_ok hS hv hx (fun _ h => .inl h) fun _ => .inr rfl) rfl
 ·rename_i hno
  refine main c M hS (Ext.refl _ _) (Stp.refl _ _ _) (ownPD_ok hS hv hx (fun _ h => h) fun hr => ?_) rfl
  unfold ownPD at hx
  split at hx
  ·rename_i l sz ver' z hM; exact absurd hM (hno _ _ _ _)
  ·rename_i sz ver' hM
   obtain ⟨o, ho, hov⟩ := hr
   rw [hM] at ho; cases ho; cases hov
  ·cases hx
theorem H_valW {g : FuncId} {args args' : List AV} {M : Mem} (x : AV) (hv : w.view = .call g args M ∨ w.view = .dcall g args M) (hk : args.map wk = args') (hc : ASpec P GT g args' (· = x)) (hp : args'.all pur2 = true) (he : Enters P g) (h : (w.back x M).holds P GT Q) : w.holds P GT Q :=
 H_callV x hv ((hc.atM (fun x hx => pur2_pure (List.all_eq_true.1 hp x hx)) M).wk hk) he h
theorem H_valWF {g : FuncId} {args args' : List AV} (x : AV) (hv : w.view = .dcallF g args) (hk : args.map wk = args') (hc : ASpec P GT g args' (· = x)) (hp : args'.all pur2 = true) (he : Enters P g) (h : (w.backF x).holds P GT Q) : w.holds P GT Q :=
 H_dcallF x hv (fun M => (hc.atM (fun x hx => pur2_pure (List.all_eq_true.1 hp x hx)) M).wk hk) he h
theorem H_valF {g : FuncId} {pre post args' : List AV} {M M1 : Mem} (b len ver : Nat) {x0 : PD} (x : AV) (hv : w.view = .call g (pre ++ .own b len ver :: post) M) (hx : ownPD M b len ver = some x0) (hM : frz M b = M1) (hk : (pre ++ .pd x0 :: post).map wk = args') (hc : ASpec P GT g args' (· = x)) (hp : args'.all pur2 = true) (he : Enters P g)
  (h : (w.back x M1).holds P GT Q) : w.holds P GT Q := by
 refine H_call (fun r M' => r = x ∧ M' = M1) hv (ACall.frz1 pre post b len ver hx ?_) he (by rintro r M' ⟨rfl, rfl⟩; exact h)
 rw [hM]
 exact (hc.atM (fun x hx => pur2_pure (List.all_eq_true.1 hp x hx)) M1).wk hk
def unown1 (M : Mem) : AV → Option AV
 | .own b n v => (ownPD M b n v).map .pd
 | x => some (wk1 x)
def unown (M : Mem) : AV → Option AV
 | .own b n v => (ownPD M b n v).map .pd
 | .agg l => (l.mapM (unown1 M)).map .agg
 | x => some (wk x)
theorem unown1_rep {c : Ctx} {M : Mem} {B : Nat} {I0 : Nat → Prop} {w : World} {v : Value} {a y : AV} (hS : Sim B I0 c M w) (ha : ARep c M w v a) (hy : unown1 M a = some y) (hp : y.pure = true) : ARep (c.still M) [] w v y := by
 cases a with
 | own b len ver =>
  simp only [unown1, Option.map_eq_some_iff] at hy
  obtain ⟨p, hpd, rfl⟩ := hy
  exact .pd _ _ (ownPD_ok hS ha hpd (fun _ h => .inl h) fun hr => .inr ⟨b, hr, rfl⟩)
 | _ =>
  simp only [unown1, Option.some.injEq] at hy
  subst hy
  exact (wk1_rep ha).pure hp (fun _ h => .inl h) (Kept.refl _ _)
def flat0 : AV → Bool
 | .pd (.int _ _) | .pd (.bool _) | .pd (.str _) | .pd (.flt _ _) | .pd (.err _) => true
 | _ => false
def flatR : AV → Bool
 | .tup l => l.all flat0
 | x => flat0 x
theorem flat0_rep {c c2 : Ctx} {M M2 : Mem} {w w2 : World} {v : Value} {x : AV} (h : ARep c M w v x) (hx : flat0 x = true) : ARep c2 M2 w2 v x := by
 cases h with
 | pd v x hp =>
  cases hp with
  | int k n => exact .pd _ _ (.int k n)
  | bool b => exact .pd _ _ (.bool b)
  | str s => exact .pd _ _ (.str s)
  | flt k b => exact .pd _ _ (.flt k b)
  | errN => exact .pd _ _ .errN
  | errS t v => exact .pd _ _ (.errS t v)
  | _ => cases hx
 | _ => cases hx
theorem flatR_rep {c c2 : Ctx} {M M2 : Mem} {w w2 : World} {v : Value} {x : AV} (h : ARep c M w v x) (hx : flatR x = true) : ARep c2 M2 w2 v x := by
 cases x with
 | tup l =>
  cases h with
  | tup vs l hs hr =>
   simp only [flatR, List.all_eq_true] at hx
   exact .tup vs l hs fun i v x h1 h2 => flat0_rep (hr i v x h1 h2) (hx x (List.mem_of_getElem? h2))
 | _ => exact flat0_rep h hx
theorem ACall.unown {f : FuncId} {args args' : List AV} {M : Mem} {x : AV} (h : ASpec P GT f args' (· = x)) (hk : args.mapM (unown M) = some args') (hp : args'.all pur2 = true) (hx : flatR x = true) : ACall P GT f args M fun r M' => r = x ∧ M' = M := by
 intro B I0 c w vs n hS hG hA
 have hs1 : Stp B c w (c.still M) w := ⟨Below.refl _ _, fun _ h => .inl h, Kept.refl _ _⟩
 have hS1 : Sim w.heap.size (c.still M).imm (c.still M) [] w := by
  refine ⟨fun i hi => absurd hi.lt (by simp), fun i j hi => absurd hi.lt (by simp), fun _ h => h, fun _ h _ => h, ?_, by simp, by simp, Nat.le_refl _⟩
  rintro b (hb | ⟨i, hi, rfl⟩)
  ·exact hS.immlt b hb
  ·exact hS.lt hi
 obtain ⟨m1, m2⟩ := mapM_some hk
 have hA' : ArgsRep (c.still M) [] w vs args' := by
  refine ⟨by rw [hA.1]; omega, fun i v y h1 h2 => ?_⟩
  have hlt := (List.getElem?_eq_some_iff.1 h2).1
  have hlt' : i < args.length := by omega
  obtain ⟨y', hy1, hy2⟩ := m2 i args[i] (List.getElem?_eq_getElem hlt')
  rw [h2] at hy1; cases hy1
  have ha := hA.2 i v _ h1 (List.getElem?_eq_getElem hlt')
  have hpy := pur2_pure (List.all_eq_true.1 hp y (List.mem_of_getElem? h2))
  generalize args[i] = a at hy2 ha
  cases a with
  | own b len ver =>
   simp only [Abs.unown, Option.map_eq_some_iff] at hy2
   obtain ⟨p, hpd, rfl⟩ := hy2
   exact .pd _ _ (ownPD_ok hS ha hpd (fun _ h => .inl h) fun hr => .inr ⟨b, hr, rfl⟩)
  | agg l =>
   simp only [Abs.unown, Option.map_eq_some_iff] at hy2
   obtain ⟨l', hl', rfl⟩ := hy2
   obtain ⟨n1, n2⟩ := mapM_some hl'
   cases ha with
   | agg us l hs hr =>
    refine .agg us _ (by omega) fun j u z q1 q2 => ?_
    have hj : j < l.length := by rw [← n1]; exact (List.getElem?_eq_some_iff.1 q2).1
    obtain ⟨z', g1, g2⟩ := n2 j l[j] (List.getElem?_eq_getElem hj)
    rw [q2] at g1; cases g1
    refine unown1_rep hS (hr j u _ q1 (List.getElem?_eq_getElem hj)) g2 ?_
    simp only [AV.pure, List.all_eq_true] at hpy
    exact hpy ⟨z, List.mem_of_getElem? q2⟩ (List.mem_attach _ _)
  | _ =>
   simp only [Abs.unown, Option.some.injEq] at hy2
   subst hy2
   exact (wk_rep ha).pure hpy (fun _ h => .inl h) (Kept.refl _ _)
 refine (h w.heap.size (c.still M).imm (c.still M) w vs n hS1 (hG.mono hs1) hA').mono ?_
 rintro e w' ⟨v, r, M', c', rfl, ⟨rfl, _, rfl⟩, h3, h4, h5, h6⟩
 exact ⟨v, r, M, c.grown w w', rfl, ⟨rfl, rfl⟩, flatR_rep h3 hx, hS.grown h6.below, Ext.grown _ _ _, Stp.grown hS.hB hS.immlt h6.below⟩
theorem H_valO {g : FuncId} {args args' : List AV} {M : Mem} (x : AV) (hv : w.view = .call g args M ∨ w.view = .dcall g args M) (hk : args.mapM (unown M) = some args') (hc : ASpec P GT g args' (· = x)) (hp : args'.all pur2 = true) (hx : flatR x = true) (he : Enters P g) (h : (w.back x M).holds P GT Q) : w.holds P GT Q :=
 H_callV x hv (ACall.unown hc hk hp hx) he h
theorem un_own {M : Mem} {b n v : Nat} {p : PD} (h : ownPD M b n v = some p) : unown M (.own b n v) = some (.pd p) := by simp [unown, h]
end Go.Abs
end

section
namespace Go.Abs
open Go
def splitC (c : UInt8) : List UInt8 → List Bz
 | [] => [[]]
 | b :: l => if b = c then [] :: splitC c l else match splitC c l with | x :: r => (b :: x) :: r | [] => [[b]]
theorem splitC_ne (c : UInt8) (l : List UInt8) : ∃ x r, splitC c l = x :: r := by
 induction l with
 | nil => exact ⟨[], [], rfl⟩
 | cons b l ih =>
  unfold splitC
  split
  ·exact ⟨_, _, rfl⟩
  ·obtain ⟨x, r, h⟩ := ih; rw [h]; exact ⟨_, _, rfl⟩
theorem index1_cons (b c : UInt8) (l : List UInt8) : Lib.index (b :: l) [c] = if b = c then 0 else if Lib.index l [c] == -1 then -1 else Lib.index l [c] + 1 := by
 rw [Lib.index]
 by_cases h : b = c
 ·subst h; simp [List.isPrefixOf]
 ·have : ([c] : List UInt8).isPrefixOf (b :: l) = false := by simp [List.isPrefixOf, Ne.symm h]
  rw [this, if_neg h]; simp
theorem split_one (c : UInt8) : ∀ s : List UInt8, Lib.splitK [c] 0 (s.count c) s = splitC c s
 | [] => by simp [Lib.splitK, splitC]
 | b :: l => by
  have ih := split_one c l
  by_cases h : b = c
  ·subst h
   have hi : Lib.index (b :: l) [b] = 0 := by rw [index1_cons, if_pos rfl]
   rw [List.count_cons_self, Lib.splitK, hi]
   simp [splitC, ih]
  ·rw [List.count_cons_of_ne (by simpa using h)]
   obtain ⟨x, r, hx⟩ := splitC_ne c l
   rw [splitC, if_neg h, hx]
   rw [hx] at ih
   have hi : Lib.index (b :: l) [c] = if Lib.index l [c] == -1 then -1 else Lib.index l [c] + 1 := by rw [index1_cons, if_neg h]
   have hge := Lib.index_ge l [c]
   cases hk : l.count c with
   | zero =>
    rw [hk] at ih
    simp [Lib.splitK] at ih ⊢
    exact ⟨ih.1, ih.2⟩
   | succ k =>
    rw [hk] at ih
    rw [Lib.splitK] at ih ⊢
    by_cases hm : Lib.index l [c] = -1
    ·rw [hm] at ih
     simp at ih
     rw [hi, hm]; simp [ih.1, ih.2]
    ·have e1 : (Lib.index l [c] == -1) = false := by simpa using hm
     have e2 : (Lib.index l [c] + 1 == -1) = false := by rw [beq_eq_false_iff_ne]; omega
     rw [hi, e1]
     rw [e1] at ih
     simp only [Bool.false_eq_true, if_false, e2] at ih ⊢
     have e3 : (Lib.index l [c] + 1).toNat = (Lib.index l [c]).toNat + 1 := by omega
     rw [e3]
     simp only [List.cons.injEq, Nat.add_zero, List.length_singleton] at ih ⊢
     rw [List.take_succ_cons, ih.1]
     refine ⟨rfl, ?_⟩
     rw [← ih.2]; simp
end Go.Abs
end

section
namespace Go.Abs
open Go
def Short (s : List UInt8) : Prop := s.length < 4294967281
def Ascii (s : List UInt8) : Prop := ∀ b, b ∈ s → b.toNat < 128
def strings_Split (s sep : List UInt8) (r : List Bz) : Prop := Short s ∧ ∃ c, sep = [c] ∧ r = splitC c s
def strings_Cut (s sep : List UInt8) (r : List UInt8 × List UInt8 × Bool) : Prop := Short s ∧ ∃ c, sep = [c] ∧ r = Lib.cut s [c]
def strings_Fields (s : List UInt8) (r : List Bz) : Prop := Short s ∧ Ascii s ∧ r = Lib.fields s
def strings_Join (l : List Bz) (sep : List UInt8) (r : List UInt8) : Prop := l.length ≤ 140737488355328 ∧ (Lib.join l sep).length ≤ 140737488355328 ∧ r = Lib.join l sep
def slices_Index_string_string (l : List Bz) (x : List UInt8) (r : Int) : Prop := l.length ≤ 140737488355328 ∧ r = Lib.idxOfS (l.map fun s => (⟨s.toArray⟩ : ByteArray)) ⟨x.toArray⟩
end Go.Abs
end
