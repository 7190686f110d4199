/- Part of a proof, in few files: Abs13. -/
import Derived.Test.YtdbfgnpobfbfmaaGreatDoorMPaK9
import Derived.Shelf.Abstract
import Derived.TacticsIn

section
namespace Go.Abs
open Go.RowKit Go.Proofs
variable {P : Program} {GT : Tabs} {ro : Option Nat} {Q : Exit → S → Prop} {s : S}
theorem lets_mono {Q Q' : Exit → Act → World → Prop} (h : ∀ e a w, Q e a w → Q' e a w) (hl : LetsOut Q) : LetsOut Q' := let ⟨a, w, q⟩ := hl; ⟨a, w, h _ _ _ q⟩
theorem wpIn_mono2 {F : Fence} {n : Nat} {o : Oper} {a : Act} {w : World} {K K' : Act → World → Prop} {Q Q' : Exit → Act → World → Prop} (h : ∀ a w, K a w → K' a w) (hq : ∀ e a w, Q e a w → Q' e a w)
    (hh : o.wpIn F n P a w K Q) : o.wpIn F n P a w K' Q' := by
  unfold Oper.wpIn at *
  refine ⟨hh.1, ?_⟩
  have hh := hh.2
  generalize (o.semAt F.round a.eval).run P w = r at *
  cases r with
  | ok x w' =>
    cases x <;> simp only [Oper.uponIn] at hh ⊢ <;>
      first
        | exact h _ _ hh
        | exact ⟨hh.1, CallsIn.mono hh.2 (fun e w'' he => by cases e <;> first | exact h _ _ he | exact hq _ _ _ he | exact lets_mono hq he)⟩
        | exact ⟨hh.1, RowsIn.mono hh.2 (fun _ _ he => h _ _ he)⟩
        | exact ⟨hh.1, RoundIn.mono hh.2 (fun e w'' he => by cases e <;> first | exact h _ _ he | exact hq _ _ _ he | exact lets_mono hq he)⟩
  | halt x w' => cases x <;> simp only [Oper.uponIn] at hh ⊢ <;> first | exact hh | exact hq _ _ _ hh
theorem wpListIn_mono2 {F : Fence} {n : Nat} {ops : Array Oper} {Q Q' : Exit → Act → World → Prop} (hq : ∀ e a w, Q e a w → Q' e a w) : ∀ (l : List Oper) (a : Act) (w : World), wpListIn F n P ops Q l a w → wpListIn F n P ops Q' l a w
  | [], a, w, h => hq _ _ _ h
  | o :: l, a, w, h => by
    unfold wpListIn at h ⊢
    split
    · rename_i hw
      rw [if_pos hw] at h
      exact wpIn_mono2 (wpListIn_mono2 hq l) hq h
    · rename_i hw
      rw [if_neg hw] at h
      exact ⟨h.1, wpListIn_mono2 hq l _ _ h.2⟩
def AL (P : Program) (GT : Tabs) (ro : Option Nat) (ops : Array Oper) (rest : List Oper) (s : S) (Q : Exit → S → Prop) : Prop :=
  ∀ B I0 c a w n, Rel GT B I0 c s a w → (∀ l, ro = some l → obj s.M l) → wpListIn (fen c ro) n P ops (Aft GT B I0 c s.M w Q) rest a w
theorem AW_region {id : Nat} {ops : Array Oper} (h : AL P GT ro ops ops.toList s Q) : AW P GT ro (.region id ops false) s Q :=
  fun B I0 c a w n hr ho => wpIn_region_list (h B I0 c a w n hr ho)
theorem AL_nil {ops : Array Oper} (h : Q .normal s) : AL P GT ro ops [] s Q := fun _ _ c _ _ _ hr _ => ⟨s, c, h, hr, Ext.refl _ _, Stp.refl _ _ _⟩
def aGuard (ops : Array Oper) (T : List AV) (o : Oper) : Option Bool :=
  match o.guard with
  | none => some true
  | some (j, want) =>
    match (ops[j]?).bind (·.dst) with
    | some d => match T[d]? with
      | some (.pd (.bool b)) => some (b == want)
      | some (.tup _) => some false
      | _ => none
    | none => none
theorem aGuard_ok {ops : Array Oper} {o : Oper} {t : Bool} {c : Ctx} {M : Mem} {w : World} {tmps : Array Value} {T : List AV} (hT : TRep c M w tmps T) (h : aGuard ops T o = some t) : Region.wanted o (yielded ops tmps) = t := by
  unfold aGuard at h
  cases hg : o.guard with
  | none => rw [hg] at h; cases h; simp [Region.wanted, hg]
  | some p =>
    obtain ⟨j, want⟩ := p
    rw [hg] at h
    simp only at h
    cases hd : (ops[j]?).bind (·.dst) with
    | none => rw [hd] at h; cases h
    | some d =>
      rw [hd] at h
      simp only at h
      cases hTd : T[d]? with
      | none => rw [hTd] at h; cases h
      | some x =>
        have hx := hT.2 d x hTd
        have hlt : d < tmps.size := Nat.lt_of_lt_of_le (List.getElem?_eq_some_iff.1 hTd).1 hT.1
        have hget : tmps.getD d undef = tmps[d] := by simp [Array.getD, hlt]
        rw [hget] at hx
        have hy : yielded ops tmps j = match tmps[d] with | .bool b => some b | _ => none := by
          simp only [yielded, hd, Option.bind_some, Array.getElem?_eq_getElem hlt]
          generalize tmps[d] = v
          cases v <;> rfl
        rw [hTd] at h
        generalize tmps[d] = v at hx hy
        cases x with
        | pd p =>
          cases p with
          | bool b =>
            cases h
            cases hx with
            | pd v p hp =>
              cases hp
              simp [Region.wanted, hg, hy]
          | _ => cases h
        | tup l =>
          cases h
          cases hx with
          | tup vs l hs hr => simp [Region.wanted, hg, hy]
        | _ => cases h
def aput (T : List AV) (dst : Option Tmp) (x : AV) : List AV := match dst with | some d => T.set d x | none => T
theorem TRep.put {c : Ctx} {M : Mem} {w : World} {a : Act} {T : List AV} (h : TRep c M w a.tmps T) (dst : Option Tmp) {v : Value} {x : AV} (hx : ARep c M w v x) : TRep c M w (a.put dst v).tmps (aput T dst x) := by
  cases dst with
  | none => exact h
  | some d =>
    refine ⟨by simpa [aput, Act.put] using h.1, fun i y hy => ?_⟩
    simp only [aput, Act.put] at hy ⊢
    by_cases e : d = i
    · subst e
      have hd : d < T.length := by have := (List.getElem?_eq_some_iff.1 hy).1; simpa using this
      rw [List.getElem?_set_self hd] at hy; cases hy
      have : d < a.tmps.size := Nat.lt_of_lt_of_le hd h.1
      simp [Array.getD, this]; exact hx
    · rw [List.getElem?_set_ne e] at hy
      have := h.2 i y hy
      have e2 : (a.tmps.setIfInBounds d v).getD i undef = a.tmps.getD i undef := by
        simp only [Array.getD_eq_getD_getElem?, Array.getElem?_setIfInBounds_ne e]
      rw [e2]; exact this
theorem TRep.mono {B : Nat} {c c' : Ctx} {M M' : Mem} {w w' : World} {tmps : Array Value} {T : List AV} (h : TRep c M w tmps T) (he : Ext c M c' M') (hs : Stp B c w c' w') : TRep c' M' w' tmps T :=
  ⟨h.1, fun i x hx => (h.2 i x hx).mono he hs⟩
theorem DRep.mono {c c' : Ctx} {M M' : Mem} {ds : List Deferred} {D : List Nat} (h : DRep c M ds D) (he : Ext c M c' M') : DRep c' M' ds D := by
  obtain ⟨h1, h2, h3⟩ := h
  refine ⟨?_, h2, fun d hd => he.keep d false (h3 d hd)⟩
  rw [h1]
  apply List.map_congr_left
  intro d hd
  simp only [mark]
  rw [he.blk ⟨_, h3 d hd, rfl⟩]
theorem put_defers (a : Act) (dst : Option Tmp) (v : Value) : (a.put dst v).defers = a.defers := by cases dst <;> rfl
theorem Rel.step {B : Nat} {I0 : Nat → Prop} {c c' : Ctx} {a : Act} {w w' : World} {M' : Mem} {v : Value} {x : AV} (h : Rel GT B I0 c s a w) (hS : Sim B I0 c' M' w') (he : Ext c s.M c' M') (hs : Stp B c w c' w') (dst : Option Tmp) (hx : ARep c' M' w' v x) :
    Rel GT B I0 c' ⟨aput s.T dst x, M', s.D⟩ (a.put dst v) w' :=
  ⟨hS, h.glob.mono hs, (h.tmps.mono he hs).put dst hx, by rw [put_defers]; exact h.dfs.mono he⟩
theorem undef_rep {c : Ctx} {M : Mem} {w : World} : ARep c M w undef (.tup []) := .tup _ _ rfl (by simp)
def ArgsRep (c : Ctx) (M : Mem) (w : World) (vs : Array Value) (xs : List AV) : Prop := vs.size = xs.length ∧ ∀ (i : Nat) (v : Value) (x : AV), vs[i]? = some v → xs[i]? = some x → ARep c M w v x
theorem ArgsRep.append {c : Ctx} {M : Mem} {w : World} {vs us : Array Value} {xs ys : List AV} (h : ArgsRep c M w vs xs) (k : ArgsRep c M w us ys) : ArgsRep c M w (vs ++ us) (xs ++ ys) := by
  refine ⟨by simp [h.1, k.1], fun i v x h1 h2 => ?_⟩
  by_cases hi : i < xs.length
  · rw [List.getElem?_append_left hi] at h2
    rw [Array.getElem?_append_left (by rw [h.1]; exact hi)] at h1
    exact h.2 i v x h1 h2
  · rw [List.getElem?_append_right (by omega)] at h2
    rw [Array.getElem?_append_right (by rw [h.1]; omega), h.1] at h1
    exact k.2 _ v x h1 h2
def ACall (P : Program) (GT : Tabs) (f : FuncId) (args : List AV) (M : Mem) (R : AV → Mem → Prop) : Prop :=
  ∀ B I0 c w vs n, Sim B I0 c M w → GRep GT c w → ArgsRep c M w vs args →
    CallsIn Fence.wide n P f vs w fun e w' => ∃ v r M' c', e = .returned v ∧ R r M' ∧ ARep c' M' w' v r ∧ Sim B I0 c' M' w' ∧ Ext c M c' M' ∧ Stp B c w c' w'
theorem ACall.mono {f : FuncId} {args : List AV} {M : Mem} {R R' : AV → Mem → Prop} (h : ACall P GT f args M R) (hr : ∀ r M', R r M' → R' r M') : ACall P GT f args M R' :=
  fun B I0 c w vs n h1 h2 h3 => (h B I0 c w vs n h1 h2 h3).mono fun _ _ ⟨v, r, M', c', a, b, q⟩ => ⟨v, r, M', c', a, hr _ _ b, q⟩
theorem callsIn_fen {c : Ctx} {n : Nat} {f : FuncId} {vs : Array Value} {w : World} {R : Ending → World → Prop} (h : CallsIn Fence.wide n P f vs w R) : CallsIn (fen c ro) n P f vs w R := by
  cases ro with
  | none => exact h
  | some l => exact CallsIn.inRound _ h
theorem ARep.fnInv {c : Ctx} {M : Mem} {w : World} {v : Value} {g : Fn} {l1 l2 : List AV} (h : ARep c M w v (.fn g l1 l2)) : ∃ v1 v2, v = .func g v1 v2 ∧ ArgsRep c M w v1 l1 ∧ ArgsRep c M w v2 l2 := by
  cases h with
  | fn f v1 v2 l1 l2 h1 h2 r1 r2 => exact ⟨v1, v2, rfl, ⟨h1, r1⟩, ⟨h2, r2⟩⟩
theorem AL_call {ops : Array Oper} {o : Oper} {rest : List Oper} {f : Operand} {args : Array Operand} {ts : Array TypeId} {g : FuncId} {l1 l2 : List AV} {R : AV → Mem → Prop} (hg : aGuard ops s.T o = some true)
    (ho : o.op = .call { callee := .value f, args := args, argTypes := ts }) (hf : aev GT s.T f = .fn (.func g) l1 l2) (he : Enters P g)
    (hc : ACall P GT g (l1 ++ args.toList.map (aev GT s.T) ++ l2) s.M R) (hr : ∀ r M', R r M' → AL P GT ro ops rest ⟨aput s.T o.dst r, M', s.D⟩ Q) : AL P GT ro ops (o :: rest) s Q := by
  intro B I0 c a w n hR hob
  have hw := aGuard_ok hR.tmps hg
  have hfv := hR.ev f
  rw [hf] at hfv
  obtain ⟨v1, v2, hv, q1, q2⟩ := hfv.fnInv
  have hargs : ArgsRep c s.M w (args.map a.eval) (args.toList.map (aev GT s.T)) := list_rep (fun x => hR.ev x) args
  unfold wpListIn
  rw [if_pos hw]
  refine ⟨fun _ _ => fen_fn _ _ _, ?_⟩
  have hrun : (o.semAt (fen c ro).round a.eval).run P w = .ok (.enter g (v1 ++ args.map a.eval ++ v2)) w := by
    rw [Oper.semAt_eq _ _ _ (by intro k e; rw [e] at ho; cases ho)]
    simp only [execOp, ho, resolve, hv, Deferred.ofValue, invoke]
    simp only [Sem.run_bind, Sem.run_pure, Result.andThen_ok]
    exact he _ _
  rw [hrun]
  refine ⟨fun h => fen_depth _ _ h, ?_⟩
  refine callsIn_fen ((hc B I0 c w _ (n - 1) hR.sim hR.glob ((q1.append hargs).append q2)).mono ?_)
  rintro e w' ⟨v, r, M', c', rfl, hRr, hv', hS', hE, hs⟩
  have := hr r M' hRr B I0 c' (a.put o.dst v) w' n (hR.step hS' hE hs o.dst hv') (fun l hl => hE.obj l (hob l hl))
  rw [fen_ext hE hob] at this
  exact wpListIn_mono2 (fun e a u h => Aft.from hE hs h) _ _ _ this
end Go.Abs
end
