/- Conditions worked out of code over abstract states whose values are symbols. -/
import Derived.Test.YtdbfgnpobfbfmaaDoorAbs21
namespace Go.Abs
open Go.RowKit Go.Proofs

/-- Two ways, by a comparison's outcome. -/
def two (b : Bool) (k : Bool → Prop) : Prop := (b = true → k true) ∧ (b = false → k false)

theorem two_elim {b : Bool} {k : Bool → Prop} (h : two b k) : k b := by cases b; exact h.2 rfl; exact h.1 rfl

/-- One operation, with values that are symbols: K is told its value and the memory behind it. -/
def vop (P : Program) (GT : Tabs) (o : Op) (T : List AV) (M : Mem) (K : AV → Mem → Prop) : Prop :=
  match o with
  | .binOp op t x y _ =>
    match aBin P op t (aev GT T x) (aev GT T y) with
    | some (.pd (.bool b)) => two b fun b => K (.pd (.bool b)) M
    | some z => K z M
    | none => False
  | o => match aop P (aev GT T) M o with | some (z, M') => K z M' | none => False

/-- A round of the loop at l, from yield on: K is told whether it goes on. -/
def Rnd (P : Program) (GT : Tabs) (l : Nat) (args : List AV) (M : Mem) (K : Bool → Mem → Prop) : Prop :=
  ∃ pe T ps asg bo df, M[l]? = some (.loop .ready pe T ps asg bo df) ∧ args.length = ps.size ∧
    AW P GT (some l) asg ⟨setAll T ps.toList args, M, []⟩ (thn (fun s1 => (loopSt s1.M l).map (·.1) = some .ready ∧ ∃ M1 pe1, (loopSt s1.M l).map (·.2) = some pe1 ∧ setLoop s1.M l .busy pe1 = some M1 ∧ AW P GT (some l) bo ⟨s1.T, M1, s1.D⟩ (rndQ l K)) fun _ _ => False)

def vcall (P : Program) (GT : Tabs) (f : AV) (args : List AV) (M : Mem) (K : AV → Mem → Prop) : Prop :=
  match f with
  | .fn (.func g) l1 l2 => ∃ R, ACall P GT g (l1 ++ args ++ l2) M R ∧ Enters P g ∧ ∀ r M', R r M' → K r M'
  | .yld l => Rnd P GT l args M fun b M' => K (.pd (.bool b)) M'
  | _ => False

def vops (P : Program) (GT : Tabs) (ops : Array Oper) : List Oper → S → (S → Prop) → Prop
  | [], s, K => K s
  | o :: rest, s, K =>
    match aGuard ops s.T o with
    | none => False
    | some false => vops P GT ops rest ⟨aput s.T o.dst (.tup []), s.M, s.D⟩ K
    | some true =>
      match o.op with
      | .call { callee := .value f, args, .. } => vcall P GT (aev GT s.T f) (args.toList.map (aev GT s.T)) s.M fun x M' => vops P GT ops rest ⟨aput s.T o.dst x, M', s.D⟩ K
      | op => vop P GT op s.T s.M fun x M' => vops P GT ops rest ⟨aput s.T o.dst x, M', s.D⟩ K

/-- In a drawn order: calls leave the own memory as it is, and what they answer is told ahead. -/
def vdcall (P : Program) (GT : Tabs) (f : AV) (args : List AV) (M : Mem) (K : AV → Mem → Prop) : Prop :=
  match f with
  | .fn (.func g) l1 l2 => ∃ x, ACall P GT g (l1 ++ args ++ l2) M (fun r M' => r = x ∧ M' = M) ∧ Enters P g ∧ K x M
  | _ => False

def vdraw (P : Program) (GT : Tabs) (ops : Array Oper) : List Nat → List AV → Mem → (List AV → Mem → Prop) → Prop
  | [], T, M, K => K T M
  | i :: r, T, M, K =>
    match ops[i]? with
    | none => False
    | some o =>
      match aGuard ops T o with
      | none => False
      | some false => vdraw P GT ops r (aput T o.dst (.tup [])) M K
      | some true =>
        match o.op with
        | .call { callee := .value f, args, .. } => vdcall P GT (aev GT T f) (args.toList.map (aev GT T)) M fun x M' => vdraw P GT ops r (aput T o.dst x) M' K
        | op => vop P GT op T M fun x M' => vdraw P GT ops r (aput T o.dst x) M' K

/-- The operations of a region that write the own memory. -/
def loudsOf (ops : Array Oper) : List Nat := (ops.toList.zipIdx.filter fun p => !quietOp p.1.op).map (·.2)

def vc (P : Program) (GT : Tabs) (ro : Option Nat) : Code → S → (Exit → S → Prop) → Prop
  | .skip, s, Q => Q .normal s
  | .label _, s, Q => Q .normal s
  | .exit id, s, Q => Q (.exit id) s
  | .ret, s, Q => Q .ret s
  | .seq a b, s, Q => vc P GT ro a s (thn (fun s' => vc P GT ro b s' Q) Q)
  | .block id x, s, Q => vc P GT ro x s (inB id Q)
  | .cond k a b, s, Q => match aev GT s.T k with | .pd (.bool true) => vc P GT ro a s Q | .pd (.bool false) => vc P GT ro b s Q | _ => False
  | .loop x, s, Q => ∃ (I : S → Prop) (μ : S → Nat), I s ∧ ∀ s, I s → vc P GT ro x s (thn (fun s' => I s' ∧ μ s' < μ s) Q)
  | .region _ ops false, s, Q => vops P GT ops ops.toList s (Q .normal)
  | .region _ ops true, s, Q => drawOk ops (loudsOf ops) (ordOf ops) = true ∧ vdraw P GT ops (ordOf ops) s.T s.M fun T M => Q .normal ⟨T, M, s.D⟩
  | c, s, Q => AW P GT ro c s Q

/-! ### these conditions suffice -/
variable {P : Program} {GT : Tabs} {ro : Option Nat}

theorem vop_ok {o : Op} {T : List AV} {M : Mem} {K : AV → Mem → Prop} (h : vop P GT o T M K) : ∃ z M', aop P (aev GT T) M o = some (z, M') ∧ K z M' := by
  unfold vop at h
  split at h
  · rename_i op t x y t2
    split at h
    · rename_i b hb
      exact ⟨_, _, by simp only [aop, hb]; generalize isNilK _ = nq; cases nq <;> rfl, two_elim h⟩
    · rename_i z _ hz
      exact ⟨_, _, by simp only [aop, hz]; generalize isNilK _ = nq; cases nq <;> rfl, h⟩
    · exact h.elim
  · split at h
    · rename_i z M' hz; exact ⟨_, _, hz, h⟩
    · exact h.elim

theorem Rnd.yield {ops : Array Oper} {o : Oper} {rest : List Oper} {f : Operand} {args : Array Operand} {ts : Array TypeId} {l : Nat} {s : S} {Q : Exit → S → Prop} (hg : aGuard ops s.T o = some true) (ho : o.op = .call { callee := .value f, args := args, argTypes := ts })
    (hf : aev GT s.T f = .yld l) (h : Rnd P GT l (args.toList.map (aev GT s.T)) s.M fun b M' => AL P GT ro ops rest ⟨aput s.T o.dst (.pd (.bool b)), M', s.D⟩ Q) : AL P GT ro ops (o :: rest) s Q := by
  obtain ⟨pe, T, ps, asg, bo, df, h1, h2, h3⟩ := h
  exact AL_yield hg ho hf h1 (by simpa using h2) h3

theorem Rnd.mono {l : Nat} {args : List AV} {M : Mem} {K K' : Bool → Mem → Prop} (hk : ∀ b M, K b M → K' b M) (h : Rnd P GT l args M K) : Rnd P GT l args M K' := by
  obtain ⟨pe, T, ps, asg, bo, df, h1, h2, h3⟩ := h
  refine ⟨pe, T, ps, asg, bo, df, h1, h2, h3.mono ?_⟩
  intro e s' hq
  cases e with
  | normal =>
    obtain ⟨q1, M1, pe1, q2, q3, q4⟩ := hq
    refine ⟨q1, M1, pe1, q2, q3, q4.mono ?_⟩
    rintro e s2 ⟨st, pe, b, M', r1, r2, r3⟩
    exact ⟨st, pe, b, M', r1, r2, hk _ _ r3⟩
  | _ => exact hq

theorem vops_ok {ops : Array Oper} {Q : Exit → S → Prop} : ∀ (l : List Oper) (s : S), vops P GT ops l s (Q .normal) → AL P GT ro ops l s Q
  | [], s, h => AL_nil h
  | o :: rest, s, h => by
    unfold vops at h
    split at h
    · exact h.elim
    · rename_i hg
      exact AL_can1 (Can1_skip hg) (vops_ok rest _ h)
    · rename_i hg
      split at h
      · rename_i f args ts ho
        unfold vcall at h
        split at h
        · rename_i g l1 l2 hf
          obtain ⟨R, h1, h2, h3⟩ := h
          exact AL_call hg ho hf h2 h1 fun r M' hr => vops_ok rest _ (h3 r M' hr)
        · rename_i l hf
          exact Rnd.yield hg ho hf (h.mono fun b M' hk => vops_ok rest _ hk)
        · exact h.elim
      · obtain ⟨z, M', h1, h2⟩ := vop_ok h
        exact AL_can1 (Can1_op hg h1) (vops_ok rest _ h2)

theorem vdraw_ok {ops : Array Oper} {K : List AV → Mem → Prop} : ∀ (ord : List Nat) (T : List AV) (M : Mem), vdraw P GT ops ord T M K →
    ∃ L, L.map (·.1) = ord ∧ Runs P GT ro ops (loudsOf ops) [] L T M ∧ K (stT ops L T) (stM L M)
  | [], T, M, h => ⟨[], rfl, trivial, h⟩
  | i :: r, T, M, h => by
    unfold vdraw at h
    split at h
    · exact h.elim
    · rename_i o ho
      have put : ∀ x M', Can1 P GT ro ops o T M x M' → ((loudsOf ops).contains i = false → M' = M) → (still o.op = true → ∀ M2, Can1 P GT ro ops o T M2 x M2) → (∃ L, L.map (·.1) = r ∧ Runs P GT ro ops (loudsOf ops) [] L (aput T o.dst x) M' ∧ K (stT ops L (aput T o.dst x)) (stM L M')) →
          ∃ L, L.map (·.1) = i :: r ∧ Runs P GT ro ops (loudsOf ops) [] L T M ∧ K (stT ops L T) (stM L M) := by
        rintro x M' hc hq hf ⟨L, a1, a2, a3⟩
        refine ⟨(i, x, M') :: L, by simp [a1], ⟨o, ho, hc, hq, fun hs => hf (by simpa using hs), a2⟩, ?_⟩
        simpa [stT, stM, ho] using a3
      split at h
      · exact h.elim
      · rename_i hg
        exact put _ _ (Can1_skip hg) (fun _ => rfl) (fun _ _ => Can1_skip hg) (vdraw_ok r _ _ h)
      · rename_i hg
        split at h
        · rename_i f args ts hop
          unfold vdcall at h
          split at h
          · rename_i g l1 l2 hf
            obtain ⟨x, h1, h2, h3⟩ := h
            exact put _ _ (Can1_call hg hop hf h2 h1) (fun _ => rfl) (fun hs => by rw [hop] at hs; cases hs) (vdraw_ok r _ _ h3)
          · exact h.elim
        · obtain ⟨z, M', h1, h2⟩ := vop_ok h
          refine put _ _ (Can1_op hg h1) (fun hl => quiet_same h1 ?_) (fun hs M2 => Can1_op hg ((still_any hs h1).2 M2)) (vdraw_ok r _ _ h2)
          cases hqo : quietOp o.op with
          | true => rfl
          | false =>
            have : (loudsOf ops).contains i = true := by
              simp only [loudsOf, List.contains_eq_mem, decide_eq_true_eq, List.mem_map, List.mem_filter]
              refine ⟨(o, i), ⟨?_, by simp [hqo]⟩, rfl⟩
              rw [List.mk_mem_zipIdx_iff_getElem?]; simpa using ho
            rw [hl] at this; cases this

theorem vc_ok (hm : P.follows .mixedOrders = true) : ∀ (c : Code) (s : S) (Q : Exit → S → Prop), vc P GT ro c s Q → AW P GT ro c s Q
  | .skip, s, Q, h => AW_skip h
  | .label _, s, Q, h => AW_label h
  | .exit id, s, Q, h => AW_exit h
  | .ret, s, Q, h => AW_ret h
  | .seq a b, s, Q, h => AW_seq ((vc_ok hm a s _ h).mono fun e s' hq => by
      cases e with
      | normal => exact vc_ok hm b _ _ hq
      | _ => exact hq)
  | .block id x, s, Q, h => AW_block (vc_ok hm x s _ h)
  | .cond k a b, s, Q, h => by
    unfold vc at h
    split at h
    · rename_i hk; exact AW_cond hk (vc_ok hm a s _ h)
    · rename_i hk; exact AW_cond hk (vc_ok hm b s _ h)
    · exact h.elim
  | .loop x, s, Q, h => by
    obtain ⟨I, μ, h0, h1⟩ := h
    exact AW_loop I μ h0 fun s hs => vc_ok hm x s _ (h1 s hs)
  | .region id ops false, s, Q, h => AW_region (vops_ok _ _ h)
  | .region id ops true, s, Q, h => by
    obtain ⟨h1, h2⟩ := h
    obtain ⟨L, a1, a2, a3⟩ := vdraw_ok (ro := ro) _ _ _ h2
    obtain ⟨T, M, D⟩ := s
    exact AW_drawRun hm (by rw [a1]; exact h1) a2 a3
  | .rangeFunc .., s, Q, h => h
  | .scope _, s, Q, h => h
  | .goto _, s, Q, h => h
  | .refuse _, s, Q, h => h

end Go.Abs
