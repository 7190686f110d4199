/- Part of a proof, in few files: Abs23. -/
import Derived.Test.YthkcibhfbcfhlaaGreatDoorDChK11

set_option linter.unusedVariables false
set_option linter.unusedSimpArgs false
set_option linter.unnecessarySimpa false
section
namespace Go.Abs
open Go.RowKit Go.Proofs
inductive W where
 | split (b : Bool) (k : Bool → W)
 | call (g : FuncId) (args : List AV) (M : Mem) (k : AV → Mem → W)
 | dcall (g : FuncId) (args : List AV) (M : Mem) (k : AV → W)
 | yld (l : Nat) (args : List AV) (M : Mem) (k : Bool → Mem → W)
 | ask (t : Option (AV × Mem)) (k : AV → Mem → W)
 | askq (t : Option (AV × Mem)) (M : Mem) (k : AV → W)
 | loop (ro : Option Nat) (x : Code) (s : S) (k : Exit → S → W)
 | code (ro : Option Nat) (c : Code) (s : S) (k : Exit → S → W)
 | askall (Ms : Mem → Prop) (f : Mem → Option (AV × Mem)) (k : AV → W)
 | chk (p : Prop) (k : W)
 | dcallF (g : FuncId) (args : List AV) (k : AV → W)
 | draw (T : List AV) (M : Mem) (ok : List Nat → Bool) (k : List AV → Mem → List Nat → Option (List (Nat × (Mem → Prop))) → W)
 | bld (sl : Bool) (t : TypeId) (n : Nat) (parts : List (Nat × AV)) (M : Mem) (k : AV → Mem → W)
 | mkf (ap : Option TypeId) (t : TypeId) (a b : AV) (k : AV → W)
 | nxt (x : AV) (M : Mem) (k : AV → Mem → W)
 | done (e : Exit) (s : S)
 | fail
def wop (P : Program) (GT : Tabs) (q : Op → Bool) (o : Op) (T : List AV) (M : Mem) (k : AV → Mem → W) : W :=
 if q o then .ask (aop P (aev GT T) M o) k else
 match o with
 | .binOp op t x y _ =>
  match aBin P op t (aev GT T x) (aev GT T y) with
  | some (.pd (.bool b)) => .split b fun b => k (.pd (.bool b)) M
  | some z => k z M
  | none => .fail
 | o => match aop P (aev GT T) M o with | some (z, M') => k z M' | none => .fail
def wcall (f : AV) (args : List AV) (M : Mem) (k : AV → Mem → W) : W :=
 match f with
 | .fn (.func g) l1 l2 => .call g (l1 ++ args ++ l2) M k
 | .yld l => .yld l args M fun b M' => k (.pd (.bool b)) M'
 | _ => .fail
def nilSz (P : Program) (t : TypeId) : Option Nat := match P.underlying t with | some (.slice e) => szOf P e | _ => none
def wops (P : Program) (GT : Tabs) (q : Op → Bool) (ops : Array Oper) : List Oper → S → (S → W) → W
 | [], s, k => k s
 | o :: rest, s, k =>
  match aGuard ops s.T o with
  | none => .fail
  | some false => wops P GT q ops rest ⟨aput s.T o.dst (.tup []), s.M, s.D⟩ k
  | some true =>
   match o.op with
   | .call { callee := .value f, args, .. } => wcall (aev GT s.T f) (args.toList.map (aev GT s.T)) s.M fun x M' => wops P GT q ops rest ⟨aput s.T o.dst x, M', s.D⟩ k
   | .assign (.const (.slice none 0 0)) =>
    if q (.assign (.const (.slice none 0 0))) then
     match nilSz P o.type with
     | some sz => wops P GT q ops rest ⟨aput s.T o.dst (.own s.M.length 0 0), s.M ++ [.vrow sz 0], s.D⟩ k
     | none => .fail
    else wops P GT q ops rest ⟨aput s.T o.dst (.fixed []), s.M, s.D⟩ k
   | .build t ps =>
    if q (.buildSlice t 0 #[]) then .bld false t 0 (ps.toList.map fun p => (p.1, aev GT s.T p.2)) s.M fun x M' => wops P GT q ops rest ⟨aput s.T o.dst x, M', s.D⟩ k
    else wop P GT q (.build t ps) s.T s.M fun x M' => wops P GT q ops rest ⟨aput s.T o.dst x, M', s.D⟩ k
   | .alloc t =>
    if q (.buildSlice t 1 #[]) then .bld false t 1 [] s.M fun x M' => wops P GT q ops rest ⟨aput s.T o.dst x, M', s.D⟩ k
    else wop P GT q (.alloc t) s.T s.M fun x M' => wops P GT q ops rest ⟨aput s.T o.dst x, M', s.D⟩ k
   | .buildSlice t n ps =>
    if q (.buildSlice t 0 #[]) then .bld true t n (ps.toList.map fun p => (p.1, aev GT s.T p.2)) s.M fun x M' => wops P GT q ops rest ⟨aput s.T o.dst x, M', s.D⟩ k
    else wop P GT q (.buildSlice t n ps) s.T s.M fun x M' => wops P GT q ops rest ⟨aput s.T o.dst x, M', s.D⟩ k
   | .slice t x none (some y) none =>
    if q (.buildSlice t 2 #[]) then .bld false t 2 [(0, aev GT s.T x), (1, aev GT s.T y)] s.M fun x M' => wops P GT q ops rest ⟨aput s.T o.dst x, M', s.D⟩ k
    else wop P GT q (.slice t x none (some y) none) s.T s.M fun x M' => wops P GT q ops rest ⟨aput s.T o.dst x, M', s.D⟩ k
   | .next y false => .nxt (aev GT s.T y) s.M fun x M' => wops P GT q ops rest ⟨aput s.T o.dst x, M', s.D⟩ k
   | op => wop P GT q op s.T s.M fun x M' => wops P GT q ops rest ⟨aput s.T o.dst x, M', s.D⟩ k
def wdcallF (f : AV) (args : List AV) (k : AV → W) : W :=
 match f with
 | .fn (.func g) l1 l2 => .dcallF g (l1 ++ args ++ l2) k
 | _ => .fail
def mkOf (q : Op → Bool) : Op → Option (Option TypeId × TypeId × Operand × Operand)
 | .makeSlice t l c => bif q (.buildSlice t 3 #[]) then some (none, t, l, c) else none
 | .call { callee := .builtin .append, args, argTypes } => match args.toList, argTypes.toList with | [x, y], [sT, xT] => bif q (.ready (2000000 + sT)) then some (some xT, sT, x, y) else none | _, _ => none
 | _ => none
def aMA (P : Program) (ap : Option TypeId) (t : TypeId) (a b : AV) : Option (AV × Mem) := match ap with | none => aMake P [] t a b | some xT => aAppend P [] t xT a b
def loudsQ (q : Op → Bool) (ops : Array Oper) : List Nat := (ops.toList.zipIdx.filter fun p => !quietOp p.1.op && (mkOf q p.1.op).isNone).map (·.2)
def clsL : List (Nat × (Mem → Prop)) → Nat → Mem → Prop
 | [], _ => fun _ => True
 | (j, Ms) :: r, i => bif Nat.beq i j then Ms else clsL r i
def allC : List (Nat × (Mem → Prop)) → (Nat → Bool) → Mem → Prop
 | [], _, _ => True
 | (j, Ms) :: r, f, M => bif f j then (Ms M ∧ allC r f M) else allC r f M
theorem allC_cls {f : Nat → Bool} {M : Mem} : ∀ {l : List (Nat × (Mem → Prop))}, allC l f M → ∀ i, f i = true → clsL l i M
 | [], _, _, _ => trivial
 | (j, Ms) :: r, h, i, hi => by
  unfold clsL
  unfold allC at h
  cases he : Nat.beq i j with
  | true =>
   obtain rfl := Nat.eq_of_beq_eq_true he
   rw [hi] at h
   exact h.1
  | false =>
   have h : allC r f M := by
    cases hj : f j with
    | true => rw [hj] at h; exact h.2
    | false => rw [hj] at h; exact h
   exact allC_cls h i hi
def inM : Option (List (Nat × (Mem → Prop))) → Nat → Mem → Prop
 | none, _ => fun _ => True
 | some l, i => clsL l i
def wchk (ms : Option (List (Nat × (Mem → Prop)))) (f : Nat → Bool) (M : Mem) (k : W) : W := match ms with | none => k | some l => .chk (allC l f M) k
def tblD (ops : Array Oper) : List Nat := tblOf ops (ordOf ops) (List.replicate ops.size 0)
def zOk (ops : Array Oper) (zs : List Nat) : Bool := match zs with | [] => false | z :: _ => chainOk ops zs && (List.range ops.size).all fun k => zs.contains k || tbit (tblD ops) z k
def zOk2 (ops : Array Oper) (zs : List Nat) : Bool := match zs with | [] => false | z :: _ => restOk ops zs && (List.range ops.size).all fun k => zs.contains k || tbit (tblD ops) z k
def wrest (P : Program) (GT : Tabs) (ops : Array Oper) (M : Mem) : List Nat → List AV → (List AV → W) → W
 | [], T, k => k T
 | i :: r, T, k => match ops[i]? with | none => .fail | some o => match aop P (aev GT T) M o.op with | some (x, _) => wrest P GT ops M r (aput T o.dst x) k | none => .fail
def wdcallZ (zok zok2 : Bool) (q : Op → Bool) (f : AV) (args : List AV) (M : Mem) (kc kz : AV → Mem → W) (k : AV → W) : W :=
 match f with
 | .fn (.func g) l1 l2 => bif zok2 && q (.ready g) then .call g (l1 ++ args ++ l2) M kc else .dcall g (l1 ++ args ++ l2) M k
 | .yld l => bif zok then .yld l args M (fun b => kz (.pd (.bool b))) else .fail
 | _ => .fail
def wdraw (P : Program) (GT : Tabs) (q : Op → Bool) (ops : Array Oper) (fr : List Nat) (ms : Option (List (Nat × (Mem → Prop)))) (D : List Nat) (kz : S → W) : List Nat → List AV → Mem → (List AV → Mem → W) → W
 | [], T, M, k => k T M
 | i :: r, T, M, k =>
  match ops[i]? with
  | none => .fail
  | some o =>
   match aGuard ops T o with
   | none => .fail
   | some false => bif (loudsQ q ops).contains i then wchk ms (fun j => !tbit (tblD ops) i j || r.contains j) M (wdraw P GT q ops fr ms D kz r (aput T o.dst (.tup [])) M k) else wdraw P GT q ops fr ms D kz r (aput T o.dst (.tup [])) M k
   | some true =>
    match mkOf q o.op with
    | some (ap, t, l, c) => .mkf ap t (aev GT T l) (aev GT T c) fun x => wdraw P GT q ops fr ms D kz r (aput T o.dst x) M k
    | none =>
    match o.op with
    | .call { callee := .value f, args, .. } =>
     if fr.contains i then wdcallF (aev GT T f) (args.toList.map (aev GT T)) fun x => wdraw P GT q ops fr ms D kz r (aput T o.dst x) M k
     else wdcallZ (zOk ops (i :: r)) (zOk2 ops (i :: r)) q (aev GT T f) (args.toList.map (aev GT T)) M (fun x M' => wrest P GT ops M' r (aput T o.dst x) fun T' => kz ⟨T', M', D⟩) (fun x M' => wops P GT q ops (r.filterMap (ops[·]?)) ⟨aput T o.dst x, M', D⟩ kz) fun x => wdraw P GT q ops fr ms D kz r (aput T o.dst x) M k
    | op =>
     if fr.contains i then .askall (inM ms i) (fun M => aop P (aev GT T) M op) fun x => wdraw P GT q ops fr ms D kz r (aput T o.dst x) M k
     else wop P GT q op T M fun x M' => bif (loudsQ q ops).contains i then wchk ms (fun j => !tbit (tblD ops) i j || r.contains j) M' (wdraw P GT q ops fr ms D kz r (aput T o.dst x) M' k) else wdraw P GT q ops fr ms D kz r (aput T o.dst x) M' k
def wc (P : Program) (GT : Tabs) (q : Op → Bool) (ro : Option Nat) : Code → S → (Exit → S → W) → W
 | .skip, s, k => k .normal s
 | .label _, s, k => k .normal s
 | .exit id, s, k => k (.exit id) s
 | .ret, s, k => k .ret s
 | .seq a b, s, k => wc P GT q ro a s fun e s' => match e with | .normal => wc P GT q ro b s' k | e => k e s'
 | .block id x, s, k => wc P GT q ro x s fun e s' => match e with | .exit id' => if Nat.beq id' id then k .normal s' else k (.exit id') s' | e => k e s'
 | .cond c a b, s, k => match aev GT s.T c with | .pd (.bool true) => wc P GT q ro a s k | .pd (.bool false) => wc P GT q ro b s k | _ => .fail
 | .loop x, s, k => .loop ro x s k
 | .scope x, s, k => wc P GT q ro x s fun e s' => match e with | .goto _ => .fail | e => k e s'
 | .region _ ops d, s, k => match d with | false => wops P GT q ops ops.toList s (k .normal) | true => .draw s.T s.M (fun fr => ((loudsQ q ops).all fun i => !fr.contains i) && drawOk ops (loudsQ q ops) (ordOf ops) (fr.filter fun i => !(loudsQ q ops).contains i)) fun T1 M1 fr ms => wdraw P GT q ops fr ms s.D (k .normal) (ordOf ops) T1 M1 fun T M => k .normal ⟨T, M, s.D⟩
 | c, s, k => .code ro c s k
variable {P : Program} {GT : Tabs} {q : Op → Bool} {ro : Option Nat}
def ExtOK (P : Program) (g : FuncId) (args : List AV) (x : AV) : Prop := ∀ c M w vs, ArgsRep c M w vs args → ∃ v, (callFunc g vs).run P w = .ok (.value v) w ∧ ARep c M w v x
def GStep (M M1 : Mem) : Prop := ∀ (B : Nat) (I0 : Nat → Prop) (c : Ctx) (w : World), Sim B I0 c M w → ∃ c', Sim B I0 c' M1 w ∧ Ext c M c' M1 ∧ Stp B c w c' w
theorem GStep.refl (M : Mem) : GStep M M := fun _ _ c _ h => ⟨c, h, Ext.refl _ _, Stp.refl _ _ _⟩
theorem GStep.trans {M M1 M2 : Mem} (h : GStep M M1) (k : GStep M1 M2) : GStep M M2 := fun B I0 c w hS => by
 obtain ⟨c1, h1, h2, h3⟩ := h B I0 c w hS
 obtain ⟨c2, h4, h5, h6⟩ := k B I0 c1 w h1
 exact ⟨c2, h4, h2.trans h5, h3.trans h6⟩
theorem GStep.to {M M1 M2 : Mem} (h : GStep M M1) (e : M1 = M2) : GStep M M2 := e ▸ h
theorem AW.ghost {code : Code} {T : List AV} {M M1 : Mem} {D : List Nat} {Q : Exit → S → Prop} (hg : GStep M M1) (h : AW P GT ro code ⟨T, M1, D⟩ Q) : AW P GT ro code ⟨T, M, D⟩ Q := by
 intro B I0 c a w n hR ho
 obtain ⟨c', h1, h2, h3⟩ := hg B I0 c w hR.sim
 have hf : fen c ro = fen c' ro := by
  cases ro with
  | none => rfl
  | some l =>
   have := h2.toExt0.blk (ho l rfl)
   simp only [fen, this]
 rw [hf]
 exact wpIn_mono (h B I0 c' a w n ⟨h1, hR.glob.mono h3, hR.tmps.mono h2 h3, hR.dfs.mono h2⟩ fun l hl => h2.obj l (ho l hl)) fun _ _ _ hq => hq.from h2 h3
def TStep (P : Program) (GT : Tabs) (T : List AV) (M : Mem) (T1 : List AV) (M1 : Mem) : Prop := ∀ (ro : Option Nat) (code : Code) (D : List Nat) (Q : Exit → S → Prop), AW P GT ro code ⟨T1, M1, D⟩ Q → AW P GT ro code ⟨T, M, D⟩ Q
theorem GStep.t {P : Program} {GT : Tabs} {T : List AV} {M M1 : Mem} (h : GStep M M1) : TStep P GT T M T M1 := fun _ _ _ _ => AW.ghost h
theorem TStep.frz {P : Program} {GT : Tabs} {T : List AV} {M : Mem} (i : Nat) {b len ver : Nat} {x : PD} (hT : T[i]? = some (.own b len ver)) (hx : ownPD M b len ver = some x) : TStep P GT T M (T.set i (.pd x)) (Go.Abs.frz M b) := fun _ _ _ _ => AW_freeze i hT hx
def bldSem (sl : Bool) (t : TypeId) (n : Nat) (ps : Array (Nat × Value)) : Sem Value := match sl with | true => Instr.buildSlice t n ps | false => match n with | 0 => Instr.build t ps | 1 => Instr.alloc t true (.tuple #[]) | _ + 2 => match ps.toList with | [(_, x), (_, h)] => Instr.sliceAt t x none (some h) none | _ => Instr.build t ps
def BldOK (P : Program) (sl : Bool) (t : TypeId) (n : Nat) (parts : List (Nat × AV)) (M : Mem) (x : AV) (M' : Mem) : Prop :=
 ∀ (B : Nat) (I0 : Nat → Prop) (c : Ctx) (w : World) (ps : Array (Nat × Value)), Sim B I0 c M w → PartsRep c M w ps.toList parts → Out P B I0 c M w (bldSem sl t n ps) x M'
def W.holds (P : Program) (GT : Tabs) (Q : Exit → S → Prop) : W → Prop
 | .split b k => (b = true → (k true).holds P GT Q) ∧ (b = false → (k false).holds P GT Q)
 | .call g args M k => (∃ R, ACall P GT g args M R ∧ Enters P g ∧ ∀ r M', R r M' → (k r M').holds P GT Q) ∨ ∃ x, ExtOK P g args x ∧ (k x M).holds P GT Q
 | .dcall g args M k => (∃ x, ACall P GT g args M (fun r M' => r = x ∧ M' = M) ∧ Enters P g ∧ (k x).holds P GT Q) ∨ ∃ x, ExtOK P g args x ∧ (k x).holds P GT Q
 | .yld l args M k => Rnd P GT l args M fun b M' => (k b M').holds P GT Q
 | .ask t k => ∃ x M', t = some (x, M') ∧ (k x M').holds P GT Q
 | .askq t M k => ∃ x, t = some (x, M) ∧ (k x).holds P GT Q
 | .loop ro x s k => AW P GT ro (.loop x) s fun e s' => (k e s').holds P GT Q
 | .code ro c s k => AW P GT ro c s fun e s' => (k e s').holds P GT Q
 | .askall Ms f k => ∃ x, (∀ M, Ms M → f M = some (x, M)) ∧ (k x).holds P GT Q
 | .chk p k => p ∧ k.holds P GT Q
 | .dcallF g args k => (∃ x, (∀ M, ACall P GT g args M (fun r M' => r = x ∧ M' = M)) ∧ Enters P g ∧ (k x).holds P GT Q) ∨ ∃ x, ExtOK P g args x ∧ (k x).holds P GT Q
 | .draw T M ok k => ∃ T1 M1 fr ms, TStep P GT T M T1 M1 ∧ ok fr = true ∧ (∀ i, inM ms i M1) ∧ (k T1 M1 fr ms).holds P GT Q
 | .mkf ap t a b k => ∃ n ob x, a.pure = true ∧ b.pure = true ∧ aMA P ap t a b = some (.own 0 n 0, [ob]) ∧ ownPD [ob] 0 n 0 = some x ∧ (k (.pd x)).holds P GT Q
 | .bld sl t n parts M k => ∃ x M', BldOK P sl t n parts M x M' ∧ (k x M').holds P GT Q
 | .nxt x M k => ∃ i b n seen bl l, x = .it i ∧ M[i]? = some (.mit b n seen) ∧ M[b]? = some (.map bl l) ∧ l.length = n ∧
   (∀ (j : Nat) (p : Int × Int), j ∉ seen → l[j]? = some p → (k (.tup [.pd (.bool true), .pd (.int .i64 p.1), mvA bl p.2]) (M.set i (.mit b n (seen ++ [j])))).holds P GT Q) ∧
   ((∀ j, j < n → j ∈ seen) → (k (.tup [.pd (.bool false)]) M).holds P GT Q)
 | .done e s => Q e s
 | .fail => False
theorem wop_ok {Q : Exit → S → Prop} {o : Op} {T : List AV} {M : Mem} {k : AV → Mem → W} (h : (wop P GT q o T M k).holds P GT Q) : ∃ z M', aop P (aev GT T) M o = some (z, M') ∧ (k z M').holds P GT Q := by
 unfold wop at h
 split at h
 ·exact h
 ·split at h
  ·rename_i op t x y t2
   split at h
   ·rename_i b hb
    refine ⟨_, _, by simp only [aop, hb]; generalize isNilK _ = nq; cases nq <;> rfl, ?_⟩
    cases b
    ·exact h.2 rfl
    ·exact h.1 rfl
   ·rename_i z _ hz
    exact ⟨_, _, by simp only [aop, hz]; generalize isNilK _ = nq; cases nq <;> rfl, h⟩
   ·exact h.elim
  ·split at h
   ·rename_i z M' hz; exact ⟨_, _, hz, h⟩
   ·exact h.elim
theorem Can1_callX {ops : Array Oper} {o : Oper} {T : List AV} {M : Mem} {x : AV} {f : Operand} {args : Array Operand} {ts : Array TypeId} {g : FuncId} {l1 l2 : List AV} (hg : aGuard ops T o = some true)
  (ho : o.op = .call { callee := .value f, args := args, argTypes := ts }) (hf : aev GT T f = .fn (.func g) l1 l2)
  (hc : ExtOK P g (l1 ++ args.toList.map (aev GT T) ++ l2) x) : Can1 P GT ro ops o T M x M := by
 intro B I0 c a w n KK QQ hS hG hob hl hT hK
 have hT' := sieve_rep hl hT
 have hR : Rel GT B I0 c ⟨sieve ops o T, M, []⟩ { a with defers := [] } w := ⟨hS, hG, hT', rfl, List.nodup_nil, by simp⟩
 rw [← sieve_guard] at hg
 have hmem : ∀ y, y = f ∨ y ∈ args → y ∈ o.op.operands := by
  intro y hy
  rw [ho]
  simp only [Op.operands, Call.operands, Array.mem_append]
  rcases hy with rfl | hy
  ·exact .inl (by simp)
  ·exact .inr hy
 have hw := aGuard_ok hT' hg
 have hfv := hR.ev f
 rw [sieve_ev (hmem f (.inl rfl)), hf] at hfv
 obtain ⟨v1, v2, hv, q1, q2⟩ := hfv.fnInv
 have hargs0 : ArgsRep c M w (args.map a.eval) (args.toList.map (aev GT (sieve ops o T))) := list_rep (fun x => hR.ev x) args
 have emap : args.toList.map (aev GT (sieve ops o T)) = args.toList.map (aev GT T) := List.map_congr_left fun y hy => sieve_ev (hmem y (.inr (by simpa using hy)))
 rw [emap] at hargs0
 rw [if_pos hw]
 refine ⟨fun _ _ => fen_fn _ _ _, ?_⟩
 have hv' : a.eval f = .func (.func g) v1 v2 := hv
 obtain ⟨u, hu, hux⟩ := hc c M w _ ((q1.append hargs0).append q2)
 have hrun : (o.semAt (fen c ro).round a.eval).run P w = .ok (.value u) w := by
  rw [Oper.semAt_eq _ _ _ (by intro k e; rw [e] at ho; cases ho)]
  simp only [execOp, ho, resolve, hv', Deferred.ofValue, invoke]
  simp only [Sem.run_bind, Sem.run_pure, Result.andThen_ok]
  exact hu
 rw [hrun]
 exact hK c u w hS hux (Ext.refl _ _) (Stp.refl _ _ _)
theorem Can1_nil {ops : Array Oper} {o : Oper} {T : List AV} {M : Mem} (sz : Nat) (hg : aGuard ops T o = some true) (ho : o.op = .assign (.const (.slice none 0 0))) : Can1 P GT ro ops o T M (.own M.length 0 0) (M ++ [.vrow sz 0]) := by
 intro B I0 c a w n KK QQ hS hG hob hl hT hK
 have hT' := sieve_rep hl hT
 rw [← sieve_guard] at hg
 have hw := aGuard_ok hT' hg
 rw [if_pos hw]
 obtain ⟨h1, h2⟩ := hS.pushV sz 0
 refine ⟨fun _ _ => fen_fn _ _ _, ?_⟩
 have hd : ∀ k, o.op ≠ .defer k := by intro k e; rw [e] at ho; cases ho
 have e : (o.semAt (fen c ro).round a.eval) = execOp a.eval o := Oper.semAt_eq _ _ _ hd
 have e2 : (execOp a.eval o).run P w = .ok (.value (.slice none 0 0)) w := by simp [execOp, ho, Act.eval]
 rw [e, e2]
 exact hK c (.slice none 0 0) w h1 (.own _ _ _ _ (by simp) (Nat.zero_le _) fun _ => .inr ⟨sz, by simp, rfl, rfl⟩) h2 (Stp.refl _ _ _)
theorem Can1_bld {ops : Array Oper} {o : Oper} {T : List AV} {M M' : Mem} {x : AV} {sl : Bool} {t : TypeId} {m : Nat} {ps : Array (Nat × Operand)} (hg : aGuard ops T o = some true) (ho : (sl = true ∧ o.op = .buildSlice t m ps) ∨ (sl = false ∧ m = 0 ∧ o.op = .build t ps) ∨ (sl = false ∧ m = 1 ∧ ps = #[] ∧ o.op = .alloc t) ∨ (sl = false ∧ m = 2 ∧ ∃ x y, ps = #[(0, x), (1, y)] ∧ o.op = .slice t x none (some y) none))
  (h : BldOK P sl t m (ps.toList.map fun p => (p.1, aev GT T p.2)) M x M') : Can1 P GT ro ops o T M x M' := by
 intro B I0 c a w n KK QQ hS hG hob hl hT hK
 have hT' := sieve_rep hl hT
 have hR : Rel GT B I0 c ⟨sieve ops o T, M, []⟩ { a with defers := [] } w := ⟨hS, hG, hT', rfl, List.nodup_nil, by simp⟩
 rw [← sieve_guard] at hg
 have hmem : ∀ p, p ∈ ps.toList → p.2 ∈ o.op.operands := by
  intro p hp
  rcases ho with ⟨_, ho⟩ | ⟨_, _, ho⟩ | ⟨_, _, e0, _⟩ | ⟨_, _, x, y, e0, ho⟩
  ·rw [ho]; simp only [Op.operands]; simp only [Array.mem_def] at *; first | exact List.mem_map_of_mem hp | (simp; exact ⟨p.1, by simpa using hp⟩)
  ·rw [ho]; simp only [Op.operands]; simp only [Array.mem_def] at *; first | exact List.mem_map_of_mem hp | (simp; exact ⟨p.1, by simpa using hp⟩)
  ·subst e0; simp at hp
  ·subst e0; rw [ho]; simp at hp; simp only [Op.operands]; rcases hp with rfl | rfl <;> simp
 have emap : (ps.toList.map fun p => (p.1, aev GT (sieve ops o T) p.2)) = ps.toList.map fun p => (p.1, aev GT T p.2) := List.map_congr_left fun p hp => by rw [sieve_ev (hmem p hp)]
 have hw := aGuard_ok hT' hg
 rw [if_pos hw]
 have hp : PartsRep c M w (ps.map fun (i, x) => (i, a.eval x)).toList (ps.toList.map fun p => (p.1, aev GT (sieve ops o T) p.2)) := by
  have := parts_rep (ρr := a.eval) (fun x => hR.ev x) ps.toList
  simpa using this
 rw [emap] at hp
 obtain ⟨v', w', c', h1, h2, h3, h4, h5⟩ := h B I0 c w _ hS hp
 refine ⟨fun _ _ => fen_fn _ _ _, ?_⟩
 have hd : ∀ k, o.op ≠ .defer k := by intro k e; rcases ho with ⟨_, ho⟩ | ⟨_, _, ho⟩ | ⟨_, _, _, ho⟩ | ⟨_, _, _, _, _, ho⟩ <;> (rw [e] at ho; cases ho)
 have e : (o.semAt (fen c ro).round a.eval) = execOp a.eval o := Oper.semAt_eq _ _ _ hd
 have e2 : (execOp a.eval o).run P w = .ok (.value v') w' := by
  rcases ho with ⟨rfl, ho⟩ | ⟨rfl, rfl, ho⟩ | ⟨rfl, rfl, rfl, ho⟩ | ⟨rfl, rfl, x, y, rfl, ho⟩ <;> (simp [bldSem] at h1; simp [execOp, ho, h1])
 rw [e, e2]
 exact hK c' v' w' h3 h2 h4 h5
theorem mkOf_some {o : Op} {ap : Option TypeId} {t : TypeId} {l c : Operand} (h : mkOf q o = some (ap, t, l, c)) : (ap = none ∧ o = .makeSlice t l c) ∨ ∃ xT, ap = some xT ∧ o = .call { callee := .builtin .append, args := #[l, c], argTypes := #[t, xT] } := by
 unfold mkOf at h
 split at h
 ·rename_i t' l' c'
  cases hq : q (Op.buildSlice t' 3 #[]) with
  | true =>
   rw [hq] at h
   simp only [cond_true, Option.some.injEq, Prod.mk.injEq] at h
   obtain ⟨rfl, rfl, rfl, rfl⟩ := h; exact .inl ⟨rfl, rfl⟩
  | false => rw [hq] at h; cases h
 ·rename_i args ats
  split at h
  ·rename_i x y sT xT h1 h2
   cases hq : q (Op.ready (2000000 + sT)) with
   | true =>
    rw [hq] at h
    simp only [cond_true, Option.some.injEq, Prod.mk.injEq] at h
    obtain ⟨rfl, rfl, rfl, rfl⟩ := h
    refine .inr ⟨xT, rfl, ?_⟩
    rw [tolist h1, tolist h2]
   | false => rw [hq] at h; cases h
  ·cases h
 ·cases h
theorem Can1_mkf {ops : Array Oper} {o : Oper} {T : List AV} {M : Mem} {ap : Option TypeId} {t : TypeId} {l k : Operand} {x : PD} {n : Nat} {ob : Ob} (hg : aGuard ops T o = some true) (ho : (ap = none ∧ o.op = .makeSlice t l k) ∨ ∃ xT, ap = some xT ∧ o.op = .call { callee := .builtin .append, args := #[l, k], argTypes := #[t, xT] })
  (ha : (aev GT T l).pure = true) (hb : (aev GT T k).pure = true) (h : aMA P ap t (aev GT T l) (aev GT T k) = some (.own 0 n 0, [ob])) (hx : ownPD [ob] 0 n 0 = some x) : Can1 P GT ro ops o T M (.pd x) M := by
 intro B I0 c w0 w m KK QQ hS hG hob hl hT hK
 have hT' := sieve_rep hl hT
 have hR : Rel GT B I0 c ⟨sieve ops o T, M, []⟩ { w0 with defers := [] } w := ⟨hS, hG, hT', rfl, List.nodup_nil, by simp⟩
 rw [← sieve_guard] at hg
 have hw := aGuard_ok hT' hg
 rw [if_pos hw]
 have e1 := hR.ev l
 have e2 := hR.ev k
 have m1 : l ∈ o.op.operands := by rcases ho with ⟨_, ho⟩ | ⟨xT, _, ho⟩ <;> rw [ho] <;> simp [Op.operands, Call.operands]
 have m2 : k ∈ o.op.operands := by rcases ho with ⟨_, ho⟩ | ⟨xT, _, ho⟩ <;> rw [ho] <;> simp [Op.operands, Call.operands]
 rw [sieve_ev m1] at e1
 rw [sieve_ev m2] at e2
 have p1 : ARep c [] w (w0.eval l) (aev GT T l) := e1.pure ha (fun _ h => h) (Kept.refl _ _)
 have p2 : ARep c [] w (w0.eval k) (aev GT T k) := e2.pure hb (fun _ h => h) (Kept.refl _ _)
 have hd : ∀ k, o.op ≠ .defer k := by intro k e; rcases ho with ⟨_, ho⟩ | ⟨xT, _, ho⟩ <;> rw [ho] at e <;> cases e
 have e : (o.semAt (fen c ro).round w0.eval) = execOp w0.eval o := Oper.semAt_eq _ _ _ hd
 refine ⟨fun _ _ => fen_fn _ _ _, ?_⟩
 rcases ho with ⟨rfl, ho⟩ | ⟨xT, rfl, ho⟩
 ·obtain ⟨v', w', c', h1, h2, h3, h4, h5⟩ := frozen_of (P := P) hS (fun S0 => aMake_ok S0 p1 p2 h) hx
  have e2 : (execOp w0.eval o).run P w = .ok (.value v') w' := by
   have h1' : (Instr.makeSlice t (w0.eval l) (w0.eval k)).run P w = .ok v' w' := h1
   simp [execOp, ho, h1']
  rw [e, e2]
  exact hK c' v' w' h3 h2 h4 h5
 ·obtain ⟨v', w', c', h1, h2, h3, h4, h5⟩ := frozen_of (P := P) hS (fun S0 => aAppend_ok (ty := o.type) S0 p1 p2 h) hx
  have e2 : (execOp w0.eval o).run P w = .ok (.value v') w' := by
   have h1' : (Builtin.append_ #[t, xT] o.type #[w0.eval l, w0.eval k]).run P w = .ok v' w' := h1
   simp [execOp, ho, resolve, invoke, builtin, h1']
  rw [e, e2]
  exact hK c' v' w' h3 h2 h4 h5
theorem wops_ok {Q : Exit → S → Prop} {ops : Array Oper} {k : S → W} : ∀ (l : List Oper) (s : S), (wops P GT q ops l s k).holds P GT Q → AL P GT ro ops l s fun e s' => e = .normal ∧ (k s').holds P GT Q
 | [], s, h => AL_nil ⟨rfl, h⟩
 | o :: rest, s, h => by
  unfold wops at h
  split at h
  ·exact h.elim
  ·rename_i hg
   exact AL_can1 (Can1_skip hg) (wops_ok rest _ h)
  ·rename_i hg
   split at h
   ·rename_i f args ts ho
    unfold wcall at h
    split at h
    ·rename_i g l1 l2 hf
     rcases h with ⟨R, h1, h2, h3⟩ | ⟨x, h1, h3⟩
     ·exact AL_call hg ho hf h2 h1 fun r M' hr => wops_ok rest _ (h3 r M' hr)
     ·exact AL_can1 (Can1_callX hg ho hf h1) (wops_ok rest _ h3)
    ·rename_i l hf
     exact Rnd.yield hg ho hf (Rnd.mono (fun b M' hk => wops_ok rest _ hk) h)
    ·exact h.elim
   ·rename_i ho
    split at h
    ·split at h
     ·rename_i sz hsz
      exact AL_can1 (Can1_nil sz hg ho) (wops_ok rest _ h)
     ·exact h.elim
    ·exact AL_can1 (Can1_op hg (by rw [ho]; rfl)) (wops_ok rest _ h)
   ·rename_i t ps ho
    split at h
    ·obtain ⟨x, M', h1, h2⟩ := h
     exact AL_can1 (Can1_bld hg (.inr (.inl ⟨rfl, rfl, ho⟩)) h1) (wops_ok rest _ h2)
    ·obtain ⟨z, M', h1, h2⟩ := wop_ok h
     exact AL_can1 (Can1_op hg (by rw [ho]; exact h1)) (wops_ok rest _ h2)
   ·rename_i t ho
    split at h
    ·obtain ⟨x, M', h1, h2⟩ := h
     exact AL_can1 (Can1_bld (ps := #[]) hg (.inr (.inr (.inl ⟨rfl, rfl, rfl, ho⟩))) h1) (wops_ok rest _ h2)
    ·obtain ⟨z, M', h1, h2⟩ := wop_ok h
     exact AL_can1 (Can1_op hg (by rw [ho]; exact h1)) (wops_ok rest _ h2)
   ·rename_i t m ps ho
    split at h
    ·obtain ⟨x, M', h1, h2⟩ := h
     exact AL_can1 (Can1_bld hg (.inl ⟨rfl, ho⟩) h1) (wops_ok rest _ h2)
    ·obtain ⟨z, M', h1, h2⟩ := wop_ok h
     exact AL_can1 (Can1_op hg (by rw [ho]; exact h1)) (wops_ok rest _ h2)
   ·rename_i t x y ho
    split at h
    ·obtain ⟨z, M', h1, h2⟩ := h
     exact AL_can1 (Can1_bld (ps := #[(0, x), (1, y)]) hg (.inr (.inr (.inr ⟨rfl, rfl, x, y, rfl, ho⟩))) h1) (wops_ok rest _ h2)
    ·obtain ⟨z, M', h1, h2⟩ := wop_ok h
     exact AL_can1 (Can1_op hg (by rw [ho]; exact h1)) (wops_ok rest _ h2)
   ·rename_i y ho
    obtain ⟨i, b, n, seen, bl, l, a1, a2, a3, a4, a5, a6⟩ := h
    exact AL_mnext hg ho a1 a2 a3 a4 (fun j p b1 b2 => wops_ok rest _ (a5 j p b1 b2)) (fun b1 => wops_ok rest _ (a6 b1))
   ·obtain ⟨z, M', h1, h2⟩ := wop_ok h
    exact AL_can1 (Can1_op hg h1) (wops_ok rest _ h2)
def ZEnd (P : Program) (GT : Tabs) (q : Op → Bool) (ro : Option Nat) (ops : Array Oper) (zs : List Nat) (s : S) (K : S → Prop) : Prop :=
 (zOk ops zs = true ∧ AL P GT ro ops (zs.filterMap (ops[·]?)) s fun e s' => e = .normal ∧ K s') ∨
 (zOk2 ops zs = true ∧ ∀ z r, zs = z :: r → ∃ o, ops[z]? = some o ∧ One P GT ro ops o s fun s' => ∃ TF, RestT P GT ops s'.M r s'.T TF ∧ K ⟨TF, s'.M, s'.D⟩)
theorem restGo_still {ops : Array Oper} : ∀ {r pre : List Nat}, restGo ops pre r = true → ∀ i, i ∈ r → ∃ o, ops[i]? = some o ∧ still o.op = true
 | [], _, _, i, hi => by cases hi
 | j :: r, pre, hg, i, hi => by
  unfold restGo at hg
  rw [Bool.and_eq_true] at hg
  rcases List.mem_cons.1 hi with rfl | hi
  ·have hg := hg.1
   split at hg
   ·cases hg
   ·rename_i o ho
    simp only [Bool.and_eq_true] at hg
    exact ⟨o, ho, hg.1.1.1.1.2⟩
  ·exact restGo_still hg.2 i hi
theorem wrest_ok {Q : Exit → S → Prop} {ops : Array Oper} {M : Mem} {k : List AV → W} : ∀ {r : List Nat} {T : List AV}, (∀ i, i ∈ r → ∃ o, ops[i]? = some o ∧ still o.op = true) → (wrest P GT ops M r T k).holds P GT Q → ∃ TF, RestT P GT ops M r T TF ∧ (k TF).holds P GT Q
 | [], T, _, h => ⟨T, rfl, h⟩
 | i :: r, T, hs, h => by
  unfold wrest at h
  obtain ⟨o, ho, hst⟩ := hs i (by simp)
  rw [ho] at h
  simp only at h
  split at h
  ·rename_i x M' hx
   obtain ⟨TF, h1, h2⟩ := wrest_ok (fun i hi => hs i (by simp [hi])) h
   obtain ⟨rfl, _⟩ := still_any hst hx
   exact ⟨TF, ⟨o, x, ho, hx, h1⟩, h2⟩
  ·exact h.elim
theorem wdraw_ok {Q : Exit → S → Prop} {ops : Array Oper} {fr : List Nat} {ms : Option (List (Nat × (Mem → Prop)))} {D : List Nat} {kz : S → W} {k : List AV → Mem → W} : ∀ (ord : List Nat) (T : List AV) (M : Mem), (wdraw P GT q ops fr ms D kz ord T M k).holds P GT Q → (∀ j, ord.contains j = true → inM ms j M) →
  (∀ i, (loudsQ q ops).contains i = true → fr.contains i = false) → ∃ L zs, L.map (·.1) ++ zs = ord ∧ RunsM (inM ms) P GT ro ops (loudsQ q ops) (fr.filter fun i => !(loudsQ q ops).contains i) L T M ∧ (∀ p, p ∈ L → (loudsQ q ops).contains p.1 = true → ∀ i, tbit (tblD ops) p.1 i = false → inM ms i p.2.2) ∧ (zs = [] → (k (stT ops L T) (stM L M)).holds P GT Q) ∧ (zs ≠ [] → ZEnd P GT q ro ops zs ⟨stT ops L T, stM L M, D⟩ fun s' => (kz s').holds P GT Q)
 | [], T, M, h, _, _ => ⟨[], [], rfl, trivial, by simp, fun _ => h, fun hz => absurd rfl hz⟩
 | i :: r, T, M, h, hMs, hlf => by
  unfold wdraw at h
  split at h
  ·exact h.elim
  ·rename_i o ho
   have put : ∀ x M', Can1 P GT ro ops o T M x M' → ((loudsQ q ops).contains i = false → M' = M) → ((still o.op || fr.contains i) = true → ∀ M2, inM ms i M2 → Can1 P GT ro ops o T M2 x M2) → ((loudsQ q ops).contains i = true → ∀ j, tbit (tblD ops) i j = false → inM ms j M') →
     (∃ L zs, L.map (·.1) ++ zs = r ∧ RunsM (inM ms) P GT ro ops (loudsQ q ops) (fr.filter fun i => !(loudsQ q ops).contains i) L (aput T o.dst x) M' ∧ (∀ p, p ∈ L → (loudsQ q ops).contains p.1 = true → ∀ i, tbit (tblD ops) p.1 i = false → inM ms i p.2.2) ∧ (zs = [] → (k (stT ops L (aput T o.dst x)) (stM L M')).holds P GT Q) ∧ (zs ≠ [] → ZEnd P GT q ro ops zs ⟨stT ops L (aput T o.dst x), stM L M', D⟩ fun s' => (kz s').holds P GT Q)) →
     ∃ L zs, L.map (·.1) ++ zs = i :: r ∧ RunsM (inM ms) P GT ro ops (loudsQ q ops) (fr.filter fun i => !(loudsQ q ops).contains i) L T M ∧ (∀ p, p ∈ L → (loudsQ q ops).contains p.1 = true → ∀ i, tbit (tblD ops) p.1 i = false → inM ms i p.2.2) ∧ (zs = [] → (k (stT ops L T) (stM L M)).holds P GT Q) ∧ (zs ≠ [] → ZEnd P GT q ro ops zs ⟨stT ops L T, stM L M, D⟩ fun s' => (kz s').holds P GT Q) := by
    rintro x M' hc hq hf hl ⟨L, zs, a1, a2, a4, a3, az⟩
    have ed : (ops[i]?).bind (·.dst) = o.dst := by rw [ho]; rfl
    refine ⟨(i, x, M') :: L, zs, by simp [a1], ⟨o, ho, hc, hq, fun hs => hf ?_, a2⟩, ?_, ?_, ?_⟩
    ·rw [Bool.or_eq_true] at hs ⊢
     refine hs.imp (fun h => h) fun h => ?_
     simp only [List.contains_eq_mem, decide_eq_true_eq, List.mem_filter] at h ⊢
     exact h.1
    ·intro p hp hpl
     rcases List.mem_cons.1 hp with rfl | hp
     ·exact hl hpl
     ·exact a4 p hp hpl
    ·simp only [stT, stM, ed]; exact a3
    ·simp only [stT, stM, ed]; exact az
   have hr' : ∀ j, r.contains j = true → inM ms j M := fun j hj => hMs j (by rw [List.contains_cons, hj, Bool.or_true])
   have hi : inM ms i M := hMs i (by simp)
   have quiet : ∀ {op : Op} {x : AV} {M1 : Mem}, mkOf q o.op = none → o.op = op → aop P (aev GT T) M op = some (x, M1) → (loudsQ q ops).contains i = false → M1 = M := by
    intro op x M1 hmk hop h1 hl
    refine quiet_same h1 ?_
    cases hqo : quietOp op with
    | true => rfl
    | false =>
     have : (loudsQ q ops).contains i = true := by
      simp only [loudsQ, List.contains_eq_mem, decide_eq_true_eq, List.mem_map, List.mem_filter]
      refine ⟨(o, i), ⟨?_, by simp [hop, hqo] at hmk ⊢; exact hmk⟩, rfl⟩
      rw [List.mk_mem_zipIdx_iff_getElem?]; simpa using ho
     rw [hl] at this; cases this
   split at h
   ·exact h.elim
   ·rename_i hg
    cases hlo : (loudsQ q ops).contains i with
    | true =>
     rw [hlo, cond_true] at h
     have h3 : (∀ j, (!tbit (tblD ops) i j || r.contains j) = true → inM ms j M) ∧ (wdraw P GT q ops fr ms D kz r (aput T o.dst (.tup [])) M k).holds P GT Q := by
      cases ms with
      | none => exact ⟨fun _ _ => trivial, h⟩
      | some l => exact ⟨fun j hj => allC_cls h.1 j hj, h.2⟩
     exact put _ _ (Can1_skip hg) (fun _ => rfl) (fun _ _ _ => Can1_skip hg) (fun _ j hj => h3.1 j (by rw [hj]; rfl)) (wdraw_ok r _ _ h3.2 hr' hlf)
    | false =>
     rw [hlo, cond_false] at h
     exact put _ _ (Can1_skip hg) (fun _ => rfl) (fun _ _ _ => Can1_skip hg) (fun hl => by rw [hlo] at hl; cases hl) (wdraw_ok r _ _ h hr' hlf)
   ·rename_i hg
    split at h
    ·rename_i ap t l c hmk
     obtain ⟨n, ob, x, h1, h2, h3, h4, h5⟩ := h
     have hop := mkOf_some hmk
     have hnl : (loudsQ q ops).contains i = true → False := fun hl => by
      simp only [loudsQ, List.contains_eq_mem, decide_eq_true_eq, List.mem_map, List.mem_filter] at hl
      obtain ⟨⟨o', i'⟩, ⟨g1, g2⟩, rfl⟩ := hl
      rw [List.mk_mem_zipIdx_iff_getElem?] at g1
      have ho' := ho
      simp only [Array.getElem?_toList] at g1
      rw [g1] at ho'
      cases ho'
      simp [hmk] at g2
     exact put _ _ (Can1_mkf hg hop h1 h2 h3 h4) (fun _ => rfl) (fun _ M2 _ => Can1_mkf hg hop h1 h2 h3 h4) (fun hl => (hnl hl).elim) (wdraw_ok r _ _ h5 hr' hlf)
    rename_i hmk
    split at h
    ·rename_i f args ts hop
     have hnl : (loudsQ q ops).contains i = true → False := fun hl => by
      simp only [loudsQ, List.contains_eq_mem, decide_eq_true_eq, List.mem_map, List.mem_filter] at hl
      obtain ⟨⟨o', i'⟩, ⟨g1, g2⟩, rfl⟩ := hl
      rw [List.mk_mem_zipIdx_iff_getElem?] at g1
      have ho' := ho
      simp only [Array.getElem?_toList] at g1
      rw [g1] at ho'
      cases ho'
      rw [hop] at g2
      simp [quietOp] at g2
     split at h
     ·unfold wdcallF at h
      split at h
      ·rename_i g l1 l2 hf
       rcases h with ⟨x, h1, h2, h3⟩ | ⟨x, h1, h3⟩
       ·exact put _ _ (Can1_call hg hop hf h2 (h1 M)) (fun _ => rfl) (fun _ M2 _ => Can1_call hg hop hf h2 (h1 M2)) (fun hl => (hnl hl).elim) (wdraw_ok r _ _ h3 hr' hlf)
       ·exact put _ _ (Can1_callX hg hop hf h1) (fun _ => rfl) (fun _ M2 _ => Can1_callX hg hop hf h1) (fun hl => (hnl hl).elim) (wdraw_ok r _ _ h3 hr' hlf)
      ·exact h.elim
     ·rename_i hfr
      unfold wdcallZ at h
      split at h
      ·rename_i g l1 l2 hf
       cases hzq : (zOk2 ops (i :: r) && q (.ready g)) with
       | true =>
        rw [hzq, cond_true] at h
        rw [Bool.and_eq_true] at hzq
        refine ⟨[], i :: r, rfl, trivial, by simp, (fun hn => by cases hn), fun _ => .inr ⟨hzq.1, ?_⟩⟩
        rintro z r' e
        cases e
        have hst : ∀ k, k ∈ r → ∃ o, ops[k]? = some o ∧ still o.op = true := by
         have := hzq.1
         unfold zOk2 restOk at this
         rw [Bool.and_eq_true, Bool.and_eq_true, Bool.and_eq_true] at this
         exact restGo_still this.1.2
        refine ⟨o, ho, ?_⟩
        rcases h with ⟨R, h1, h2, h3⟩ | ⟨x, h1, h3⟩
        ·exact One_call (s := ⟨T, M, D⟩) hg hop hf h2 h1 fun r' M' hr => wrest_ok hst (h3 r' M' hr)
        ·exact One_can1 (s := ⟨T, M, D⟩) (Can1_callX hg hop hf h1) (wrest_ok hst h3)
       | false =>
       rw [hzq, cond_false] at h
       rcases h with ⟨x, h1, h2, h3⟩ | ⟨x, h1, h3⟩
       ·refine put _ _ (Can1_call hg hop hf h2 h1) (fun _ => rfl) (fun hs => ?_) (fun hl => (hnl hl).elim) (wdraw_ok r _ _ h3 hr' hlf)
        rw [hop] at hs
        simp only [still, Bool.false_or] at hs
        exact absurd hs hfr
       ·exact put _ _ (Can1_callX hg hop hf h1) (fun _ => rfl) (fun _ M2 _ => Can1_callX hg hop hf h1) (fun hl => (hnl hl).elim) (wdraw_ok r _ _ h3 hr' hlf)
      ·rename_i l hf
       cases hzk : zOk ops (i :: r) with
       | false => rw [hzk, cond_false] at h; exact h.elim
       | true =>
        rw [hzk, cond_true] at h
        refine ⟨[], i :: r, rfl, trivial, by simp, (fun hn => by cases hn), fun _ => .inl ⟨hzk, ?_⟩⟩
        have hfm : (i :: r).filterMap (ops[·]?) = o :: r.filterMap (ops[·]?) := by rw [List.filterMap_cons, ho]
        rw [hfm]
        exact Rnd.yield (s := ⟨T, M, D⟩) hg hop hf (Rnd.mono (fun b M' hk => wops_ok _ _ hk) h)
      ·exact h.elim
    ·split at h
     ·obtain ⟨x, h1, h3⟩ := h
      rename_i hfr
      exact put _ _ (Can1_op hg (h1 M hi)) (fun _ => rfl) (fun _ M2 hM2 => Can1_op hg (h1 M2 hM2)) (fun hl => by rw [hlf i hl] at hfr; cases hfr) (wdraw_ok r _ _ h3 hr' hlf)
     ·rename_i hfr
      obtain ⟨z, M', h1, h2⟩ := wop_ok h
      have hfree : (still o.op || fr.contains i) = true → ∀ M2, inM ms i M2 → Can1 P GT ro ops o T M2 z M2 := fun hs M2 _ => by
       rw [Bool.or_eq_true] at hs
       rcases hs with hs | hs
       ·exact Can1_op hg ((still_any hs h1).2 M2)
       ·exact absurd hs hfr
      cases hlo : (loudsQ q ops).contains i with
      | true =>
       rw [hlo, cond_true] at h2
       have h3 : (∀ j, (!tbit (tblD ops) i j || r.contains j) = true → inM ms j M') ∧ (wdraw P GT q ops fr ms D kz r (aput T o.dst z) M' k).holds P GT Q := by
        cases ms with
        | none => exact ⟨fun _ _ => trivial, h2⟩
        | some l => exact ⟨fun j hj => allC_cls h2.1 j hj, h2.2⟩
       exact put _ _ (Can1_op hg h1) (fun hl => quiet hmk rfl h1 hl) hfree (fun _ j hj => h3.1 j (by rw [hj]; rfl)) (wdraw_ok r _ _ h3.2 (fun j hj => h3.1 j (by rw [hj, Bool.or_true])) hlf)
      | false =>
       rw [hlo, cond_false] at h2
       have e := quiet hmk rfl h1 hlo
       exact put _ _ (Can1_op hg h1) (fun hl => quiet hmk rfl h1 hl) hfree (fun hl => by rw [hlo] at hl; cases hl) (wdraw_ok r _ _ h2 (e ▸ hr') hlf)
theorem wc_ok (hm : P.follows .mixedOrders = true) {Q : Exit → S → Prop} : ∀ (c : Code) (s : S) (k : Exit → S → W), (wc P GT q ro c s k).holds P GT Q → AW P GT ro c s fun e s' => (k e s').holds P GT Q
 | .skip, s, k, h => AW_skip h
 | .label _, s, k, h => AW_label h
 | .exit id, s, k, h => AW_exit h
 | .ret, s, k, h => AW_ret h
 | .seq a b, s, k, h => AW_seq ((wc_ok hm a s _ h).mono fun e s' hq => by
   cases e with
   | normal => exact wc_ok hm b _ _ hq
   | _ => exact hq)
 | .block id x, s, k, h => AW_block ((wc_ok hm x s _ h).mono fun e s' hq => by
   cases e with
   | exit id' =>
    simp only [inB]
    simp only at hq
    split at hq
    ·rename_i hb; rw [if_pos (Nat.eq_of_beq_eq_true hb)]; exact hq
    ·rename_i hb; rw [if_neg (fun e => hb (by rw [e]; exact Nat.beq_refl _))]; exact hq
   | _ => exact hq)
 | .cond c a b, s, k, h => by
  unfold wc at h
  split at h
  ·rename_i hk; exact AW_cond hk (wc_ok hm a s _ h)
  ·rename_i hk; exact AW_cond hk (wc_ok hm b s _ h)
  ·exact h.elim
 | .loop x, s, k, h => h
 | .region id ops false, s, k, h => AW_region (by
   intro B I0 c a w n hR ho
   refine wpListIn_mono2 ?_ _ _ _ (wops_ok ops.toList s h B I0 c a w n hR ho)
   rintro e a u ⟨s', c', ⟨rfl, hq⟩, r⟩
   exact ⟨s', c', hq, r⟩)
 | .region id ops true, s, k, h => by
  obtain ⟨T, M1, fr, ms, hgs, h1, h0, h2⟩ := h
  obtain ⟨L, zs, a1, a2, a4, a3, az⟩ := wdraw_ok (ro := ro) _ _ _ h2 (fun j _ => h0 j) (by have := h1; rw [Bool.and_eq_true] at this; simpa using this.1)
  obtain ⟨T0, M, D⟩ := s
  rw [Bool.and_eq_true] at h1
  refine hgs _ _ _ _ ?_
  have hz : ∀ z r, zs = z :: r → (((List.range ops.size).all fun k => zs.contains k || tbit (tblD ops) z k) = true) ∧ (∀ k, k ∈ r → edgeIn ops zs k = true) ∧ ZGo P GT ro ops zs ⟨stT ops L T, stM L M1, D⟩ fun e s' => (k e s').holds P GT Q := by
   intro z r hzs
   rcases az (by rw [hzs]; simp) with ⟨o1, o2⟩ | ⟨o1, o2⟩
   ·have o1' := o1
    rw [hzs] at o1'
    unfold zOk at o1'
    rw [Bool.and_eq_true, ← hzs] at o1'
    refine ⟨o1'.2, chain_edges o1'.1 z r hzs, ZGo.chain o1'.1 ?_⟩
    intro B I0 c a w n hR ho
    refine wpListIn_mono2 ?_ _ _ _ (o2 B I0 c a w n hR ho)
    rintro e a u ⟨s', c', ⟨rfl, hq⟩, r⟩
    exact ⟨s', c', hq, r⟩
   ·obtain ⟨o, ho, h1⟩ := o2 z r hzs
    rw [hzs] at o1 ⊢
    unfold zOk2 at o1
    rw [Bool.and_eq_true] at o1
    refine ⟨o1.2, fun k hk => ?_, ZGo.rest o1.1 ho h1⟩
    have := o1.1
    unfold restOk at this
    rw [Bool.and_eq_true, Bool.and_eq_true] at this
    exact List.all_eq_true.1 this.1.2 k hk
  refine AW_drawRunZ (Ms := inM ms) hm zs (fun z r hzs => (hz z r hzs).2.1) (fr := fr.filter fun i => !(loudsQ q ops).contains i) (by rw [a1]; exact h1.2) (fun z r hzs => ?_) h0 (fun p hp hl i hb => a4 p hp hl i (by rw [a1] at hb; exact hb)) a2 a3
  obtain ⟨o1, _, o2⟩ := hz z r hzs
  refine ⟨?_, o2⟩
  rw [a1]; exact o1
 | .rangeFunc .., s, k, h => h
 | .scope x, s, k, h => AW_scope ((wc_ok hm x s _ h).mono fun e s' hq => by
   cases e with
   | goto l => exact hq.elim
   | _ => exact hq)
 | .goto _, s, k, h => h
 | .refuse _, s, k, h => h
theorem AW_tree (hm : P.follows .mixedOrders = true) (q : Op → Bool) {c : Code} {s : S} {Q : Exit → S → Prop} (h : (wc P GT q ro c s .done).holds P GT Q) : AW P GT ro c s Q := wc_ok hm c s .done h
inductive View where
 | split (b : Bool)
 | call (g : FuncId) (args : List AV) (M : Mem)
 | dcall (g : FuncId) (args : List AV) (M : Mem)
 | yld (l : Nat) (args : List AV) (M : Mem)
 | ask (t : Option (AV × Mem))
 | loop (ro : Option Nat) (x : Code)
 | code (ro : Option Nat) (c : Code)
 | askall (f : Mem → Option (AV × Mem))
 | dcallF (g : FuncId) (args : List AV)
 | draw (ok : Bool)
 | bld (sl : Bool) (t : TypeId) (n : Nat) (parts : List (Nat × AV)) (M : Mem)
 | chk
 | mkf (ap : Option TypeId) (t : TypeId) (a b : AV)
 | nxt (x : AV) (M : Mem)
 | done (e : Exit)
 | fail
def W.view : W → View
 | .split b _ => .split b
 | .call g args M _ => .call g args M
 | .dcall g args M _ => .dcall g args M
 | .yld l args M _ => .yld l args M
 | .ask t _ => .ask t
 | .askq t _ _ => .ask t
 | .loop ro x _ _ => .loop ro x
 | .code ro c _ _ => .code ro c
 | .askall _ f _ => .askall f
 | .chk _ _ => .chk
 | .mkf ap t a b _ => .mkf ap t a b
 | .nxt x M _ => .nxt x M
 | .dcallF g args _ => .dcallF g args
 | .draw _ _ ok _ => .draw (ok [])
 | .bld sl t n parts M _ => .bld sl t n parts M
 | .done e _ => .done e
 | .fail => .fail
def W.br : W → Bool → W | .split _ k, t => k t | _, _ => .fail
def W.back : W → AV → Mem → W | .call _ _ _ k, r, M => k r M | .dcall _ _ _ k, r, _ => k r | .ask _ k, r, M => k r M | .bld _ _ _ _ _ k, r, M => k r M | .nxt _ _ k, r, M => k r M | _, _, _ => .fail
def W.stS : W → S | .loop _ _ s _ => s | .code _ _ s _ => s | .done _ s => s | _ => ⟨[], [], []⟩
def W.go : W → Exit → S → W | .loop _ _ _ k, e, s => k e s | .code _ _ _ k, e, s => k e s | _, _, _ => .fail
def W.on : W → W | .draw T M _ k => k T M [] none | _ => .fail
def W.okF (fr : List Nat) : W → Bool | .draw _ _ ok _ => ok fr | _ => false
def W.onF (fr : List Nat) : W → W | .draw T M _ k => k T M fr none | _ => .fail
def W.onM (fr : List Nat) (Ms : List (Nat × (Mem → Prop))) : W → W | .draw T M _ k => k T M fr (some Ms) | _ => .fail
def W.onG (M1 : Mem) (fr : List Nat) : W → W | .draw T _ _ k => k T M1 fr none | _ => .fail
def W.onGM (M1 : Mem) (fr : List Nat) (Ms : List (Nat × (Mem → Prop))) : W → W | .draw T _ _ k => k T M1 fr (some Ms) | _ => .fail
def W.drT : W → List AV | .draw T _ _ _ => T | _ => []
def W.onT (T1 : List AV) (M1 : Mem) (fr : List Nat) : W → W | .draw _ _ _ k => k T1 M1 fr none | _ => .fail
def W.onTM (T1 : List AV) (M1 : Mem) (fr : List Nat) (Ms : List (Nat × (Mem → Prop))) : W → W | .draw _ _ _ k => k T1 M1 fr (some Ms) | _ => .fail
def W.drM : W → Mem | .draw _ M _ _ => M | _ => []
def W.cls : W → Mem → Prop | .askall Ms _ _, M => Ms M | _, _ => False
def W.isAskall : W → Bool | .askall .. => true | _ => false
def W.askf : W → Mem → Option (AV × Mem) | .askall _ f _, M => f M | _, _ => none
def W.chkp : W → Prop | .chk p _ => p | _ => False
def W.chkon : W → W | .chk _ k => k | _ => .fail
def W.backF : W → AV → W | .mkf _ _ _ _ k, x => k x | .askall _ _ k, x => k x | .dcallF _ _ k, x => k x | _, _ => .fail
def W.cont : W → Bool → Mem → W | .yld _ _ _ k, b, M => k b M | _, _, _ => .fail
variable {Q : Exit → S → Prop} {w : W}
theorem H_split (b : Bool) (hv : w.view = .split b) (h1 : b = true → (w.br true).holds P GT Q) (h2 : b = false → (w.br false).holds P GT Q) : w.holds P GT Q := by
 cases w <;> simp [W.view] at hv
 subst hv; exact ⟨h1, h2⟩
theorem H_call {g : FuncId} {args : List AV} {M : Mem} (R : AV → Mem → Prop) (hv : w.view = .call g args M) (hc : ACall P GT g args M R) (he : Enters P g) (h : ∀ r M', R r M' → (w.back r M').holds P GT Q) : w.holds P GT Q := by
 cases w <;> simp [W.view] at hv
 obtain ⟨rfl, rfl, rfl⟩ := hv; exact .inl ⟨R, hc, he, h⟩
theorem H_dcall {g : FuncId} {args : List AV} {M : Mem} (x : AV) (hv : w.view = .dcall g args M) (hc : ACall P GT g args M fun r M' => r = x ∧ M' = M) (he : Enters P g) (h : (w.back x M).holds P GT Q) : w.holds P GT Q := by
 cases w <;> simp [W.view] at hv
 obtain ⟨rfl, rfl, rfl⟩ := hv; exact .inl ⟨x, hc, he, h⟩
theorem H_ask {t : Option (AV × Mem)} (x : AV) (M : Mem) (hv : w.view = .ask t) (ht : t = some (x, M)) (h : (w.back x M).holds P GT Q) : w.holds P GT Q := by
 cases w <;> simp [W.view] at hv
 ·subst hv; exact ⟨x, M, ht, h⟩
 ·simp [W.back] at h; exact h.elim
theorem H_bld {sl : Bool} {t : TypeId} {n : Nat} {parts : List (Nat × AV)} {M0 : Mem} (x : AV) (M : Mem) (hv : w.view = .bld sl t n parts M0) (ht : BldOK P sl t n parts M0 x M) (h : (w.back x M).holds P GT Q) : w.holds P GT Q := by
 cases w <;> simp [W.view] at hv
 obtain ⟨rfl, rfl, rfl, rfl, rfl⟩ := hv; exact ⟨x, M, ht, h⟩
theorem H_draw (hv : w.view = .draw true) (h : w.on.holds P GT Q) : w.holds P GT Q := by
 cases w <;> simp [W.view] at hv
 exact ⟨_, _, [], none, (GStep.refl _).t, hv, fun _ => trivial, h⟩
theorem H_drawF (fr : List Nat) (hv : w.okF fr = true) (h : (w.onF fr).holds P GT Q) : w.holds P GT Q := by
 cases w <;> simp [W.okF] at hv
 exact ⟨_, _, fr, none, (GStep.refl _).t, hv, fun _ => trivial, h⟩
theorem H_drawG (fr : List Nat) (M1 M0 : Mem) (hv : w.okF fr = true) (hM : w.drM = M0) (hg : GStep M0 M1) (h : (w.onG M1 fr).holds P GT Q) : w.holds P GT Q := by
 cases w <;> simp [W.okF] at hv
 subst hM
 exact ⟨_, _, fr, none, hg.t, hv, fun _ => trivial, h⟩
theorem H_drawM (fr : List Nat) (Ms : List (Nat × (Mem → Prop))) (M : Mem) (hv : w.okF fr = true) (hM : w.drM = M) (hMs : allC Ms (fun _ => true) M) (h : (w.onM fr Ms).holds P GT Q) : w.holds P GT Q := by
 cases w <;> simp [W.okF] at hv
 subst hM
 exact ⟨_, _, fr, some Ms, (GStep.refl _).t, hv, fun i => allC_cls hMs i rfl, h⟩
theorem H_drawTM (fr : List Nat) (Ms : List (Nat × (Mem → Prop))) (i b len ver : Nat) {x : PD} (M1 M0 : Mem) (hv : w.okF fr = true) (hM : w.drM = M0) (hT : w.drT[i]? = some (.own b len ver)) (hx : ownPD M0 b len ver = some x) (hf : Go.Abs.frz M0 b = M1) (hMs : allC Ms (fun _ => true) M1) (h : (w.onTM (w.drT.set i (.pd x)) M1 fr Ms).holds P GT Q) : w.holds P GT Q := by
 cases w <;> simp [W.okF] at hv
 subst hM; subst hf
 exact ⟨_, _, fr, some Ms, TStep.frz i hT hx, hv, fun i => allC_cls hMs i rfl, h⟩
theorem H_chk {p : Prop} (hv : w.view = .chk) (hp : w.chkp = p) (h1 : p) (h : w.chkon.holds P GT Q) : w.holds P GT Q := by
 cases w <;> simp [W.view] at hv
 subst hp
 exact ⟨h1, h⟩
theorem H_askM (Ms : Mem → Prop) (x : AV) (hv : w.isAskall = true) (hc : w.cls = Ms) (ht : ∀ M, Ms M → w.askf M = some (x, M)) (h : (w.backF x).holds P GT Q) : w.holds P GT Q := by
 cases w <;> simp [W.isAskall] at hv
 subst hc; exact ⟨x, ht, h⟩
theorem H_askall {f : Mem → Option (AV × Mem)} (x : AV) (hv : w.view = .askall f) (ht : ∀ M, f M = some (x, M)) (h : (w.backF x).holds P GT Q) : w.holds P GT Q := by
 cases w <;> simp [W.view] at hv
 subst hv; exact ⟨x, fun M _ => ht M, h⟩
theorem H_mkf {t : TypeId} {a b x : PD} {n : Nat} {ob : Ob} (hv : w.view = .mkf none t (.pd a) (.pd b)) (h1 : aMake P [] t (.pd a) (.pd b) = some (.own 0 n 0, [ob])) (h2 : ownPD [ob] 0 n 0 = some x) (h : (w.backF (.pd x)).holds P GT Q) : w.holds P GT Q := by
 cases w <;> simp [W.view] at hv
 obtain ⟨rfl, rfl, rfl, rfl⟩ := hv; exact ⟨n, ob, x, by simp [AV.pure], by simp [AV.pure], h1, h2, h⟩
theorem H_dcallF {g : FuncId} {args : List AV} (x : AV) (hv : w.view = .dcallF g args) (hc : ∀ M, ACall P GT g args M fun r M' => r = x ∧ M' = M) (he : Enters P g) (h : (w.backF x).holds P GT Q) : w.holds P GT Q := by
 cases w <;> simp [W.view] at hv
 obtain ⟨rfl, rfl⟩ := hv; exact .inl ⟨x, hc, he, h⟩
theorem H_done (e : Exit) (hv : w.view = .done e) (h : Q e w.stS) : w.holds P GT Q := by
 cases w <;> simp [W.view] at hv
 subst hv; exact h
def mkT (n : Nat) (sp : List (Nat × AV)) : List AV := sp.foldl (fun T p => T.set p.1 p.2) (List.replicate n .junk)
def pickT (T : List AV) (l : List Nat) : List (Option AV) := l.map fun i => T[i]?
theorem less_mk {T : List AV} {n : Nat} {sp : List (Nat × AV)} (hn : T.length = n) (h : pickT T (sp.map (·.1)) = sp.map fun p => some p.2) : Less T (mkT n sp) := by
 have len : ∀ (sp : List (Nat × AV)) (T0 : List AV), (sp.foldl (fun T p => T.set p.1 p.2) T0).length = T0.length := by
  intro sp
  induction sp with
  | nil => intro _; rfl
  | cons p sp ih => intro T0; rw [List.foldl_cons, ih]; simp
 have key : ∀ (sp : List (Nat × AV)) (T0 : List AV), (∀ p, p ∈ sp → T[p.1]? = some p.2) → (∀ (i : Nat) (x : AV), T0[i]? = some x → x = .junk ∨ T[i]? = some x) → ∀ (i : Nat) (x : AV), (sp.foldl (fun T p => T.set p.1 p.2) T0)[i]? = some x → x = .junk ∨ T[i]? = some x := by
  intro sp
  induction sp with
  | nil => intro T0 _ h0 i x hx; exact h0 i x hx
  | cons p sp ih =>
   intro T0 hp h0 i x hx
   rw [List.foldl_cons] at hx
   refine ih _ (fun r hr => hp r (by simp [hr])) (fun j y hy => ?_) i x hx
   rw [List.getElem?_set] at hy
   split at hy
   ·rename_i e
    split at hy
    ·cases hy; right; rw [← e]; exact hp p (by simp)
    ·cases hy
   ·exact h0 j y hy
 refine ⟨by rw [mkT, len]; simp [hn], fun i x hx => ?_⟩
 refine key sp _ (fun p hp => ?_) (fun i x hx => ?_) i x hx
 ·have : ∀ (sp : List (Nat × AV)), pickT T (sp.map (·.1)) = sp.map (fun p => some p.2) → ∀ p, p ∈ sp → T[p.1]? = some p.2 := by
   intro sp
   induction sp with
   | nil => intro _ p hp; cases hp
   | cons r sp ih =>
    intro h p hp
    simp only [pickT, List.map_cons, List.cons.injEq] at h
    rcases List.mem_cons.1 hp with rfl | hp
    ·exact h.1
    ·exact ih (by simpa [pickT] using h.2) p hp
  exact this sp h p hp
 ·rw [List.getElem?_replicate] at hx
  split at hx
  ·cases hx; exact .inl rfl
  ·cases hx
theorem H_yld {Q : Exit → S → Prop} {l : Nat} {args : List AV} {M : Mem} (hv : w.view = .yld l args M) (h : Rnd P GT l args M fun b M' => (w.cont b M').holds P GT Q) : w.holds P GT Q := by
 cases w <;> simp [W.view] at hv
 obtain ⟨rfl, rfl, rfl⟩ := hv
 simp only [W.cont] at h
 exact h
def W.isRange : W → Bool | .code none (.rangeFunc ..) _ _ => true | _ => false
def W.rg : W → Operand | .code _ (.rangeFunc g _ _ _) _ _ => g | _ => .const undef
def W.rps : W → Array Tmp | .code _ (.rangeFunc _ ps _ _) _ _ => ps | _ => #[]
def W.rasg : W → Code | .code _ (.rangeFunc _ _ a _) _ _ => a | _ => .skip
def W.rbo : W → Code | .code _ (.rangeFunc _ _ _ b) _ _ => b | _ => .skip
def W.rM (w : W) : Mem := w.stS.M ++ [.defers false] ++ [.loop .ready none w.stS.T w.rps w.rasg w.rbo w.stS.M.length]
theorem H_range {Q : Exit → S → Prop} {gf : FuncId} {l1 l2 : List AV} (M1 : Mem) (l : Nat) (hv : w.isRange = true) (hg : aev GT w.stS.T w.rg = .fn (.func gf) l1 l2) (he : Enters P gf) (hM : w.rM = M1) (hl : w.stS.M.length + 1 = l)
  (h : ACall P GT gf (l1 ++ [.yld l] ++ l2) M1 fun _ M' => aftFn P GT none l w.stS.T (w.stS.M.length :: w.stS.D) (fun e s' => (w.go e s').holds P GT Q) M') : w.holds P GT Q := by
 subst hM; subst hl
 cases w with
 | code ro c s k =>
  cases ro with
  | some l => simp [W.isRange] at hv
  | none =>
   cases c with
   | rangeFunc g ps asg bo =>
    simp only [W.stS, W.rg, W.rM, W.rps, W.rasg, W.rbo, W.go] at hg h
    exact AW_rangeFunc hg he h
   | _ => simp [W.isRange] at hv
 | _ => simp [W.isRange] at hv
theorem aft_done {ro : Option Nat} {l : Nat} {T : List AV} {D : List Nat} {Q : Exit → S → Prop} {M M' : Mem} {st : LoopState} (h1 : loopSt M l = some (st, none)) (h2 : st ≠ .busy) (h3 : setLoop M l .exhausted none = some M') (h : Q .normal ⟨T, M', D⟩) : aftFn P GT ro l T D Q M := ⟨st, none, M', h1, h2, h3, h⟩
theorem aft_pend {ro : Option Nat} {l : Nat} {T : List AV} {D : List Nat} {Q : Exit → S → Prop} {M M' : Mem} {st : LoopState} {c : Code} (h1 : loopSt M l = some (st, some c)) (h2 : st ≠ .busy) (h3 : setLoop M l .exhausted (some c) = some M') (hm : P.follows .mixedOrders = true) (q : Op → Bool) (h : (wc P GT q ro c ⟨T, M', D⟩ .done).holds P GT Q) : aftFn P GT ro l T D Q M := ⟨st, some c, M', h1, h2, h3, AW_tree hm q h⟩
def rndQ2 (l : Nat) (K : Bool → Mem → Prop) : Exit → S → Prop := rndQ l K
theorem Rnd_tree (hm : P.follows .mixedOrders = true) (q : Op → Bool) {l : Nat} {args : List AV} {M : Mem} {K : Bool → Mem → Prop} (pe : Option Code) (T : List AV) (ps : Array Tmp) (asg bo : Code) (df : Nat) (hM : M[l]? = some (.loop .ready pe T ps asg bo df)) (hn : args.length = ps.size)
  (e1 : S) (ha : wc P GT q (some l) asg ⟨setAll T ps.toList args, M, []⟩ .done = .done .normal e1) (M1 : Mem) (pe1 : Option Code) (hst : loopSt e1.M l = some (.ready, pe1)) (hs : setLoop e1.M l .busy pe1 = some M1)
  (h : (wc P GT q (some l) bo ⟨e1.T, M1, e1.D⟩ .done).holds P GT (rndQ2 l K)) : Rnd P GT l args M K := by
 refine ⟨pe, T, ps, asg, bo, df, hM, hn, ?_⟩
 refine AW_tree hm q (Q := thn _ _) ?_
 rw [ha]
 exact ⟨by rw [hst]; rfl, M1, pe1, by rw [hst]; rfl, hs, AW_tree hm q h⟩
theorem H_rnd {l : Nat} {K : Bool → Mem → Prop} (e : Exit) (st : LoopState) (pe : Option Code) (b : Bool) (M' : Mem) (hv : w.view = .done e) (he : rndEnd e = some (st, pe, b)) (hM : setLoop w.stS.M l st pe = some M') (h : K b M') : w.holds P GT (rndQ2 l K) :=
 H_done e hv ⟨st, pe, b, M', he, hM, h⟩
def asgW (P : Program) (GT : Tabs) (q : Op → Bool) (l : Nat) (args : List AV) (M : Mem) : W :=
 match M[l]? with
 | some (.loop .ready _ T ps asg _ _) => if Nat.beq args.length ps.size then wc P GT q (some l) asg ⟨setAll T ps.toList args, M, []⟩ .done else .fail
 | _ => .fail
def bodyW2 (P : Program) (GT : Tabs) (q : Op → Bool) (l : Nat) (bo : Code) (e1 : S) : W :=
 match loopSt e1.M l with
 | some (.ready, pe1) => match setLoop e1.M l .busy pe1 with | some M1 => wc P GT q (some l) bo ⟨e1.T, M1, e1.D⟩ .done | none => .fail
 | _ => .fail
def bodyW (P : Program) (GT : Tabs) (q : Op → Bool) (l : Nat) (args : List AV) (M : Mem) : W :=
 match M[l]? with
 | some (.loop .ready _ _ _ _ bo _) => bodyW2 P GT q l bo (asgW P GT q l args M).stS
 | _ => .fail
theorem W.holds_fail0 {P : Program} {GT : Tabs} {Q : Exit → S → Prop} (h : W.fail.holds P GT Q) : False := h
theorem H_round (hm : P.follows .mixedOrders = true) (q : Op → Bool) {l : Nat} {args : List AV} {M : Mem} {K : Bool → Mem → Prop} (hv : (asgW P GT q l args M).view = .done .normal) (h : (bodyW P GT q l args M).holds P GT (rndQ2 l K)) : Rnd P GT l args M K := by
 unfold bodyW at h
 split at h
 ·rename_i pe T ps asg bo df hM
  have hA : asgW P GT q l args M = if Nat.beq args.length ps.size then wc P GT q (some l) asg ⟨setAll T ps.toList args, M, []⟩ .done else .fail := by simp only [asgW, hM]
  by_cases hn : Nat.beq args.length ps.size = true
  ·rw [if_pos hn] at hA
   rw [hA] at hv h
   generalize hw : wc P GT q (some l) asg ⟨setAll T ps.toList args, M, []⟩ .done = wa at hv h
   cases wa with
   | done e e1 =>
    simp only [W.view, View.done.injEq] at hv
    subst hv
    simp only [W.stS] at h
    unfold bodyW2 at h
    split at h
    ·rename_i pe1 hst
     split at h
     ·rename_i M1 hs
      exact Rnd_tree hm q pe T ps asg bo df hM (Nat.eq_of_beq_eq_true hn) e1 hw M1 pe1 hst hs h
     ·exact (W.holds_fail0 h).elim
    ·exact (W.holds_fail0 h).elim
   | _ => simp [W.view] at hv
  ·rw [if_neg hn] at hA
   rw [hA] at hv
   simp [W.view] at hv
 ·exact (W.holds_fail0 h).elim
def bodyA (P : Program) (GT : Tabs) (q : Op → Bool) (l : Nat) (args : List AV) (M : Mem) : W :=
 match M[l]? with
 | some (.loop .ready _ T ps asg bo _) => if Nat.beq args.length ps.size then wc P GT q (some l) asg ⟨setAll T ps.toList args, M, []⟩ (fun e e1 => match e with | .normal => bodyW2 P GT q l bo e1 | _ => .fail) else .fail
 | _ => .fail
theorem H_roundA (hm : P.follows .mixedOrders = true) (q : Op → Bool) {l : Nat} {args : List AV} {M : Mem} {K : Bool → Mem → Prop} (h : (bodyA P GT q l args M).holds P GT (rndQ2 l K)) : Rnd P GT l args M K := by
 unfold bodyA at h
 split at h
 ·rename_i pe T ps asg bo df hM
  split at h
  ·rename_i hn
   refine ⟨pe, T, ps, asg, bo, df, hM, Nat.eq_of_beq_eq_true hn, (wc_ok hm asg _ _ h).mono ?_⟩
   rintro e s' hq
   cases e with
   | normal =>
    dsimp only at hq
    unfold bodyW2 at hq
    split at hq
    ·rename_i pe1 hst
     split at hq
     ·rename_i M1 hs
      exact ⟨by rw [hst]; rfl, M1, pe1, by rw [hst]; rfl, hs, AW_tree hm q hq⟩
     ·exact (W.holds_fail0 hq).elim
    ·exact (W.holds_fail0 hq).elim
   | _ => exact (W.holds_fail0 hq).elim
  ·exact (W.holds_fail0 h).elim
 ·exact (W.holds_fail0 h).elim
theorem W.holds_fail {P : Program} {GT : Tabs} {Q : Exit → S → Prop} (h : W.fail.holds P GT Q) : False := h
theorem H_loopAW {x : Code} (hv : w.view = .loop ro x) (h : AW P GT ro (.loop x) w.stS fun e s' => (w.go e s').holds P GT Q) : w.holds P GT Q := by
 cases w <;> simp [W.view] at hv
 obtain ⟨rfl, rfl⟩ := hv
 exact h
def W.memL (M1 : Mem) : W → W | .loop ro x s k => .loop ro x ⟨s.T, M1, s.D⟩ k | _ => .fail
theorem fail_holds {Q : Exit → S → Prop} (h : (W.fail).holds P GT Q) : False := h
attribute [irreducible] asgW bodyW2 bodyW bodyA rndQ2 W.isRange W.rg W.rps W.rasg W.rbo W.rM W.holds W.view W.br W.back W.stS W.go W.on W.okF W.onF W.onGM W.onT W.onTM W.drT W.backF W.cont W.memL wc wops wop wdraw
end Go.Abs
end
