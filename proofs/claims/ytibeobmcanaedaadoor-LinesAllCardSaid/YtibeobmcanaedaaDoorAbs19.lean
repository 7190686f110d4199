/- Regions whose order of evaluation is drawn: every order comes to the same. -/
import Derived.Test.YtibeobmcanaedaaDoorAbs18
namespace Go.Abs
open Go.RowKit Go.Proofs
variable {P : Program} {GT : Tabs} {ro : Option Nat} {Q : Exit → S → Prop} {s : S}

/-- The operation, at any activation whose looked-at slots are as T says, does x and leaves M'. -/
def Can1 (P : Program) (GT : Tabs) (ro : Option Nat) (ops : Array Oper) (o : Oper) (T : List AV) (M : Mem) (x : AV) (M' : Mem) : Prop :=
  ∀ B I0 c (a : Act) w n (KK : Act → World → Prop) QQ, Sim B I0 c M w → GRep GT c w → (∀ l, ro = some l → obj M l) → T.length ≤ a.tmps.size → (∀ t, t ∈ o.looksAt ops → ∀ y, T[t]? = some y → ARep c M w (a.tmps.getD t undef) y) →
    (∀ c' v w', Sim B I0 c' M' w' → ARep c' M' w' v x → Ext c M c' M' → Stp B c w c' w' → KK (a.put o.dst v) w') →
    if Region.wanted o (yielded ops a.tmps) then o.wpIn (fen c ro) n P a w KK QQ else (∀ f, o.about P w a.eval = some f → (fen c ro).fn f) ∧ KK (a.put o.dst undef) w

theorem Can1.congr {ops : Array Oper} {o : Oper} {T T2 : List AV} {M M' : Mem} {x : AV} (h : Can1 P GT ro ops o T M x M') (hl : T2.length = T.length) (ha : ∀ t, t ∈ o.looksAt ops → T2[t]? = T[t]?) : Can1 P GT ro ops o T2 M x M' :=
  fun B I0 c a w n KK QQ h1 h2 h3 h4 h5 h6 => h B I0 c a w n KK QQ h1 h2 h3 (by omega) (fun t ht y hy => h5 t ht y (by rw [ha t ht]; exact hy)) h6

theorem aop_congr {ρ ρ' : Operand → AV} {M : Mem} {op : Op} (h : ∀ y, y ∈ op.operands → ρ y = ρ' y) : aop P ρ M op = aop P ρ' M op := by
  have mp : ∀ {xs : Array Operand}, (∀ y, y ∈ xs → ρ y = ρ' y) → xs.toList.map ρ = xs.toList.map ρ' := fun hx => List.map_congr_left fun y hy => hx y (by simpa using hy)
  have op' : ∀ {x : Option Operand}, (∀ y, y ∈ x.toArray → ρ y = ρ' y) → x.map ρ = x.map ρ' := fun {x} hx => by
    cases x with
    | none => rfl
    | some y => simp [hx y (by simp)]
  have pp : ∀ {ps : Array (Nat × Operand)}, (∀ y, y ∈ (ps.toList.map (·.2)).toArray → ρ y = ρ' y) → (ps.toList.map fun p => (p.1, ρ p.2)) = ps.toList.map fun p => (p.1, ρ' p.2) := fun hx => by
    apply List.map_congr_left
    intro p hp
    rw [hx p.2 (by simp only [List.mem_toArray, List.mem_map]; exact ⟨p, hp, rfl⟩)]
  cases op with
  | call k =>
    obtain ⟨callee, args, ts⟩ := k
    cases callee with
    | builtin b =>
      simp only [aop]
      rw [mp (xs := args) fun y hy => h y (by simp [Op.operands, Call.operands, hy])]
    | _ => rfl
  | build t ps => simp only [aop]; rw [pp h]
  | buildSlice t n ps => simp only [aop]; rw [pp h]
  | makeFunc f a b =>
    cases f with
    | func f => simp only [aop]; rw [mp (xs := a) fun y hy => h y (by simp [Op.operands, hy]), mp (xs := b) fun y hy => h y (by simp [Op.operands, hy])]
    | _ => rfl
  | slice t x l hh m =>
    simp only [aop]
    rw [h x (by simp [Op.operands]), op' (x := l) fun y hy => h y (by simp only [Op.operands, Array.mem_append]; exact .inl (.inl (.inr hy))),
      op' (x := hh) fun y hy => h y (by simp only [Op.operands, Array.mem_append]; exact .inl (.inr hy)), op' (x := m) fun y hy => h y (by simp only [Op.operands, Array.mem_append]; exact .inr hy)]
  | pick a b d => simp only [aop, h a (by simp [Op.operands]), h b (by simp [Op.operands]), h d (by simp [Op.operands])]
  | store t a v => simp only [aop, h a (by simp [Op.operands]), h v (by simp [Op.operands])]
  | binOp o t a v t2 => simp only [aop, h a (by simp [Op.operands]), h v (by simp [Op.operands])]
  | makeSlice t a v => simp only [aop, h a (by simp [Op.operands]), h v (by simp [Op.operands])]
  | indexAddr t a v => simp only [aop, h a (by simp [Op.operands]), h v (by simp [Op.operands])]
  | index t a v => simp only [aop, h a (by simp [Op.operands]), h v (by simp [Op.operands])]
  | move x => simp only [aop, h x (by simp [Op.operands])]
  | assign x => simp only [aop, h x (by simp [Op.operands])]
  | box t x => simp only [aop, h x (by simp [Op.operands])]
  | load t x => simp only [aop, h x (by simp [Op.operands])]
  | nilCheck x => simp only [aop, h x (by simp [Op.operands])]
  | unOp o t x => simp only [aop, h x (by simp [Op.operands])]
  | convert s d x => simp only [aop, h x (by simp [Op.operands])]
  | fieldAddr t x f => simp only [aop, h x (by simp [Op.operands])]
  | field t x f => simp only [aop, h x (by simp [Op.operands])]
  | range t x => simp only [aop, h x (by simp [Op.operands])]
  | next x f => simp only [aop, h x (by simp [Op.operands])]
  | extract x f => simp only [aop, h x (by simp [Op.operands])]
  | _ => rfl

/-- T, of which only what o looks at is known. -/
def sieve (ops : Array Oper) (o : Oper) (T : List AV) : List AV := T.mapIdx fun t y => if t ∈ o.looksAt ops then y else .junk

theorem sieve_get {ops : Array Oper} {o : Oper} {T : List AV} {t : Nat} (h : t ∈ o.looksAt ops) : (sieve ops o T)[t]? = T[t]? := by
  simp [sieve, List.getElem?_mapIdx, h]

theorem sieve_rep {ops : Array Oper} {o : Oper} {T : List AV} {c : Ctx} {M : Mem} {w : World} {tmps : Array Value} (hl : T.length ≤ tmps.size) (h : ∀ t, t ∈ o.looksAt ops → ∀ y, T[t]? = some y → ARep c M w (tmps.getD t undef) y) : TRep c M w tmps (sieve ops o T) := by
  refine ⟨by simpa [sieve] using hl, fun t y hy => ?_⟩
  by_cases hm : t ∈ o.looksAt ops
  · rw [sieve_get hm] at hy; exact h t hm y hy
  · simp [sieve, List.getElem?_mapIdx, hm] at hy
    obtain ⟨_, _, rfl⟩ := hy
    exact .junk _

theorem sieve_ev {ops : Array Oper} {o : Oper} {T : List AV} {y : Operand} (h : y ∈ o.op.operands) : aev GT (sieve ops o T) y = aev GT T y := by
  cases y with
  | tmp t =>
    have : t ∈ o.looksAt ops := List.mem_append_left _ (List.mem_filterMap.2 ⟨.tmp t, by simpa using h, rfl⟩)
    simp only [aev, List.getD_eq_getElem?_getD, sieve_get this]
  | _ => rfl

theorem sieve_guard {ops : Array Oper} {o : Oper} {T : List AV} : aGuard ops (sieve ops o T) o = aGuard ops T o := by
  unfold aGuard
  cases hg : o.guard with
  | none => rfl
  | some p =>
    obtain ⟨j, want⟩ := p
    simp only
    cases hd : (ops[j]?).bind (·.dst) with
    | none => rfl
    | some d =>
      have : d ∈ o.looksAt ops := by simp [Oper.looksAt, hg, hd]
      simp only [sieve_get this]

theorem Can1_op {ops : Array Oper} {o : Oper} {T : List AV} {M M' : Mem} {x : AV} (hg : aGuard ops T o = some true) (h : aop P (aev GT T) M o.op = some (x, M')) : Can1 P GT ro ops o T M x M' := by
  intro B I0 c a w n KK QQ hS hG hob hl hT hK
  have hT' := sieve_rep hl hT
  have hR : Rel GT B I0 c ⟨sieve ops o T, M, []⟩ { a with defers := [] } w := ⟨hS, hG, hT', rfl, List.nodup_nil, by simp⟩
  rw [← sieve_guard] at hg
  rw [← aop_congr (fun y hy => sieve_ev hy)] at h
  have hw := aGuard_ok hT' hg
  rw [if_pos hw]
  obtain ⟨m, v', w', c', h1, h2, h3, h4, h5, h6⟩ := aop_ok hS (fun x => hR.ev x) (fun _ => rfl) h
  refine ⟨fun _ _ => fen_fn _ _ _, ?_⟩
  have hd : ∀ k, o.op ≠ .defer k := by intro k e; rw [e] at h; simp [aop] at h
  have e : (o.semAt (fen c ro).round a.eval) = execOp a.eval o := Oper.semAt_eq _ _ _ hd
  have e2 : (execOp a.eval o).run P w = .ok m w' := h1
  rw [e, e2]
  have hk := hK c' v' w' h4 h3 h5 h6
  rcases h2 with rfl | ⟨rfl, rfl⟩
  · exact hk
  · exact hk

theorem Can1_skip {ops : Array Oper} {o : Oper} {T : List AV} {M : Mem} (hg : aGuard ops T o = some false) : Can1 P GT ro ops o T M (.tup []) M := by
  intro B I0 c a w n KK QQ hS hG hob hl hT hK
  have hT' := sieve_rep hl hT
  rw [← sieve_guard] at hg
  have hw := aGuard_ok hT' hg
  rw [if_neg (by rw [hw]; simp)]
  exact ⟨fun _ _ => fen_fn _ _ _, hK c undef w hS undef_rep (Ext.refl _ _) (Stp.refl _ _ _)⟩

theorem Can1_call {ops : Array Oper} {o : Oper} {T : List AV} {M M' : Mem} {x : AV} {f : Operand} {args : Array Operand} {ts : Array TypeId} {g : FuncId} {l1 l2 : List AV} (hg : aGuard ops T o = some true)
    (ho : o.op = .call { callee := .value f, args := args, argTypes := ts }) (hf : aev GT T f = .fn (.func g) l1 l2) (he : Enters P g)
    (hc : ACall P GT g (l1 ++ args.toList.map (aev GT T) ++ l2) M fun r M1 => r = x ∧ M1 = M') : Can1 P GT ro ops o T M x M' := by
  intro B I0 c a w n KK QQ hS hG hob hl hT hK
  have hT' := sieve_rep hl hT
  have hR : Rel GT B I0 c ⟨sieve ops o T, M, []⟩ { a with defers := [] } w := ⟨hS, hG, hT', rfl, List.nodup_nil, by simp⟩
  rw [← sieve_guard] at hg
  have hmem : ∀ y, y = f ∨ y ∈ args → y ∈ o.op.operands := by
    intro y hy
    rw [ho]
    simp only [Op.operands, Call.operands, Array.mem_append]
    rcases hy with rfl | hy
    · exact .inl (by simp)
    · exact .inr hy
  have hw := aGuard_ok hT' hg
  have hfv := hR.ev f
  rw [sieve_ev (hmem f (.inl rfl)), hf] at hfv
  obtain ⟨v1, v2, hv, q1, q2⟩ := hfv.fnInv
  have hargs0 : ArgsRep c M w (args.map a.eval) (args.toList.map (aev GT (sieve ops o T))) := list_rep (fun x => hR.ev x) args
  have emap : args.toList.map (aev GT (sieve ops o T)) = args.toList.map (aev GT T) := List.map_congr_left fun y hy => sieve_ev (hmem y (.inr (by simpa using hy)))
  rw [emap] at hargs0
  rw [if_pos hw]
  refine ⟨fun _ _ => fen_fn _ _ _, ?_⟩
  have hv' : a.eval f = .func (.func g) v1 v2 := hv
  have hrun : (o.semAt (fen c ro).round a.eval).run P w = .ok (.enter g (v1 ++ args.map a.eval ++ v2)) w := by
    rw [Oper.semAt_eq _ _ _ (by intro k e; rw [e] at ho; cases ho)]
    simp only [execOp, ho, resolve, hv', Deferred.ofValue, invoke]
    simp only [Sem.run_bind, Sem.run_pure, Result.andThen_ok]
    exact he _ _
  rw [hrun]
  refine ⟨fun h => fen_depth _ _ h, ?_⟩
  refine callsIn_fen ((hc B I0 c w _ (n - 1) hS hG ((q1.append hargs0).append q2)).mono ?_)
  rintro e w' ⟨v, r, M1, c', rfl, ⟨rfl, rfl⟩, hvv, hS', hE, hs⟩
  exact hK c' v w' hS' hvv hE hs

/-! ### all orders -/
def TT (T : List AV) (own : Nat → Option Nat) (x : Nat → AV) (E : Nat → Bool) : List AV := T.mapIdx fun t y => match own t with | some k => if E k then x k else y | none => y

def Closed (ops : Array Oper) (E : Nat → Bool) : Prop := ∀ i o, ops[i]? = some o → E i = true → ∀ e, e ∈ o.after → Region.binds .any e = true → E e.on = true

def addE (E : Nat → Bool) (i : Nat) : Nat → Bool := fun k => if k = i then true else E k

def left (n : Nat) (E : Nat → Bool) : Nat := ((List.range n).filter fun i => !E i).length

theorem left_add {n i : Nat} {E : Nat → Bool} (hi : i < n) (hE : E i = false) : left n (addE E i) + 1 ≤ left n E := by
  unfold left
  induction n with
  | zero => omega
  | succ n ih =>
    rw [List.range_succ, List.filter_append, List.filter_append, List.length_append, List.length_append]
    by_cases e : i = n
    · subst e
      have e1 : (List.range i).filter (fun k => !addE E i k) = (List.range i).filter fun k => !E k := by
        apply List.filter_congr
        intro k hk
        have := List.mem_range.1 hk
        simp [addE, show k ≠ i by omega]
      rw [e1]
      simp [addE, hE]
    · have := ih (by omega)
      have e2 : addE E i n = E n := by simp [addE, show n ≠ i by omega]
      simp only [List.filter_cons, e2, List.filter_nil]
      omega

theorem TT_add {T : List AV} {own : Nat → Option Nat} {x : Nat → AV} {E : Nat → Bool} {i : Nat} {dst : Option Tmp} (h1 : ∀ d, dst = some d → own d = some i) (h2 : ∀ t, own t = some i → dst = some t) : aput (TT T own x E) dst (x i) = TT T own x (addE E i) := by
  apply List.ext_getElem?
  intro t
  have r : ∀ E', (TT T own x E')[t]? = (T[t]?).map fun y => match own t with | some k => if E' k then x k else y | none => y := fun E' => by simp [TT, List.getElem?_mapIdx]
  rw [r]
  cases dst with
  | none =>
    simp only [aput]
    rw [r]
    congr 1
    funext y
    cases ho : own t with
    | none => rfl
    | some k =>
      have : k ≠ i := fun e => by subst e; have := h2 t ho; cases this
      simp [addE, this]
  | some d =>
    simp only [aput, List.getElem?_set]
    by_cases e : d = t
    · subst e
      rw [h1 d rfl]
      simp only [if_true, addE]
      have : (TT T own x E).length = T.length := by simp [TT]
      by_cases hlt : d < T.length
      · simp [this, hlt]
      · simp [this, hlt]
    · rw [if_neg e, r]
      congr 1
      funext y
      cases ho : own t with
      | none => rfl
      | some k =>
        have : k ≠ i := fun e2 => by subst e2; have := h2 t ho; cases this; exact e rfl
        simp [addE, this]

/-- The weaker end, at every order. -/
theorem wpAnyIn_mono2 {F : Fence} {n : Nat} {ops : Array Oper} {md : Region.Mode} {Q Q' : Exit → Act → World → Prop} (hq : ∀ e a w, Q e a w → Q' e a w) : ∀ (fuel : Nat) (listed : Array Bool) (a : Act) (w : World), wpAnyIn F n P md ops Q fuel listed a w → wpAnyIn F n P md ops Q' fuel listed a w
  | 0, _, _, _, h => ⟨h.1, hq _ _ _ h.2⟩
  | fuel + 1, listed, a, w, h => by
    refine ⟨fun hr => hq _ _ _ (h.1 hr), fun i hi => ?_⟩
    have hh := h.2 i hi
    unfold wpOpIn at hh ⊢
    split
    · rename_i ho
      simp only [ho] at hh
      exact wpAnyIn_mono2 hq fuel _ _ _ hh
    · rename_i o ho
      simp only [ho] at hh
      split
      · rename_i hw
        rw [if_pos hw] at hh
        exact wpIn_mono2 (wpAnyIn_mono2 hq fuel _) hq hh
      · rename_i hw
        rw [if_neg hw] at hh
        exact ⟨hh.1, wpAnyIn_mono2 hq fuel _ _ _ hh.2⟩

theorem AW_draw {id : Nat} {ops : Array Oper} {T : List AV} {M : Mem} {D : List Nat} (hm : P.follows .mixedOrders = true) (rk : Nat → Nat) (own : Nat → Option Nat) (x : Nat → AV) (mem : (Nat → Bool) → Mem)
    (hrk : ∀ i o e, ops[i]? = some o → e ∈ o.after → Region.binds .any e = true → rk e.on < rk i ∧ e.on < ops.size)
    (hown : ∀ i o, ops[i]? = some o → (∀ d, o.dst = some d → own d = some i) ∧ ∀ t, own t = some i → o.dst = some t) (h0 : mem (fun _ => false) = M)
    (h : ∀ i o, ops[i]? = some o → ∀ E, Closed ops E → (∀ e, e ∈ o.after → Region.binds .any e = true → E e.on = true) → E i = false → Can1 P GT ro ops o (TT T own x E) (mem E) (x i) (mem (addE E i)))
    (hq : ∀ E, (∀ i, i < ops.size → E i = true) → Q .normal ⟨TT T own x E, mem E, D⟩) : AW P GT ro (.region id ops true) ⟨T, M, D⟩ Q := by
  intro B I0 c a w n hR hob
  refine wpIn_region_any hm ?_
  have key : ∀ (fuel : Nat) (E : Nat → Bool) (listed : Array Bool) (c : Ctx) (a : Act) (w : World), Closed ops E → listed.size = ops.size → (∀ i, i < ops.size → listed[i]? = some (E i)) → left ops.size E ≤ fuel → Rel GT B I0 c ⟨TT T own x E, mem E, D⟩ a w → (∀ l, ro = some l → obj (mem E) l) →
      wpAnyIn (fen c ro) n P .any ops (Aft GT B I0 c (mem E) w Q) fuel listed a w := by
    intro fuel
    have ready0 : ∀ (E : Nat → Bool) (listed : Array Bool), listed.size = ops.size → (∀ i, i < ops.size → listed[i]? = some (E i)) → Region.ready .any ops listed = [] → ∀ i, i < ops.size → E i = true := by
      intro E listed hsz hl hr
      have : ∀ r i, rk i = r → i < ops.size → E i = true := by
        intro r
        induction r using Nat.strongRecOn with
        | _ r ih =>
          intro i hri hi
          cases hE : E i with
          | true => rfl
          | false =>
            exfalso
            have hmem : i ∈ Region.ready .any ops listed := by
              rw [mem_ready]
              refine ⟨by simp [Array.getD_eq_getD_getElem?, hl i hi, hE], ops[i], Array.getElem?_eq_getElem hi, fun e he hb => ?_⟩
              obtain ⟨q1, q2⟩ := hrk i _ e (Array.getElem?_eq_getElem hi) he hb
              have := ih (rk e.on) (by omega) e.on rfl q2
              simp [Array.getD_eq_getD_getElem?, hl _ q2, this]
            rw [hr] at hmem; cases hmem
      exact fun i hi => this _ i rfl hi
    induction fuel with
    | zero =>
      intro E listed c a w hC hsz hl hf hR hob
      have all : ∀ i, i < ops.size → E i = true := by
        intro i hi
        cases hE : E i with
        | true => rfl
        | false => have := left_add hi hE; omega
      refine ⟨?_, _, c, hq E all, hR, Ext.refl _ _, Stp.refl _ _ _⟩
      rw [List.eq_nil_iff_forall_not_mem]
      intro i hi
      obtain ⟨h1, o, h2, _⟩ := mem_ready.1 hi
      have hlt := (Array.getElem?_eq_some_iff.1 h2).1
      simp [Array.getD_eq_getD_getElem?, hl i hlt, all i hlt] at h1
    | succ fuel ih =>
      intro E listed c a w hC hsz hl hf hR hob
      refine ⟨fun hr => ⟨_, c, hq E (ready0 E listed hsz hl hr), hR, Ext.refl _ _, Stp.refl _ _ _⟩, fun i hi => ?_⟩
      obtain ⟨h1, o, h2, h3⟩ := mem_ready.1 hi
      have hlt := (Array.getElem?_eq_some_iff.1 h2).1
      have hE : E i = false := by simpa [Array.getD_eq_getD_getElem?, hl i hlt] using h1
      have hpre : ∀ e, e ∈ o.after → Region.binds .any e = true → E e.on = true := by
        intro e he hb
        have hlt2 := (hrk i o e h2 he hb).2
        have := h3 e he hb
        simpa [Array.getD_eq_getD_getElem?, hl _ hlt2] using this
      have hcan := h i o h2 E hC hpre hE
      unfold wpOpIn
      simp only [h2]
      refine hcan B I0 c a w n _ _ hR.sim hR.glob hob hR.tmps.1 (fun t _ y hy => hR.tmps.2 t y hy) ?_
      intro c' v w' hS' hv hE' hs'
      have hR' := hR.step hS' hE' hs' o.dst hv
      obtain ⟨o1, o2⟩ := hown i o h2
      simp only [TT_add o1 o2] at hR'
      have hC' : Closed ops (addE E i) := by
        intro k ok hk hkE e he hb
        simp only [addE]
        split
        · rfl
        · by_cases hki : k = i
          · subst hki; rw [h2] at hk; cases hk; exact hpre e he hb
          · simp only [addE, if_neg hki] at hkE
            exact hC k ok hk hkE e he hb
      have := ih (addE E i) (listed.setIfInBounds i true) c' (a.put o.dst v) w' hC' (by simpa using hsz) (fun k hk => by
        rw [Array.getElem?_setIfInBounds]
        by_cases e : i = k
        · subst e; simp [addE, hsz, hlt]
        · rw [if_neg e, hl k hk]; simp [addE, Ne.symm e]) (by have := left_add hlt hE; omega) hR' (fun l hl => hE'.obj l (hob l hl))
      rw [fen_ext hE' hob] at this
      exact wpAnyIn_mono2 (fun e a u h => Aft.from hE' hs' h) _ _ _ _ this
  have hR2 : Rel GT B I0 c ⟨TT T own x (fun _ => false), mem (fun _ => false), D⟩ a { w with drawn := w.drawn + 1 } := by
    have eT : TT T own x (fun _ => false) = T := by
      apply List.ext_getElem?
      intro t
      simp only [TT, List.getElem?_mapIdx]
      cases T[t]? with
      | none => rfl
      | some y => cases own t <;> rfl
    rw [eT, h0]
    obtain ⟨q1, q2⟩ := hR.sim.same (w' := { w with drawn := w.drawn + 1 }) rfl rfl rfl rfl
    exact ⟨q1, hR.glob.mono q2, hR.tmps.mono (Ext.refl _ _) q2, hR.dfs⟩
  have := key ops.size (fun _ => false) (Array.replicate ops.size false) c a _ (fun _ _ _ h => by cases h) (by simp) (fun i hi => by simp [hi]) (by unfold left; exact Nat.le_trans (List.length_filter_le _ _) (by simp)) hR2 (fun l hl => by rw [h0]; exact hob l hl)
  obtain ⟨q1, q2⟩ := hR.sim.same (w' := { w with drawn := w.drawn + 1 }) rfl rfl rfl rfl
  refine wpAnyIn_mono2 (fun e a u h => ?_) _ _ _ _ this
  rw [h0] at h
  exact Aft.from (Ext.refl _ _) q2 h

end Go.Abs
