/- Part of a proof, in few files: Abs18. -/
import Derived.Test.YthkcibhfbcfhlaaGreatDoorDChK6

set_option linter.unusedVariables false
set_option linter.unusedSimpArgs false
set_option linter.unnecessarySimpa false
section
namespace Go.Abs
open Go.RowKit Go.Proofs
variable {P : Program} {GT : Tabs} {ro : Option Nat} {Q : Exit → S → Prop} {s : S}
def LoopRun (P : Program) (GT : Tabs) (ro : Option Nat) (x : Code) (Q : Exit → S → Prop) : Nat → S → Prop
 | 0, s => AW P GT ro x s (thn (fun _ => False) Q)
 | k + 1, s => AW P GT ro x s (thn (LoopRun P GT ro x Q k) Q)
theorem AW_loopN {x : Code} {k : Nat} (h : LoopRun P GT ro x Q k s) : AW P GT ro (.loop x) s Q := by
 intro B I0 c a w n hr ho b kk cs hro hb hroom
 have key : ∀ j s c a w, LoopRun P GT ro x Q j s → Rel GT B I0 c s a w → (∀ l, ro = some l → obj s.M l) → b.roundOf = (fen c ro).round →
   ∃ e a' w', Aft GT B I0 c s.M w Q e a' w' ∧ ArrivesIn (Machine.fenced P (fen c ro)) P (lone (b.atR a (.code x :: .inLoop x :: kk)) cs w) b kk cs e a' w' := by
  intro j
  have pass : ∀ {s : S} {c : Ctx} {a : Act} {w : World} {K : S → Prop} {e : Exit} {a₁ : Act} {w₁ : World}, Aft GT B I0 c s.M w (thn K Q) e a₁ w₁ → ArrivesIn (Machine.fenced P (fen c ro)) P (lone (b.atR a (.code x :: .inLoop x :: kk)) cs w) b (.inLoop x :: kk) cs e a₁ w₁ → e ≠ .normal →
    ∃ e a' w', Aft GT B I0 c s.M w Q e a' w' ∧ ArrivesIn (Machine.fenced P (fen c ro)) P (lone (b.atR a (.code x :: .inLoop x :: kk)) cs w) b kk cs e a' w' := by
   intro s c a w K e a₁ w₁ hq harr hne
   cases e with
   | normal => exact absurd rfl hne
   | exit id => exact ⟨_, a₁, w₁, hq, .pass (x := .inLoop x) rfl (fun _ _ => .inl (by simp)) harr⟩
   | goto l => exact ⟨_, a₁, w₁, hq, .pass (x := .inLoop x) rfl (fun _ _ => .inl (by simp)) harr⟩
   | ret => exact ⟨_, a₁, w₁, hq, .pass (x := .inLoop x) rfl (fun _ _ => .inl (by simp)) harr⟩
   | panic ch => exact ⟨_, a₁, w₁, hq, .pass (x := .inLoop x) rfl (fun _ _ => .inl (by simp)) harr⟩
   | outgrown => exact ⟨_, a₁, w₁, hq, .pass (x := .inLoop x) rfl (fun _ _ => .inl (by simp)) harr⟩
  induction j with
  | zero =>
   intro s c a w hI hr ho hro
   have hroom' : ∀ m, (fen c ro).room m := fun m d hd => by cases ro <;> simp [fen, Fence.wide, Fence.inRound] at hd
   obtain ⟨e, a₁, w₁, hq, harr⟩ := hI B I0 c a w n hr ho b (.inLoop x :: kk) cs hro (fen_fn _ _ _) (hroom' _)
   by_cases hne : e = .normal
   ·subst hne; obtain ⟨_, _, hf, _⟩ := hq; exact hf.elim
   ·exact pass hq harr hne
  | succ j ih =>
   intro s c a w hI hr ho hro
   have hroom' : ∀ m, (fen c ro).room m := fun m d hd => by cases ro <;> simp [fen, Fence.wide, Fence.inRound] at hd
   obtain ⟨e, a₁, w₁, hq, harr⟩ := hI B I0 c a w n hr ho b (.inLoop x :: kk) cs hro (fen_fn _ _ _) (hroom' _)
   by_cases hne : e = .normal
   ·subst hne
    obtain ⟨s', c', hI', r, he, hs⟩ := hq
    have hf := fen_ext he ho
    obtain ⟨e₂, a₂, w₂, hq₂, harr₂⟩ := ih s' c' a₁ w₁ hI' r (fun l hl => he.obj l (ho l hl)) (by rw [hf]; exact hro)
    rw [hf] at harr₂
    exact ⟨e₂, a₂, w₂, Aft.from he hs hq₂, .of_steps (StepsIn.trans harr (.one (fenced_calm (n := n) (fen_fn _ _ _) (hroom' _) rfl) stepR_inLoop)) harr₂⟩
   ·exact pass hq harr hne
 obtain ⟨e, a', w', hq, harr⟩ := key k s c a w h hr ho hro
 exact ⟨e, a', w', hq, .of_steps (.one (fenced_calm hb hroom rfl) stepR_loop) harr⟩
def bel0 (n : Nat) : AV → Bool
 | .pd _ | .nilp | .fixed _ | .nilf | .junk | .rd _ => true
 | .ptr b _ _ | .own b _ _ | .owx b _ _ _ | .yld b | .mp b | .it b => Nat.blt b n
 | _ => false
def belS (f : AV → Bool) : AV → Bool
 | .agg l | .tup l => l.all f
 | .fn _ l1 l2 => l1.all f && l2.all f
 | _ => false
def bel1 (n : Nat) (x : AV) : Bool := bel0 n x || belS (bel0 n) x
def bel2 (n : Nat) (x : AV) : Bool := bel1 n x || belS (bel1 n) x
def bel3 (n : Nat) (x : AV) : Bool := bel2 n x || belS (bel2 n) x
def belO (n : Nat) : Ob → Bool
 | .cells l _ _ _ => l.all (bel2 n)
 | .loop _ _ T _ _ _ df => T.all (bel3 n) && Nat.blt df n
 | .mit b _ _ => Nat.blt b n
 | _ => true
def BelOK (n : Nat) (x : AV) : Prop := ∀ (c : Ctx) (M : Mem) (w : World) (v : Value), ARep c M w v x → n ≤ M.length → ARep c (M.take n) w v x
theorem verOf_take {M : Mem} {n b : Nat} (h : b < n) : verOf (M.take n) b = verOf M b := by simp [verOf, List.getElem?_take, h]
theorem obj_take {M : Mem} {n b : Nat} (h : b < n) (ho : obj M b) : obj (M.take n) b := by
 obtain ⟨o, h1, h2⟩ := ho
 exact ⟨o, by simp [List.getElem?_take, h, h1], h2⟩
theorem bel0_ok {n : Nat} {x : AV} (h : bel0 n x = true) : BelOK n x := by
 intro c M w v hv hn
 have len : (M.take n).length = n := by simp; omega
 cases hv with
 | pd v x hp => exact .pd v x hp
 | nilp => exact .nilp
 | nilf => exact .nilf
 | junk v => exact .junk v
 | fixed a n l h1 h2 => exact .fixed a n l h1 h2
 | rd a l f h1 h2 h3 h4 => exact .rd a l f h1 h2 h3 h4
 | ptr v b off ver h1 h2 h3 =>
  have hb : b < n := by simpa [bel0] using h
  exact .ptr v b off ver (by omega) (by rw [verOf_take hb]; exact h2) (by rw [verOf_take hb]; exact h3)
 | own v b l ver h1 h2 h3 =>
  have hb : b < n := by simpa [bel0] using h
  refine .own v b l ver (by omega) (by rw [verOf_take hb]; exact h2) ?_
  rw [verOf_take hb]
  simp only [List.getElem?_take, hb, if_true]
  exact h3
 | owx v b off l ver h1 h2 h3 =>
  have hb : b < n := by simpa [bel0] using h
  refine .owx v b off l ver (by omega) (by rw [verOf_take hb]; exact h2) ?_
  rw [verOf_take hb]
  simp only [List.getElem?_take, hb, if_true]
  exact h3
 | yld b hb0 => exact .yld b (obj_take (by simpa [bel0] using h) hb0)
 | mp b hb0 => exact .mp b (obj_take (by simpa [bel0] using h) hb0)
 | it b hb0 => exact .it b (obj_take (by simpa [bel0] using h) hb0)
 | _ => simp [bel0] at h
theorem belS_ok {n : Nat} {f : AV → Bool} (hf : ∀ x, f x = true → BelOK n x) {x : AV} (h : belS f x = true) : BelOK n x := by
 intro c M w v hv hn
 cases hv with
 | agg vs l hs hr =>
  simp only [belS, List.all_eq_true] at h
  exact .agg vs l hs fun i v x h1 h2 => hf x (h x (List.mem_of_getElem? h2)) c M w v (hr i v x h1 h2) hn
 | tup vs l hs hr =>
  simp only [belS, List.all_eq_true] at h
  exact .tup vs l hs fun i v x h1 h2 => hf x (h x (List.mem_of_getElem? h2)) c M w v (hr i v x h1 h2) hn
 | fn g v1 v2 l1 l2 h1 h2 r1 r2 =>
  simp only [belS, Bool.and_eq_true, List.all_eq_true] at h
  exact .fn g v1 v2 l1 l2 h1 h2 (fun i v x q1 q2 => hf x (h.1 x (List.mem_of_getElem? q2)) c M w v (r1 i v x q1 q2) hn) (fun i v x q1 q2 => hf x (h.2 x (List.mem_of_getElem? q2)) c M w v (r2 i v x q1 q2) hn)
 | _ => simp [belS] at h
theorem bel1_ok {n : Nat} {x : AV} (h : bel1 n x = true) : BelOK n x := by
 simp only [bel1, Bool.or_eq_true] at h
 exact h.elim bel0_ok (belS_ok fun _ => bel0_ok)
theorem bel2_ok {n : Nat} {x : AV} (h : bel2 n x = true) : BelOK n x := by
 simp only [bel2, Bool.or_eq_true] at h
 exact h.elim bel1_ok (belS_ok fun _ => bel1_ok)
theorem bel3_ok {n : Nat} {x : AV} (h : bel3 n x = true) : BelOK n x := by
 simp only [bel3, Bool.or_eq_true] at h
 exact h.elim bel2_ok (belS_ok fun _ => bel2_ok)
theorem Sim.take {B : Nat} {I0 : Nat → Prop} {c : Ctx} {M : Mem} {w : World} (hS : Sim B I0 c M w) {n : Nat} (hn : n ≤ M.length) (h : (M.take n).all (belO n) = true) : Sim B I0 c (M.take n) w := by
 have get : ∀ i o, (M.take n)[i]? = some o → i < n ∧ M[i]? = some o := by
  intro i o hi
  rw [List.getElem?_take] at hi
  split at hi
  ·exact ⟨by assumption, hi⟩
  ·cases hi
 have re : ∀ i, real (M.take n) i → real M i := fun i ⟨o, h1, h2⟩ => ⟨o, (get i o h1).2, h2⟩
 refine ⟨fun i hi => hS.blkB i (re i hi), fun i j hi hj => hS.inj i j (re i hi) (re j hj), hS.imm0, hS.immB, hS.immlt, fun i o hi => hS.sep i o (get i o hi).2, fun i o hi => ?_, hS.hB⟩
 have hO := hS.obj i o (get i o hi).2
 have hb := List.all_eq_true.1 h o (List.mem_of_getElem? hi)
 cases o with
 | cells l sz ver z =>
  obtain ⟨cs, e, h1, h2, h3, h4⟩ := hO
  simp only [belO, List.all_eq_true] at hb
  refine ⟨cs, e, h1, h2, h3, fun j x hj => ?_⟩
  obtain ⟨v, q1, q2⟩ := h4 j x hj
  exact ⟨v, q1, bel2_ok (hb x (List.mem_of_getElem? hj)) _ _ _ _ q2 hn⟩
 | iter s pos => exact hO
 | loop st pe l ps as' bo df =>
  obtain ⟨tmps, fn, h1, h2, h3, h4⟩ := hO
  simp only [belO, Bool.and_eq_true, List.all_eq_true] at hb
  exact ⟨tmps, fn, h1, obj_take (by simpa using hb.2) h2, h3, fun j x hj => bel3_ok (hb.1 x (List.mem_of_getElem? hj)) _ _ _ _ (h4 j x hj) hn⟩
 | defers t => exact hO
 | vrow sz ver => trivial
 | map bl l => exact hO
 | mit b n' seen => exact ⟨hO.1, obj_take (by simpa [belO] using hb) hO.2⟩
theorem Ext.cut {c0 c : Ctx} {M0 M : Mem} (h : Ext c0 M0 c M) : Ext c0 M0 c (M.take M0.length) := by
 have g : ∀ i, i < M0.length → (M.take M0.length)[i]? = M[i]? := fun i hi => by simp [List.getElem?_take, hi]
 refine ⟨⟨by have := h.len; simp; omega, fun i hi => ?_, fun i hi he => ?_, fun i hi => ?_⟩, fun i t hi => ?_⟩
 ·have := h.ver i hi; simpa [verOf, g i hi] using this
 ·have := h.same i hi (by simpa [verOf, g i hi] using he)
  exact ⟨this.1, this.2.1, by rw [g i hi]; exact this.2.2⟩
 ·obtain ⟨o, q1, q2⟩ := h.obj i hi
  exact ⟨o, by rw [g i hi.lt]; exact q1, q2⟩
 ·rw [g i (List.getElem?_eq_some_iff.1 hi).1]; exact h.keep i t hi
theorem ACall.cut {f : FuncId} {args : List AV} {M M1 : Mem} {r1 : AV} (h : ACall P GT f args M fun r M' => r = r1 ∧ M' = M1) (hr : bel3 M.length r1 = true) (hM : (M1.take M.length).all (belO M.length) = true) :
  ACall P GT f args M fun r M' => r = r1 ∧ M' = M1.take M.length := by
 intro B I0 c w vs n h1 h2 h3
 refine (h B I0 c w vs n h1 h2 h3).mono ?_
 rintro e w' ⟨v, r, M', c', rfl, ⟨rfl, rfl⟩, q1, q2, q3, q4⟩
 exact ⟨v, r, _, c', rfl, ⟨rfl, rfl⟩, bel3_ok hr _ _ _ _ q1 q3.len, q2.take q3.len hM, q3.cut, q4⟩
def pur0 : AV → Bool
 | .pd _ | .nilp | .fixed _ | .nilf => true
 | _ => false
def pur1 (x : AV) : Bool := pur0 x || belS pur0 x
def pur2 (x : AV) : Bool := pur1 x || belS pur1 x
theorem belS_pure {f : AV → Bool} (hf : ∀ x, f x = true → x.pure = true) {x : AV} (h : belS f x = true) : x.pure = true := by
 cases x with
 | agg l => simp only [belS, List.all_eq_true] at h; simp only [AV.pure, List.all_eq_true]; exact fun x _ => hf _ (h _ x.2)
 | tup l => simp only [belS, List.all_eq_true] at h; simp only [AV.pure, List.all_eq_true]; exact fun x _ => hf _ (h _ x.2)
 | fn g l1 l2 => simp only [belS, Bool.and_eq_true, List.all_eq_true] at h; simp only [AV.pure, Bool.and_eq_true, List.all_eq_true]; exact ⟨fun x _ => hf _ (h.1 _ x.2), fun x _ => hf _ (h.2 _ x.2)⟩
 | _ => simp [belS] at h
theorem pur0_pure {x : AV} (h : pur0 x = true) : x.pure = true := by cases x <;> simp_all [pur0, AV.pure]
theorem pur1_pure {x : AV} (h : pur1 x = true) : x.pure = true := by
 simp only [pur1, Bool.or_eq_true] at h
 exact h.elim pur0_pure (belS_pure fun _ => pur0_pure)
theorem pur2_pure {x : AV} (h : pur2 x = true) : x.pure = true := by
 simp only [pur2, Bool.or_eq_true] at h
 exact h.elim pur1_pure (belS_pure fun _ => pur1_pure)
theorem ACall.plain {f : FuncId} {args : List AV} {M1 : Mem} {r1 r2 : AV} (h : ACall P GT f args [] fun r M' => r = r1 ∧ M' = M1) (hr : pure3 M1 r1 = some r2) (ha : args.all pur2 = true) (M : Mem) : ACall P GT f args M fun r M' => r = r2 ∧ M' = M := by
 have h1 : ASpec P GT f args (· = r2) := .of (h.mono fun r M' ⟨a, b⟩ => ⟨r2, by rw [a, b]; exact hr, rfl⟩)
 exact (h1.call (fun x hx => pur2_pure (List.all_eq_true.1 ha x hx)) M).mono fun r M' ⟨a, _, b⟩ => ⟨b, a⟩
end Go.Abs
namespace Go.Abs
open Go.RowKit Go.Proofs
variable {P : Program} {GT : Tabs} {ro : Option Nat} {Q : Exit → S → Prop} {s : S}
def Can1 (P : Program) (GT : Tabs) (ro : Option Nat) (ops : Array Oper) (o : Oper) (T : List AV) (M : Mem) (x : AV) (M' : Mem) : Prop :=
 ∀ B I0 c (a : Act) w n (KK : Act → World → Prop) QQ, Sim B I0 c M w → GRep GT c w → (∀ l, ro = some l → obj M l) → T.length ≤ a.tmps.size → (∀ t, t ∈ o.looksAt ops → ∀ y, T[t]? = some y → ARep c M w (a.tmps.getD t undef) y) →
  (∀ c' v w', Sim B I0 c' M' w' → ARep c' M' w' v x → Ext c M c' M' → Stp B c w c' w' → KK (a.put o.dst v) w') →
  if Region.wanted o (yielded ops a.tmps) then o.wpIn (fen c ro) n P a w KK QQ else (∀ f, o.about P w a.eval = some f → (fen c ro).fn f) ∧ KK (a.put o.dst undef) w
theorem Can1.congr {ops : Array Oper} {o : Oper} {T T2 : List AV} {M M' : Mem} {x : AV} (h : Can1 P GT ro ops o T M x M') (hl : T2.length = T.length) (ha : ∀ t, t ∈ o.looksAt ops → T2[t]? = T[t]?) : Can1 P GT ro ops o T2 M x M' :=
 fun B I0 c a w n KK QQ h1 h2 h3 h4 h5 h6 => h B I0 c a w n KK QQ h1 h2 h3 (by omega) (fun t ht y hy => h5 t ht y (by rw [ha t ht]; exact hy)) h6
theorem aop_congr {ρ ρ' : Operand → AV} {M : Mem} {op : Op} (h : ∀ y, y ∈ op.operands → ρ y = ρ' y) : aop P ρ M op = aop P ρ' M op := by
 have mp : ∀ {xs : Array Operand}, (∀ y, y ∈ xs → ρ y = ρ' y) → xs.toList.map ρ = xs.toList.map ρ' := fun hx => List.map_congr_left fun y hy => hx y (by simpa using hy)
 have op' : ∀ {x : Option Operand}, (∀ y, y ∈ x.toArray → ρ y = ρ' y) → x.map ρ = x.map ρ' := fun {x} hx => by
  cases x with
  | none => rfl
  | some y => simp [hx y (by simp)]
 have pp : ∀ {ps : Array (Nat × Operand)}, (∀ y, y ∈ (ps.toList.map (·.2)).toArray → ρ y = ρ' y) → (ps.toList.map fun p => (p.1, ρ p.2)) = ps.toList.map fun p => (p.1, ρ' p.2) := fun hx => by
  apply List.map_congr_left
  intro p hp
  rw [hx p.2 (by simp only [List.mem_toArray, List.mem_map]; exact ⟨p, hp, rfl⟩)]
 cases op with
 | call k =>
  obtain ⟨callee, args, ts⟩ := k
  cases callee with
  | builtin b =>
   simp only [aop]
   rw [mp (xs := args) fun y hy => h y (by simp [Op.operands, Call.operands, hy])]
  | _ => rfl
 | build t ps => simp only [aop]; rw [pp h]
 | buildSlice t n ps => simp only [aop]; rw [pp h]
 | makeFunc f a b =>
  cases f with
  | func f => simp only [aop]; rw [mp (xs := a) fun y hy => h y (by simp [Op.operands, hy]), mp (xs := b) fun y hy => h y (by simp [Op.operands, hy])]
  | _ => rfl
 | slice t x l hh m =>
  simp only [aop]
  rw [h x (by simp [Op.operands]), op' (x := l) fun y hy => h y (by simp only [Op.operands, Array.mem_append]; exact .inl (.inl (.inr hy))),
   op' (x := hh) fun y hy => h y (by simp only [Op.operands, Array.mem_append]; exact .inl (.inr hy)), op' (x := m) fun y hy => h y (by simp only [Op.operands, Array.mem_append]; exact .inr hy)]
 | pick a b d => simp only [aop, h a (by simp [Op.operands]), h b (by simp [Op.operands]), h d (by simp [Op.operands])]
 | store t a v => simp only [aop, h a (by simp [Op.operands]), h v (by simp [Op.operands])]
 | binOp o t a v t2 => simp only [aop, h a (by simp [Op.operands]), h v (by simp [Op.operands])]
 | makeSlice t a v => simp only [aop, h a (by simp [Op.operands]), h v (by simp [Op.operands])]
 | lookup t a v ok => simp only [aop, h a (by simp [Op.operands]), h v (by simp [Op.operands])]
 | indexAddr t a v => simp only [aop, h a (by simp [Op.operands]), h v (by simp [Op.operands])]
 | index t a v => simp only [aop, h a (by simp [Op.operands]), h v (by simp [Op.operands])]
 | move x => simp only [aop, h x (by simp [Op.operands])]
 | assign x => simp only [aop, h x (by simp [Op.operands])]
 | box t x => simp only [aop, h x (by simp [Op.operands])]
 | load t x => simp only [aop, h x (by simp [Op.operands])]
 | nilCheck x => simp only [aop, h x (by simp [Op.operands])]
 | unOp o t x => simp only [aop, h x (by simp [Op.operands])]
 | convert s d x => simp only [aop, h x (by simp [Op.operands])]
 | fieldAddr t x f => simp only [aop, h x (by simp [Op.operands])]
 | field t x f => simp only [aop, h x (by simp [Op.operands])]
 | range t x => simp only [aop, h x (by simp [Op.operands])]
 | next x f => simp only [aop, h x (by simp [Op.operands])]
 | extract x f => simp only [aop, h x (by simp [Op.operands])]
 | makeMap t r => cases r <;> rfl
 | mapUpdate t a v z => simp only [aop, h a (by simp [Op.operands]), h v (by simp [Op.operands]), h z (by simp [Op.operands])]
 | entry x => simp only [aop, h x (by simp [Op.operands])]
 | _ => rfl
def sieve (ops : Array Oper) (o : Oper) (T : List AV) : List AV := T.mapIdx fun t y => if t ∈ o.looksAt ops then y else .junk
theorem sieve_get {ops : Array Oper} {o : Oper} {T : List AV} {t : Nat} (h : t ∈ o.looksAt ops) : (sieve ops o T)[t]? = T[t]? := by
 simp [sieve, List.getElem?_mapIdx, h]
theorem sieve_rep {ops : Array Oper} {o : Oper} {T : List AV} {c : Ctx} {M : Mem} {w : World} {tmps : Array Value} (hl : T.length ≤ tmps.size) (h : ∀ t, t ∈ o.looksAt ops → ∀ y, T[t]? = some y → ARep c M w (tmps.getD t undef) y) : TRep c M w tmps (sieve ops o T) := by
 refine ⟨by simpa [sieve] using hl, fun t y hy => ?_⟩
 by_cases hm : t ∈ o.looksAt ops
 ·rw [sieve_get hm] at hy; exact h t hm y hy
 ·simp [sieve, List.getElem?_mapIdx, hm] at hy
  obtain ⟨_, _, rfl⟩ := hy
  exact .junk _
theorem sieve_ev {ops : Array Oper} {o : Oper} {T : List AV} {y : Operand} (h : y ∈ o.op.operands) : aev GT (sieve ops o T) y = aev GT T y := by
 cases y with
 | tmp t =>
  have : t ∈ o.looksAt ops := List.mem_append_left _ (List.mem_filterMap.2 ⟨.tmp t, by simpa using h, rfl⟩)
  simp only [aev, List.getD_eq_getElem?_getD, sieve_get this]
 | _ => rfl
theorem sieve_guard {ops : Array Oper} {o : Oper} {T : List AV} : aGuard ops (sieve ops o T) o = aGuard ops T o := by
 unfold aGuard
 cases hg : o.guard with
 | none => rfl
 | some p =>
  obtain ⟨j, want⟩ := p
  simp only
  cases hd : (ops[j]?).bind (·.dst) with
  | none => rfl
  | some d =>
   have : d ∈ o.looksAt ops := by simp [Oper.looksAt, hg, hd]
   simp only [sieve_get this]
theorem Can1_op {ops : Array Oper} {o : Oper} {T : List AV} {M M' : Mem} {x : AV} (hg : aGuard ops T o = some true) (h : aop P (aev GT T) M o.op = some (x, M')) : Can1 P GT ro ops o T M x M' := by
 intro B I0 c a w n KK QQ hS hG hob hl hT hK
 have hT' := sieve_rep hl hT
 have hR : Rel GT B I0 c ⟨sieve ops o T, M, []⟩ { a with defers := [] } w := ⟨hS, hG, hT', rfl, List.nodup_nil, by simp⟩
 rw [← sieve_guard] at hg
 rw [← aop_congr (fun y hy => sieve_ev hy)] at h
 have hw := aGuard_ok hT' hg
 rw [if_pos hw]
 obtain ⟨m, v', w', c', h1, h2, h3, h4, h5, h6⟩ := aop_ok hS (fun x => hR.ev x) (fun _ => rfl) h
 refine ⟨fun _ _ => fen_fn _ _ _, ?_⟩
 have hd : ∀ k, o.op ≠ .defer k := by intro k e; rw [e] at h; simp [aop] at h
 have e : (o.semAt (fen c ro).round a.eval) = execOp a.eval o := Oper.semAt_eq _ _ _ hd
 have e2 : (execOp a.eval o).run P w = .ok m w' := h1
 rw [e, e2]
 have hk := hK c' v' w' h4 h3 h5 h6
 rcases h2 with rfl | ⟨rfl, rfl⟩
 ·exact hk
 ·exact hk
theorem Can1_skip {ops : Array Oper} {o : Oper} {T : List AV} {M : Mem} (hg : aGuard ops T o = some false) : Can1 P GT ro ops o T M (.tup []) M := by
 intro B I0 c a w n KK QQ hS hG hob hl hT hK
 have hT' := sieve_rep hl hT
 rw [← sieve_guard] at hg
 have hw := aGuard_ok hT' hg
 rw [if_neg (by rw [hw]; simp)]
 exact ⟨fun _ _ => fen_fn _ _ _, hK c undef w hS undef_rep (Ext.refl _ _) (Stp.refl _ _ _)⟩
theorem Can1_call {ops : Array Oper} {o : Oper} {T : List AV} {M M' : Mem} {x : AV} {f : Operand} {args : Array Operand} {ts : Array TypeId} {g : FuncId} {l1 l2 : List AV} (hg : aGuard ops T o = some true)
  (ho : o.op = .call { callee := .value f, args := args, argTypes := ts }) (hf : aev GT T f = .fn (.func g) l1 l2) (he : Enters P g)
  (hc : ACall P GT g (l1 ++ args.toList.map (aev GT T) ++ l2) M fun r M1 => r = x ∧ M1 = M') : Can1 P GT ro ops o T M x M' := by
 intro B I0 c a w n KK QQ hS hG hob hl hT hK
 have hT' := sieve_rep hl hT
 have hR : Rel GT B I0 c ⟨sieve ops o T, M, []⟩ { a with defers := [] } w := ⟨hS, hG, hT', rfl, List.nodup_nil, by simp⟩
 rw [← sieve_guard] at hg
 have hmem : ∀ y, y = f ∨ y ∈ args → y ∈ o.op.operands := by
  intro y hy
  rw [ho]
  simp only [Op.operands, Call.operands, Array.mem_append]
  rcases hy with rfl | hy
  ·exact .inl (by simp)
  ·exact .inr hy
 have hw := aGuard_ok hT' hg
 have hfv := hR.ev f
 rw [sieve_ev (hmem f (.inl rfl)), hf] at hfv
 obtain ⟨v1, v2, hv, q1, q2⟩ := hfv.fnInv
 have hargs0 : ArgsRep c M w (args.map a.eval) (args.toList.map (aev GT (sieve ops o T))) := list_rep (fun x => hR.ev x) args
 have emap : args.toList.map (aev GT (sieve ops o T)) = args.toList.map (aev GT T) := List.map_congr_left fun y hy => sieve_ev (hmem y (.inr (by simpa using hy)))
 rw [emap] at hargs0
 rw [if_pos hw]
 refine ⟨fun _ _ => fen_fn _ _ _, ?_⟩
 have hv' : a.eval f = .func (.func g) v1 v2 := hv
 have hrun : (o.semAt (fen c ro).round a.eval).run P w = .ok (.enter g (v1 ++ args.map a.eval ++ v2)) w := by
  rw [Oper.semAt_eq _ _ _ (by intro k e; rw [e] at ho; cases ho)]
  simp only [execOp, ho, resolve, hv', Deferred.ofValue, invoke]
  simp only [Sem.run_bind, Sem.run_pure, Result.andThen_ok]
  exact he _ _
 rw [hrun]
 refine ⟨fun h => fen_depth _ _ h, ?_⟩
 refine callsIn_fen ((hc B I0 c w _ (n - 1) hS hG ((q1.append hargs0).append q2)).mono ?_)
 rintro e w' ⟨v, r, M1, c', rfl, ⟨rfl, rfl⟩, hvv, hS', hE, hs⟩
 exact hK c' v w' hS' hvv hE hs
def TT (T : List AV) (own : Nat → Option Nat) (x : Nat → AV) (E : Nat → Bool) : List AV := T.mapIdx fun t y => match own t with | some k => if E k then x k else y | none => y
def Closed (ops : Array Oper) (E : Nat → Bool) : Prop := ∀ i o, ops[i]? = some o → E i = true → ∀ e, e ∈ o.after → Region.binds .any e = true → E e.on = true
def addE (E : Nat → Bool) (i : Nat) : Nat → Bool := fun k => if k = i then true else E k
def left (n : Nat) (E : Nat → Bool) : Nat := ((List.range n).filter fun i => !E i).length
theorem left_add {n i : Nat} {E : Nat → Bool} (hi : i < n) (hE : E i = false) : left n (addE E i) + 1 ≤ left n E := by
 unfold left
 induction n with
 | zero => omega
 | succ n ih =>
  rw [List.range_succ, List.filter_append, List.filter_append, List.length_append, List.length_append]
  by_cases e : i = n
  ·subst e
   have e1 : (List.range i).filter (fun k => !addE E i k) = (List.range i).filter fun k => !E k := by
    apply List.filter_congr
    intro k hk
    have := List.mem_range.1 hk
    simp [addE, show k ≠ i by omega]
   rw [e1]
   simp [addE, hE]
  ·have := ih (by omega)
   have e2 : addE E i n = E n := by simp [addE, show n ≠ i by omega]
   simp only [List.filter_cons, e2, List.filter_nil]
   omega
theorem TT_add {T : List AV} {own : Nat → Option Nat} {x : Nat → AV} {E : Nat → Bool} {i : Nat} {dst : Option Tmp} (h1 : ∀ d, dst = some d → own d = some i) (h2 : ∀ t, own t = some i → dst = some t) : aput (TT T own x E) dst (x i) = TT T own x (addE E i) := by
 apply List.ext_getElem?
 intro t
 have r : ∀ E', (TT T own x E')[t]? = (T[t]?).map fun y => match own t with | some k => if E' k then x k else y | none => y := fun E' => by simp [TT, List.getElem?_mapIdx]
 rw [r]
 cases dst with
 | none =>
  simp only [aput]
  rw [r]
  congr 1
  funext y
  cases ho : own t with
  | none => rfl
  | some k =>
   have : k ≠ i := fun e => by subst e; have := h2 t ho; cases this
   simp [addE, this]
 | some d =>
  simp only [aput, List.getElem?_set]
  by_cases e : d = t
  ·subst e
   rw [h1 d rfl]
   simp only [if_true, addE]
   have : (TT T own x E).length = T.length := by simp [TT]
   by_cases hlt : d < T.length
   ·simp [this, hlt]
   ·simp [this, hlt]
  ·rw [if_neg e, r]
   congr 1
   funext y
   cases ho : own t with
   | none => rfl
   | some k =>
    have : k ≠ i := fun e2 => by subst e2; have := h2 t ho; cases this; exact e rfl
    simp [addE, this]
theorem wpAnyIn_mono2 {F : Fence} {n : Nat} {ops : Array Oper} {md : Region.Mode} {Q Q' : Exit → Act → World → Prop} (hq : ∀ e a w, Q e a w → Q' e a w) : ∀ (fuel : Nat) (listed : Array Bool) (a : Act) (w : World), wpAnyIn F n P md ops Q fuel listed a w → wpAnyIn F n P md ops Q' fuel listed a w
 | 0, _, _, _, h => ⟨h.1, hq _ _ _ h.2⟩
 | fuel + 1, listed, a, w, h => by
  refine ⟨fun hr => hq _ _ _ (h.1 hr), fun i hi => ?_⟩
  have hh := h.2 i hi
  unfold wpOpIn at hh ⊢
  split
  ·rename_i ho
   simp only [ho] at hh
   exact wpAnyIn_mono2 hq fuel _ _ _ hh
  ·rename_i o ho
   simp only [ho] at hh
   split
   ·rename_i hw
    rw [if_pos hw] at hh
    exact wpIn_mono2 (wpAnyIn_mono2 hq fuel _) hq hh
   ·rename_i hw
    rw [if_neg hw] at hh
    exact ⟨hh.1, wpAnyIn_mono2 hq fuel _ _ _ hh.2⟩
def chainOk (ops : Array Oper) : List Nat → Bool
 | [] => true
 | z :: r => (match ops[z]? with | some o => o.after.toList.all fun e => !Region.binds .any e || (!(z :: r).contains e.on && Nat.blt e.on ops.size) | none => false) && (r.all fun k => match ops[k]? with | some o => o.after.toList.any fun e => Region.binds .any e && (z :: r).contains e.on | none => false) && chainOk ops r
theorem chain_edge {ops : Array Oper} {z : Nat} {r : List Nat} (h : chainOk ops (z :: r) = true) {k : Nat} (hk : k ∈ r) {o : Oper} (ho : ops[k]? = some o) : ∃ e, e ∈ o.after ∧ Region.binds .any e = true ∧ e.on ∈ z :: r := by
 unfold chainOk at h
 rw [Bool.and_eq_true, Bool.and_eq_true] at h
 have := List.all_eq_true.1 h.1.2 k hk
 simp only [ho] at this
 obtain ⟨e, he, hb⟩ := List.any_eq_true.1 this
 rw [Bool.and_eq_true] at hb
 exact ⟨e, by simpa using he, hb.1, by simpa using hb.2⟩
theorem chain_pre {ops : Array Oper} {z : Nat} {r : List Nat} (h : chainOk ops (z :: r) = true) {o : Oper} (ho : ops[z]? = some o) {e : Edge} (he : e ∈ o.after) (hb : Region.binds .any e = true) : e.on ∉ z :: r ∧ e.on < ops.size := by
 unfold chainOk at h
 rw [Bool.and_eq_true, Bool.and_eq_true, ho] at h
 have := List.all_eq_true.1 h.1.1 e (by simpa using he)
 rw [hb] at this
 simp only [Bool.not_true, Bool.false_or, Bool.and_eq_true, Bool.not_eq_true'] at this
 exact ⟨by simpa using this.1, by simpa using this.2⟩
theorem list_any {ops : Array Oper} (F : Fence) (n : Nat) (Q : Exit → Act → World → Prop) : ∀ (zs : List Nat) (fuel : Nat) (E : Nat → Bool) (listed : Array Bool) (a : Act) (w : World), left ops.size E ≤ fuel → listed.size = ops.size → (∀ i, i < ops.size → listed[i]? = some (E i)) →
  (∀ i, i < ops.size → (E i = true ↔ i ∉ zs)) → zs.Nodup → (∀ z, z ∈ zs → z < ops.size) → chainOk ops zs = true → wpListIn F n P ops Q (zs.filterMap (ops[·]?)) a w → wpAnyIn F n P .any ops Q fuel listed a w
 | [], fuel, E, listed, a, w, hf, hsz, hl, hE, _, _, _, h => by
  have hr : Region.ready .any ops listed = [] := by
   rw [List.eq_nil_iff_forall_not_mem]
   intro i hi
   obtain ⟨h1, o, h2, _⟩ := mem_ready.1 hi
   have hlt := (Array.getElem?_eq_some_iff.1 h2).1
   simp [Array.getD_eq_getD_getElem?, hl i hlt, (hE i hlt).2 (by simp)] at h1
  cases fuel with
  | zero => exact ⟨hr, h⟩
  | succ fuel => exact ⟨fun _ => h, fun i hi => by rw [hr] at hi; cases hi⟩
 | z :: r, fuel, E, listed, a, w, hf, hsz, hl, hE, hnd, hzl, hch, h => by
  have hz := hzl z (by simp)
  have hEz : E z = false := by
   cases he : E z with
   | false => rfl
   | true => exact absurd (List.mem_cons_self ..) ((hE z hz).1 he)
  have hla := left_add hz hEz
  cases fuel with
  | zero => omega
  | succ fuel =>
   have only : ∀ i, i ∈ Region.ready .any ops listed → i = z := by
    intro i hi
    obtain ⟨h1, o, h2, h3⟩ := mem_ready.1 hi
    have hlt := (Array.getElem?_eq_some_iff.1 h2).1
    have hi0 : E i = false := by simpa [Array.getD_eq_getD_getElem?, hl i hlt] using h1
    have him : i ∈ z :: r := Decidable.byContradiction fun hn => by rw [(hE i hlt).2 hn] at hi0; cases hi0
    rcases List.mem_cons.1 him with e | hr
    ·exact e
    ·exfalso
     obtain ⟨e, he, hb, hon⟩ := chain_edge hch hr h2
     have h4 := h3 e he hb
     have hlt2 := hzl _ hon
     have : E e.on = true := by simpa [Array.getD_eq_getD_getElem?, hl _ hlt2] using h4
     exact (hE _ hlt2).1 this hon
   have hoz : ops[z]? = some ops[z] := Array.getElem?_eq_getElem hz
   have hnext : ∀ a w, wpListIn F n P ops Q (r.filterMap (ops[·]?)) a w → wpAnyIn F n P .any ops Q fuel (listed.setIfInBounds z true) a w := by
    intro a w hw
    refine list_any F n Q r fuel (addE E z) _ a w (by omega) (by simpa using hsz) (fun k hk => ?_) (fun k hk => ?_) (List.nodup_cons.1 hnd).2 (fun k hk => hzl k (by simp [hk])) (by unfold chainOk at hch; rw [Bool.and_eq_true] at hch; exact hch.2) hw
    ·rw [Array.getElem?_setIfInBounds]
     by_cases e : z = k
     ·subst e; simp [addE, hsz, hz]
     ·rw [if_neg e, hl k hk]; simp [addE, Ne.symm e]
    ·simp only [addE]
     by_cases e : k = z
     ·subst e; simpa using (List.nodup_cons.1 hnd).1
     ·rw [if_neg e, hE k hk]; simp [e]
   have hfm : (z :: r).filterMap (ops[·]?) = ops[z] :: r.filterMap (ops[·]?) := by rw [List.filterMap_cons, hoz]
   rw [hfm] at h
   unfold wpListIn at h
   refine ⟨fun hr => ?_, fun i hi => ?_⟩
   ·exfalso
    have hmem : z ∈ Region.ready .any ops listed := by
     rw [mem_ready]
     refine ⟨by simp [Array.getD_eq_getD_getElem?, hl z hz, hEz], ops[z], hoz, fun e he hb => ?_⟩
     obtain ⟨q1, q2⟩ := chain_pre hch hoz he hb
     simp [Array.getD_eq_getD_getElem?, hl _ q2, (hE _ q2).2 q1]
    rw [hr] at hmem; cases hmem
   ·obtain rfl := only i hi
    unfold wpOpIn
    simp only [hoz]
    split at h
    ·rename_i hw
     rw [if_pos hw]
     exact Oper.wpIn_mono hnext h
    ·rename_i hw
     rw [if_neg hw]
     exact ⟨h.1, hnext _ _ h.2⟩
def edgeIn (ops : Array Oper) (zs : List Nat) (k : Nat) : Bool := match ops[k]? with | some o => o.after.toList.any fun e => Region.binds .any e && zs.contains e.on | none => false
theorem edgeIn_some {ops : Array Oper} {zs : List Nat} {k : Nat} (h : edgeIn ops zs k = true) {o : Oper} (ho : ops[k]? = some o) : ∃ e, e ∈ o.after ∧ Region.binds .any e = true ∧ e.on ∈ zs := by
 unfold edgeIn at h
 simp only [ho] at h
 obtain ⟨e, he, hb⟩ := List.any_eq_true.1 h
 rw [Bool.and_eq_true] at hb
 exact ⟨e, by simpa using he, hb.1, by simpa using hb.2⟩
theorem chain_edges {ops : Array Oper} {zs : List Nat} (h : chainOk ops zs = true) : ∀ z r, zs = z :: r → ∀ k, k ∈ r → edgeIn ops zs k = true := by
 rintro z r rfl k hk
 unfold chainOk at h
 rw [Bool.and_eq_true, Bool.and_eq_true] at h
 exact List.all_eq_true.1 h.1.2 k hk
def ZGo (P : Program) (GT : Tabs) (ro : Option Nat) (ops : Array Oper) (zs : List Nat) (s : S) (Q : Exit → S → Prop) : Prop :=
 ∀ (fuel : Nat) (E : Nat → Bool) (listed : Array Bool) (B : Nat) (I0 : Nat → Prop) (c : Ctx) (a : Act) (w : World) (n : Nat), (∀ k, k < ops.size → (E k = true ↔ k ∉ zs)) → Closed ops E → listed.size = ops.size → (∀ i, i < ops.size → listed[i]? = some (E i)) → left ops.size E ≤ fuel →
  zs.Nodup → (∀ z, z ∈ zs → z < ops.size) → Rel GT B I0 c s a w → (∀ l, ro = some l → obj s.M l) → wpAnyIn (fen c ro) n P .any ops (Aft GT B I0 c s.M w Q) fuel listed a w
theorem ZGo.chain {ops : Array Oper} {zs : List Nat} {s : S} (hch : chainOk ops zs = true) (h : AL P GT ro ops (zs.filterMap (ops[·]?)) s Q) : ZGo P GT ro ops zs s Q :=
 fun fuel E listed B I0 c a w n hE _ hsz hl hf hnd hzl hR hob => list_any (fen c ro) n _ zs fuel E listed a w hf hsz hl hE hnd hzl hch (h B I0 c a w n hR hob)
theorem AW_drawZ {id : Nat} {ops : Array Oper} {T : List AV} {M : Mem} {D : List Nat} (hm : P.follows .mixedOrders = true) (zs : List Nat) (hch : ∀ z r, zs = z :: r → ∀ k, k ∈ r → edgeIn ops zs k = true) (hnd : zs.Nodup) (rk : Nat → Nat) (own : Nat → Option Nat) (x : Nat → AV) (mem : (Nat → Bool) → Mem)
  (hrk : ∀ i o e, ops[i]? = some o → e ∈ o.after → Region.binds .any e = true → rk e.on < rk i ∧ e.on < ops.size)
  (hown : ∀ i o, ops[i]? = some o → (∀ d, o.dst = some d → own d = some i) ∧ ∀ t, own t = some i → o.dst = some t) (h0 : mem (fun _ => false) = M)
  (h : ∀ i o, ops[i]? = some o → i ∉ zs → ∀ E, Closed ops E → (∀ e, e ∈ o.after → Region.binds .any e = true → E e.on = true) → E i = false → Can1 P GT ro ops o (TT T own x E) (mem E) (x i) (mem (addE E i)))
  (hz : ∀ z r, zs = z :: r → ∀ o, ops[z]? = some o → ∀ E, Closed ops E → (∀ e, e ∈ o.after → Region.binds .any e = true → E e.on = true) → (∀ k, k ∈ zs → E k = false) → (∀ k, k < ops.size → k ∉ zs → E k = true) ∧ ZGo P GT ro ops zs ⟨TT T own x E, mem E, D⟩ Q)
  (hzl : ∀ z, z ∈ zs → z < ops.size)
  (hq : zs = [] → ∀ E, (∀ i, i < ops.size → E i = true) → Q .normal ⟨TT T own x E, mem E, D⟩) : AW P GT ro (.region id ops true) ⟨T, M, D⟩ Q := by
 intro B I0 c a w n hR hob
 refine wpIn_region_any hm ?_
 have key : ∀ (fuel : Nat) (E : Nat → Bool) (listed : Array Bool) (c : Ctx) (a : Act) (w : World), Closed ops E → listed.size = ops.size → (∀ i, i < ops.size → listed[i]? = some (E i)) → left ops.size E ≤ fuel → (∀ z, z ∈ zs → E z = false) → Rel GT B I0 c ⟨TT T own x E, mem E, D⟩ a w → (∀ l, ro = some l → obj (mem E) l) →
   wpAnyIn (fen c ro) n P .any ops (Aft GT B I0 c (mem E) w Q) fuel listed a w := by
  intro fuel
  have ready0 : ∀ (E : Nat → Bool) (listed : Array Bool), listed.size = ops.size → (∀ i, i < ops.size → listed[i]? = some (E i)) → Region.ready .any ops listed = [] → ∀ i, i < ops.size → E i = true := by
   intro E listed hsz hl hr
   have : ∀ r i, rk i = r → i < ops.size → E i = true := by
    intro r
    induction r using Nat.strongRecOn with
    | _ r ih =>
     intro i hri hi
     cases hE : E i with
     | true => rfl
     | false =>
      exfalso
      have hmem : i ∈ Region.ready .any ops listed := by
       rw [mem_ready]
       refine ⟨by simp [Array.getD_eq_getD_getElem?, hl i hi, hE], ops[i], Array.getElem?_eq_getElem hi, fun e he hb => ?_⟩
       obtain ⟨q1, q2⟩ := hrk i _ e (Array.getElem?_eq_getElem hi) he hb
       have := ih (rk e.on) (by omega) e.on rfl q2
       simp [Array.getD_eq_getD_getElem?, hl _ q2, this]
      rw [hr] at hmem; cases hmem
   exact fun i hi => this _ i rfl hi
  have noz : ∀ E : Nat → Bool, (∀ i, i < ops.size → E i = true) → (∀ z, z ∈ zs → E z = false) → zs = [] := by
   intro E hE hz0
   cases hzs : zs with
   | nil => rfl
   | cons z r => have := hz0 z (by rw [hzs]; simp); rw [hE z (hzl z (by rw [hzs]; simp))] at this; cases this
  induction fuel with
  | zero =>
   intro E listed c a w hC hsz hl hf hz0 hR hob
   have all : ∀ i, i < ops.size → E i = true := by
    intro i hi
    cases hE : E i with
    | true => rfl
    | false => have := left_add hi hE; omega
   refine ⟨?_, _, c, hq (noz E all hz0) E all, hR, Ext.refl _ _, Stp.refl _ _ _⟩
   rw [List.eq_nil_iff_forall_not_mem]
   intro i hi
   obtain ⟨h1, o, h2, _⟩ := mem_ready.1 hi
   have hlt := (Array.getElem?_eq_some_iff.1 h2).1
   simp [Array.getD_eq_getD_getElem?, hl i hlt, all i hlt] at h1
  | succ fuel ih =>
   intro E listed c a w hC hsz hl hf hz0 hR hob
   refine ⟨fun hr => ⟨_, c, hq (noz E (ready0 E listed hsz hl hr) hz0) E (ready0 E listed hsz hl hr), hR, Ext.refl _ _, Stp.refl _ _ _⟩, fun i hi => ?_⟩
   obtain ⟨h1, o, h2, h3⟩ := mem_ready.1 hi
   have hlt := (Array.getElem?_eq_some_iff.1 h2).1
   have hE : E i = false := by simpa [Array.getD_eq_getD_getElem?, hl i hlt] using h1
   have hpre : ∀ e, e ∈ o.after → Region.binds .any e = true → E e.on = true := by
    intro e he hb
    have hlt2 := (hrk i o e h2 he hb).2
    have := h3 e he hb
    simpa [Array.getD_eq_getD_getElem?, hl _ hlt2] using this
   by_cases hzi : i ∈ zs
   ·obtain ⟨z, r, hzs⟩ : ∃ z r, zs = z :: r := by cases zs with | nil => simp at hzi | cons z r => exact ⟨z, r, rfl⟩
    have hiz : i = z := by
     have hch := hch z r hzs
     rw [hzs] at hzi
     rcases List.mem_cons.1 hzi with e | hr
     ·exact e
     ·exfalso
      obtain ⟨e, he, hb, hon⟩ := edgeIn_some (hch i hr) h2
      have := hz0 e.on hon
      rw [hpre e he hb] at this; cases this
    subst hiz
    obtain ⟨hall, hAL⟩ := hz i r hzs o h2 E hC hpre hz0
    have := hAL (fuel + 1) E listed B I0 c a w n (fun k hk => ⟨fun hEk hkz => (by rw [hz0 k hkz] at hEk; cases hEk), fun hkz => hall k hk hkz⟩) hC hsz hl hf hnd hzl hR hob
    exact this.2 i (by
     rw [mem_ready]
     exact ⟨h1, o, h2, h3⟩)
   have hcan := h i o h2 hzi E hC hpre hE
   unfold wpOpIn
   simp only [h2]
   refine hcan B I0 c a w n _ _ hR.sim hR.glob hob hR.tmps.1 (fun t _ y hy => hR.tmps.2 t y hy) ?_
   intro c' v w' hS' hv hE' hs'
   have hR' := hR.step hS' hE' hs' o.dst hv
   obtain ⟨o1, o2⟩ := hown i o h2
   simp only [TT_add o1 o2] at hR'
   have hC' : Closed ops (addE E i) := by
    intro k ok hk hkE e he hb
    simp only [addE]
    split
    ·rfl
    ·by_cases hki : k = i
     ·subst hki; rw [h2] at hk; cases hk; exact hpre e he hb
     ·simp only [addE, if_neg hki] at hkE
      exact hC k ok hk hkE e he hb
   have := ih (addE E i) (listed.setIfInBounds i true) c' (a.put o.dst v) w' hC' (by simpa using hsz) (fun k hk => by
    rw [Array.getElem?_setIfInBounds]
    by_cases e : i = k
    ·subst e; simp [addE, hsz, hlt]
    ·rw [if_neg e, hl k hk]; simp [addE, Ne.symm e]) (by have := left_add hlt hE; omega) (fun z hzo => by have hne : z ≠ i := fun e => hzi (by rw [← e]; exact hzo); simp only [addE, if_neg hne]; exact hz0 z hzo) hR' (fun l hl => hE'.obj l (hob l hl))
   rw [fen_ext hE' hob] at this
   exact wpAnyIn_mono2 (fun e a u h => Aft.from hE' hs' h) _ _ _ _ this
 have hR2 : Rel GT B I0 c ⟨TT T own x (fun _ => false), mem (fun _ => false), D⟩ a { w with drawn := w.drawn + 1 } := by
  have eT : TT T own x (fun _ => false) = T := by
   apply List.ext_getElem?
   intro t
   simp only [TT, List.getElem?_mapIdx]
   cases T[t]? with
   | none => rfl
   | some y => cases own t <;> rfl
  rw [eT, h0]
  obtain ⟨q1, q2⟩ := hR.sim.same (w' := { w with drawn := w.drawn + 1 }) rfl rfl rfl rfl
  exact ⟨q1, hR.glob.mono q2, hR.tmps.mono (Ext.refl _ _) q2, hR.dfs⟩
 have := key ops.size (fun _ => false) (Array.replicate ops.size false) c a _ (fun _ _ _ h => by cases h) (by simp) (fun i hi => by simp [hi]) (by unfold left; exact Nat.le_trans (List.length_filter_le _ _) (by simp)) (fun _ _ => rfl) hR2 (fun l hl => by rw [h0]; exact hob l hl)
 obtain ⟨q1, q2⟩ := hR.sim.same (w' := { w with drawn := w.drawn + 1 }) rfl rfl rfl rfl
 refine wpAnyIn_mono2 (fun e a u h => ?_) _ _ _ _ this
 rw [h0] at h
 exact Aft.from (Ext.refl _ _) q2 h
theorem any_key {ops : Array Oper} {D : List Nat} {A : Nat → Bool} {T1 : List AV} {M1 : Mem} (rk : Nat → Nat) (own : Nat → Option Nat) (x : Nat → AV)
  (hrk : ∀ i o e, ops[i]? = some o → A i = false → e ∈ o.after → Region.binds .any e = true → (A e.on = true ∨ rk e.on < rk i) ∧ e.on < ops.size)
  (hown : ∀ i o, ops[i]? = some o → A i = false → (∀ d, o.dst = some d → own d = some i) ∧ ∀ t, own t = some i → o.dst = some t)
  (h : ∀ i o, ops[i]? = some o → A i = false → ∀ E, (∀ k, A k = true → E k = true) → (∀ e, e ∈ o.after → Region.binds .any e = true → E e.on = true) → E i = false → Can1 P GT ro ops o (TT T1 own x E) M1 (x i) M1)
  (hq : ∀ E, (∀ i, i < ops.size → E i = true) → Q .normal ⟨TT T1 own x E, M1, D⟩) :
  ∀ (fuel : Nat) (E : Nat → Bool) (listed : Array Bool) (B : Nat) (I0 : Nat → Prop) (c : Ctx) (a : Act) (w : World) (n : Nat), (∀ k, A k = true → E k = true) → listed.size = ops.size → (∀ i, i < ops.size → listed[i]? = some (E i)) → left ops.size E ≤ fuel →
   Rel GT B I0 c ⟨TT T1 own x E, M1, D⟩ a w → (∀ l, ro = some l → obj M1 l) → wpAnyIn (fen c ro) n P .any ops (Aft GT B I0 c M1 w Q) fuel listed a w := by
 intro fuel
 have ready0 : ∀ (E : Nat → Bool) (listed : Array Bool), (∀ k, A k = true → E k = true) → listed.size = ops.size → (∀ i, i < ops.size → listed[i]? = some (E i)) → Region.ready .any ops listed = [] → ∀ i, i < ops.size → E i = true := by
  intro E listed hA hsz hl hr
  have : ∀ r i, rk i = r → i < ops.size → E i = true := by
   intro r
   induction r using Nat.strongRecOn with
   | _ r ih =>
    intro i hri hi
    cases hE : E i with
    | true => rfl
    | false =>
     exfalso
     have hAi : A i = false := by
      cases hA' : A i with
      | false => rfl
      | true => rw [hA i hA'] at hE; cases hE
     have hmem : i ∈ Region.ready .any ops listed := by
      rw [mem_ready]
      refine ⟨by simp [Array.getD_eq_getD_getElem?, hl i hi, hE], ops[i], Array.getElem?_eq_getElem hi, fun e he hb => ?_⟩
      obtain ⟨q1, q2⟩ := hrk i _ e (Array.getElem?_eq_getElem hi) hAi he hb
      have : E e.on = true := by
       rcases q1 with q1 | q1
       ·exact hA _ q1
       ·exact ih (rk e.on) (by omega) e.on rfl q2
      simp [Array.getD_eq_getD_getElem?, hl _ q2, this]
     rw [hr] at hmem; cases hmem
  exact fun i hi => this _ i rfl hi
 induction fuel with
 | zero =>
  intro E listed B I0 c a w n hA hsz hl hf hR hob
  have all : ∀ i, i < ops.size → E i = true := by
   intro i hi
   cases hE : E i with
   | true => rfl
   | false => have := left_add hi hE; omega
  refine ⟨?_, _, c, hq E all, hR, Ext.refl _ _, Stp.refl _ _ _⟩
  rw [List.eq_nil_iff_forall_not_mem]
  intro i hi
  obtain ⟨h1, o, h2, _⟩ := mem_ready.1 hi
  have hlt := (Array.getElem?_eq_some_iff.1 h2).1
  simp [Array.getD_eq_getD_getElem?, hl i hlt, all i hlt] at h1
 | succ fuel ih =>
  intro E listed B I0 c a w n hA hsz hl hf hR hob
  refine ⟨fun hr => ⟨_, c, hq E (ready0 E listed hA hsz hl hr), hR, Ext.refl _ _, Stp.refl _ _ _⟩, fun i hi => ?_⟩
  obtain ⟨h1, o, h2, h3⟩ := mem_ready.1 hi
  have hlt := (Array.getElem?_eq_some_iff.1 h2).1
  have hE : E i = false := by simpa [Array.getD_eq_getD_getElem?, hl i hlt] using h1
  have hAi : A i = false := by
   cases hA' : A i with
   | false => rfl
   | true => rw [hA i hA'] at hE; cases hE
  have hpre : ∀ e, e ∈ o.after → Region.binds .any e = true → E e.on = true := by
   intro e he hb
   have hlt2 := (hrk i o e h2 hAi he hb).2
   have := h3 e he hb
   simpa [Array.getD_eq_getD_getElem?, hl _ hlt2] using this
  have hcan := h i o h2 hAi E hA hpre hE
  unfold wpOpIn
  simp only [h2]
  refine hcan B I0 c a w n _ _ hR.sim hR.glob hob hR.tmps.1 (fun t _ y hy => hR.tmps.2 t y hy) ?_
  intro c' v w' hS' hv hE' hs'
  have hR' := hR.step hS' hE' hs' o.dst hv
  obtain ⟨o1, o2⟩ := hown i o h2 hAi
  simp only [TT_add o1 o2] at hR'
  have := ih (addE E i) (listed.setIfInBounds i true) B I0 c' (a.put o.dst v) w' n (fun k hk => by simp only [addE]; split <;> first | rfl | exact hA k hk) (by simpa using hsz) (fun k hk => by
   rw [Array.getElem?_setIfInBounds]
   by_cases e : i = k
   ·subst e; simp [addE, hsz, hlt]
   ·rw [if_neg e, hl k hk]; simp [addE, Ne.symm e]) (by have := left_add hlt hE; omega) hR' (fun l hl => hE'.obj l (hob l hl))
  rw [fen_ext hE' hob] at this
  exact wpAnyIn_mono2 (fun e a u h => Aft.from hE' hs' h) _ _ _ _ this
def One (P : Program) (GT : Tabs) (ro : Option Nat) (ops : Array Oper) (o : Oper) (s : S) (K : S → Prop) : Prop :=
 ∀ B I0 c (a : Act) w n (KK : Act → World → Prop) QQ, Rel GT B I0 c s a w → (∀ l, ro = some l → obj s.M l) → (∀ c' a' w' s', K s' → Rel GT B I0 c' s' a' w' → Ext c s.M c' s'.M → Stp B c w c' w' → KK a' w') →
  if Region.wanted o (yielded ops a.tmps) then o.wpIn (fen c ro) n P a w KK QQ else (∀ f, o.about P w a.eval = some f → (fen c ro).fn f) ∧ KK (a.put o.dst undef) w
theorem One.mono {ops : Array Oper} {o : Oper} {s : S} {K K' : S → Prop} (h : One P GT ro ops o s K) (hk : ∀ s', K s' → K' s') : One P GT ro ops o s K' :=
 fun B I0 c a w n KK QQ h1 h2 h3 => h B I0 c a w n KK QQ h1 h2 fun c' a' w' s' q => h3 c' a' w' s' (hk s' q)
theorem One_can1 {ops : Array Oper} {o : Oper} {s : S} {K : S → Prop} {x : AV} {M' : Mem} (h : Can1 P GT ro ops o s.T s.M x M') (hk : K ⟨aput s.T o.dst x, M', s.D⟩) : One P GT ro ops o s K :=
 fun B I0 c a w n KK QQ hR hob hK => h B I0 c a w n KK QQ hR.sim hR.glob hob hR.tmps.1 (fun t _ y hy => hR.tmps.2 t y hy) fun c' v w' hS' hv hE hs => hK c' _ w' _ hk (hR.step hS' hE hs o.dst hv) hE hs
theorem One_call {ops : Array Oper} {o : Oper} {s : S} {K : S → Prop} {f : Operand} {args : Array Operand} {ts : Array TypeId} {g : FuncId} {l1 l2 : List AV} {R : AV → Mem → Prop} (hg : aGuard ops s.T o = some true)
  (ho : o.op = .call { callee := .value f, args := args, argTypes := ts }) (hf : aev GT s.T f = .fn (.func g) l1 l2) (he : Enters P g)
  (hc : ACall P GT g (l1 ++ args.toList.map (aev GT s.T) ++ l2) s.M R) (hr : ∀ r M', R r M' → K ⟨aput s.T o.dst r, M', s.D⟩) : One P GT ro ops o s K := by
 intro B I0 c a w n KK QQ hR hob hK
 have hw := aGuard_ok hR.tmps hg
 have hfv := hR.ev f
 rw [hf] at hfv
 obtain ⟨v1, v2, hv, q1, q2⟩ := hfv.fnInv
 have hargs : ArgsRep c s.M w (args.map a.eval) (args.toList.map (aev GT s.T)) := list_rep (fun x => hR.ev x) args
 rw [if_pos hw]
 refine ⟨fun _ _ => fen_fn _ _ _, ?_⟩
 have hrun : (o.semAt (fen c ro).round a.eval).run P w = .ok (.enter g (v1 ++ args.map a.eval ++ v2)) w := by
  rw [Oper.semAt_eq _ _ _ (by intro k e; rw [e] at ho; cases ho)]
  simp only [execOp, ho, resolve, hv, Deferred.ofValue, invoke]
  simp only [Sem.run_bind, Sem.run_pure, Result.andThen_ok]
  exact he _ _
 rw [hrun]
 refine ⟨fun h => fen_depth _ _ h, ?_⟩
 refine callsIn_fen ((hc B I0 c w _ (n - 1) hR.sim hR.glob ((q1.append hargs).append q2)).mono ?_)
 rintro e w' ⟨v, r, M', c', rfl, hRr, hv', hS', hE, hs⟩
 exact hK c' (a.put o.dst v) w' _ (hr r M' hRr) (hR.step hS' hE hs o.dst hv') hE hs
end Go.Abs
end
