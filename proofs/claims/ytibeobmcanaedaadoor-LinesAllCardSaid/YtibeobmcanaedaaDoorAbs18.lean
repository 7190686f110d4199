/- Loops counted; own memory cut back to what it was; values that speak of no own memory, told apart. -/
import Derived.Test.YtibeobmcanaedaaDoorAbs17
namespace Go.Abs
set_option linter.unusedVariables false
set_option linter.unusedSimpArgs false
open Go.RowKit Go.Proofs
variable {P : Program} {GT : Tabs} {ro : Option Nat} {Q : Exit → S → Prop} {s : S}

/-! ### loops, by the count of their rounds -/
def LoopRun (P : Program) (GT : Tabs) (ro : Option Nat) (x : Code) (Q : Exit → S → Prop) : Nat → S → Prop
  | 0, s => AW P GT ro x s (thn (fun _ => False) Q)
  | k + 1, s => AW P GT ro x s (thn (LoopRun P GT ro x Q k) Q)

theorem AW_loopN {x : Code} {k : Nat} (h : LoopRun P GT ro x Q k s) : AW P GT ro (.loop x) s Q := by
  intro B I0 c a w n hr ho b kk cs hro hb hroom
  have key : ∀ j s c a w, LoopRun P GT ro x Q j s → Rel GT B I0 c s a w → (∀ l, ro = some l → obj s.M l) → b.roundOf = (fen c ro).round →
      ∃ e a' w', Aft GT B I0 c s.M w Q e a' w' ∧ ArrivesIn (Machine.fenced P (fen c ro)) P (lone (b.atR a (.code x :: .inLoop x :: kk)) cs w) b kk cs e a' w' := by
    intro j
    have pass : ∀ {s : S} {c : Ctx} {a : Act} {w : World} {K : S → Prop} {e : Exit} {a₁ : Act} {w₁ : World}, Aft GT B I0 c s.M w (thn K Q) e a₁ w₁ → ArrivesIn (Machine.fenced P (fen c ro)) P (lone (b.atR a (.code x :: .inLoop x :: kk)) cs w) b (.inLoop x :: kk) cs e a₁ w₁ → e ≠ .normal →
        ∃ e a' w', Aft GT B I0 c s.M w Q e a' w' ∧ ArrivesIn (Machine.fenced P (fen c ro)) P (lone (b.atR a (.code x :: .inLoop x :: kk)) cs w) b kk cs e a' w' := by
      intro s c a w K e a₁ w₁ hq harr hne
      cases e with
      | normal => exact absurd rfl hne
      | exit id => exact ⟨_, a₁, w₁, hq, .pass (x := .inLoop x) rfl (fun _ _ => .inl (by simp)) harr⟩
      | goto l => exact ⟨_, a₁, w₁, hq, .pass (x := .inLoop x) rfl (fun _ _ => .inl (by simp)) harr⟩
      | ret => exact ⟨_, a₁, w₁, hq, .pass (x := .inLoop x) rfl (fun _ _ => .inl (by simp)) harr⟩
      | panic ch => exact ⟨_, a₁, w₁, hq, .pass (x := .inLoop x) rfl (fun _ _ => .inl (by simp)) harr⟩
      | outgrown => exact ⟨_, a₁, w₁, hq, .pass (x := .inLoop x) rfl (fun _ _ => .inl (by simp)) harr⟩
    induction j with
    | zero =>
      intro s c a w hI hr ho hro
      have hroom' : ∀ m, (fen c ro).room m := fun m d hd => by cases ro <;> simp [fen, Fence.wide, Fence.inRound] at hd
      obtain ⟨e, a₁, w₁, hq, harr⟩ := hI B I0 c a w n hr ho b (.inLoop x :: kk) cs hro (fen_fn _ _ _) (hroom' _)
      by_cases hne : e = .normal
      · subst hne; obtain ⟨_, _, hf, _⟩ := hq; exact hf.elim
      · exact pass hq harr hne
    | succ j ih =>
      intro s c a w hI hr ho hro
      have hroom' : ∀ m, (fen c ro).room m := fun m d hd => by cases ro <;> simp [fen, Fence.wide, Fence.inRound] at hd
      obtain ⟨e, a₁, w₁, hq, harr⟩ := hI B I0 c a w n hr ho b (.inLoop x :: kk) cs hro (fen_fn _ _ _) (hroom' _)
      by_cases hne : e = .normal
      · subst hne
        obtain ⟨s', c', hI', r, he, hs⟩ := hq
        have hf := fen_ext he ho
        obtain ⟨e₂, a₂, w₂, hq₂, harr₂⟩ := ih s' c' a₁ w₁ hI' r (fun l hl => he.obj l (ho l hl)) (by rw [hf]; exact hro)
        rw [hf] at harr₂
        exact ⟨e₂, a₂, w₂, Aft.from he hs hq₂, .of_steps (StepsIn.trans harr (.one (fenced_calm (n := n) (fen_fn _ _ _) (hroom' _) rfl) stepR_inLoop)) harr₂⟩
      · exact pass hq harr hne
  obtain ⟨e, a', w', hq, harr⟩ := key k s c a w h hr ho hro
  exact ⟨e, a', w', hq, .of_steps (.one (fenced_calm hb hroom rfl) stepR_loop) harr⟩

/-! ### what speaks of the first n objects alone -/
def bel0 (n : Nat) : AV → Bool
  | .pd _ | .nilp | .fixed _ | .nilf | .junk | .rd _ => true
  | .ptr b _ _ | .own b _ _ | .yld b | .mp b | .it b => Nat.blt b n
  | _ => false
def belS (f : AV → Bool) : AV → Bool
  | .agg l | .tup l => l.all f
  | .fn _ l1 l2 => l1.all f && l2.all f
  | _ => false
def bel1 (n : Nat) (x : AV) : Bool := bel0 n x || belS (bel0 n) x
def bel2 (n : Nat) (x : AV) : Bool := bel1 n x || belS (bel1 n) x
def bel3 (n : Nat) (x : AV) : Bool := bel2 n x || belS (bel2 n) x
def belO (n : Nat) : Ob → Bool
  | .cells l _ _ _ => l.all (bel2 n)
  | .loop _ _ T _ _ _ df => T.all (bel3 n) && Nat.blt df n
  | _ => true

def BelOK (n : Nat) (x : AV) : Prop := ∀ (c : Ctx) (M : Mem) (w : World) (v : Value), ARep c M w v x → n ≤ M.length → ARep c (M.take n) w v x

theorem verOf_take {M : Mem} {n b : Nat} (h : b < n) : verOf (M.take n) b = verOf M b := by simp [verOf, List.getElem?_take, h]
theorem obj_take {M : Mem} {n b : Nat} (h : b < n) (ho : obj M b) : obj (M.take n) b := by
  obtain ⟨o, h1, h2⟩ := ho
  exact ⟨o, by simp [List.getElem?_take, h, h1], h2⟩

theorem bel0_ok {n : Nat} {x : AV} (h : bel0 n x = true) : BelOK n x := by
  intro c M w v hv hn
  have len : (M.take n).length = n := by simp; omega
  cases hv with
  | pd v x hp => exact .pd v x hp
  | nilp => exact .nilp
  | nilf => exact .nilf
  | junk v => exact .junk v
  | fixed a n l h1 h2 => exact .fixed a n l h1 h2
  | rd a l f h1 h2 h3 h4 => exact .rd a l f h1 h2 h3 h4
  | ptr v b off ver h1 h2 h3 =>
    have hb : b < n := by simpa [bel0] using h
    exact .ptr v b off ver (by omega) (by rw [verOf_take hb]; exact h2) (by rw [verOf_take hb]; exact h3)
  | own v b l ver h1 h2 h3 =>
    have hb : b < n := by simpa [bel0] using h
    refine .own v b l ver (by omega) (by rw [verOf_take hb]; exact h2) ?_
    rw [verOf_take hb]
    simp only [List.getElem?_take, hb, if_true]
    exact h3
  | yld b hb0 => exact .yld b (obj_take (by simpa [bel0] using h) hb0)
  | mp b hb0 => exact .mp b (obj_take (by simpa [bel0] using h) hb0)
  | it b hb0 => exact .it b (obj_take (by simpa [bel0] using h) hb0)
  | _ => simp [bel0] at h

theorem belS_ok {n : Nat} {f : AV → Bool} (hf : ∀ x, f x = true → BelOK n x) {x : AV} (h : belS f x = true) : BelOK n x := by
  intro c M w v hv hn
  cases hv with
  | agg vs l hs hr =>
    simp only [belS, List.all_eq_true] at h
    exact .agg vs l hs fun i v x h1 h2 => hf x (h x (List.mem_of_getElem? h2)) c M w v (hr i v x h1 h2) hn
  | tup vs l hs hr =>
    simp only [belS, List.all_eq_true] at h
    exact .tup vs l hs fun i v x h1 h2 => hf x (h x (List.mem_of_getElem? h2)) c M w v (hr i v x h1 h2) hn
  | fn g v1 v2 l1 l2 h1 h2 r1 r2 =>
    simp only [belS, Bool.and_eq_true, List.all_eq_true] at h
    exact .fn g v1 v2 l1 l2 h1 h2 (fun i v x q1 q2 => hf x (h.1 x (List.mem_of_getElem? q2)) c M w v (r1 i v x q1 q2) hn) (fun i v x q1 q2 => hf x (h.2 x (List.mem_of_getElem? q2)) c M w v (r2 i v x q1 q2) hn)
  | _ => simp [belS] at h

theorem bel1_ok {n : Nat} {x : AV} (h : bel1 n x = true) : BelOK n x := by
  simp only [bel1, Bool.or_eq_true] at h
  exact h.elim bel0_ok (belS_ok fun _ => bel0_ok)
theorem bel2_ok {n : Nat} {x : AV} (h : bel2 n x = true) : BelOK n x := by
  simp only [bel2, Bool.or_eq_true] at h
  exact h.elim bel1_ok (belS_ok fun _ => bel1_ok)
theorem bel3_ok {n : Nat} {x : AV} (h : bel3 n x = true) : BelOK n x := by
  simp only [bel3, Bool.or_eq_true] at h
  exact h.elim bel2_ok (belS_ok fun _ => bel2_ok)

theorem Sim.take {B : Nat} {I0 : Nat → Prop} {c : Ctx} {M : Mem} {w : World} (hS : Sim B I0 c M w) {n : Nat} (hn : n ≤ M.length) (h : (M.take n).all (belO n) = true) : Sim B I0 c (M.take n) w := by
  have get : ∀ i o, (M.take n)[i]? = some o → i < n ∧ M[i]? = some o := by
    intro i o hi
    rw [List.getElem?_take] at hi
    split at hi
    · exact ⟨by assumption, hi⟩
    · cases hi
  have re : ∀ i, real (M.take n) i → real M i := fun i ⟨o, h1, h2⟩ => ⟨o, (get i o h1).2, h2⟩
  refine ⟨fun i hi => hS.blkB i (re i hi), fun i j hi hj => hS.inj i j (re i hi) (re j hj), hS.imm0, hS.immB, hS.immlt, fun i o hi => hS.sep i o (get i o hi).2, fun i o hi => ?_, hS.hB⟩
  have hO := hS.obj i o (get i o hi).2
  have hb := List.all_eq_true.1 h o (List.mem_of_getElem? hi)
  cases o with
  | cells l sz ver z =>
    obtain ⟨cs, e, h1, h2, h3, h4⟩ := hO
    simp only [belO, List.all_eq_true] at hb
    refine ⟨cs, e, h1, h2, h3, fun j x hj => ?_⟩
    obtain ⟨v, q1, q2⟩ := h4 j x hj
    exact ⟨v, q1, bel2_ok (hb x (List.mem_of_getElem? hj)) _ _ _ _ q2 hn⟩
  | iter s pos => exact hO
  | loop st pe l ps as' bo df =>
    obtain ⟨tmps, fn, h1, h2, h3, h4⟩ := hO
    simp only [belO, Bool.and_eq_true, List.all_eq_true] at hb
    exact ⟨tmps, fn, h1, obj_take (by simpa using hb.2) h2, h3, fun j x hj => bel3_ok (hb.1 x (List.mem_of_getElem? hj)) _ _ _ _ (h4 j x hj) hn⟩
  | defers t => exact hO
  | vrow sz ver => trivial

theorem Ext.cut {c0 c : Ctx} {M0 M : Mem} (h : Ext c0 M0 c M) : Ext c0 M0 c (M.take M0.length) := by
  have g : ∀ i, i < M0.length → (M.take M0.length)[i]? = M[i]? := fun i hi => by simp [List.getElem?_take, hi]
  refine ⟨⟨by have := h.len; simp; omega, fun i hi => ?_, fun i hi he => ?_, fun i hi => ?_⟩, fun i t hi => ?_⟩
  · have := h.ver i hi; simpa [verOf, g i hi] using this
  · have := h.same i hi (by simpa [verOf, g i hi] using he)
    exact ⟨this.1, this.2.1, by rw [g i hi]; exact this.2.2⟩
  · obtain ⟨o, q1, q2⟩ := h.obj i hi
    exact ⟨o, by rw [g i hi.lt]; exact q1, q2⟩
  · rw [g i (List.getElem?_eq_some_iff.1 hi).1]; exact h.keep i t hi

/-- What a call has left behind itself is forgotten, where nothing speaks of it. -/
theorem ACall.cut {f : FuncId} {args : List AV} {M M1 : Mem} {r1 : AV} (h : ACall P GT f args M fun r M' => r = r1 ∧ M' = M1) (hr : bel3 M.length r1 = true) (hM : (M1.take M.length).all (belO M.length) = true) :
    ACall P GT f args M fun r M' => r = r1 ∧ M' = M1.take M.length := by
  intro B I0 c w vs n h1 h2 h3
  refine (h B I0 c w vs n h1 h2 h3).mono ?_
  rintro e w' ⟨v, r, M', c', rfl, ⟨rfl, rfl⟩, q1, q2, q3, q4⟩
  exact ⟨v, r, _, c', rfl, ⟨rfl, rfl⟩, bel3_ok hr _ _ _ _ q1 q3.len, q2.take q3.len hM, q3.cut, q4⟩

/-! ### values that speak of no own memory -/
def pur0 : AV → Bool
  | .pd _ | .nilp | .fixed _ | .nilf => true
  | _ => false
def pur1 (x : AV) : Bool := pur0 x || belS pur0 x
def pur2 (x : AV) : Bool := pur1 x || belS pur1 x

theorem belS_pure {f : AV → Bool} (hf : ∀ x, f x = true → x.pure = true) {x : AV} (h : belS f x = true) : x.pure = true := by
  cases x with
  | agg l => simp only [belS, List.all_eq_true] at h; simp only [AV.pure, List.all_eq_true]; exact fun x _ => hf _ (h _ x.2)
  | tup l => simp only [belS, List.all_eq_true] at h; simp only [AV.pure, List.all_eq_true]; exact fun x _ => hf _ (h _ x.2)
  | fn g l1 l2 => simp only [belS, Bool.and_eq_true, List.all_eq_true] at h; simp only [AV.pure, Bool.and_eq_true, List.all_eq_true]; exact ⟨fun x _ => hf _ (h.1 _ x.2), fun x _ => hf _ (h.2 _ x.2)⟩
  | _ => simp [belS] at h

theorem pur0_pure {x : AV} (h : pur0 x = true) : x.pure = true := by cases x <;> simp_all [pur0, AV.pure]
theorem pur1_pure {x : AV} (h : pur1 x = true) : x.pure = true := by
  simp only [pur1, Bool.or_eq_true] at h
  exact h.elim pur0_pure (belS_pure fun _ => pur0_pure)
theorem pur2_pure {x : AV} (h : pur2 x = true) : x.pure = true := by
  simp only [pur2, Bool.or_eq_true] at h
  exact h.elim pur1_pure (belS_pure fun _ => pur1_pure)

/-- A call of plain arguments, on an own memory of its own, the result made plain. -/
theorem ACall.plain {f : FuncId} {args : List AV} {M1 : Mem} {r1 r2 : AV} (h : ACall P GT f args [] fun r M' => r = r1 ∧ M' = M1) (hr : pure3 M1 r1 = some r2) (ha : args.all pur2 = true) (M : Mem) : ACall P GT f args M fun r M' => r = r2 ∧ M' = M := by
  have h1 : ASpec P GT f args (· = r2) := .of (h.mono fun r M' ⟨a, b⟩ => ⟨r2, by rw [a, b]; exact hr, rfl⟩)
  exact (h1.call (fun x hx => pur2_pure (List.all_eq_true.1 ha x hx)) M).mono fun r M' ⟨a, _, b⟩ => ⟨b, a⟩

end Go.Abs
