/- Part of a proof, in few files: Abs12. -/
import Derived.Test.YtdbfgnpobfbfmaaGreatDoorMPaK8
import Derived.Scope

section
namespace Go.Abs
open Go.RowKit
structure S where
  T : List AV
  M : Mem
  D : List Nat
def TRep (c : Ctx) (M : Mem) (w : World) (tmps : Array Value) (T : List AV) : Prop := T.length ≤ tmps.size ∧ ∀ (i : Nat) (x : AV), T[i]? = some x → ARep c M w (tmps.getD i undef) x
abbrev Tabs := Nat → Option (List PD)
def GRep (GT : Tabs) (c : Ctx) (w : World) : Prop := ∀ g l, GT g = some l → ARep c [] w (.pointer (some ⟨g, 0, none⟩)) (.rd l) ∧ c.imm g ∧ ∃ cs e z, w.heap[g]? = some (.cells cs e z) ∧ cs.size = l.length
def mark (c : Ctx) (d : Nat) : Deferred := { target := .collected (c.blk d), args := #[] }
def DRep (c : Ctx) (M : Mem) (ds : List Deferred) (D : List Nat) : Prop := ds = D.map (mark c) ∧ D.Nodup ∧ ∀ d, d ∈ D → M[d]? = some (.defers false)
structure Rel (GT : Tabs) (B : Nat) (I0 : Nat → Prop) (c : Ctx) (s : S) (a : Act) (w : World) : Prop where
  sim : Sim B I0 c s.M w
  glob : GRep GT c w
  tmps : TRep c s.M w a.tmps s.T
  dfs : DRep c s.M a.defers s.D
def fen (c : Ctx) (ro : Option Nat) : Fence := match ro with | none => Fence.wide | some l => Fence.wide.inRound (c.blk l)
theorem fen_fn (c : Ctx) (ro : Option Nat) (f : FuncId) : (fen c ro).fn f := by cases ro <;> exact trivial
theorem fen_depth (c : Ctx) (ro : Option Nat) : (fen c ro).depth.isSome = true → ∀ {p : Prop}, p := by intro h; cases ro <;> simp [fen, Fence.wide, Fence.inRound] at h
theorem fen_ext {c c' : Ctx} {M M' : Mem} {ro : Option Nat} (he : Ext c M c' M') (h : ∀ l, ro = some l → obj M l) : fen c' ro = fen c ro := by
  cases ro with
  | none => rfl
  | some l => simp only [fen, he.blk (h l rfl)]
theorem ARep.rdM {c : Ctx} {M M' : Mem} {w : World} {v : Value} {l : List PD} (h : ARep c M w v (.rd l)) : ARep c M' w v (.rd l) := by
  cases h with
  | rd a l f h1 h2 h3 h4 => exact .rd a l f h1 h2 h3 h4
theorem GRep.mono {GT : Tabs} {B : Nat} {c c' : Ctx} {w w' : World} (h : GRep GT c w) (hs : Stp B c w c' w') : GRep GT c' w' := by
  intro g l hg
  have he : Ext c ([] : Mem) c' [] := ⟨⟨Nat.le_refl _, fun _ h => absurd h (by simp), fun _ h => absurd h (by simp), fun _ h => h⟩, fun _ _ h => h⟩
  obtain ⟨h1, h2, cs, e, z, h3, h4⟩ := h g l hg
  exact ⟨h1.mono he hs, hs.imm _ h2, cs, e, z, by rw [hs.kept _ h2]; exact h3, h4⟩
def Aft (GT : Tabs) (B : Nat) (I0 : Nat → Prop) (c : Ctx) (M : Mem) (w : World) (Q : Exit → S → Prop) : Exit → Act → World → Prop :=
  fun e a' w' => ∃ s' c', Q e s' ∧ Rel GT B I0 c' s' a' w' ∧ Ext c M c' s'.M ∧ Stp B c w c' w'
def AW (P : Program) (GT : Tabs) (ro : Option Nat) (code : Code) (s : S) (Q : Exit → S → Prop) : Prop :=
  ∀ B I0 c a w n, Rel GT B I0 c s a w → (∀ l, ro = some l → obj s.M l) → code.wpIn (fen c ro) n P (Aft GT B I0 c s.M w Q) a w
variable {P : Program} {GT : Tabs} {ro : Option Nat} {Q : Exit → S → Prop} {s : S}
theorem Aft.from {B : Nat} {I0 : Nat → Prop} {c c' : Ctx} {M M' : Mem} {w w' : World} (he : Ext c M c' M') (hs : Stp B c w c' w') {e : Exit} {a : Act} {u : World} (h : Aft GT B I0 c' M' w' Q e a u) : Aft GT B I0 c M w Q e a u := by
  obtain ⟨s', c'', q, r, e1, s1⟩ := h
  exact ⟨s', c'', q, r, he.trans e1, hs.trans s1⟩
theorem AW.mono {code : Code} {Q' : Exit → S → Prop} (h : AW P GT ro code s Q) (hq : ∀ e s', Q e s' → Q' e s') : AW P GT ro code s Q' :=
  fun B I0 c a w n hr ho => wpIn_mono (h B I0 c a w n hr ho) fun _ _ _ ⟨s', c', q, r⟩ => ⟨s', c', hq _ _ q, r⟩
theorem AW_skip (h : Q .normal s) : AW P GT ro .skip s Q := fun _ _ c _ _ _ hr _ => wpIn_skip ⟨s, c, h, hr, Ext.refl _ _, Stp.refl _ _ _⟩
theorem AW_label {l : Nat} (h : Q .normal s) : AW P GT ro (.label l) s Q := fun _ _ c _ _ _ hr _ => wpIn_label ⟨s, c, h, hr, Ext.refl _ _, Stp.refl _ _ _⟩
theorem AW_exit {id : Nat} (h : Q (.exit id) s) : AW P GT ro (.exit id) s Q := fun _ _ c _ _ _ hr _ => wpIn_exit ⟨s, c, h, hr, Ext.refl _ _, Stp.refl _ _ _⟩
theorem AW_ret (h : Q .ret s) : AW P GT ro .ret s Q := fun _ _ c _ _ _ hr _ => wpIn_ret ⟨s, c, h, hr, Ext.refl _ _, Stp.refl _ _ _⟩
def thn (K : S → Prop) (Q : Exit → S → Prop) : Exit → S → Prop
  | .normal, s => K s
  | e, s => Q e s
theorem AW_seq {x y : Code} (h : AW P GT ro x s (thn (fun s' => AW P GT ro y s' Q) Q)) : AW P GT ro (.seq x y) s Q := by
  intro B I0 c a w n hr ho
  refine wpIn_seq (wpIn_mono (h B I0 c a w n hr ho) ?_)
  rintro e a' w' ⟨s', c', q, r, he, hs⟩
  cases e with
  | normal =>
    have := q B I0 c' a' w' n r (fun l hl => he.obj l (ho l hl))
    rw [fen_ext he ho] at this
    exact wpIn_mono this fun e u v h => Aft.from he hs h
  | _ => exact ⟨s', c', q, r, he, hs⟩
def inB (id : Nat) (Q : Exit → S → Prop) : Exit → S → Prop
  | .exit id', s => if id' = id then Q .normal s else Q (.exit id') s
  | e, s => Q e s
theorem AW_block {id : Nat} {x : Code} (h : AW P GT ro x s (inB id Q)) : AW P GT ro (.block id x) s Q := by
  intro B I0 c a w n hr ho
  refine wpIn_block (wpIn_mono (h B I0 c a w n hr ho) ?_)
  rintro e a' w' ⟨s', c', q, r, he, hs⟩
  cases e with
  | exit id' =>
    simp only [Exit.inBlock]
    simp only [inB] at q
    split
    · rename_i hid; rw [if_pos hid] at q; exact ⟨s', c', q, r, he, hs⟩
    · rename_i hid; rw [if_neg hid] at q; exact ⟨s', c', q, r, he, hs⟩
  | _ => exact ⟨s', c', q, r, he, hs⟩
theorem wpIn_scope {F : Fence} {n : Nat} {P : Program} {c : Code} {Q : Exit → Act → World → Prop} {a : Act} {w : World} (h : c.wpIn F n P (Exit.noGoto Q) a w) : (Code.scope c).wpIn F n P Q a w := by
  intro b k cs hro hb hr
  have h0 : (lone (b.atR a (.code (.scope c) :: k)) cs w).fenced P F := fenced_calm hb hr rfl
  have st1 : step P (lone (b.atR a (.code (.scope c) :: k)) cs w) = .next (lone (b.atR a (.code c :: .inScope c :: k)) cs w) := step_lone_go (by simp [stepG, stepG.exec, Frame.atR])
  have st2 : ∀ (a : Act) (w : World), step P (lone (b.atR a (.inScope c :: k)) cs w) = .next (lone (b.atR a k) cs w) := fun a w => step_lone_go (by simp [stepG, stepG.exec, Frame.atR])
  obtain ⟨e, a₁, w₁, hq, harr⟩ := h b (.inScope c :: k) cs hro hb hr
  cases e with
  | normal => exact ⟨.normal, a₁, w₁, hq, .head h0 st1 (StepsIn.trans harr (.one (fenced_calm hb hr rfl) (st2 _ _)))⟩
  | exit id' =>
    have hx : exitTo id' (.inScope c :: k) = exitTo id' k := by simp [exitTo]
    exact ⟨.exit id', a₁, w₁, hq, fun k' hk => .head h0 st1 (harr.1 k' (by rw [hx]; exact hk)),
      fun hr' hk => let ⟨k₁, h1, h2⟩ := harr.2 hr' (by rw [hx]; exact hk); ⟨k₁, h1, .head h0 st1 h2⟩⟩
  | goto l => exact hq.elim
  | ret => exact ⟨_, a₁, w₁, hq, .of_steps (.one h0 st1) harr⟩
  | panic ch => exact ⟨_, a₁, w₁, hq, .of_steps (.one h0 st1) harr⟩
  | outgrown => exact ⟨_, a₁, w₁, hq, .of_steps (.one h0 st1) harr⟩
def noJump (Q : Exit → S → Prop) : Exit → S → Prop
  | .goto _, _ => False
  | e, s => Q e s
theorem AW_scope {x : Code} (h : AW P GT ro x s (noJump Q)) : AW P GT ro (.scope x) s Q := by
  intro B I0 c a w n hr ho
  refine wpIn_scope (wpIn_mono (h B I0 c a w n hr ho) ?_)
  rintro e a' w' ⟨s', c', q, r, he, hs⟩
  cases e with
  | goto l => exact q.elim
  | _ => exact ⟨s', c', q, r, he, hs⟩
theorem Rel.ev {B : Nat} {I0 : Nat → Prop} {c : Ctx} {a : Act} {w : World} (h : Rel GT B I0 c s a w) (x : Operand) : ARep c s.M w (a.eval x) (aev GT s.T x) := by
  cases x with
  | tmp t =>
    simp only [Act.eval, aev]
    rw [List.getD_eq_getElem?_getD]
    cases hT : s.T[t]? with
    | none => exact .junk _
    | some y => exact h.tmps.2 t y hT
  | const v =>
    simp only [Act.eval, aev]
    cases hz : zAV v with
    | none => exact .junk _
    | some y => exact (zAV_ok hz).1
  | global g =>
    simp only [Act.eval, aev]
    cases hg : GT g with
    | none => exact .junk _
    | some l => exact (h.glob g l hg).1.rdM
  | func f =>
    simp only [Act.eval, aev]
    exact .fn _ #[] #[] [] [] rfl rfl (by simp) (by simp)
theorem AW_cond {k : Operand} {x y : Code} {t : Bool} (hk : aev GT s.T k = .pd (.bool t)) (h : AW P GT ro (if t then x else y) s Q) : AW P GT ro (.cond k x y) s Q := by
  intro B I0 c a w n hr ho
  have he := hr.ev k
  rw [hk] at he
  generalize hv : a.eval k = v at he
  cases he with
  | pd v p hp => cases hp; exact wpIn_cond hv (h B I0 c a w n hr ho)
def Less (T T' : List AV) : Prop := T'.length ≤ T.length ∧ ∀ (i : Nat) (x : AV), T'[i]? = some x → x = .junk ∨ T[i]? = some x
theorem TRep.less {c : Ctx} {M : Mem} {w : World} {tmps : Array Value} {T T' : List AV} (h : TRep c M w tmps T) (hl : Less T T') : TRep c M w tmps T' :=
  ⟨Nat.le_trans hl.1 h.1, fun i x hx => by
    rcases hl.2 i x hx with rfl | h'
    · exact .junk _
    · exact h.2 i x h'⟩
theorem AW.less {code : Code} {T : List AV} {M : Mem} {D : List Nat} (T' : List AV) (h : AW P GT ro code ⟨T', M, D⟩ Q) (hl : Less T T') : AW P GT ro code ⟨T, M, D⟩ Q :=
  fun B I0 c a w n hr ho => h B I0 c a w n ⟨hr.sim, hr.glob, hr.tmps.less hl, hr.dfs⟩ ho
end Go.Abs
end
