/- Rows that are written no more; contracts of functions that leave nothing behind. -/
import Derived.Test.YtibeobmcanaedaaDoorAbs14
namespace Go.Abs
set_option linter.unusedVariables false
set_option linter.unusedSimpArgs false
open Go.RowKit Go.Proofs
variable {P : Program} {GT : Tabs} {ro : Option Nat} {Q : Exit → S → Prop} {s : S}

/-- A row's cells, read as a slice. -/
theorem rowRep {I : Nat → Prop} {w : World} {k n cap sz : Nat} {ag : Bool} {f : Nat → Value} {ds : List PD} (hI : 0 < n → I k) (hcap : n ≤ cap) (hlen : ds.length = n * sz) (hsz : 0 < sz) (hag : ag = true ∨ sz = 1)
    (hc : ∀ j, j < n * sz → w.cell? ⟨k, j, none⟩ = some (f j)) (hd : ∀ (j : Nat) (d : PD), ds[j]? = some d → PRep I w (f j) d ∧ d.leaves = [d]) : PRep I w (.slice (some ⟨k, 0, none⟩) n cap) (.sl (group ag sz n ds)) := by
  have hgl : (group ag sz n ds).length = n := by simp [group]
  have elemAt : ∀ i x, (group ag sz n ds)[i]? = some x → i < n ∧ x.leaves.length = sz ∧ ∀ j y, x.leaves[j]? = some y → j < sz ∧ ds[i * sz + j]? = some y := by
    intro i x hx
    simp only [group, List.getElem?_map, Option.map_eq_some_iff] at hx
    obtain ⟨i', hi, rfl⟩ := hx
    have hlt := (List.getElem?_eq_some_iff.1 hi).1
    obtain rfl : i' = i := by have := (List.getElem?_eq_some_iff.1 hi).2; simpa using this.symm
    simp at hlt
    have hmul : (i' + 1) * sz ≤ n * sz := Nat.mul_le_mul_right _ hlt
    rw [Nat.add_mul, Nat.one_mul] at hmul
    refine ⟨hlt, ?_⟩
    cases ag with
    | true =>
      simp only [if_true, PD.leaves]
      refine ⟨by simp; omega, fun j y hy => ?_⟩
      rw [List.getElem?_take] at hy
      split at hy
      · rw [List.getElem?_drop] at hy; exact ⟨by assumption, hy⟩
      · cases hy
    | false =>
      have hs1 : sz = 1 := by simpa using hag
      subst hs1
      have hlt' : i' < ds.length := by omega
      have e1 : ds.getD i' default = ds[i'] := by simp [List.getD_eq_getElem?_getD, hlt']
      have d3 := (hd i' ds[i'] (List.getElem?_eq_getElem hlt')).2
      simp only [Bool.false_eq_true, if_false, e1, d3]
      refine ⟨rfl, fun j y hy => ?_⟩
      cases j with
      | zero => simp at hy; subst hy; exact ⟨by omega, by simp [hlt']⟩
      | succ j => simp at hy
  refine .sl _ n cap sz _ (fun i j => f (i * sz + j)) (fun _ => rfl) hgl.symm hcap hI (fun i x hx => (elemAt i x hx).2.1) (fun i j hi hj => ?_) fun i j x y hx hy => ?_
  · have hmul : (i + 1) * sz ≤ n * sz := Nat.mul_le_mul_right _ hi
    rw [Nat.add_mul, Nat.one_mul] at hmul
    have := hc (i * sz + j) (by omega)
    simpa using this
  · obtain ⟨k1, k2, k3⟩ := elemAt i x hx
    obtain ⟨k4, k5⟩ := k3 j y hy
    exact (hd _ _ k5).1

/-- What an own slice reads as. -/
def ownPD (M : Mem) (b len ver : Nat) : Option PD :=
  match M[b]? with
  | some (.cells l sz ver' _) => if ver' = ver ∧ 0 < sz then ((l.take (len * sz)).mapM AV.pdCell).map fun ds => .sl (group (sz != 1) sz len ds) else none
  | some (.vrow _ ver') => if ver' = ver then some (.sl []) else none
  | _ => none

theorem ownPD_ok {B : Nat} {I0 : Nat → Prop} {c : Ctx} {M : Mem} {w : World} {b len ver : Nat} {v : Value} {x : PD} {I : Nat → Prop} (hS : Sim B I0 c M w) (hv : ARep c M w v (.own b len ver)) (h : ownPD M b len ver = some x)
    (hI : ∀ k, c.imm k → I k) (hIb : real M b → I (c.blk b)) : PRep I w v x := by
  cases hv with
  | own v b len ver hb hver hp =>
    unfold ownPD at h
    split at h
    · rename_i l sz ver' z hM
      split at h
      · rename_i hcond
        obtain ⟨rfl, hsz⟩ := hcond
        rw [Option.map_eq_some_iff] at h
        obtain ⟨ds, hds, rfl⟩ := h
        rcases hp (verOf_some hM) with ⟨cap, l2, sz2, z2, hM2, rfl, h5, h6, h7⟩ | ⟨sz2, hM2, _⟩
        · rw [hM] at hM2; cases hM2
          obtain ⟨cs, e, g1, g2, g3, g4⟩ := hS.row hM
          obtain ⟨m1, m2⟩ := mapM_some hds
          have hlen : (l.take (len * sz)).length = len * sz := by simp; omega
          have hb' := hIb ⟨_, hM, rfl⟩
          refine rowRep (f := fun j => cs.getD j undef) (fun _ => hb') h5 (by omega) hsz ?_ (fun j hj => ?_) fun j d hd => ?_
          · by_cases e : sz = 1
            · exact .inr e
            · exact .inl (by simpa using e)
          · simp [World.cell?, g1, Array.getD, show j < cs.size by omega]
          · have hj : j < len * sz := by have := (List.getElem?_eq_some_iff.1 hd).1; omega
            obtain ⟨d', d1, d2⟩ := m2 j _ (List.getElem?_eq_getElem (by omega))
            rw [hd] at d1; cases d1
            have hx : l[j]? = some (l.take (len * sz))[j] := by
              rw [List.getElem_take]; exact List.getElem?_eq_getElem (by omega)
            obtain ⟨u, q1, q2⟩ := g4 j _ hx
            have := q2.pdCell d2
            refine ⟨?_, this.2⟩
            have e1 : cs.getD j undef = u := by
              have hjc := (Array.getElem?_eq_some_iff.1 q1)
              obtain ⟨hjc, e⟩ := hjc
              simp [Array.getD, hjc, e]
            rw [e1]; exact this.1.mono hI (Kept.refl _ _)
        · rw [hM] at hM2; cases hM2
      · cases h
    · rename_i sz ver' hM
      split at h
      · rename_i hvv
        subst hvv
        cases h
        rcases hp (verOf_some hM) with ⟨cap, l2, sz2, z2, hM2, _⟩ | ⟨sz2, hM2, rfl, rfl⟩
        · rw [hM] at hM2; cases hM2
        · exact .nil
      · cases h
    · cases h

def frz (M : Mem) (b : Nat) : Mem :=
  match M[b]? with
  | some (.cells l sz ver _) => M.set b (.cells l sz ver true)
  | _ => M

/-- A slot's own slice becomes plain data: its row is written no more. -/
theorem Rel.freeze {B : Nat} {I0 : Nat → Prop} {c : Ctx} {a : Act} {w : World} {i b len ver : Nat} {x : PD} (h : Rel GT B I0 c s a w) (hT : s.T[i]? = some (.own b len ver)) (hx : ownPD s.M b len ver = some x) :
    ∃ c', Rel GT B I0 c' ⟨s.T.set i (.pd x), frz s.M b, s.D⟩ a w ∧ Ext c s.M c' (frz s.M b) ∧ Stp B c w c' w := by
  have hv := h.tmps.2 i _ hT
  have main : ∀ (c' : Ctx) (M' : Mem), Sim B I0 c' M' w → Ext c s.M c' M' → Stp B c w c' w → (PRep c'.imm w (a.tmps.getD i undef) x) → Rel GT B I0 c' ⟨s.T.set i (.pd x), M', s.D⟩ a w := by
    intro c' M' hS hE hs hp
    refine ⟨hS, h.glob.mono hs, ⟨by simpa using h.tmps.1, fun j y hy => ?_⟩, h.dfs.mono hE⟩
    by_cases e : i = j
    · subst e
      rw [List.getElem?_set_self (List.getElem?_eq_some_iff.1 hT).1] at hy; cases hy
      exact .pd _ _ hp
    · rw [List.getElem?_set_ne e] at hy
      exact (h.tmps.2 j y hy).mono hE hs
  unfold frz
  split
  · rename_i l sz ver' z hM
    obtain ⟨q1, q2, q3⟩ := h.sim.freeze hM
    refine ⟨c.freeze b, main _ _ q1 q2 q3 ?_, q2, q3⟩
    exact ownPD_ok h.sim hv hx (fun _ h => .inl h) fun _ => .inr rfl
  · rename_i hno
    refine ⟨c, main c s.M h.sim (Ext.refl _ _) (Stp.refl _ _ _) ?_, Ext.refl _ _, Stp.refl _ _ _⟩
    refine ownPD_ok h.sim hv hx (fun _ h => h) fun hr => ?_
    unfold ownPD at hx
    split at hx
    · rename_i l sz ver' z hM; exact absurd hM (hno _ _ _ _)
    · rename_i sz ver' hM
      obtain ⟨o, ho, hov⟩ := hr
      rw [hM] at ho; cases ho; cases hov
    · cases hx

theorem AL_freeze {ops : Array Oper} {rest : List Oper} {T : List AV} {M : Mem} {D : List Nat} (i : Nat) {b len ver : Nat} {x : PD} (hT : T[i]? = some (.own b len ver)) (hx : ownPD M b len ver = some x)
    (h : AL P GT ro ops rest ⟨T.set i (.pd x), frz M b, D⟩ Q) : AL P GT ro ops rest ⟨T, M, D⟩ Q := by
  intro B I0 c a w n hR ho
  obtain ⟨c', r, he, hs⟩ := hR.freeze hT hx
  have := h B I0 c' a w n r (fun l hl => he.obj l (ho l hl))
  rw [fen_ext he ho] at this
  exact wpListIn_mono2 (fun e a u h => Aft.from he hs h) _ _ _ this

theorem AW_freeze {code : Code} {T : List AV} {M : Mem} {D : List Nat} (i : Nat) {b len ver : Nat} {x : PD} (hT : T[i]? = some (.own b len ver)) (hx : ownPD M b len ver = some x)
    (h : AW P GT ro code ⟨T.set i (.pd x), frz M b, D⟩ Q) : AW P GT ro code ⟨T, M, D⟩ Q := by
  intro B I0 c a w n hR ho
  obtain ⟨c', r, he, hs⟩ := hR.freeze hT hx
  have := h B I0 c' a w n r (fun l hl => he.obj l (ho l hl))
  rw [fen_ext he ho] at this
  exact wpIn_mono this fun e a u h => Aft.from he hs h

/-- A slot's nil slice becomes a row of the call's own that is empty still. -/
theorem AW_nilrow {code : Code} {T : List AV} {M : Mem} {D : List Nat} (i sz : Nat) (hT : T[i]? = some (.fixed [])) (hnil : ∀ (B : Nat) (I0 : Nat → Prop) (c : Ctx) (a : Act) (w : World), Rel GT B I0 c ⟨T, M, D⟩ a w → a.tmps.getD i undef = .slice none 0 0)
    (h : AW P GT ro code ⟨T.set i (.own M.length 0 0), M ++ [.vrow sz 0], D⟩ Q) : AW P GT ro code ⟨T, M, D⟩ Q := by
  intro B I0 c a w n hR ho
  obtain ⟨hS, hE⟩ := hR.sim.pushV sz 0
  have hs : Stp B c w c w := Stp.refl _ _ _
  have r : Rel GT B I0 c ⟨T.set i (.own M.length 0 0), M ++ [.vrow sz 0], D⟩ a w := by
    refine ⟨hS, hR.glob, ⟨by simpa using hR.tmps.1, fun j y hy => ?_⟩, hR.dfs.mono hE⟩
    by_cases e : i = j
    · subst e
      rw [List.getElem?_set_self (List.getElem?_eq_some_iff.1 hT).1] at hy; cases hy
      rw [hnil _ _ _ _ _ hR]
      exact .own _ _ _ _ (by simp) (Nat.zero_le _) fun _ => .inr ⟨sz, by simp, rfl, rfl⟩
    · rw [List.getElem?_set_ne e] at hy
      exact (hR.tmps.2 j y hy).mono hE hs
  have := h B I0 c a w n r (fun l hl => hE.obj l (ho l hl))
  exact wpIn_mono this fun e a u h => Aft.from hE hs h

/-! ### contracts without a trace -/
def pure1 (M : Mem) : AV → Option AV
  | .pd x => some (.pd x)
  | .fixed l => some (.pd (.sl l))
  | .nilp => some .nilp
  | .nilf => some .nilf
  | .own b len ver => (ownPD M b len ver).map .pd
  | .fn f [] [] => some (.fn f [] [])
  | _ => none

def pure2 (M : Mem) : AV → Option AV
  | .agg l => (l.mapM (pure1 M)).map .agg
  | x => pure1 M x

def pure3 (M : Mem) : AV → Option AV
  | .tup l => (l.mapM (pure2 M)).map .tup
  | x => pure2 M x

/-- All rows are written no more. -/
def Ctx.still (c : Ctx) (M : Mem) : Ctx := { c with imm := fun k => c.imm k ∨ ∃ i, real M i ∧ k = c.blk i }

theorem pure1_ok {B : Nat} {I0 : Nat → Prop} {c : Ctx} {M : Mem} {w : World} {v : Value} {x y : AV} (hS : Sim B I0 c M w) (hv : ARep c M w v x) (h : pure1 M x = some y) : ARep (c.still M) [] w v y ∧ y.pure = true := by
  have up : ∀ {u : Value} {p : PD}, PRep c.imm w u p → PRep (c.still M).imm w u p := fun h => h.mono (fun _ h => .inl h) (Kept.refl _ _)
  cases hv with
  | pd v p hp => simp [pure1] at h; subst h; exact ⟨.pd _ _ (up hp), by simp [AV.pure]⟩
  | fixed a n l hn hp => simp [pure1] at h; subst h; exact ⟨.pd _ _ (up hp), by simp [AV.pure]⟩
  | nilp => simp [pure1] at h; subst h; exact ⟨.nilp, by simp [AV.pure]⟩
  | nilf => simp [pure1] at h; subst h; exact ⟨.nilf, by simp [AV.pure]⟩
  | own v b len ver hb hver hp =>
    simp only [pure1, Option.map_eq_some_iff] at h
    obtain ⟨p, hpd, rfl⟩ := h
    exact ⟨.pd _ _ (ownPD_ok hS (.own v b len ver hb hver hp) hpd (fun _ h => .inl h) fun hr => .inr ⟨b, hr, rfl⟩), by simp [AV.pure]⟩
  | fn f v1 v2 l1 l2 h1 h2 r1 r2 =>
    cases l1 with
    | nil =>
      cases l2 with
      | nil => simp [pure1] at h; subst h; exact ⟨.fn _ _ _ _ _ h1 h2 (by simp) (by simp), by simp [AV.pure]⟩
      | cons _ _ => simp [pure1] at h
    | cons _ _ => simp [pure1] at h
  | _ => simp [pure1] at h

theorem pureL_ok {c : Ctx} {M : Mem} {w : World} {g : AV → Option AV} (hg : ∀ v x y, ARep c M w v x → g x = some y → ARep (c.still M) [] w v y ∧ y.pure = true) {vs : Array Value} {l l' : List AV} (hs : vs.size = l.length)
    (hr : ∀ (i : Nat) (v : Value) (x : AV), vs[i]? = some v → l[i]? = some x → ARep c M w v x) (h : l.mapM g = some l') : vs.size = l'.length ∧ (∀ (i : Nat) (v : Value) (x : AV), vs[i]? = some v → l'[i]? = some x → ARep (c.still M) [] w v x) ∧ ∀ x, x ∈ l' → x.pure = true := by
  obtain ⟨m1, m2⟩ := mapM_some h
  have at' : ∀ (i : Nat) (x : AV), l'[i]? = some x → ∃ v y, vs[i]? = some v ∧ l[i]? = some y ∧ g y = some x := by
    intro i x hx
    have hlt := (List.getElem?_eq_some_iff.1 hx).1
    obtain ⟨b, b1, b2⟩ := m2 i l[i] (List.getElem?_eq_getElem (by omega))
    rw [hx] at b1; cases b1
    exact ⟨vs[i]'(by omega), _, Array.getElem?_eq_getElem (by omega), List.getElem?_eq_getElem (by omega), b2⟩
  refine ⟨by omega, fun i v x h1 h2 => ?_, fun x hx => ?_⟩
  · obtain ⟨v', y, q1, q2, q3⟩ := at' i x h2
    rw [h1] at q1; cases q1
    exact (hg _ _ _ (hr i v y h1 q2) q3).1
  · obtain ⟨i, hi⟩ := List.mem_iff_getElem?.1 hx
    obtain ⟨v', y, q1, q2, q3⟩ := at' i x hi
    exact (hg _ _ _ (hr i v' y q1 q2) q3).2

theorem pure2_ok {B : Nat} {I0 : Nat → Prop} {c : Ctx} {M : Mem} {w : World} {v : Value} {x y : AV} (hS : Sim B I0 c M w) (hv : ARep c M w v x) (h : pure2 M x = some y) : ARep (c.still M) [] w v y ∧ y.pure = true := by
  cases x with
  | agg l =>
    simp only [pure2, Option.map_eq_some_iff] at h
    obtain ⟨l', hl, rfl⟩ := h
    cases hv with
    | agg vs l hs hr =>
      obtain ⟨q1, q2, q3⟩ := pureL_ok (fun v x y a b => pure1_ok hS a b) hs hr hl
      exact ⟨.agg _ _ q1 q2, by simp only [AV.pure, List.all_eq_true]; exact fun x _ => q3 _ x.2⟩
  | _ => exact pure1_ok hS hv h

theorem pure3_ok {B : Nat} {I0 : Nat → Prop} {c : Ctx} {M : Mem} {w : World} {v : Value} {x y : AV} (hS : Sim B I0 c M w) (hv : ARep c M w v x) (h : pure3 M x = some y) : ARep (c.still M) [] w v y ∧ y.pure = true := by
  cases x with
  | tup l =>
    simp only [pure3, Option.map_eq_some_iff] at h
    obtain ⟨l', hl, rfl⟩ := h
    cases hv with
    | tup vs l hs hr =>
      obtain ⟨q1, q2, q3⟩ := pureL_ok (fun v x y a b => pure2_ok hS a b) hs hr hl
      exact ⟨.tup _ _ q1 q2, by simp only [AV.pure, List.all_eq_true]; exact fun x _ => q3 _ x.2⟩
  | _ => exact pure2_ok hS hv h

/-- A function that leaves nothing behind: of arguments that are plain, a result that is plain. -/
def ASpec (P : Program) (GT : Tabs) (f : FuncId) (args : List AV) (R : AV → Prop) : Prop := ACall P GT f args [] fun r M' => M' = [] ∧ r.pure = true ∧ R r

theorem Ext.nil (c c' : Ctx) : Ext c [] c' [] := ⟨⟨Nat.le_refl _, fun _ h => absurd h (by simp), fun _ h => absurd h (by simp), fun _ h => h⟩, fun _ _ h => h⟩

theorem ASpec.of {f : FuncId} {args : List AV} {R : AV → Prop} (h : ACall P GT f args [] fun r M' => ∃ r', pure3 M' r = some r' ∧ R r') : ASpec P GT f args R := by
  intro B I0 c w vs n hS hG hA
  refine (h B I0 c w vs n hS hG hA).mono ?_
  rintro e w' ⟨v, r, M', c', rfl, ⟨r', h1, h2⟩, h3, h4, h5, h6⟩
  obtain ⟨q1, q2⟩ := pure3_ok h4 h3 h1
  refine ⟨v, r', [], c'.still M', rfl, ⟨rfl, q2, h2⟩, q1, ?_, Ext.nil _ _, h6.trans ⟨Below.refl _ _, fun _ h => .inl h, Kept.refl _ _⟩⟩
  refine ⟨fun i hi => absurd hi.lt (by simp), fun i j hi => absurd hi.lt (by simp), fun b hb => .inl (h4.imm0 b hb), ?_, ?_, by simp, by simp, h4.hB⟩
  · rintro b (hb | ⟨i, hi, rfl⟩) hlt
    · exact h4.immB b hb hlt
    · have := h4.blkB i hi; omega
  · rintro b (hb | ⟨i, hi, rfl⟩)
    · exact h4.immlt b hb
    · exact h4.lt hi

theorem ASpec.mono {f : FuncId} {args : List AV} {R R' : AV → Prop} (h : ASpec P GT f args R) (hr : ∀ r, R r → R' r) : ASpec P GT f args R' := ACall.mono h fun r M' ⟨a, b, q⟩ => ⟨a, b, hr r q⟩

theorem Sim.empty {B : Nat} {I0 : Nat → Prop} {c : Ctx} {M : Mem} {w : World} (h : Sim B I0 c M w) : Sim w.heap.size c.imm c [] w :=
  ⟨fun i hi => absurd hi.lt (by simp), fun i j hi => absurd hi.lt (by simp), fun _ h => h, fun _ h _ => h, h.immlt, by simp, by simp, Nat.le_refl _⟩

/-- Such a function, called among other things. -/
theorem ASpec.call {f : FuncId} {args : List AV} {R : AV → Prop} (h : ASpec P GT f args R) (hp : ∀ x, x ∈ args → x.pure = true) (M : Mem) : ACall P GT f args M fun r M' => M' = M ∧ r.pure = true ∧ R r := by
  intro B I0 c w vs n hS hG hA
  have hA' : ArgsRep c [] w vs args := ⟨hA.1, fun i v x h1 h2 => (hA.2 i v x h1 h2).pure (hp x (List.mem_of_getElem? h2)) (fun _ h => h) (Kept.refl _ _)⟩
  refine (h w.heap.size c.imm c w vs n hS.empty hG hA').mono ?_
  rintro e w' ⟨v, r, M', c', rfl, ⟨rfl, h1, h2⟩, h3, h4, h5, h6⟩
  have hS' := hS.grown h6.below
  refine ⟨v, r, M, c.grown w w', rfl, ⟨rfl, h1, h2⟩, h3.pure h1 (fun b hb => ?_) (Kept.refl _ _), hS', Ext.grown _ _ _, Stp.grown hS.hB hS.immlt h6.below⟩
  by_cases hlt : b < w.heap.size
  · exact .inl (h4.immB b hb hlt)
  · exact .inr ⟨by omega, h4.immlt b hb⟩

/-- A contract from the body, for such a function. -/
theorem ASpec_of_body {f : FuncId} {fn : Func} {code : Code} {args : List AV} {R : AV → Prop} (hf : P.funcs[f]? = some fn) (hb : fn.body = some code)
    (h : AW P GT none code ⟨args ++ List.replicate (fn.ntmps - args.length) .junk, [], []⟩ fun e s' => (e = .normal ∨ e = .ret) ∧ ∃ r r', resOf P fn s'.T (shut s'.M s'.D) = some r ∧ pure3 (shut s'.M s'.D) r = some r' ∧ R r') : ASpec P GT f args R :=
  .of (ACall_of_body hf hb (h.mono fun _ _ ⟨a, r, r', b, d, e⟩ => ⟨a, fun _ _ => Nat.zero_le _, r, b, r', d, e⟩))

end Go.Abs
