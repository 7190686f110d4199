/- Part of a proof, in few files: Abs16. -/
import Derived.Test.YtdbfgnpobfbfmaaGreatDoorMPaK11

section
namespace Go.Abs
open Go.RowKit Go.Proofs
variable {P : Program} {GT : Tabs} {ro : Option Nat} {Q : Exit → S → Prop} {s : S}
theorem Sim.loop {B : Nat} {I0 : Nat → Prop} {c : Ctx} {M : Mem} {w : World} (hS : Sim B I0 c M w) {l df : Nat} {st : LoopState} {pe : Option Code} {T : List AV} {ps : Array Tmp} {asg bo : Code} (hM : M[l]? = some (.loop st pe T ps asg bo df)) :
    ∃ tmps fn, w.heap[c.blk l]? = some (.loop { state := st, pending := pe, fn := fn, tmps := tmps, params := ps, assign := asg, body := bo, defers := c.blk df }) ∧ TRep c M w tmps T ∧ ∀ (st' : LoopState) (pe' : Option Code),
      Sim B I0 c (M.set l (.loop st' pe' T ps asg bo df)) (w.putObj (c.blk l) (.loop { state := st', pending := pe', fn := fn, tmps := tmps, params := ps, assign := asg, body := bo, defers := c.blk df })) ∧
      Ext c M c (M.set l (.loop st' pe' T ps asg bo df)) ∧ Stp B c w c (w.putObj (c.blk l) (.loop { state := st', pending := pe', fn := fn, tmps := tmps, params := ps, assign := asg, body := bo, defers := c.blk df })) := by
  obtain ⟨tmps, fn, h1, h2, h3, h4⟩ := hS.obj l _ hM
  refine ⟨tmps, fn, h1, ⟨h3, h4⟩, fun st' pe' => ?_⟩
  have hE : Ext c M c (M.set l (.loop st' pe' T ps asg bo df)) := Ext.set hM rfl (Nat.le_refl _) (fun _ => rfl)
  have hs : Stp B c w c (w.putObj (c.blk l) (.loop { state := st', pending := pe', fn := fn, tmps := tmps, params := ps, assign := asg, body := bo, defers := c.blk df })) :=
    Stp.of_block (hS.sep l _ hM rfl rfl) (hS.blkB l ⟨_, hM, rfl⟩) rfl rfl rfl (by simp) fun k hk => World.putObj_heap_other hk
  refine ⟨hS.put hM hE hs (fun k hk => World.putObj_heap_other hk) ?_ rfl rfl, hE, hs⟩
  exact ⟨tmps, fn, World.putObj_heap_same (Array.getElem?_eq_some_iff.1 h1).1, hE.obj _ h2, h3, fun j x hj => (h4 j x hj).mono hE hs⟩
def setAll (T : List AV) : List Tmp → List AV → List AV
  | p :: ps, x :: xs => setAll (T.set p x) ps xs
  | _, _ => T
theorem setAll_rep {c : Ctx} {M : Mem} {w : World} : ∀ (ps : List Tmp) (vs : List Value) (xs : List AV) (tmps : Array Value) (T : List AV), TRep c M w tmps T → vs.length = xs.length → (∀ (i : Nat) (v : Value) (x : AV), vs[i]? = some v → xs[i]? = some x → ARep c M w v x) →
    TRep c M w ((ps.zip vs).foldl (fun t (p : Tmp × Value) => t.setIfInBounds p.1 p.2) tmps) (setAll T ps xs)
  | [], vs, xs, tmps, T, h, _, _ => by cases xs <;> simpa [setAll] using h
  | p :: ps, [], [], tmps, T, h, _, _ => by simpa [setAll] using h
  | p :: ps, v :: vs, x :: xs, tmps, T, h, hl, hr => by
    rw [List.zip_cons_cons, List.foldl_cons, setAll]
    refine setAll_rep ps vs xs _ _ ?_ (by simpa using hl) fun i v' x' h1 h2 => hr (i + 1) v' x' (by simpa using h1) (by simpa using h2)
    exact TRep.put (a := { tmps := tmps, defers := [] }) h (some p) (hr 0 v x rfl rfl)
  | p :: ps, [], x :: xs, _, _, _, hl, _ => by simp at hl
  | p :: ps, v :: vs, [], _, _, _, hl, _ => by simp at hl
def rndEnd : Exit → Option (LoopState × Option Code × Bool)
  | .normal => some (.ready, none, true)
  | .ret => some (.done, some .ret, false)
  | .exit id => some (.done, some (.exit id), false)
  | .goto t => some (.done, some (.goto t), false)
  | _ => none
def setLoop (M : Mem) (l : Nat) (st : LoopState) (pe : Option Code) : Option Mem :=
  match M[l]? with
  | some (.loop _ _ T ps asg bo df) => some (M.set l (.loop st pe T ps asg bo df))
  | _ => none
def loopSt (M : Mem) (l : Nat) : Option (LoopState × Option Code) :=
  match M[l]? with
  | some (.loop st pe _ _ _ _ _) => some (st, pe)
  | _ => none
def rndQ (l : Nat) (K : Bool → Mem → Prop) : Exit → S → Prop := fun e s2 => ∃ st pe b M', rndEnd e = some (st, pe, b) ∧ setLoop s2.M l st pe = some M' ∧ K b M'
theorem AL_yield {ops : Array Oper} {o : Oper} {rest : List Oper} {f : Operand} {args : Array Operand} {ts : Array TypeId} {l df : Nat} {pe : Option Code} {T : List AV} {ps : Array Tmp} {asg bo : Code} (hg : aGuard ops s.T o = some true)
    (ho : o.op = .call { callee := .value f, args := args, argTypes := ts }) (hf : aev GT s.T f = .yld l) (hM : s.M[l]? = some (.loop .ready pe T ps asg bo df)) (hsz : args.size = ps.size)
    (h : AW P GT (some l) asg ⟨setAll T ps.toList (args.toList.map (aev GT s.T)), s.M, []⟩ (thn (fun s1 => (loopSt s1.M l).map (·.1) = some .ready ∧ ∃ M1 pe1, (loopSt s1.M l).map (·.2) = some pe1 ∧ setLoop s1.M l .busy pe1 = some M1 ∧
      AW P GT (some l) bo ⟨s1.T, M1, s1.D⟩ (rndQ l fun b M' => AL P GT ro ops rest ⟨aput s.T o.dst (.pd (.bool b)), M', s.D⟩ Q)) fun _ _ => False)) : AL P GT ro ops (o :: rest) s Q := by
  intro B I0 c a w n hR hob
  have hw := aGuard_ok hR.tmps hg
  have hfv := hR.ev f
  rw [hf] at hfv
  have hobj : obj s.M l := ⟨_, hM, rfl⟩
  have hargs : ArgsRep c s.M w (args.map a.eval) (args.toList.map (aev GT s.T)) := list_rep (fun x => hR.ev x) args
  generalize hv : a.eval f = v at hfv
  cases hfv with
  | yld l _ =>
    obtain ⟨tmps, fn, hL, hT, hturn⟩ := hR.sim.loop hM
    unfold wpListIn
    rw [if_pos hw]
    refine ⟨fun _ _ => fen_fn _ _ _, ?_⟩
    have hrun : (o.semAt (fen c ro).round a.eval).run P w = .ok (.round (c.blk l) fn ((ps.zip (args.map a.eval)).foldl (fun tmps (t, a) => tmps.setIfInBounds t a) tmps) asg bo) w := by
      rw [Oper.semAt_eq _ _ _ (by intro k e; rw [e] at ho; cases ho)]
      simp only [execOp, ho, resolve, hv, Deferred.ofValue, invoke]
      simp only [Sem.run_bind, Sem.run_pure, Result.andThen_ok]
      have := run_yield (P := P) (args := #[] ++ args.map a.eval ++ #[]) hL (by simpa using hsz)
      simpa using this
    rw [hrun]
    refine ⟨fun h => fen_depth _ _ h, ?_⟩
    refine roundIn_of_wpIn (fen_fn _ _ _) ?_
    have hfen : (fen c ro).inRound (c.blk l) = fen c (some l) := by cases ro <;> rfl
    rw [hfen]
    have hT0 : TRep c s.M w ((ps.zip (args.map a.eval)).foldl (fun tmps (t, a) => tmps.setIfInBounds t a) tmps) (setAll T ps.toList (args.toList.map (aev GT s.T))) := by
      have := setAll_rep ps.toList (args.map a.eval).toList (args.toList.map (aev GT s.T)) tmps T hT (by simp) (fun i v x h1 h2 => hargs.2 i v x (by simpa using h1) h2)
      rw [← Array.foldl_toList, Array.toList_zip]; exact this
    refine wpIn_mono (h B I0 c _ w (n - 1) ⟨hR.sim, hR.glob, hT0, rfl, List.nodup_nil, by simp⟩ (by rintro _ ⟨⟩; exact hobj)) ?_
    rintro e a1 w1 ⟨s1, c1, q1, r1, e1, t1⟩
    cases e with
    | normal =>
      obtain ⟨hst, M1, pe1, hpe, hset, hbody⟩ := q1
      unfold loopSt at hst hpe
      unfold setLoop at hset
      split at hset
      · rename_i st1 pe2 T1 ps1 asg1 bo1 df1 hM1
        rw [hM1] at hst hpe
        simp at hst hpe
        subst hst; subst hpe
        cases hset
        obtain ⟨tmps1, fn1, hL1, hT1, hturn1⟩ := r1.sim.loop hM1
        obtain ⟨hS2, hE2, hs2⟩ := hturn1 .busy pe2
        have eb : c1.blk l = c.blk l := e1.toExt0.blk hobj
        refine ⟨_, run_beginRound (by rw [← eb]; exact hL1) rfl, ?_⟩
        have hob1 : obj (s1.M.set l (.loop .busy pe2 T1 ps1 asg1 bo1 df1)) l := hE2.obj l (e1.obj l hobj)
        have hb := hbody B I0 c1 a1 _ (n - 1) ⟨hS2, r1.glob.mono hs2, r1.tmps.mono hE2 hs2, r1.dfs.mono hE2⟩ (by rintro _ ⟨⟩; exact hob1)
        have ef : fen c1 (some l) = fen c (some l) := by simp only [fen, eb]
        rw [ef, eb] at hb
        refine wpIn_mono hb ?_
        rintro e a2 w2 ⟨s2, c2, ⟨st, pe3, b, M3, z1, z2, z3⟩, r2, e2, t2⟩
        unfold setLoop at z2
        split at z2
        · rename_i st3 pe4 T3 ps3 asg3 bo3 df3 hM3
          cases z2
          obtain ⟨tmps3, fn3, hL3, hT3, hturn3⟩ := r2.sim.loop hM3
          obtain ⟨hS3, hE3, hs3⟩ := hturn3 st pe3
          have eb2 : c2.blk l = c.blk l := by rw [e2.toExt0.blk hob1, eb]
          have hEx : Ext c s.M c2 (s2.M.set l (.loop st pe3 T3 ps3 asg3 bo3 df3)) := ((e1.trans hE2).trans e2).trans hE3
          have hSt := ((t1.trans (eb ▸ hs2)).trans t2).trans hs3
          have hrest := z3 B I0 c2 (a.put o.dst (.bool b)) _ n (hR.step hS3 hEx hSt o.dst (.pd _ _ (.bool b))) (fun k hk => hEx.obj k (hob k hk))
          rw [fen_ext hEx hob] at hrest
          have hfin := wpListIn_mono2 (fun e a u h => Aft.from hEx hSt h) _ _ _ hrest
          have main : ∀ jump : Option Code, b = jump.isNone → st = (if jump.isNone then .ready else .done) → pe3 = jump → ∃ v w', (Instr.endRound (c.blk l) jump).run P w2 = .ok v w' ∧
              wpListIn (fen c ro) n P ops (Aft GT B I0 c s.M w Q) rest (a.put o.dst v) w' := by
            rintro jump rfl rfl rfl
            exact ⟨_, _, run_endRound _ (by rw [← eb2]; exact hL3), by rw [← eb2]; exact hfin⟩
          cases e with
          | normal => cases z1; exact main none rfl rfl rfl
          | ret => cases z1; exact main (some .ret) rfl rfl rfl
          | exit id => cases z1; exact main (some (.exit id)) rfl rfl rfl
          | goto t => cases z1; exact main (some (.goto t)) rfl rfl rfl
          | panic ch => cases z1
          | outgrown => cases z1
        · cases z2
      · cases hset
    | _ => exact q1.elim
end Go.Abs
namespace Go.Abs
open Go.RowKit Go.Proofs
variable {P : Program} {GT : Tabs} {ro : Option Nat} {Q : Exit → S → Prop} {s : S}
def aftFn (P : Program) (GT : Tabs) (ro : Option Nat) (l : Nat) (T : List AV) (D : List Nat) (Q : Exit → S → Prop) (M : Mem) : Prop :=
  ∃ st pe M', loopSt M l = some (st, pe) ∧ st ≠ .busy ∧ setLoop M l .exhausted pe = some M' ∧
    (match pe with
     | none => Q .normal ⟨T, M', D⟩
     | some c => AW P GT ro c ⟨T, M', D⟩ Q)
theorem Sim.pushDefers {B : Nat} {I0 : Nat → Prop} {c : Ctx} {M : Mem} {w : World} (hS : Sim B I0 c M w) : Sim B I0 (c.push M w.heap.size 0) (M ++ [.defers false]) (w.alloc (.deferred (some []))) := by
  refine hS.push _ 0 _ ?_
  show (w.alloc _).heap[(c.push M w.heap.size 0).blk M.length]? = _
  rw [show (c.push M w.heap.size 0).blk M.length = w.heap.size from upd_self _ _ _]
  exact World.alloc_heap_new _ _
theorem Sim.pushLoop {B : Nat} {I0 : Nat → Prop} {c : Ctx} {M : Mem} {w : World} (hS : Sim B I0 c M w) {tmps : Array Value} {T : List AV} (hT : TRep c M w tmps T) (fn : FuncId) (ps : Array Tmp) (asg bo : Code) {df : Nat} (hd : Abs.obj M df) :
    Sim B I0 (c.push M w.heap.size 0) (M ++ [.loop .ready none T ps asg bo df]) (w.alloc (.loop { state := .ready, pending := none, fn := fn, tmps := tmps, params := ps, assign := asg, body := bo, defers := c.blk df })) := by
  refine hS.push _ 0 _ ?_
  have hE := Ext.push c M w.heap.size 0 (.loop .ready none T ps asg bo df)
  refine ⟨tmps, fn, ?_, hE.obj df hd, hT.1, fun j x hj => (hT.2 j x hj).mono hE (Stp.alloc hS.hB hS.immlt _ _ _)⟩
  rw [show (c.push M w.heap.size 0).blk M.length = w.heap.size from upd_self _ _ _, hE.toExt0.blk hd]
  exact World.alloc_heap_new _ _
theorem rangeFunc_core {g : Operand} {ps : Array Tmp} {asg bo : Code} {gf : FuncId} {l1 l2 : List AV} {B : Nat} {I0 : Nat → Prop} {c c1 : Ctx} {a : Act} {w : World} {n l : Nat} {M1 : Mem} {mk : List Deferred} {D : List Nat} {v1 v2 : Array Value}
    (hv : a.eval g = .func (.func gf) v1 v2) (q1 : ArgsRep c s.M w v1 l1) (q2 : ArgsRep c s.M w v2 l2) (he : Enters P gf) (hR : Rel GT B I0 c s a w) (hob : ∀ k, ro = some k → obj s.M k)
    (henter : ∀ fn, ∃ w1, (Instr.enterLoop fn a.tmps ps asg bo (fen c ro).round).run P w = .ok (c1.blk l, mk) w1 ∧ Sim B I0 c1 M1 w1 ∧ Stp B c w c1 w1)
    (hE : Ext c s.M c1 M1) (hl : obj M1 l) (hD : ∀ c' M', Ext c1 M1 c' M' → DRep c' M' (mk ++ a.defers) D)
    (h : ACall P GT gf (l1 ++ [.yld l] ++ l2) M1 fun _ M' => aftFn P GT ro l s.T D Q M') : (Code.rangeFunc g ps asg bo).wpIn (fen c ro) n P (Aft GT B I0 c s.M w Q) a w := by
  refine wpIn_rangeFunc fun fn _ => ?_
  obtain ⟨w1, hent, hS, hs⟩ := henter fn
  refine ⟨c1.blk l, mk, w1, { target := .fn (.func gf) v2, args := v1 ++ #[.func (.yield (c1.blk l)) #[] #[]] }, w1, gf, v1 ++ #[.func (.yield (c1.blk l)) #[] #[]] ++ v2, w1, hent, ?_, ?_, ?_, fun h => fen_depth _ _ h, ?_⟩
  · simp only [resolve, hv, Deferred.ofValue]
    simp [go_sem, Act.eval]
  · intro f' _; exact fen_fn _ _ _
  · simp only [invoke]
    exact he _ _
  · have hy : ArgsRep c1 M1 w1 #[.func (.yield (c1.blk l)) #[] #[]] [.yld l] := by
      refine ⟨rfl, fun i u y h1 h2 => ?_⟩
      match i with
      | 0 => simp at h1 h2; subst h1; subst h2; exact .yld l hl
      | i + 1 => simp at h1
    have mono : ∀ {vs xs}, ArgsRep c s.M w vs xs → ArgsRep c1 M1 w1 vs xs := fun h => ⟨h.1, fun i v x h1 h2 => (h.2 i v x h1 h2).mono hE hs⟩
    refine callsIn_fen ((h B I0 c1 w1 _ (n - 1) hS (hR.glob.mono hs) (((mono q1).append hy).append (mono q2))).mono ?_)
    rintro e w2 ⟨v, r, M', c', rfl, ⟨st, pe, M2, h1, h2, h3, h4⟩, hv', hS', hE', hs'⟩
    unfold loopSt at h1
    unfold setLoop at h3
    split at h1
    · rename_i st' pe' T' ps' as' bo' df' hM'
      cases h1
      rw [hM'] at h3
      cases h3
      obtain ⟨tmps, fn', hL, hT, hturn⟩ := hS'.loop hM'
      obtain ⟨hS3, hE3, hs3⟩ := hturn .exhausted pe
      have eb : c'.blk l = c1.blk l := hE'.toExt0.blk hl
      have hEx := (hE.trans hE').trans hE3
      have hSt := (hs.trans hs').trans hs3
      have hRel : Rel GT B I0 c' ⟨s.T, M'.set l (.loop .exhausted pe T' ps' as' bo' df'), D⟩ { a with defers := mk ++ a.defers } _ := ⟨hS3, hR.glob.mono hSt, hR.tmps.mono hEx hSt, hD _ _ (hE'.trans hE3)⟩
      refine ⟨pe, _, by rw [← eb]; exact run_endLoop hL h2, ?_⟩
      cases pe with
      | none => exact ⟨_, c', h4, hRel, hEx, hSt⟩
      | some jc =>
        have := h4 B I0 c' _ _ n hRel (fun k hk => hEx.obj k (hob k hk))
        rw [fen_ext hEx hob] at this
        exact wpIn_mono this fun e a u h => Aft.from hEx hSt h
    · cases h1
theorem AW_rangeFunc {g : Operand} {ps : Array Tmp} {asg bo : Code} {gf : FuncId} {l1 l2 : List AV} (hg : aev GT s.T g = .fn (.func gf) l1 l2) (he : Enters P gf)
    (h : ACall P GT gf (l1 ++ [.yld (s.M.length + 1)] ++ l2) (s.M ++ [.defers false] ++ [.loop .ready none s.T ps asg bo s.M.length]) fun _ M' => aftFn P GT none (s.M.length + 1) s.T (s.M.length :: s.D) Q M') : AW P GT none (.rangeFunc g ps asg bo) s Q := by
  intro B I0 c a w n hR hob
  have hfv := hR.ev g
  rw [hg] at hfv
  obtain ⟨v1, v2, hv, q1, q2⟩ := hfv.fnInv
  have hS0 := hR.sim.pushDefers
  have hE0 := Ext.push c s.M w.heap.size 0 (.defers false)
  have hs0 : Stp B c w (c.push s.M w.heap.size 0) (w.alloc (.deferred (some []))) := Stp.alloc hR.sim.hB hR.sim.immlt _ _ _
  have hd : obj (s.M ++ [.defers false]) s.M.length := ⟨.defers false, by simp, rfl⟩
  have eblk : (c.push s.M w.heap.size 0).blk s.M.length = w.heap.size := upd_self _ _ _
  have hE1 := Ext.push (c.push s.M w.heap.size 0) (s.M ++ [.defers false]) (w.heap.size + 1) 0 (.loop .ready none s.T ps asg bo s.M.length)
  have el : (s.M ++ [Ob.defers false]).length = s.M.length + 1 := by simp
  have ebl : ((c.push s.M w.heap.size 0).push (s.M ++ [.defers false]) (w.heap.size + 1) 0).blk (s.M.length + 1) = w.heap.size + 1 := by rw [← el]; exact upd_self _ _ _
  have ebd : ((c.push s.M w.heap.size 0).push (s.M ++ [.defers false]) (w.heap.size + 1) 0).blk s.M.length = w.heap.size := by rw [hE1.toExt0.blk hd, eblk]
  have hkeep : ∀ (i : Nat) (t : Bool), s.M[i]? = some (.defers t) → i < s.M.length := fun i t hi => (List.getElem?_eq_some_iff.1 hi).1
  refine rangeFunc_core (c1 := (c.push s.M w.heap.size 0).push (s.M ++ [.defers false]) (w.heap.size + 1) 0) (l := s.M.length + 1) (mk := [{ target := .collected w.heap.size, args := #[] }]) hv q1 q2 he hR hob (fun fn => ?_) (hE0.trans hE1) ⟨_, by rw [List.getElem?_append_right (by omega)]; simp; rfl, rfl⟩ ?_ h
  · refine ⟨_, by rw [ebl]; exact run_enterLoop_outer fn a.tmps ps asg bo, ?_, ?_⟩
    · have := hS0.pushLoop (hR.tmps.mono hE0 hs0) fn ps asg bo hd
      rw [eblk, World.size_alloc] at this
      exact this
    · refine hs0.trans ?_
      have := Stp.alloc (B := B) hS0.hB hS0.immlt (.loop { state := .ready, pending := none, fn := fn, tmps := a.tmps, params := ps, assign := asg, body := bo, defers := w.heap.size }) ((c.push s.M w.heap.size 0).push (s.M ++ [.defers false]) (w.heap.size + 1) 0).blk ((c.push s.M w.heap.size 0).push (s.M ++ [.defers false]) (w.heap.size + 1) 0).rsz
      exact this
  · intro c' M' hE'
    obtain ⟨d1, d2, d3⟩ := hR.dfs.mono ((hE0.trans hE1).trans hE')
    refine ⟨?_, List.nodup_cons.2 ⟨fun hm => ?_, d2⟩, fun d hd' => ?_⟩
    · rw [List.map_cons, ← d1]
      simp only [mark, List.cons_append, List.nil_append]
      rw [(hE1.trans hE').toExt0.blk hd, eblk]
    · have := hkeep _ _ (hR.dfs.2.2 _ hm); omega
    · rcases List.mem_cons.1 hd' with rfl | hm
      · exact (hE1.trans hE').keep _ _ (by simp)
      · exact d3 d hm
theorem AW_rangeFuncIn {g : Operand} {ps : Array Tmp} {asg bo : Code} {gf : FuncId} {l1 l2 : List AV} {l0 df : Nat} {st0 : LoopState} {pe0 : Option Code} {T0 : List AV} {ps0 : Array Tmp} {asg0 bo0 : Code} (hM0 : s.M[l0]? = some (.loop st0 pe0 T0 ps0 asg0 bo0 df))
    (hg : aev GT s.T g = .fn (.func gf) l1 l2) (he : Enters P gf)
    (h : ACall P GT gf (l1 ++ [.yld s.M.length] ++ l2) (s.M ++ [.loop .ready none s.T ps asg bo df]) fun _ M' => aftFn P GT (some l0) s.M.length s.T s.D Q M') : AW P GT (some l0) (.rangeFunc g ps asg bo) s Q := by
  intro B I0 c a w n hR hob
  have hfv := hR.ev g
  rw [hg] at hfv
  obtain ⟨v1, v2, hv, q1, q2⟩ := hfv.fnInv
  obtain ⟨tm, fn0, hL0, _, _⟩ := hR.sim.loop hM0
  have hd : obj s.M df := by obtain ⟨_, _, _, h2, _⟩ := hR.sim.obj l0 _ hM0; exact h2
  have hE1 := Ext.push c s.M w.heap.size 0 (.loop .ready none s.T ps asg bo df)
  refine rangeFunc_core (c1 := c.push s.M w.heap.size 0) (l := s.M.length) (mk := []) hv q1 q2 he hR hob (fun fn => ?_) hE1 ⟨_, by simp; rfl, rfl⟩ ?_ h
  · refine ⟨_, by rw [show (c.push s.M w.heap.size 0).blk s.M.length = w.heap.size from upd_self _ _ _]; exact run_enterLoop_inner hL0 fn a.tmps ps asg bo, hR.sim.pushLoop hR.tmps fn ps asg bo hd, Stp.alloc hR.sim.hB hR.sim.immlt _ _ _⟩
  · intro c' M' hE'
    exact hR.dfs.mono (hE1.trans hE')
end Go.Abs
end
