/- The statement that ranges over a function. -/
import Derived.Test.YtibeobmcanaedaaDoorAbs16
namespace Go.Abs
open Go.RowKit Go.Proofs
variable {P : Program} {GT : Tabs} {ro : Option Nat} {Q : Exit → S → Prop} {s : S}

/-- What is asked behind the function that was ranged over. -/
def aftFn (P : Program) (GT : Tabs) (ro : Option Nat) (l : Nat) (T : List AV) (D : List Nat) (Q : Exit → S → Prop) (M : Mem) : Prop :=
  ∃ st pe M', loopSt M l = some (st, pe) ∧ st ≠ .busy ∧ setLoop M l .exhausted pe = some M' ∧
    (match pe with
     | none => Q .normal ⟨T, M', D⟩
     | some c => AW P GT ro c ⟨T, M', D⟩ Q)

theorem Sim.pushDefers {B : Nat} {I0 : Nat → Prop} {c : Ctx} {M : Mem} {w : World} (hS : Sim B I0 c M w) : Sim B I0 (c.push M w.heap.size 0) (M ++ [.defers false]) (w.alloc (.deferred (some []))) := by
  refine hS.push _ 0 _ ?_
  show (w.alloc _).heap[(c.push M w.heap.size 0).blk M.length]? = _
  rw [show (c.push M w.heap.size 0).blk M.length = w.heap.size from upd_self _ _ _]
  exact World.alloc_heap_new _ _

theorem Sim.pushLoop {B : Nat} {I0 : Nat → Prop} {c : Ctx} {M : Mem} {w : World} (hS : Sim B I0 c M w) {tmps : Array Value} {T : List AV} (hT : TRep c M w tmps T) (fn : FuncId) (ps : Array Tmp) (asg bo : Code) {df : Nat} (hd : Abs.obj M df) :
    Sim B I0 (c.push M w.heap.size 0) (M ++ [.loop .ready none T ps asg bo df]) (w.alloc (.loop { state := .ready, pending := none, fn := fn, tmps := tmps, params := ps, assign := asg, body := bo, defers := c.blk df })) := by
  refine hS.push _ 0 _ ?_
  have hE := Ext.push c M w.heap.size 0 (.loop .ready none T ps asg bo df)
  refine ⟨tmps, fn, ?_, hE.obj df hd, hT.1, fun j x hj => (hT.2 j x hj).mono hE (Stp.alloc hS.hB hS.immlt _ _ _)⟩
  rw [show (c.push M w.heap.size 0).blk M.length = w.heap.size from upd_self _ _ _, hE.toExt0.blk hd]
  exact World.alloc_heap_new _ _

/-- The machine's part, alike at both kinds. -/
theorem rangeFunc_core {g : Operand} {ps : Array Tmp} {asg bo : Code} {gf : FuncId} {l1 l2 : List AV} {B : Nat} {I0 : Nat → Prop} {c c1 : Ctx} {a : Act} {w : World} {n l : Nat} {M1 : Mem} {mk : List Deferred} {D : List Nat} {v1 v2 : Array Value}
    (hv : a.eval g = .func (.func gf) v1 v2) (q1 : ArgsRep c s.M w v1 l1) (q2 : ArgsRep c s.M w v2 l2) (he : Enters P gf) (hR : Rel GT B I0 c s a w) (hob : ∀ k, ro = some k → obj s.M k)
    (henter : ∀ fn, ∃ w1, (Instr.enterLoop fn a.tmps ps asg bo (fen c ro).round).run P w = .ok (c1.blk l, mk) w1 ∧ Sim B I0 c1 M1 w1 ∧ Stp B c w c1 w1)
    (hE : Ext c s.M c1 M1) (hl : obj M1 l) (hD : ∀ c' M', Ext c1 M1 c' M' → DRep c' M' (mk ++ a.defers) D)
    (h : ACall P GT gf (l1 ++ [.yld l] ++ l2) M1 fun _ M' => aftFn P GT ro l s.T D Q M') : (Code.rangeFunc g ps asg bo).wpIn (fen c ro) n P (Aft GT B I0 c s.M w Q) a w := by
  refine wpIn_rangeFunc fun fn _ => ?_
  obtain ⟨w1, hent, hS, hs⟩ := henter fn
  refine ⟨c1.blk l, mk, w1, { target := .fn (.func gf) v2, args := v1 ++ #[.func (.yield (c1.blk l)) #[] #[]] }, w1, gf, v1 ++ #[.func (.yield (c1.blk l)) #[] #[]] ++ v2, w1, hent, ?_, ?_, ?_, fun h => fen_depth _ _ h, ?_⟩
  · simp only [resolve, hv, Deferred.ofValue]
    simp [go_sem, Act.eval]
  · intro f' _; exact fen_fn _ _ _
  · simp only [invoke]
    exact he _ _
  · have hy : ArgsRep c1 M1 w1 #[.func (.yield (c1.blk l)) #[] #[]] [.yld l] := by
      refine ⟨rfl, fun i u y h1 h2 => ?_⟩
      match i with
      | 0 => simp at h1 h2; subst h1; subst h2; exact .yld l hl
      | i + 1 => simp at h1
    have mono : ∀ {vs xs}, ArgsRep c s.M w vs xs → ArgsRep c1 M1 w1 vs xs := fun h => ⟨h.1, fun i v x h1 h2 => (h.2 i v x h1 h2).mono hE hs⟩
    refine callsIn_fen ((h B I0 c1 w1 _ (n - 1) hS (hR.glob.mono hs) (((mono q1).append hy).append (mono q2))).mono ?_)
    rintro e w2 ⟨v, r, M', c', rfl, ⟨st, pe, M2, h1, h2, h3, h4⟩, hv', hS', hE', hs'⟩
    unfold loopSt at h1
    unfold setLoop at h3
    split at h1
    · rename_i st' pe' T' ps' as' bo' df' hM'
      cases h1
      rw [hM'] at h3
      cases h3
      obtain ⟨tmps, fn', hL, hT, hturn⟩ := hS'.loop hM'
      obtain ⟨hS3, hE3, hs3⟩ := hturn .exhausted pe
      have eb : c'.blk l = c1.blk l := hE'.toExt0.blk hl
      have hEx := (hE.trans hE').trans hE3
      have hSt := (hs.trans hs').trans hs3
      have hRel : Rel GT B I0 c' ⟨s.T, M'.set l (.loop .exhausted pe T' ps' as' bo' df'), D⟩ { a with defers := mk ++ a.defers } _ := ⟨hS3, hR.glob.mono hSt, hR.tmps.mono hEx hSt, hD _ _ (hE'.trans hE3)⟩
      refine ⟨pe, _, by rw [← eb]; exact run_endLoop hL h2, ?_⟩
      cases pe with
      | none => exact ⟨_, c', h4, hRel, hEx, hSt⟩
      | some jc =>
        have := h4 B I0 c' _ _ n hRel (fun k hk => hEx.obj k (hob k hk))
        rw [fen_ext hEx hob] at this
        exact wpIn_mono this fun e a u h => Aft.from hEx hSt h
    · cases h1

/-- The statement, at an outermost loop. -/
theorem AW_rangeFunc {g : Operand} {ps : Array Tmp} {asg bo : Code} {gf : FuncId} {l1 l2 : List AV} (hg : aev GT s.T g = .fn (.func gf) l1 l2) (he : Enters P gf)
    (h : ACall P GT gf (l1 ++ [.yld (s.M.length + 1)] ++ l2) (s.M ++ [.defers false] ++ [.loop .ready none s.T ps asg bo s.M.length]) fun _ M' => aftFn P GT none (s.M.length + 1) s.T (s.M.length :: s.D) Q M') : AW P GT none (.rangeFunc g ps asg bo) s Q := by
  intro B I0 c a w n hR hob
  have hfv := hR.ev g
  rw [hg] at hfv
  obtain ⟨v1, v2, hv, q1, q2⟩ := hfv.fnInv
  have hS0 := hR.sim.pushDefers
  have hE0 := Ext.push c s.M w.heap.size 0 (.defers false)
  have hs0 : Stp B c w (c.push s.M w.heap.size 0) (w.alloc (.deferred (some []))) := Stp.alloc hR.sim.hB hR.sim.immlt _ _ _
  have hd : obj (s.M ++ [.defers false]) s.M.length := ⟨.defers false, by simp, rfl⟩
  have eblk : (c.push s.M w.heap.size 0).blk s.M.length = w.heap.size := upd_self _ _ _
  have hE1 := Ext.push (c.push s.M w.heap.size 0) (s.M ++ [.defers false]) (w.heap.size + 1) 0 (.loop .ready none s.T ps asg bo s.M.length)
  have el : (s.M ++ [Ob.defers false]).length = s.M.length + 1 := by simp
  have ebl : ((c.push s.M w.heap.size 0).push (s.M ++ [.defers false]) (w.heap.size + 1) 0).blk (s.M.length + 1) = w.heap.size + 1 := by rw [← el]; exact upd_self _ _ _
  have ebd : ((c.push s.M w.heap.size 0).push (s.M ++ [.defers false]) (w.heap.size + 1) 0).blk s.M.length = w.heap.size := by rw [hE1.toExt0.blk hd, eblk]
  have hkeep : ∀ (i : Nat) (t : Bool), s.M[i]? = some (.defers t) → i < s.M.length := fun i t hi => (List.getElem?_eq_some_iff.1 hi).1
  refine rangeFunc_core (c1 := (c.push s.M w.heap.size 0).push (s.M ++ [.defers false]) (w.heap.size + 1) 0) (l := s.M.length + 1) (mk := [{ target := .collected w.heap.size, args := #[] }]) hv q1 q2 he hR hob (fun fn => ?_) (hE0.trans hE1) ⟨_, by rw [List.getElem?_append_right (by omega)]; simp; rfl, rfl⟩ ?_ h
  · refine ⟨_, by rw [ebl]; exact run_enterLoop_outer fn a.tmps ps asg bo, ?_, ?_⟩
    · have := hS0.pushLoop (hR.tmps.mono hE0 hs0) fn ps asg bo hd
      rw [eblk, World.size_alloc] at this
      exact this
    · refine hs0.trans ?_
      have := Stp.alloc (B := B) hS0.hB hS0.immlt (.loop { state := .ready, pending := none, fn := fn, tmps := a.tmps, params := ps, assign := asg, body := bo, defers := w.heap.size }) ((c.push s.M w.heap.size 0).push (s.M ++ [.defers false]) (w.heap.size + 1) 0).blk ((c.push s.M w.heap.size 0).push (s.M ++ [.defers false]) (w.heap.size + 1) 0).rsz
      exact this
  · intro c' M' hE'
    obtain ⟨d1, d2, d3⟩ := hR.dfs.mono ((hE0.trans hE1).trans hE')
    refine ⟨?_, List.nodup_cons.2 ⟨fun hm => ?_, d2⟩, fun d hd' => ?_⟩
    · rw [List.map_cons, ← d1]
      simp only [mark, List.cons_append, List.nil_append]
      rw [(hE1.trans hE').toExt0.blk hd, eblk]
    · have := hkeep _ _ (hR.dfs.2.2 _ hm); omega
    · rcases List.mem_cons.1 hd' with rfl | hm
      · exact (hE1.trans hE').keep _ _ (by simp)
      · exact d3 d hm

/-- The statement, within a round. -/
theorem AW_rangeFuncIn {g : Operand} {ps : Array Tmp} {asg bo : Code} {gf : FuncId} {l1 l2 : List AV} {l0 df : Nat} {st0 : LoopState} {pe0 : Option Code} {T0 : List AV} {ps0 : Array Tmp} {asg0 bo0 : Code} (hM0 : s.M[l0]? = some (.loop st0 pe0 T0 ps0 asg0 bo0 df))
    (hg : aev GT s.T g = .fn (.func gf) l1 l2) (he : Enters P gf)
    (h : ACall P GT gf (l1 ++ [.yld s.M.length] ++ l2) (s.M ++ [.loop .ready none s.T ps asg bo df]) fun _ M' => aftFn P GT (some l0) s.M.length s.T s.D Q M') : AW P GT (some l0) (.rangeFunc g ps asg bo) s Q := by
  intro B I0 c a w n hR hob
  have hfv := hR.ev g
  rw [hg] at hfv
  obtain ⟨v1, v2, hv, q1, q2⟩ := hfv.fnInv
  obtain ⟨tm, fn0, hL0, _, _⟩ := hR.sim.loop hM0
  have hd : obj s.M df := by obtain ⟨_, _, _, h2, _⟩ := hR.sim.obj l0 _ hM0; exact h2
  have hE1 := Ext.push c s.M w.heap.size 0 (.loop .ready none s.T ps asg bo df)
  refine rangeFunc_core (c1 := c.push s.M w.heap.size 0) (l := s.M.length) (mk := []) hv q1 q2 he hR hob (fun fn => ?_) hE1 ⟨_, by simp; rfl, rfl⟩ ?_ h
  · refine ⟨_, by rw [show (c.push s.M w.heap.size 0).blk s.M.length = w.heap.size from upd_self _ _ _]; exact run_enterLoop_inner hL0 fn a.tmps ps asg bo, hR.sim.pushLoop hR.tmps fn ps asg bo hd, Stp.alloc hR.sim.hB hR.sim.immlt _ _ _⟩
  · intro c' M' hE'
    exact hR.dfs.mono (hE1.trans hE')

end Go.Abs
