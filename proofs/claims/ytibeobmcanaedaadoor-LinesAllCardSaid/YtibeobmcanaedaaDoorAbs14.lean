/- Functions: a contract from the body; contracts of functions that leave nothing behind. -/
import Derived.Test.YtibeobmcanaedaaDoorAbs13
namespace Go.Abs
open Go.RowKit Go.Proofs
variable {P : Program} {GT : Tabs} {ro : Option Nat} {Q : Exit → S → Prop} {s : S}

/-! ### results -/
def aCell (P : Program) (M : Mem) (t : TypeId) (a : AV) : Option AV :=
  match a with
  | .ptr b off ver => aLoad P M t (.ptr b off ver)
  | _ => none

theorem aCell_ok {B : Nat} {I0 : Nat → Prop} {c : Ctx} {M : Mem} {w : World} {t : TypeId} {a x : AV} {v : Value} (hS : Sim B I0 c M w) (ha : ARep c M w v a) (h : aCell P M t a = some x) :
    ∃ u, (do loadVar t (← asAddr v) : Sem Value).run P w = .ok u w ∧ ARep c M w u x := by
  unfold aCell at h
  split at h
  · rename_i b off ver
    have h0 := h
    unfold aLoad at h0
    split at h0
    · rename_i ag n b' off' ver' hag hn heq
      cases heq
      split at h0
      · rename_i l sz ver' z hM
        split at h0
        · rename_i hvv
          subst hvv
          cases ha with
          | ptr v b off ver hb hv hp =>
            have hp' := hp (verOf_some hM)
            subst hp'
            obtain ⟨cs, e, g1, g2, g3, g4⟩ := hS.row hM
            split at h0
            · rename_i hag'
              subst hag'
              split at h0
              · rename_i hle
                cases h0
                have hlen : ((cs.toList.drop off).take n).length = n := by simp; omega
                have hrun : (loadCells ⟨c.blk b, off, none⟩ n).run P w = .ok ((cs.toList.drop off).take n).toArray w := by
                  have := run_loadCells_list (P := P) w ⟨c.blk b, off, none⟩ ((cs.toList.drop off).take n) (fun j v hj => by
                    rw [addr_add _ _ rfl]
                    simp only [World.cell?, g1, Option.isSome_none, Bool.false_eq_true, if_false]
                    rw [List.getElem?_take] at hj
                    split at hj
                    · rw [List.getElem?_drop] at hj; simpa using hj
                    · cases hj)
                  rwa [hlen] at this
                refine ⟨.agg ((cs.toList.drop off).take n).toArray, ?_, ?_⟩
                · simp [asAddr, loadVar, run_isAgg hag, run_sizeOf hn, hrun]
                · refine .agg _ _ (by simp; omega) fun j v x h1 h2 => ?_
                  simp only [List.getElem?_toArray, List.getElem?_take, List.getElem?_drop] at h1 h2
                  split at h1
                  · rename_i hj
                    rw [if_pos hj] at h2
                    obtain ⟨v', k1, k2⟩ := g4 _ _ h2
                    have : v' = v := by
                      rw [Array.getElem?_toList] at h1; rw [h1] at k1; cases k1; rfl
                    exact this ▸ k2
                  · cases h1
              · cases h0
            · rename_i hag'
              have hag'' : ag = false := by simpa using hag'
              subst hag''
              obtain ⟨v', k1, k2⟩ := g4 _ _ h0
              refine ⟨v', ?_, k2⟩
              simp [asAddr, loadVar, run_isAgg hag, World.cell?, g1, k1]
        · cases h0
      · cases h0
    · rename_i hno; cases hno
    · cases h0
  · cases h

def resVar (P : Program) (T : List AV) (M : Mem) : ResultVar → Option AV
  | .tmp t => some (T.getD t .junk)
  | .cell a t => aCell P M t (T.getD a .junk)

def tupOf : List AV → AV
  | [x] => x
  | l => .tup l

def resOf (P : Program) (fn : Func) (T : List AV) (M : Mem) : Option AV := (fn.results.toList.mapM (resVar P T M)).map tupOf

theorem TRep.getD {c : Ctx} {M : Mem} {w : World} {tmps : Array Value} {T : List AV} (h : TRep c M w tmps T) (t : Nat) : ARep c M w (tmps.getD t undef) (T.getD t .junk) := by
  rw [List.getD_eq_getElem?_getD]
  cases hT : T[t]? with
  | none => exact .junk _
  | some x => exact h.2 t x hT

theorem mapM_run {α : Type} {B : Nat} {I0 : Nat → Prop} {c : Ctx} {M : Mem} {w : World} (f : α → Sem Value) (g : α → Option AV) (hS : Sim B I0 c M w) (hf : ∀ a x, g a = some x → ∃ v, (f a).run P w = .ok v w ∧ ARep c M w v x) :
    ∀ (l : List α) (xs : List AV), l.mapM g = some xs → ∃ vs : List Value, (l.mapM f).run P w = .ok vs w ∧ ArgsRep c M w vs.toArray xs
  | [], xs, h => by simp at h; subst h; exact ⟨[], by simp, by simp [ArgsRep]⟩
  | a :: l, xs, h => by
    rw [List.mapM_cons] at h
    have h : ((g a).bind fun b => (l.mapM g).bind fun r' => some (b :: r')) = some xs := h
    rw [Option.bind_eq_some_iff] at h
    obtain ⟨x, hx, h⟩ := h
    rw [Option.bind_eq_some_iff] at h
    obtain ⟨r, hr, h⟩ := h
    cases h
    obtain ⟨v, h1, h2⟩ := hf a x hx
    obtain ⟨vs, h3, h4⟩ := mapM_run f g hS hf l r hr
    refine ⟨v :: vs, by simp [List.mapM_cons, h1, h3], ?_⟩
    have : ArgsRep c M w #[v] [x] := by
      refine ⟨rfl, fun i u y q1 q2 => ?_⟩
      match i with
      | 0 => simp at q1 q2; subst q1; subst q2; exact h2
      | i + 1 => simp at q1
    have := this.append h4
    simpa using this

theorem resOf_ok {B : Nat} {I0 : Nat → Prop} {c : Ctx} {M : Mem} {w : World} {fn : Func} {tmps : Array Value} {T : List AV} {x : AV} (hS : Sim B I0 c M w) (hT : TRep c M w tmps T) (h : resOf P fn T M = some x) :
    ∃ v, (results fn tmps).run P w = .ok v w ∧ ARep c M w v x := by
  unfold resOf at h
  rw [Option.map_eq_some_iff] at h
  obtain ⟨xs, hxs, rfl⟩ := h
  obtain ⟨vs, h1, h2⟩ := mapM_run (P := P) (fun r : ResultVar => match r with | .tmp t => (pure (tmps.getD t undef) : Sem Value) | .cell a t => do loadVar t (← asAddr (tmps.getD a undef))) (resVar P T M) hS (by
    intro r x hx
    cases r with
    | tmp t => simp [resVar] at hx; subst hx; exact ⟨_, rfl, by have := hT.getD t; rwa [List.getD_eq_getElem?_getD] at this⟩
    | cell a t => exact aCell_ok hS (hT.getD a) hx) fn.results.toList xs hxs
  have hm : (fn.results.mapM (fun r : ResultVar => match r with | .tmp t => (pure (tmps.getD t undef) : Sem Value) | .cell a t => do loadVar t (← asAddr (tmps.getD a undef)))).run P w = .ok vs.toArray w := by
    have e := Array.toArray_toList (xs := fn.results)
    rw [← e, List.mapM_toArray]
    simp only [Sem.run_map]
    rw [h1]; rfl
  have hres : ∀ (u : Value), (if h : vs.toArray.size = 1 then vs.toArray[0] else Value.tuple vs.toArray) = u → (results fn tmps).run P w = .ok u w := by
    intro u hu
    unfold results
    rw [Sem.run_bind]
    refine Eq.trans (congrArg (fun r => Result.andThen r _) hm) ?_
    simp only [Result.andThen_ok, Sem.run_pure, hu]
  match xs, vs, h2, hres with
  | [x], [v], h2, hres => exact ⟨v, hres v rfl, h2.2 0 v x rfl rfl⟩
  | [], [], h2, hres => exact ⟨.tuple #[], hres _ rfl, .tup _ _ rfl (by simp)⟩
  | x :: y :: xs, v :: u :: vs, h2, hres =>
    refine ⟨.tuple (v :: u :: vs).toArray, hres _ ?_, .tup _ _ h2.1 h2.2⟩
    have : ¬ ((v :: u :: vs).toArray.size = 1) := by simp
    rw [dif_neg this]
  | [], _ :: _, h2, _ => exact absurd h2.1 (by simp)
  | _ :: _, [], h2, _ => exact absurd h2.1 (by simp)
  | [_], _ :: _ :: _, h2, _ => exact absurd h2.1 (by simp)
  | _ :: _ :: _, [_], h2, _ => exact absurd h2.1 (by simp)

/-! ### the deferred calls' blocks are shut -/
def shut (M : Mem) (D : List Nat) : Mem := D.foldl (fun M d => M.set d (.defers true)) M

theorem shut_length (D : List Nat) : ∀ (M : Mem), (shut M D).length = M.length := by
  induction D with
  | nil => intro M; rfl
  | cons d D ih => intro M; rw [shut, List.foldl_cons]; show (shut (M.set d (.defers true)) D).length = _; rw [ih]; simp

theorem Ext0.shut {c : Ctx} {M : Mem} {d : Nat} (h : M[d]? = some (.defers false)) : Ext0 c M c (M.set d (.defers true)) := by
  have hlt := (List.getElem?_eq_some_iff.1 h).1
  refine ⟨by simp, fun i hi => ?_, fun i hi he => ⟨rfl, rfl, ?_⟩, fun i hi => obj_set h rfl hi⟩
  · by_cases e : d = i
    · subst e; rw [verOf_some h, verOf_some (List.getElem?_set_self hlt)]; exact Nat.le_refl _
    · simp [verOf, List.getElem?_set_ne e]
  · by_cases e : d = i
    · subst e; rw [h, List.getElem?_set_self hlt]; rfl
    · rw [List.getElem?_set_ne e]

theorem Ext.beyond {c0 c : Ctx} {M0 M M' : Mem} (h : Ext c0 M0 c M) (hl : M.length ≤ M'.length) (hs : ∀ i, i < M0.length → M'[i]? = M[i]?) : Ext c0 M0 c M' := by
  refine ⟨⟨Nat.le_trans h.len hl, fun i hi => ?_, fun i hi he => ?_, fun i hi => ?_⟩, fun i t hi => ?_⟩
  · have := h.ver i hi; simpa [verOf, hs i hi] using this
  · have := h.same i hi (by simpa [verOf, hs i hi] using he)
    exact ⟨this.1, this.2.1, by rw [hs i hi]; exact this.2.2⟩
  · obtain ⟨o, q1, q2⟩ := h.obj i hi
    exact ⟨o, by rw [hs i hi.lt]; exact q1, q2⟩
  · rw [hs i (List.getElem?_eq_some_iff.1 hi).1]; exact h.keep i t hi

theorem leaves {B : Nat} {I0 : Nat → Prop} {fn : Func} {tmps : Array Value} {R : Ending → World → Prop} {n : Nat} {c0 c : Ctx} {M0 : Mem} {w0 : World} {T : List AV} : ∀ (D : List Nat) (M : Mem) (w : World), Sim B I0 c M w → TRep c M w tmps T → D.Nodup → (∀ d, d ∈ D → M[d]? = some (.defers false) ∧ M0.length ≤ d) →
    Ext c0 M0 c M → Stp B c0 w0 c w →
    (∀ w', Sim B I0 c (shut M D) w' → TRep c (shut M D) w' tmps T → Ext c0 M0 c (shut M D) → Stp B c0 w0 c w' → ∃ v, (results fn tmps).run P w' = .ok v w' ∧ R (.returned v) w') →
    LeavesInM Fence.wide n P fn tmps R (D.map (mark c)) .returning w
  | [], M, w, hS, hT, _, _, hE, hs, h => by
    obtain ⟨v, h1, h2⟩ := h w hS hT hE hs
    exact ⟨v, h1, h2⟩
  | d :: D, M, w, hS, hT, hN, hD, hE, hs, h => by
    obtain ⟨hMd, hge⟩ := hD d (by simp)
    have hO : w.heap[c.blk d]? = some (.deferred (some [])) := hS.obj d _ hMd
    have hni : ¬ c.imm (c.blk d) := hS.sep d _ hMd rfl rfl
    have hs1 : Stp B c w c (w.putObj (c.blk d) (.deferred none)) := Stp.of_block hni (hS.blkB d ⟨_, hMd, rfl⟩) rfl rfl rfl (by simp) fun k hk => World.putObj_heap_other hk
    have hlt := (List.getElem?_eq_some_iff.1 hMd).1
    have he0 : Ext0 c M c (M.set d (.defers true)) := Ext0.shut hMd
    have gs : ∀ i, i ≠ d → (M.set d (.defers true))[i]? = M[i]? := fun i hi => List.getElem?_set_ne (Ne.symm hi)
    have hS1 : Sim B I0 c (M.set d (.defers true)) (w.putObj (c.blk d) (.deferred none)) := by
      have rs : ∀ i, real (M.set d (.defers true)) i → real M i := fun i hi => real_set hMd rfl hi
      refine ⟨fun i hi => hS.blkB i (rs i hi), fun i j hi hj => hS.inj i j (rs i hi) (rs j hj), hS.imm0, hS.immB, fun k hk => by have := hS.immlt k hk; simpa using this, ?_, ?_, by have := hS.hB; simpa using this⟩
      · intro i p hp hz hv
        by_cases e : i = d
        · subst e; exact hni
        · rw [gs i e] at hp; exact hS.sep i p hp hz hv
      · intro i p hp
        by_cases e : i = d
        · subst e
          rw [List.getElem?_set_self hlt] at hp; cases hp
          exact World.putObj_heap_same (Array.getElem?_eq_some_iff.1 hO).1
        · rw [gs i e] at hp
          exact (hS.obj i p hp).mono he0 hs1 rfl rfl fun hv => World.putObj_heap_other fun q => e (hS.inj i d ⟨p, hp, hv⟩ ⟨_, hMd, rfl⟩ q)
    have hT1 : TRep c (M.set d (.defers true)) (w.putObj (c.blk d) (.deferred none)) tmps T := ⟨hT.1, fun i x hx => (hT.2 i x hx).mono he0 hs1⟩
    have hN' := List.nodup_cons.1 hN
    refine ⟨by simp, .inl ⟨c.blk d, _, rfl, run_takeDeferred hO, ?_⟩⟩
    refine leaves D _ _ hS1 hT1 hN'.2 (fun d' hd' => ?_) (hE.beyond (by simp) fun i hi => gs i (by omega)) (hs.trans hs1) h
    have hne : d' ≠ d := fun e => hN'.1 (e ▸ hd')
    obtain ⟨q1, q2⟩ := hD d' (by simp [hd'])
    exact ⟨by rw [gs d' hne]; exact q1, q2⟩

/-- **A function's contract from its body.** -/
theorem ACall_of_body {f : FuncId} {fn : Func} {code : Code} {args : List AV} {M : Mem} {R : AV → Mem → Prop} (hf : P.funcs[f]? = some fn) (hb : fn.body = some code)
    (h : AW P GT none code ⟨args ++ List.replicate (fn.ntmps - args.length) .junk, M, []⟩ fun e s' => (e = .normal ∨ e = .ret) ∧ (∀ d, d ∈ s'.D → M.length ≤ d) ∧ ∃ r, resOf P fn s'.T (shut s'.M s'.D) = some r ∧ R r (shut s'.M s'.D)) :
    ACall P GT f args M R := by
  intro B I0 c w vs n hS hG hA
  refine callsIn_of_wp_marks hf hb trivial ?_
  have hT : TRep c M w (vs ++ Array.replicate (fn.ntmps - vs.size) undef) (args ++ List.replicate (fn.ntmps - args.length) .junk) := by
    refine ⟨by simp [hA.1], fun i x hx => ?_⟩
    by_cases hi : i < args.length
    · rw [List.getElem?_append_left hi] at hx
      have hv : i < vs.size := by rw [hA.1]; exact hi
      have e : (vs ++ Array.replicate (fn.ntmps - vs.size) undef).getD i undef = vs[i] := by
        rw [Array.getD_eq_getD_getElem?, Array.getElem?_append_left hv]; simp [hv]
      rw [e]; exact hA.2 i _ x (Array.getElem?_eq_getElem hv) hx
    · rw [List.getElem?_append_right (by omega), List.getElem?_replicate] at hx
      split at hx
      · cases hx; exact .junk _
      · cases hx
  have := h B I0 c { tmps := vs ++ Array.replicate (fn.ntmps - vs.size) undef, defers := [] } w n ⟨hS, hG, hT, rfl, List.nodup_nil, by simp⟩ (by simp)
  refine wpIn_mono this ?_
  rintro e a' w' ⟨s', c', ⟨he, hD, r, hr, hRr⟩, hR, hE, hs⟩
  have key : LeavesInM Fence.wide n P fn a'.tmps (fun e w' => ∃ v r M' c', e = .returned v ∧ R r M' ∧ ARep c' M' w' v r ∧ Sim B I0 c' M' w' ∧ Ext c M c' M' ∧ Stp B c w c' w') a'.defers .returning w' := by
    obtain ⟨d1, d2, d3⟩ := hR.dfs
    rw [d1]
    refine leaves s'.D s'.M w' hR.sim hR.tmps d2 (fun d hd => ⟨d3 d hd, hD d hd⟩) hE hs ?_
    intro w'' hS'' hT'' hE'' hs''
    obtain ⟨v, h1, h2⟩ := resOf_ok (P := P) hS'' hT'' hr
    exact ⟨v, h1, v, r, _, c', rfl, hRr, h2, hS'', hE'', hs''⟩
  rcases he with rfl | rfl
  · exact key
  · exact key

end Go.Abs
