/- Part of a proof, in few files: Abs14. -/
import Derived.Test.YtdbfgnpobfbfmaaGreatDoorMPaK10

section
namespace Go.Abs
open Go.RowKit Go.Proofs
variable {P : Program} {GT : Tabs} {ro : Option Nat} {Q : Exit → S → Prop} {s : S}
def aCell (P : Program) (M : Mem) (t : TypeId) (a : AV) : Option AV :=
  match a with
  | .ptr b off ver => aLoad P M t (.ptr b off ver)
  | _ => none
theorem aCell_ok {B : Nat} {I0 : Nat → Prop} {c : Ctx} {M : Mem} {w : World} {t : TypeId} {a x : AV} {v : Value} (hS : Sim B I0 c M w) (ha : ARep c M w v a) (h : aCell P M t a = some x) :
    ∃ u, (do loadVar t (← asAddr v) : Sem Value).run P w = .ok u w ∧ ARep c M w u x := by
  unfold aCell at h
  split at h
  · rename_i b off ver
    have h0 := h
    unfold aLoad at h0
    split at h0
    · rename_i ag n b' off' ver' hag hn heq
      cases heq
      split at h0
      · rename_i l sz ver' z hM
        split at h0
        · rename_i hvv
          subst hvv
          cases ha with
          | ptr v b off ver hb hv hp =>
            have hp' := hp (verOf_some hM)
            subst hp'
            obtain ⟨cs, e, g1, g2, g3, g4⟩ := hS.row hM
            split at h0
            · rename_i hag'
              subst hag'
              split at h0
              · rename_i hle
                cases h0
                have hlen : ((cs.toList.drop off).take n).length = n := by simp; omega
                have hrun : (loadCells ⟨c.blk b, off, none⟩ n).run P w = .ok ((cs.toList.drop off).take n).toArray w := by
                  have := run_loadCells_list (P := P) w ⟨c.blk b, off, none⟩ ((cs.toList.drop off).take n) (fun j v hj => by
                    rw [addr_add _ _ rfl]
                    simp only [World.cell?, g1, Option.isSome_none, Bool.false_eq_true, if_false]
                    rw [List.getElem?_take] at hj
                    split at hj
                    · rw [List.getElem?_drop] at hj; simpa using hj
                    · cases hj)
                  rwa [hlen] at this
                refine ⟨.agg ((cs.toList.drop off).take n).toArray, ?_, ?_⟩
                · simp [asAddr, loadVar, run_isAgg hag, run_sizeOf hn, hrun]
                · refine .agg _ _ (by simp; omega) fun j v x h1 h2 => ?_
                  simp only [List.getElem?_toArray, List.getElem?_take, List.getElem?_drop] at h1 h2
                  split at h1
                  · rename_i hj
                    rw [if_pos hj] at h2
                    obtain ⟨v', k1, k2⟩ := g4 _ _ h2
                    have : v' = v := by
                      rw [Array.getElem?_toList] at h1; rw [h1] at k1; cases k1; rfl
                    exact this ▸ k2
                  · cases h1
              · cases h0
            · rename_i hag'
              have hag'' : ag = false := by simpa using hag'
              subst hag''
              obtain ⟨v', k1, k2⟩ := g4 _ _ h0
              refine ⟨v', ?_, k2⟩
              simp [asAddr, loadVar, run_isAgg hag, World.cell?, g1, k1]
        · cases h0
      · cases h0
    · rename_i hno; cases hno
    · cases h0
  · cases h
def resVar (P : Program) (T : List AV) (M : Mem) : ResultVar → Option AV
  | .tmp t => some (T.getD t .junk)
  | .cell a t => aCell P M t (T.getD a .junk)
def tupOf : List AV → AV
  | [x] => x
  | l => .tup l
def resOf (P : Program) (fn : Func) (T : List AV) (M : Mem) : Option AV := (fn.results.toList.mapM (resVar P T M)).map tupOf
theorem TRep.getD {c : Ctx} {M : Mem} {w : World} {tmps : Array Value} {T : List AV} (h : TRep c M w tmps T) (t : Nat) : ARep c M w (tmps.getD t undef) (T.getD t .junk) := by
  rw [List.getD_eq_getElem?_getD]
  cases hT : T[t]? with
  | none => exact .junk _
  | some x => exact h.2 t x hT
theorem mapM_run {α : Type} {B : Nat} {I0 : Nat → Prop} {c : Ctx} {M : Mem} {w : World} (f : α → Sem Value) (g : α → Option AV) (hS : Sim B I0 c M w) (hf : ∀ a x, g a = some x → ∃ v, (f a).run P w = .ok v w ∧ ARep c M w v x) :
    ∀ (l : List α) (xs : List AV), l.mapM g = some xs → ∃ vs : List Value, (l.mapM f).run P w = .ok vs w ∧ ArgsRep c M w vs.toArray xs
  | [], xs, h => by simp at h; subst h; exact ⟨[], by simp, by simp [ArgsRep]⟩
  | a :: l, xs, h => by
    rw [List.mapM_cons] at h
    have h : ((g a).bind fun b => (l.mapM g).bind fun r' => some (b :: r')) = some xs := h
    rw [Option.bind_eq_some_iff] at h
    obtain ⟨x, hx, h⟩ := h
    rw [Option.bind_eq_some_iff] at h
    obtain ⟨r, hr, h⟩ := h
    cases h
    obtain ⟨v, h1, h2⟩ := hf a x hx
    obtain ⟨vs, h3, h4⟩ := mapM_run f g hS hf l r hr
    refine ⟨v :: vs, by simp [List.mapM_cons, h1, h3], ?_⟩
    have : ArgsRep c M w #[v] [x] := by
      refine ⟨rfl, fun i u y q1 q2 => ?_⟩
      match i with
      | 0 => simp at q1 q2; subst q1; subst q2; exact h2
      | i + 1 => simp at q1
    have := this.append h4
    simpa using this
theorem resOf_ok {B : Nat} {I0 : Nat → Prop} {c : Ctx} {M : Mem} {w : World} {fn : Func} {tmps : Array Value} {T : List AV} {x : AV} (hS : Sim B I0 c M w) (hT : TRep c M w tmps T) (h : resOf P fn T M = some x) :
    ∃ v, (results fn tmps).run P w = .ok v w ∧ ARep c M w v x := by
  unfold resOf at h
  rw [Option.map_eq_some_iff] at h
  obtain ⟨xs, hxs, rfl⟩ := h
  obtain ⟨vs, h1, h2⟩ := mapM_run (P := P) (fun r : ResultVar => match r with | .tmp t => (pure (tmps.getD t undef) : Sem Value) | .cell a t => do loadVar t (← asAddr (tmps.getD a undef))) (resVar P T M) hS (by
    intro r x hx
    cases r with
    | tmp t => simp [resVar] at hx; subst hx; exact ⟨_, rfl, by have := hT.getD t; rwa [List.getD_eq_getElem?_getD] at this⟩
    | cell a t => exact aCell_ok hS (hT.getD a) hx) fn.results.toList xs hxs
  have hm : (fn.results.mapM (fun r : ResultVar => match r with | .tmp t => (pure (tmps.getD t undef) : Sem Value) | .cell a t => do loadVar t (← asAddr (tmps.getD a undef)))).run P w = .ok vs.toArray w := by
    have e := Array.toArray_toList (xs := fn.results)
    rw [← e, List.mapM_toArray]
    simp only [Sem.run_map]
    rw [h1]; rfl
  have hres : ∀ (u : Value), (if h : vs.toArray.size = 1 then vs.toArray[0] else Value.tuple vs.toArray) = u → (results fn tmps).run P w = .ok u w := by
    intro u hu
    unfold results
    rw [Sem.run_bind]
    refine Eq.trans (congrArg (fun r => Result.andThen r _) hm) ?_
    simp only [Result.andThen_ok, Sem.run_pure, hu]
  match xs, vs, h2, hres with
  | [x], [v], h2, hres => exact ⟨v, hres v rfl, h2.2 0 v x rfl rfl⟩
  | [], [], h2, hres => exact ⟨.tuple #[], hres _ rfl, .tup _ _ rfl (by simp)⟩
  | x :: y :: xs, v :: u :: vs, h2, hres =>
    refine ⟨.tuple (v :: u :: vs).toArray, hres _ ?_, .tup _ _ h2.1 h2.2⟩
    have : ¬ ((v :: u :: vs).toArray.size = 1) := by simp
    rw [dif_neg this]
  | [], _ :: _, h2, _ => exact absurd h2.1 (by simp)
  | _ :: _, [], h2, _ => exact absurd h2.1 (by simp)
  | [_], _ :: _ :: _, h2, _ => exact absurd h2.1 (by simp)
  | _ :: _ :: _, [_], h2, _ => exact absurd h2.1 (by simp)
def shut (M : Mem) (D : List Nat) : Mem := D.foldl (fun M d => M.set d (.defers true)) M
theorem Ext0.shut {c : Ctx} {M : Mem} {d : Nat} (h : M[d]? = some (.defers false)) : Ext0 c M c (M.set d (.defers true)) := by
  have hlt := (List.getElem?_eq_some_iff.1 h).1
  refine ⟨by simp, fun i hi => ?_, fun i hi he => ⟨rfl, rfl, ?_⟩, fun i hi => obj_set h rfl hi⟩
  · by_cases e : d = i
    · subst e; rw [verOf_some h, verOf_some (List.getElem?_set_self hlt)]; exact Nat.le_refl _
    · simp [verOf, List.getElem?_set_ne e]
  · by_cases e : d = i
    · subst e; rw [h, List.getElem?_set_self hlt]; rfl
    · rw [List.getElem?_set_ne e]
theorem Ext.beyond {c0 c : Ctx} {M0 M M' : Mem} (h : Ext c0 M0 c M) (hl : M.length ≤ M'.length) (hs : ∀ i, i < M0.length → M'[i]? = M[i]?) : Ext c0 M0 c M' := by
  refine ⟨⟨Nat.le_trans h.len hl, fun i hi => ?_, fun i hi he => ?_, fun i hi => ?_⟩, fun i t hi => ?_⟩
  · have := h.ver i hi; simpa [verOf, hs i hi] using this
  · have := h.same i hi (by simpa [verOf, hs i hi] using he)
    exact ⟨this.1, this.2.1, by rw [hs i hi]; exact this.2.2⟩
  · obtain ⟨o, q1, q2⟩ := h.obj i hi
    exact ⟨o, by rw [hs i hi.lt]; exact q1, q2⟩
  · rw [hs i (List.getElem?_eq_some_iff.1 hi).1]; exact h.keep i t hi
theorem leaves {B : Nat} {I0 : Nat → Prop} {fn : Func} {tmps : Array Value} {R : Ending → World → Prop} {n : Nat} {c0 c : Ctx} {M0 : Mem} {w0 : World} {T : List AV} : ∀ (D : List Nat) (M : Mem) (w : World), Sim B I0 c M w → TRep c M w tmps T → D.Nodup → (∀ d, d ∈ D → M[d]? = some (.defers false) ∧ M0.length ≤ d) →
    Ext c0 M0 c M → Stp B c0 w0 c w →
    (∀ w', Sim B I0 c (shut M D) w' → TRep c (shut M D) w' tmps T → Ext c0 M0 c (shut M D) → Stp B c0 w0 c w' → ∃ v, (results fn tmps).run P w' = .ok v w' ∧ R (.returned v) w') →
    LeavesInM Fence.wide n P fn tmps R (D.map (mark c)) .returning w
  | [], M, w, hS, hT, _, _, hE, hs, h => by
    obtain ⟨v, h1, h2⟩ := h w hS hT hE hs
    exact ⟨v, h1, h2⟩
  | d :: D, M, w, hS, hT, hN, hD, hE, hs, h => by
    obtain ⟨hMd, hge⟩ := hD d (by simp)
    have hO : w.heap[c.blk d]? = some (.deferred (some [])) := hS.obj d _ hMd
    have hni : ¬ c.imm (c.blk d) := hS.sep d _ hMd rfl rfl
    have hs1 : Stp B c w c (w.putObj (c.blk d) (.deferred none)) := Stp.of_block hni (hS.blkB d ⟨_, hMd, rfl⟩) rfl rfl rfl (by simp) fun k hk => World.putObj_heap_other hk
    have hlt := (List.getElem?_eq_some_iff.1 hMd).1
    have he0 : Ext0 c M c (M.set d (.defers true)) := Ext0.shut hMd
    have gs : ∀ i, i ≠ d → (M.set d (.defers true))[i]? = M[i]? := fun i hi => List.getElem?_set_ne (Ne.symm hi)
    have hS1 : Sim B I0 c (M.set d (.defers true)) (w.putObj (c.blk d) (.deferred none)) := by
      have rs : ∀ i, real (M.set d (.defers true)) i → real M i := fun i hi => real_set hMd rfl hi
      refine ⟨fun i hi => hS.blkB i (rs i hi), fun i j hi hj => hS.inj i j (rs i hi) (rs j hj), hS.imm0, hS.immB, fun k hk => by have := hS.immlt k hk; simpa using this, ?_, ?_, by have := hS.hB; simpa using this⟩
      · intro i p hp hz hv
        by_cases e : i = d
        · subst e; exact hni
        · rw [gs i e] at hp; exact hS.sep i p hp hz hv
      · intro i p hp
        by_cases e : i = d
        · subst e
          rw [List.getElem?_set_self hlt] at hp; cases hp
          exact World.putObj_heap_same (Array.getElem?_eq_some_iff.1 hO).1
        · rw [gs i e] at hp
          exact (hS.obj i p hp).mono he0 hs1 rfl rfl fun hv => World.putObj_heap_other fun q => e (hS.inj i d ⟨p, hp, hv⟩ ⟨_, hMd, rfl⟩ q)
    have hT1 : TRep c (M.set d (.defers true)) (w.putObj (c.blk d) (.deferred none)) tmps T := ⟨hT.1, fun i x hx => (hT.2 i x hx).mono he0 hs1⟩
    have hN' := List.nodup_cons.1 hN
    refine ⟨by simp, .inl ⟨c.blk d, _, rfl, run_takeDeferred hO, ?_⟩⟩
    refine leaves D _ _ hS1 hT1 hN'.2 (fun d' hd' => ?_) (hE.beyond (by simp) fun i hi => gs i (by omega)) (hs.trans hs1) h
    have hne : d' ≠ d := fun e => hN'.1 (e ▸ hd')
    obtain ⟨q1, q2⟩ := hD d' (by simp [hd'])
    exact ⟨by rw [gs d' hne]; exact q1, q2⟩
theorem ACall_of_body {f : FuncId} {fn : Func} {code : Code} {args : List AV} {M : Mem} {R : AV → Mem → Prop} (hf : P.funcs[f]? = some fn) (hb : fn.body = some code)
    (h : AW P GT none code ⟨args ++ List.replicate (fn.ntmps - args.length) .junk, M, []⟩ fun e s' => (e = .normal ∨ e = .ret) ∧ (∀ d, d ∈ s'.D → M.length ≤ d) ∧ ∃ r, resOf P fn s'.T (shut s'.M s'.D) = some r ∧ R r (shut s'.M s'.D)) :
    ACall P GT f args M R := by
  intro B I0 c w vs n hS hG hA
  refine callsIn_of_wp_marks hf hb trivial ?_
  have hT : TRep c M w (vs ++ Array.replicate (fn.ntmps - vs.size) undef) (args ++ List.replicate (fn.ntmps - args.length) .junk) := by
    refine ⟨by simp [hA.1], fun i x hx => ?_⟩
    by_cases hi : i < args.length
    · rw [List.getElem?_append_left hi] at hx
      have hv : i < vs.size := by rw [hA.1]; exact hi
      have e : (vs ++ Array.replicate (fn.ntmps - vs.size) undef).getD i undef = vs[i] := by
        rw [Array.getD_eq_getD_getElem?, Array.getElem?_append_left hv]; simp [hv]
      rw [e]; exact hA.2 i _ x (Array.getElem?_eq_getElem hv) hx
    · rw [List.getElem?_append_right (by omega), List.getElem?_replicate] at hx
      split at hx
      · cases hx; exact .junk _
      · cases hx
  have := h B I0 c { tmps := vs ++ Array.replicate (fn.ntmps - vs.size) undef, defers := [] } w n ⟨hS, hG, hT, rfl, List.nodup_nil, by simp⟩ (by simp)
  refine wpIn_mono this ?_
  rintro e a' w' ⟨s', c', ⟨he, hD, r, hr, hRr⟩, hR, hE, hs⟩
  have key : LeavesInM Fence.wide n P fn a'.tmps (fun e w' => ∃ v r M' c', e = .returned v ∧ R r M' ∧ ARep c' M' w' v r ∧ Sim B I0 c' M' w' ∧ Ext c M c' M' ∧ Stp B c w c' w') a'.defers .returning w' := by
    obtain ⟨d1, d2, d3⟩ := hR.dfs
    rw [d1]
    refine leaves s'.D s'.M w' hR.sim hR.tmps d2 (fun d hd => ⟨d3 d hd, hD d hd⟩) hE hs ?_
    intro w'' hS'' hT'' hE'' hs''
    obtain ⟨v, h1, h2⟩ := resOf_ok (P := P) hS'' hT'' hr
    exact ⟨v, h1, v, r, _, c', rfl, hRr, h2, hS'', hE'', hs''⟩
  rcases he with rfl | rfl
  · exact key
  · exact key
end Go.Abs
namespace Go.Abs
set_option linter.unusedVariables false
set_option linter.unusedSimpArgs false
open Go.RowKit Go.Proofs
variable {P : Program} {GT : Tabs} {ro : Option Nat} {Q : Exit → S → Prop} {s : S}
theorem rowRep {I : Nat → Prop} {w : World} {k n cap sz : Nat} {ag : Bool} {f : Nat → Value} {ds : List PD} (hI : 0 < n → I k) (hcap : n ≤ cap) (hlen : ds.length = n * sz) (hsz : 0 < sz) (hag : ag = true ∨ sz = 1)
    (hc : ∀ j, j < n * sz → w.cell? ⟨k, j, none⟩ = some (f j)) (hd : ∀ (j : Nat) (d : PD), ds[j]? = some d → PRep I w (f j) d ∧ d.leaves = [d]) : PRep I w (.slice (some ⟨k, 0, none⟩) n cap) (.sl (group ag sz n ds)) := by
  have hgl : (group ag sz n ds).length = n := by simp [group]
  have elemAt : ∀ i x, (group ag sz n ds)[i]? = some x → i < n ∧ x.leaves.length = sz ∧ ∀ j y, x.leaves[j]? = some y → j < sz ∧ ds[i * sz + j]? = some y := by
    intro i x hx
    simp only [group, List.getElem?_map, Option.map_eq_some_iff] at hx
    obtain ⟨i', hi, rfl⟩ := hx
    have hlt := (List.getElem?_eq_some_iff.1 hi).1
    obtain rfl : i' = i := by have := (List.getElem?_eq_some_iff.1 hi).2; simpa using this.symm
    simp at hlt
    have hmul : (i' + 1) * sz ≤ n * sz := Nat.mul_le_mul_right _ hlt
    rw [Nat.add_mul, Nat.one_mul] at hmul
    refine ⟨hlt, ?_⟩
    cases ag with
    | true =>
      simp only [if_true, PD.leaves]
      refine ⟨by simp; omega, fun j y hy => ?_⟩
      rw [List.getElem?_take] at hy
      split at hy
      · rw [List.getElem?_drop] at hy; exact ⟨by assumption, hy⟩
      · cases hy
    | false =>
      have hs1 : sz = 1 := by simpa using hag
      subst hs1
      have hlt' : i' < ds.length := by omega
      have e1 : ds.getD i' default = ds[i'] := by simp [List.getD_eq_getElem?_getD, hlt']
      have d3 := (hd i' ds[i'] (List.getElem?_eq_getElem hlt')).2
      simp only [Bool.false_eq_true, if_false, e1, d3]
      refine ⟨rfl, fun j y hy => ?_⟩
      cases j with
      | zero => simp at hy; subst hy; exact ⟨by omega, by simp [hlt']⟩
      | succ j => simp at hy
  refine .sl _ n cap sz _ (fun i j => f (i * sz + j)) (fun _ => rfl) hgl.symm hcap hI (fun i x hx => (elemAt i x hx).2.1) (fun i j hi hj => ?_) fun i j x y hx hy => ?_
  · have hmul : (i + 1) * sz ≤ n * sz := Nat.mul_le_mul_right _ hi
    rw [Nat.add_mul, Nat.one_mul] at hmul
    have := hc (i * sz + j) (by omega)
    simpa using this
  · obtain ⟨k1, k2, k3⟩ := elemAt i x hx
    obtain ⟨k4, k5⟩ := k3 j y hy
    exact (hd _ _ k5).1
def ownPD (M : Mem) (b len ver : Nat) : Option PD :=
  match M[b]? with
  | some (.cells l sz ver' _) => if ver' = ver ∧ 0 < sz then ((l.take (len * sz)).mapM AV.pdCell).map fun ds => .sl (group (sz != 1) sz len ds) else none
  | some (.vrow _ ver') => if ver' = ver then some (.sl []) else none
  | _ => none
theorem ownPD_ok {B : Nat} {I0 : Nat → Prop} {c : Ctx} {M : Mem} {w : World} {b len ver : Nat} {v : Value} {x : PD} {I : Nat → Prop} (hS : Sim B I0 c M w) (hv : ARep c M w v (.own b len ver)) (h : ownPD M b len ver = some x)
    (hI : ∀ k, c.imm k → I k) (hIb : real M b → I (c.blk b)) : PRep I w v x := by
  cases hv with
  | own v b len ver hb hver hp =>
    unfold ownPD at h
    split at h
    · rename_i l sz ver' z hM
      split at h
      · rename_i hcond
        obtain ⟨rfl, hsz⟩ := hcond
        rw [Option.map_eq_some_iff] at h
        obtain ⟨ds, hds, rfl⟩ := h
        rcases hp (verOf_some hM) with ⟨cap, l2, sz2, z2, hM2, rfl, h5, h6, h7⟩ | ⟨sz2, hM2, _⟩
        · rw [hM] at hM2; cases hM2
          obtain ⟨cs, e, g1, g2, g3, g4⟩ := hS.row hM
          obtain ⟨m1, m2⟩ := mapM_some hds
          have hlen : (l.take (len * sz)).length = len * sz := by simp; omega
          have hb' := hIb ⟨_, hM, rfl⟩
          refine rowRep (f := fun j => cs.getD j undef) (fun _ => hb') h5 (by omega) hsz ?_ (fun j hj => ?_) fun j d hd => ?_
          · by_cases e : sz = 1
            · exact .inr e
            · exact .inl (by simpa using e)
          · simp [World.cell?, g1, Array.getD, show j < cs.size by omega]
          · have hj : j < len * sz := by have := (List.getElem?_eq_some_iff.1 hd).1; omega
            obtain ⟨d', d1, d2⟩ := m2 j _ (List.getElem?_eq_getElem (by omega))
            rw [hd] at d1; cases d1
            have hx : l[j]? = some (l.take (len * sz))[j] := by
              rw [List.getElem_take]; exact List.getElem?_eq_getElem (by omega)
            obtain ⟨u, q1, q2⟩ := g4 j _ hx
            have := q2.pdCell d2
            refine ⟨?_, this.2⟩
            have e1 : cs.getD j undef = u := by
              have hjc := (Array.getElem?_eq_some_iff.1 q1)
              obtain ⟨hjc, e⟩ := hjc
              simp [Array.getD, hjc, e]
            rw [e1]; exact this.1.mono hI (Kept.refl _ _)
        · rw [hM] at hM2; cases hM2
      · cases h
    · rename_i sz ver' hM
      split at h
      · rename_i hvv
        subst hvv
        cases h
        rcases hp (verOf_some hM) with ⟨cap, l2, sz2, z2, hM2, _⟩ | ⟨sz2, hM2, rfl, rfl⟩
        · rw [hM] at hM2; cases hM2
        · exact .nil
      · cases h
    · cases h
def frz (M : Mem) (b : Nat) : Mem :=
  match M[b]? with
  | some (.cells l sz ver _) => M.set b (.cells l sz ver true)
  | _ => M
theorem Rel.freeze {B : Nat} {I0 : Nat → Prop} {c : Ctx} {a : Act} {w : World} {i b len ver : Nat} {x : PD} (h : Rel GT B I0 c s a w) (hT : s.T[i]? = some (.own b len ver)) (hx : ownPD s.M b len ver = some x) :
    ∃ c', Rel GT B I0 c' ⟨s.T.set i (.pd x), frz s.M b, s.D⟩ a w ∧ Ext c s.M c' (frz s.M b) ∧ Stp B c w c' w := by
  have hv := h.tmps.2 i _ hT
  have main : ∀ (c' : Ctx) (M' : Mem), Sim B I0 c' M' w → Ext c s.M c' M' → Stp B c w c' w → (PRep c'.imm w (a.tmps.getD i undef) x) → Rel GT B I0 c' ⟨s.T.set i (.pd x), M', s.D⟩ a w := by
    intro c' M' hS hE hs hp
    refine ⟨hS, h.glob.mono hs, ⟨by simpa using h.tmps.1, fun j y hy => ?_⟩, h.dfs.mono hE⟩
    by_cases e : i = j
    · subst e
      rw [List.getElem?_set_self (List.getElem?_eq_some_iff.1 hT).1] at hy; cases hy
      exact .pd _ _ hp
    · rw [List.getElem?_set_ne e] at hy
      exact (h.tmps.2 j y hy).mono hE hs
  unfold frz
  split
  · rename_i l sz ver' z hM
    obtain ⟨q1, q2, q3⟩ := h.sim.freeze hM
    refine ⟨c.freeze b, main _ _ q1 q2 q3 ?_, q2, q3⟩
    exact ownPD_ok h.sim hv hx (fun _ h => .inl h) fun _ => .inr rfl
  · rename_i hno
    refine ⟨c, main c s.M h.sim (Ext.refl _ _) (Stp.refl _ _ _) ?_, Ext.refl _ _, Stp.refl _ _ _⟩
    refine ownPD_ok h.sim hv hx (fun _ h => h) fun hr => ?_
    unfold ownPD at hx
    split at hx
    · rename_i l sz ver' z hM; exact absurd hM (hno _ _ _ _)
    · rename_i sz ver' hM
      obtain ⟨o, ho, hov⟩ := hr
      rw [hM] at ho; cases ho; cases hov
    · cases hx
theorem AL_freeze {ops : Array Oper} {rest : List Oper} {T : List AV} {M : Mem} {D : List Nat} (i : Nat) {b len ver : Nat} {x : PD} (hT : T[i]? = some (.own b len ver)) (hx : ownPD M b len ver = some x)
    (h : AL P GT ro ops rest ⟨T.set i (.pd x), frz M b, D⟩ Q) : AL P GT ro ops rest ⟨T, M, D⟩ Q := by
  intro B I0 c a w n hR ho
  obtain ⟨c', r, he, hs⟩ := hR.freeze hT hx
  have := h B I0 c' a w n r (fun l hl => he.obj l (ho l hl))
  rw [fen_ext he ho] at this
  exact wpListIn_mono2 (fun e a u h => Aft.from he hs h) _ _ _ this
theorem AW_freeze {code : Code} {T : List AV} {M : Mem} {D : List Nat} (i : Nat) {b len ver : Nat} {x : PD} (hT : T[i]? = some (.own b len ver)) (hx : ownPD M b len ver = some x)
    (h : AW P GT ro code ⟨T.set i (.pd x), frz M b, D⟩ Q) : AW P GT ro code ⟨T, M, D⟩ Q := by
  intro B I0 c a w n hR ho
  obtain ⟨c', r, he, hs⟩ := hR.freeze hT hx
  have := h B I0 c' a w n r (fun l hl => he.obj l (ho l hl))
  rw [fen_ext he ho] at this
  exact wpIn_mono this fun e a u h => Aft.from he hs h
def pure1 (M : Mem) : AV → Option AV
  | .pd x => some (.pd x)
  | .fixed l => some (.pd (.sl l))
  | .nilp => some .nilp
  | .nilf => some .nilf
  | .own b len ver => (ownPD M b len ver).map .pd
  | .fn f [] [] => some (.fn f [] [])
  | _ => none
def pure2 (M : Mem) : AV → Option AV
  | .agg l => (l.mapM (pure1 M)).map .agg
  | x => pure1 M x
def pure3 (M : Mem) : AV → Option AV
  | .tup l => (l.mapM (pure2 M)).map .tup
  | x => pure2 M x
def Ctx.still (c : Ctx) (M : Mem) : Ctx := { c with imm := fun k => c.imm k ∨ ∃ i, real M i ∧ k = c.blk i }
theorem pure1_ok {B : Nat} {I0 : Nat → Prop} {c : Ctx} {M : Mem} {w : World} {v : Value} {x y : AV} (hS : Sim B I0 c M w) (hv : ARep c M w v x) (h : pure1 M x = some y) : ARep (c.still M) [] w v y ∧ y.pure = true := by
  have up : ∀ {u : Value} {p : PD}, PRep c.imm w u p → PRep (c.still M).imm w u p := fun h => h.mono (fun _ h => .inl h) (Kept.refl _ _)
  cases hv with
  | pd v p hp => simp [pure1] at h; subst h; exact ⟨.pd _ _ (up hp), by simp [AV.pure]⟩
  | fixed a n l hn hp => simp [pure1] at h; subst h; exact ⟨.pd _ _ (up hp), by simp [AV.pure]⟩
  | nilp => simp [pure1] at h; subst h; exact ⟨.nilp, by simp [AV.pure]⟩
  | nilf => simp [pure1] at h; subst h; exact ⟨.nilf, by simp [AV.pure]⟩
  | own v b len ver hb hver hp =>
    simp only [pure1, Option.map_eq_some_iff] at h
    obtain ⟨p, hpd, rfl⟩ := h
    exact ⟨.pd _ _ (ownPD_ok hS (.own v b len ver hb hver hp) hpd (fun _ h => .inl h) fun hr => .inr ⟨b, hr, rfl⟩), by simp [AV.pure]⟩
  | fn f v1 v2 l1 l2 h1 h2 r1 r2 =>
    cases l1 with
    | nil =>
      cases l2 with
      | nil => simp [pure1] at h; subst h; exact ⟨.fn _ _ _ _ _ h1 h2 (by simp) (by simp), by simp [AV.pure]⟩
      | cons _ _ => simp [pure1] at h
    | cons _ _ => simp [pure1] at h
  | _ => simp [pure1] at h
theorem pureL_ok {c : Ctx} {M : Mem} {w : World} {g : AV → Option AV} (hg : ∀ v x y, ARep c M w v x → g x = some y → ARep (c.still M) [] w v y ∧ y.pure = true) {vs : Array Value} {l l' : List AV} (hs : vs.size = l.length)
    (hr : ∀ (i : Nat) (v : Value) (x : AV), vs[i]? = some v → l[i]? = some x → ARep c M w v x) (h : l.mapM g = some l') : vs.size = l'.length ∧ (∀ (i : Nat) (v : Value) (x : AV), vs[i]? = some v → l'[i]? = some x → ARep (c.still M) [] w v x) ∧ ∀ x, x ∈ l' → x.pure = true := by
  obtain ⟨m1, m2⟩ := mapM_some h
  have at' : ∀ (i : Nat) (x : AV), l'[i]? = some x → ∃ v y, vs[i]? = some v ∧ l[i]? = some y ∧ g y = some x := by
    intro i x hx
    have hlt := (List.getElem?_eq_some_iff.1 hx).1
    obtain ⟨b, b1, b2⟩ := m2 i l[i] (List.getElem?_eq_getElem (by omega))
    rw [hx] at b1; cases b1
    exact ⟨vs[i]'(by omega), _, Array.getElem?_eq_getElem (by omega), List.getElem?_eq_getElem (by omega), b2⟩
  refine ⟨by omega, fun i v x h1 h2 => ?_, fun x hx => ?_⟩
  · obtain ⟨v', y, q1, q2, q3⟩ := at' i x h2
    rw [h1] at q1; cases q1
    exact (hg _ _ _ (hr i v y h1 q2) q3).1
  · obtain ⟨i, hi⟩ := List.mem_iff_getElem?.1 hx
    obtain ⟨v', y, q1, q2, q3⟩ := at' i x hi
    exact (hg _ _ _ (hr i v' y q1 q2) q3).2
theorem pure2_ok {B : Nat} {I0 : Nat → Prop} {c : Ctx} {M : Mem} {w : World} {v : Value} {x y : AV} (hS : Sim B I0 c M w) (hv : ARep c M w v x) (h : pure2 M x = some y) : ARep (c.still M) [] w v y ∧ y.pure = true := by
  cases x with
  | agg l =>
    simp only [pure2, Option.map_eq_some_iff] at h
    obtain ⟨l', hl, rfl⟩ := h
    cases hv with
    | agg vs l hs hr =>
      obtain ⟨q1, q2, q3⟩ := pureL_ok (fun v x y a b => pure1_ok hS a b) hs hr hl
      exact ⟨.agg _ _ q1 q2, by simp only [AV.pure, List.all_eq_true]; exact fun x _ => q3 _ x.2⟩
  | _ => exact pure1_ok hS hv h
theorem pure3_ok {B : Nat} {I0 : Nat → Prop} {c : Ctx} {M : Mem} {w : World} {v : Value} {x y : AV} (hS : Sim B I0 c M w) (hv : ARep c M w v x) (h : pure3 M x = some y) : ARep (c.still M) [] w v y ∧ y.pure = true := by
  cases x with
  | tup l =>
    simp only [pure3, Option.map_eq_some_iff] at h
    obtain ⟨l', hl, rfl⟩ := h
    cases hv with
    | tup vs l hs hr =>
      obtain ⟨q1, q2, q3⟩ := pureL_ok (fun v x y a b => pure2_ok hS a b) hs hr hl
      exact ⟨.tup _ _ q1 q2, by simp only [AV.pure, List.all_eq_true]; exact fun x _ => q3 _ x.2⟩
  | _ => exact pure2_ok hS hv h
def ASpec (P : Program) (GT : Tabs) (f : FuncId) (args : List AV) (R : AV → Prop) : Prop := ACall P GT f args [] fun r M' => M' = [] ∧ r.pure = true ∧ R r
theorem Ext.nil (c c' : Ctx) : Ext c [] c' [] := ⟨⟨Nat.le_refl _, fun _ h => absurd h (by simp), fun _ h => absurd h (by simp), fun _ h => h⟩, fun _ _ h => h⟩
theorem ASpec.of {f : FuncId} {args : List AV} {R : AV → Prop} (h : ACall P GT f args [] fun r M' => ∃ r', pure3 M' r = some r' ∧ R r') : ASpec P GT f args R := by
  intro B I0 c w vs n hS hG hA
  refine (h B I0 c w vs n hS hG hA).mono ?_
  rintro e w' ⟨v, r, M', c', rfl, ⟨r', h1, h2⟩, h3, h4, h5, h6⟩
  obtain ⟨q1, q2⟩ := pure3_ok h4 h3 h1
  refine ⟨v, r', [], c'.still M', rfl, ⟨rfl, q2, h2⟩, q1, ?_, Ext.nil _ _, h6.trans ⟨Below.refl _ _, fun _ h => .inl h, Kept.refl _ _⟩⟩
  refine ⟨fun i hi => absurd hi.lt (by simp), fun i j hi => absurd hi.lt (by simp), fun b hb => .inl (h4.imm0 b hb), ?_, ?_, by simp, by simp, h4.hB⟩
  · rintro b (hb | ⟨i, hi, rfl⟩) hlt
    · exact h4.immB b hb hlt
    · have := h4.blkB i hi; omega
  · rintro b (hb | ⟨i, hi, rfl⟩)
    · exact h4.immlt b hb
    · exact h4.lt hi
theorem ASpec.mono {f : FuncId} {args : List AV} {R R' : AV → Prop} (h : ASpec P GT f args R) (hr : ∀ r, R r → R' r) : ASpec P GT f args R' := ACall.mono h fun r M' ⟨a, b, q⟩ => ⟨a, b, hr r q⟩
theorem Sim.empty {B : Nat} {I0 : Nat → Prop} {c : Ctx} {M : Mem} {w : World} (h : Sim B I0 c M w) : Sim w.heap.size c.imm c [] w :=
  ⟨fun i hi => absurd hi.lt (by simp), fun i j hi => absurd hi.lt (by simp), fun _ h => h, fun _ h _ => h, h.immlt, by simp, by simp, Nat.le_refl _⟩
theorem ASpec.call {f : FuncId} {args : List AV} {R : AV → Prop} (h : ASpec P GT f args R) (hp : ∀ x, x ∈ args → x.pure = true) (M : Mem) : ACall P GT f args M fun r M' => M' = M ∧ r.pure = true ∧ R r := by
  intro B I0 c w vs n hS hG hA
  have hA' : ArgsRep c [] w vs args := ⟨hA.1, fun i v x h1 h2 => (hA.2 i v x h1 h2).pure (hp x (List.mem_of_getElem? h2)) (fun _ h => h) (Kept.refl _ _)⟩
  refine (h w.heap.size c.imm c w vs n hS.empty hG hA').mono ?_
  rintro e w' ⟨v, r, M', c', rfl, ⟨rfl, h1, h2⟩, h3, h4, h5, h6⟩
  have hS' := hS.grown h6.below
  refine ⟨v, r, M, c.grown w w', rfl, ⟨rfl, h1, h2⟩, h3.pure h1 (fun b hb => ?_) (Kept.refl _ _), hS', Ext.grown _ _ _, Stp.grown hS.hB hS.immlt h6.below⟩
  by_cases hlt : b < w.heap.size
  · exact .inl (h4.immB b hb hlt)
  · exact .inr ⟨by omega, h4.immlt b hb⟩
theorem ASpec_of_body {f : FuncId} {fn : Func} {code : Code} {args : List AV} {R : AV → Prop} (hf : P.funcs[f]? = some fn) (hb : fn.body = some code)
    (h : AW P GT none code ⟨args ++ List.replicate (fn.ntmps - args.length) .junk, [], []⟩ fun e s' => (e = .normal ∨ e = .ret) ∧ ∃ r r', resOf P fn s'.T (shut s'.M s'.D) = some r ∧ pure3 (shut s'.M s'.D) r = some r' ∧ R r') : ASpec P GT f args R :=
  .of (ACall_of_body hf hb (h.mono fun _ _ ⟨a, r, r', b, d, e⟩ => ⟨a, fun _ _ => Nat.zero_le _, r, b, r', d, e⟩))
end Go.Abs
end
