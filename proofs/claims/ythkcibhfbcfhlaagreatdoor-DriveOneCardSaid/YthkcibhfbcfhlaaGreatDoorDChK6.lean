/- Part of a proof, in few files: Abs14 Abs16. -/
import Derived.Test.YthkcibhfbcfhlaaGreatDoorDChK5

set_option linter.unusedVariables false
set_option linter.unusedSimpArgs false
set_option linter.unnecessarySimpa false
section
namespace Go.Abs
open Go.RowKit Go.Proofs
variable {P : Program} {GT : Tabs} {ro : Option Nat} {Q : Exit → S → Prop} {s : S}
def aCell (P : Program) (M : Mem) (t : TypeId) (a : AV) : Option AV :=
 match a with
 | .ptr b off ver => aLoad P M t (.ptr b off ver)
 | _ => none
theorem aCell_ok {B : Nat} {I0 : Nat → Prop} {c : Ctx} {M : Mem} {w : World} {t : TypeId} {a x : AV} {v : Value} (hS : Sim B I0 c M w) (ha : ARep c M w v a) (h : aCell P M t a = some x) :
  ∃ u, (do loadVar t (← asAddr v) : Sem Value).run P w = .ok u w ∧ ARep c M w u x := by
 unfold aCell at h
 split at h
 ·rename_i b off ver
  have h0 := h
  unfold aLoad at h0
  split at h0
  ·rename_i ag n b' off' ver' hag hn heq
   cases heq
   split at h0
   ·rename_i l sz ver' z hM
    split at h0
    ·rename_i hvv
     subst hvv
     cases ha with
     | ptr v b off ver hb hv hp =>
      have hp' := hp (verOf_some hM)
      subst hp'
      obtain ⟨cs, e, g1, g2, g3, g4⟩ := hS.row hM
      split at h0
      ·rename_i hag'
       subst hag'
       split at h0
       ·rename_i hle
        cases h0
        have hlen : ((cs.toList.drop off).take n).length = n := by simp; omega
        have hrun : (loadCells ⟨c.blk b, off, none⟩ n).run P w = .ok ((cs.toList.drop off).take n).toArray w := by
         have := run_loadCells_list (P := P) w ⟨c.blk b, off, none⟩ ((cs.toList.drop off).take n) (fun j v hj => by
          rw [addr_add _ _ rfl]
          simp only [World.cell?, g1, Option.isSome_none, Bool.false_eq_true, if_false]
          rw [List.getElem?_take] at hj
          split at hj
          ·rw [List.getElem?_drop] at hj; simpa using hj
          ·cases hj)
         rwa [hlen] at this
        refine ⟨.agg ((cs.toList.drop off).take n).toArray, ?_, ?_⟩
        ·simp [asAddr, loadVar, run_isAgg hag, run_sizeOf hn, hrun]
        ·refine .agg _ _ (by simp; omega) fun j v x h1 h2 => ?_
         simp only [List.getElem?_toArray, List.getElem?_take, List.getElem?_drop] at h1 h2
         split at h1
         ·rename_i hj
          rw [if_pos hj] at h2
          obtain ⟨v', k1, k2⟩ := g4 _ _ h2
          have : v' = v := by
           rw [Array.getElem?_toList] at h1; rw [h1] at k1; cases k1; rfl
          exact this ▸ k2
         ·cases h1
       ·cases h0
      ·rename_i hag'
       have hag'' : ag = false := by simpa using hag'
       subst hag''
       obtain ⟨v', k1, k2⟩ := g4 _ _ h0
       refine ⟨v', ?_, k2⟩
       simp [asAddr, loadVar, run_isAgg hag, World.cell?, g1, k1]
    ·cases h0
   ·cases h0
  ·rename_i hno; cases hno
  ·cases h0
 ·cases h
def resVar (P : Program) (T : List AV) (M : Mem) : ResultVar → Option AV
 | .tmp t => some (T.getD t .junk)
 | .cell a t => aCell P M t (T.getD a .junk)
def tupOf : List AV → AV
 | [x] => x
 | l => .tup l
def resOf (P : Program) (fn : Func) (T : List AV) (M : Mem) : Option AV := (fn.results.toList.mapM (resVar P T M)).map tupOf
theorem TRep.getD {c : Ctx} {M : Mem} {w : World} {tmps : Array Value} {T : List AV} (h : TRep c M w tmps T) (t : Nat) : ARep c M w (tmps.getD t undef) (T.getD t .junk) := by
 rw [List.getD_eq_getElem?_getD]
 cases hT : T[t]? with
 | none => exact .junk _
 | some x => exact h.2 t x hT
theorem mapM_run {α : Type} {B : Nat} {I0 : Nat → Prop} {c : Ctx} {M : Mem} {w : World} (f : α → Sem Value) (g : α → Option AV) (hS : Sim B I0 c M w) (hf : ∀ a x, g a = some x → ∃ v, (f a).run P w = .ok v w ∧ ARep c M w v x) :
  ∀ (l : List α) (xs : List AV), l.mapM g = some xs → ∃ vs : List Value, (l.mapM f).run P w = .ok vs w ∧ ArgsRep c M w vs.toArray xs
 | [], xs, h => by simp at h; subst h; exact ⟨[], by simp, by simp [ArgsRep]⟩
 | a :: l, xs, h => by
  rw [List.mapM_cons] at h
  have h : ((g a).bind fun b => (l.mapM g).bind fun r' => some (b :: r')) = some xs := h
  rw [Option.bind_eq_some_iff] at h
  obtain ⟨x, hx, h⟩ := h
  rw [Option.bind_eq_some_iff] at h
  obtain ⟨r, hr, h⟩ := h
  cases h
  obtain ⟨v, h1, h2⟩ := hf a x hx
  obtain ⟨vs, h3, h4⟩ := mapM_run f g hS hf l r hr
  refine ⟨v :: vs, by simp [List.mapM_cons, h1, h3], ?_⟩
  have : ArgsRep c M w #[v] [x] := by
   refine ⟨rfl, fun i u y q1 q2 => ?_⟩
   match i with
   | 0 => simp at q1 q2; subst q1; subst q2; exact h2
   | i + 1 => simp at q1
  have := this.append h4
  simpa using this
theorem resOf_ok {B : Nat} {I0 : Nat → Prop} {c : Ctx} {M : Mem} {w : World} {fn : Func} {tmps : Array Value} {T : List AV} {x : AV} (hS : Sim B I0 c M w) (hT : TRep c M w tmps T) (h : resOf P fn T M = some x) :
  ∃ v, (results fn tmps).run P w = .ok v w ∧ ARep c M w v x := by
 unfold resOf at h
 rw [Option.map_eq_some_iff] at h
 obtain ⟨xs, hxs, rfl⟩ := h
 obtain ⟨vs, h1, h2⟩ := mapM_run (P := P) (fun r : ResultVar => match r with | .tmp t => (pure (tmps.getD t undef) : Sem Value) | .cell a t => do loadVar t (← asAddr (tmps.getD a undef))) (resVar P T M) hS (by
  intro r x hx
  cases r with
  | tmp t => simp [resVar] at hx; subst hx; exact ⟨_, rfl, by have := hT.getD t; rwa [List.getD_eq_getElem?_getD] at this⟩
  | cell a t => exact aCell_ok hS (hT.getD a) hx) fn.results.toList xs hxs
 have hm : (fn.results.mapM (fun r : ResultVar => match r with | .tmp t => (pure (tmps.getD t undef) : Sem Value) | .cell a t => do loadVar t (← asAddr (tmps.getD a undef)))).run P w = .ok vs.toArray w := by
  have e := Array.toArray_toList (xs := fn.results)
  rw [← e, List.mapM_toArray]
  simp only [Sem.run_map]
  rw [h1]; rfl
 have hres : ∀ (u : Value), (if h : vs.toArray.size = 1 then vs.toArray[0] else Value.tuple vs.toArray) = u → (results fn tmps).run P w = .ok u w := by
  intro u hu
  unfold results
  rw [Sem.run_bind]
  refine Eq.trans (congrArg (fun r => Result.andThen r _) hm) ?_
  simp only [Result.andThen_ok, Sem.run_pure, hu]
 match xs, vs, h2, hres with
 | [x], [v], h2, hres => exact ⟨v, hres v rfl, h2.2 0 v x rfl rfl⟩
 | [], [], h2, hres => exact ⟨.tuple #[], hres _ rfl, .tup _ _ rfl (by simp)⟩
 | x :: y :: xs, v :: u :: vs, h2, hres =>
  refine ⟨.tuple (v :: u :: vs).toArray, hres _ ?_, .tup _ _ h2.1 h2.2⟩
  have : ¬ ((v :: u :: vs).toArray.size = 1) := by simp
  rw [dif_neg this]
 | [], _ :: _, h2, _ => exact absurd h2.1 (by simp)
 | _ :: _, [], h2, _ => exact absurd h2.1 (by simp)
 | [_], _ :: _ :: _, h2, _ => exact absurd h2.1 (by simp)
 | _ :: _ :: _, [_], h2, _ => exact absurd h2.1 (by simp)
def shut (M : Mem) (D : List Nat) : Mem := D.foldl (fun M d => M.set d (.defers true)) M
theorem Ext0.shut {c : Ctx} {M : Mem} {d : Nat} (h : M[d]? = some (.defers false)) : Ext0 c M c (M.set d (.defers true)) := by
 have hlt := (List.getElem?_eq_some_iff.1 h).1
 refine ⟨by simp, fun i hi => ?_, fun i hi he => ⟨rfl, rfl, ?_⟩, fun i hi => obj_set h rfl hi⟩
 ·by_cases e : d = i
  ·subst e; rw [verOf_some h, verOf_some (List.getElem?_set_self hlt)]; exact Nat.le_refl _
  ·simp [verOf, List.getElem?_set_ne e]
 ·by_cases e : d = i
  ·subst e; rw [h, List.getElem?_set_self hlt]; rfl
  ·rw [List.getElem?_set_ne e]
theorem Ext.beyond {c0 c : Ctx} {M0 M M' : Mem} (h : Ext c0 M0 c M) (hl : M.length ≤ M'.length) (hs : ∀ i, i < M0.length → M'[i]? = M[i]?) : Ext c0 M0 c M' := by
 refine ⟨⟨Nat.le_trans h.len hl, fun i hi => ?_, fun i hi he => ?_, fun i hi => ?_⟩, fun i t hi => ?_⟩
 ·have := h.ver i hi; simpa [verOf, hs i hi] using this
 ·have := h.same i hi (by simpa [verOf, hs i hi] using he)
  exact ⟨this.1, this.2.1, by rw [hs i hi]; exact this.2.2⟩
 ·obtain ⟨o, q1, q2⟩ := h.obj i hi
  exact ⟨o, by rw [hs i hi.lt]; exact q1, q2⟩
 ·rw [hs i (List.getElem?_eq_some_iff.1 hi).1]; exact h.keep i t hi
theorem leaves {B : Nat} {I0 : Nat → Prop} {fn : Func} {tmps : Array Value} {R : Ending → World → Prop} {n : Nat} {c0 c : Ctx} {M0 : Mem} {w0 : World} {T : List AV} : ∀ (D : List Nat) (M : Mem) (w : World), Sim B I0 c M w → TRep c M w tmps T → D.Nodup → (∀ d, d ∈ D → M[d]? = some (.defers false) ∧ M0.length ≤ d) →
  Ext c0 M0 c M → Stp B c0 w0 c w →
  (∀ w', Sim B I0 c (shut M D) w' → TRep c (shut M D) w' tmps T → Ext c0 M0 c (shut M D) → Stp B c0 w0 c w' → ∃ v, (results fn tmps).run P w' = .ok v w' ∧ R (.returned v) w') →
  LeavesInM Fence.wide n P fn tmps R (D.map (mark c)) .returning w
 | [], M, w, hS, hT, _, _, hE, hs, h => by
  obtain ⟨v, h1, h2⟩ := h w hS hT hE hs
  exact ⟨v, h1, h2⟩
 | d :: D, M, w, hS, hT, hN, hD, hE, hs, h => by
  obtain ⟨hMd, hge⟩ := hD d (by simp)
  have hO : w.heap[c.blk d]? = some (.deferred (some [])) := hS.obj d _ hMd
  have hni : ¬ c.imm (c.blk d) := hS.sep d _ hMd rfl rfl
  have hs1 : Stp B c w c (w.putObj (c.blk d) (.deferred none)) := Stp.of_block hni (hS.blkB d ⟨_, hMd, rfl⟩) rfl rfl rfl (by simp) fun k hk => World.putObj_heap_other hk
  have hlt := (List.getElem?_eq_some_iff.1 hMd).1
  have he0 : Ext0 c M c (M.set d (.defers true)) := Ext0.shut hMd
  have gs : ∀ i, i ≠ d → (M.set d (.defers true))[i]? = M[i]? := fun i hi => List.getElem?_set_ne (Ne.symm hi)
  have hS1 : Sim B I0 c (M.set d (.defers true)) (w.putObj (c.blk d) (.deferred none)) := by
   have rs : ∀ i, real (M.set d (.defers true)) i → real M i := fun i hi => real_set hMd rfl hi
   refine ⟨fun i hi => hS.blkB i (rs i hi), fun i j hi hj => hS.inj i j (rs i hi) (rs j hj), hS.imm0, hS.immB, fun k hk => by have := hS.immlt k hk; simpa using this, ?_, ?_, by have := hS.hB; simpa using this⟩
   ·intro i p hp hz hv
    by_cases e : i = d
    ·subst e; exact hni
    ·rw [gs i e] at hp; exact hS.sep i p hp hz hv
   ·intro i p hp
    by_cases e : i = d
    ·subst e
     rw [List.getElem?_set_self hlt] at hp; cases hp
     exact World.putObj_heap_same (Array.getElem?_eq_some_iff.1 hO).1
    ·rw [gs i e] at hp
     exact (hS.obj i p hp).mono he0 hs1 rfl rfl fun hv => World.putObj_heap_other fun q => e (hS.inj i d ⟨p, hp, hv⟩ ⟨_, hMd, rfl⟩ q)
  have hT1 : TRep c (M.set d (.defers true)) (w.putObj (c.blk d) (.deferred none)) tmps T := ⟨hT.1, fun i x hx => (hT.2 i x hx).mono he0 hs1⟩
  have hN' := List.nodup_cons.1 hN
  refine ⟨by simp, .inl ⟨c.blk d, _, rfl, run_takeDeferred hO, ?_⟩⟩
  refine leaves D _ _ hS1 hT1 hN'.2 (fun d' hd' => ?_) (hE.beyond (by simp) fun i hi => gs i (by omega)) (hs.trans hs1) h
  have hne : d' ≠ d := fun e => hN'.1 (e ▸ hd')
  obtain ⟨q1, q2⟩ := hD d' (by simp [hd'])
  exact ⟨by rw [gs d' hne]; exact q1, q2⟩
theorem ACall_of_body {f : FuncId} {fn : Func} {code : Code} {args : List AV} {M : Mem} {R : AV → Mem → Prop} (hf : P.funcs[f]? = some fn) (hb : fn.body = some code)
  (h : AW P GT none code ⟨args ++ List.replicate (fn.ntmps - args.length) .junk, M, []⟩ fun e s' => (e = .normal ∨ e = .ret) ∧ (∀ d, d ∈ s'.D → M.length ≤ d) ∧ ∃ r, resOf P fn s'.T (shut s'.M s'.D) = some r ∧ R r (shut s'.M s'.D)) :
  ACall P GT f args M R := by
 intro B I0 c w vs n hS hG hA
 refine callsIn_of_wp_marks hf hb trivial ?_
 have hT : TRep c M w (vs ++ Array.replicate (fn.ntmps - vs.size) undef) (args ++ List.replicate (fn.ntmps - args.length) .junk) := by
  refine ⟨by simp [hA.1], fun i x hx => ?_⟩
  by_cases hi : i < args.length
  ·rw [List.getElem?_append_left hi] at hx
   have hv : i < vs.size := by rw [hA.1]; exact hi
   have e : (vs ++ Array.replicate (fn.ntmps - vs.size) undef).getD i undef = vs[i] := by
    rw [Array.getD_eq_getD_getElem?, Array.getElem?_append_left hv]; simp [hv]
   rw [e]; exact hA.2 i _ x (Array.getElem?_eq_getElem hv) hx
  ·rw [List.getElem?_append_right (by omega), List.getElem?_replicate] at hx
   split at hx
   ·cases hx; exact .junk _
   ·cases hx
 have := h B I0 c { tmps := vs ++ Array.replicate (fn.ntmps - vs.size) undef, defers := [] } w n ⟨hS, hG, hT, rfl, List.nodup_nil, by simp⟩ (by simp)
 refine wpIn_mono this ?_
 rintro e a' w' ⟨s', c', ⟨he, hD, r, hr, hRr⟩, hR, hE, hs⟩
 have key : LeavesInM Fence.wide n P fn a'.tmps (fun e w' => ∃ v r M' c', e = .returned v ∧ R r M' ∧ ARep c' M' w' v r ∧ Sim B I0 c' M' w' ∧ Ext c M c' M' ∧ Stp B c w c' w') a'.defers .returning w' := by
  obtain ⟨d1, d2, d3⟩ := hR.dfs
  rw [d1]
  refine leaves s'.D s'.M w' hR.sim hR.tmps d2 (fun d hd => ⟨d3 d hd, hD d hd⟩) hE hs ?_
  intro w'' hS'' hT'' hE'' hs''
  obtain ⟨v, h1, h2⟩ := resOf_ok (P := P) hS'' hT'' hr
  exact ⟨v, h1, v, r, _, c', rfl, hRr, h2, hS'', hE'', hs''⟩
 rcases he with rfl | rfl
 ·exact key
 ·exact key
end Go.Abs
namespace Go.Abs
open Go.RowKit Go.Proofs
variable {P : Program} {GT : Tabs} {ro : Option Nat} {Q : Exit → S → Prop} {s : S}
theorem rowRep {I : Nat → Prop} {w : World} {k n cap sz : Nat} {ag : Bool} {f : Nat → Value} {ds : List PD} (hI : 0 < n → I k) (hcap : n ≤ cap) (hlen : ds.length = n * sz) (hsz : 0 < sz) (hag : ag = true ∨ sz = 1)
  (hc : ∀ j, j < n * sz → w.cell? ⟨k, j, none⟩ = some (f j)) (hd : ∀ (j : Nat) (d : PD), ds[j]? = some d → PRep I w (f j) d ∧ d.leaves = [d]) : PRep I w (.slice (some ⟨k, 0, none⟩) n cap) (.sl (group ag sz n ds)) := by
 have hgl : (group ag sz n ds).length = n := by simp [group]
 have elemAt : ∀ i x, (group ag sz n ds)[i]? = some x → i < n ∧ x.leaves.length = sz ∧ ∀ j y, x.leaves[j]? = some y → j < sz ∧ ds[i * sz + j]? = some y := by
  intro i x hx
  simp only [group, List.getElem?_map, Option.map_eq_some_iff] at hx
  obtain ⟨i', hi, rfl⟩ := hx
  have hlt := (List.getElem?_eq_some_iff.1 hi).1
  obtain rfl : i' = i := by have := (List.getElem?_eq_some_iff.1 hi).2; simpa using this.symm
  simp at hlt
  have hmul : (i' + 1) * sz ≤ n * sz := Nat.mul_le_mul_right _ hlt
  rw [Nat.add_mul, Nat.one_mul] at hmul
  refine ⟨hlt, ?_⟩
  cases ag with
  | true =>
   simp only [if_true, PD.leaves]
   refine ⟨by simp; omega, fun j y hy => ?_⟩
   rw [List.getElem?_take] at hy
   split at hy
   ·rw [List.getElem?_drop] at hy; exact ⟨by assumption, hy⟩
   ·cases hy
  | false =>
   have hs1 : sz = 1 := by simpa using hag
   subst hs1
   have hlt' : i' < ds.length := by omega
   have e1 : ds.getD i' default = ds[i'] := by simp [List.getD_eq_getElem?_getD, hlt']
   have d3 := (hd i' ds[i'] (List.getElem?_eq_getElem hlt')).2
   simp only [Bool.false_eq_true, if_false, e1, d3]
   refine ⟨rfl, fun j y hy => ?_⟩
   cases j with
   | zero => simp at hy; subst hy; exact ⟨by omega, by simp [hlt']⟩
   | succ j => simp at hy
 refine .sl _ n cap sz _ (fun i j => f (i * sz + j)) (fun _ => rfl) hgl.symm hcap hI (fun i x hx => (elemAt i x hx).2.1) (fun i j hi hj => ?_) fun i j x y hx hy => ?_
 ·have hmul : (i + 1) * sz ≤ n * sz := Nat.mul_le_mul_right _ hi
  rw [Nat.add_mul, Nat.one_mul] at hmul
  have := hc (i * sz + j) (by omega)
  simpa using this
 ·obtain ⟨k1, k2, k3⟩ := elemAt i x hx
  obtain ⟨k4, k5⟩ := k3 j y hy
  exact (hd _ _ k5).1
def ownPD (M : Mem) (b len ver : Nat) : Option PD :=
 match M[b]? with
 | some (.cells l sz ver' _) => if ver' = ver ∧ 0 < sz then ((l.take (len * sz)).mapM AV.pdCell).map fun ds => .sl (group (sz != 1) sz len ds) else none
 | some (.vrow _ ver') => if ver' = ver then some (.sl []) else none
 | _ => none
theorem ownPD_ok {B : Nat} {I0 : Nat → Prop} {c : Ctx} {M : Mem} {w : World} {b len ver : Nat} {v : Value} {x : PD} {I : Nat → Prop} (hS : Sim B I0 c M w) (hv : ARep c M w v (.own b len ver)) (h : ownPD M b len ver = some x)
  (hI : ∀ k, c.imm k → I k) (hIb : real M b → I (c.blk b)) : PRep I w v x := by
 cases hv with
 | own v b len ver hb hver hp =>
  unfold ownPD at h
  split at h
  ·rename_i l sz ver' z hM
   split at h
   ·rename_i hcond
    obtain ⟨rfl, hsz⟩ := hcond
    rw [Option.map_eq_some_iff] at h
    obtain ⟨ds, hds, rfl⟩ := h
    rcases hp (verOf_some hM) with ⟨cap, l2, sz2, z2, hM2, rfl, h5, h6, h7⟩ | ⟨sz2, hM2, _⟩
    ·rw [hM] at hM2; cases hM2
     obtain ⟨cs, e, g1, g2, g3, g4⟩ := hS.row hM
     obtain ⟨m1, m2⟩ := mapM_some hds
     have hlen : (l.take (len * sz)).length = len * sz := by simp; omega
     have hb' := hIb ⟨_, hM, rfl⟩
     refine rowRep (f := fun j => cs.getD j undef) (fun _ => hb') h5 (by omega) hsz ?_ (fun j hj => ?_) fun j d hd => ?_
     ·by_cases e : sz = 1
      ·exact .inr e
      ·exact .inl (by simpa using e)
     ·simp [World.cell?, g1, Array.getD, show j < cs.size by omega]
     ·have hj : j < len * sz := by have := (List.getElem?_eq_some_iff.1 hd).1; omega
      obtain ⟨d', d1, d2⟩ := m2 j _ (List.getElem?_eq_getElem (by omega))
      rw [hd] at d1; cases d1
      have hx : l[j]? = some (l.take (len * sz))[j] := by
       rw [List.getElem_take]; exact List.getElem?_eq_getElem (by omega)
      obtain ⟨u, q1, q2⟩ := g4 j _ hx
      have := q2.pdCell d2
      refine ⟨?_, this.2⟩
      have e1 : cs.getD j undef = u := by
       have hjc := (Array.getElem?_eq_some_iff.1 q1)
       obtain ⟨hjc, e⟩ := hjc
       simp [Array.getD, hjc, e]
      rw [e1]; exact this.1.mono hI (Kept.refl _ _)
    ·rw [hM] at hM2; cases hM2
   ·cases h
  ·rename_i sz ver' hM
   split at h
   ·rename_i hvv
    subst hvv
    cases h
    rcases hp (verOf_some hM) with ⟨cap, l2, sz2, z2, hM2, _⟩ | ⟨sz2, hM2, rfl, rfl⟩
    ·rw [hM] at hM2; cases hM2
    ·exact .nil
   ·cases h
  ·cases h
def frz (M : Mem) (b : Nat) : Mem :=
 match M[b]? with
 | some (.cells l sz ver _) => M.set b (.cells l sz ver true)
 | _ => M
theorem Rel.freeze {B : Nat} {I0 : Nat → Prop} {c : Ctx} {a : Act} {w : World} {i b len ver : Nat} {x : PD} (h : Rel GT B I0 c s a w) (hT : s.T[i]? = some (.own b len ver)) (hx : ownPD s.M b len ver = some x) :
  ∃ c', Rel GT B I0 c' ⟨s.T.set i (.pd x), frz s.M b, s.D⟩ a w ∧ Ext c s.M c' (frz s.M b) ∧ Stp B c w c' w := by
 have hv := h.tmps.2 i _ hT
 have main : ∀ (c' : Ctx) (M' : Mem), Sim B I0 c' M' w → Ext c s.M c' M' → Stp B c w c' w → (PRep c'.imm w (a.tmps.getD i undef) x) → Rel GT B I0 c' ⟨s.T.set i (.pd x), M', s.D⟩ a w := by
  intro c' M' hS hE hs hp
  refine ⟨hS, h.glob.mono hs, ⟨by simpa using h.tmps.1, fun j y hy => ?_⟩, h.dfs.mono hE⟩
  by_cases e : i = j
  ·subst e
   rw [List.getElem?_set_self (List.getElem?_eq_some_iff.1 hT).1] at hy; cases hy
   exact .pd _ _ hp
  ·rw [List.getElem?_set_ne e] at hy
   exact (h.tmps.2 j y hy).mono hE hs
 unfold frz
 split
 ·rename_i l sz ver' z hM
  obtain ⟨q1, q2, q3⟩ := h.sim.freeze hM
  refine ⟨c.freeze b, main _ _ q1 q2 q3 ?_, q2, q3⟩
  exact ownPD_ok h.sim hv hx (fun _ h => .inl h) fun _ => .inr rfl
 ·rename_i hno
  refine ⟨c, main c s.M h.sim (Ext.refl _ _) (Stp.refl _ _ _) ?_, Ext.refl _ _, Stp.refl _ _ _⟩
  refine ownPD_ok h.sim hv hx (fun _ h => h) fun hr => ?_
  unfold ownPD at hx
  split at hx
  ·rename_i l sz ver' z hM; exact absurd hM (hno _ _ _ _)
  ·rename_i sz ver' hM
   obtain ⟨o, ho, hov⟩ := hr
   rw [hM] at ho; cases ho; cases hov
  ·cases hx
theorem AL_freeze {ops : Array Oper} {rest : List Oper} {T : List AV} {M : Mem} {D : List Nat} (i : Nat) {b len ver : Nat} {x : PD} (hT : T[i]? = some (.own b len ver)) (hx : ownPD M b len ver = some x)
  (h : AL P GT ro ops rest ⟨T.set i (.pd x), frz M b, D⟩ Q) : AL P GT ro ops rest ⟨T, M, D⟩ Q := by
 intro B I0 c a w n hR ho
 obtain ⟨c', r, he, hs⟩ := hR.freeze hT hx
 have := h B I0 c' a w n r (fun l hl => he.obj l (ho l hl))
 rw [fen_ext he ho] at this
 exact wpListIn_mono2 (fun e a u h => Aft.from he hs h) _ _ _ this
theorem AW_freeze {code : Code} {T : List AV} {M : Mem} {D : List Nat} (i : Nat) {b len ver : Nat} {x : PD} (hT : T[i]? = some (.own b len ver)) (hx : ownPD M b len ver = some x)
  (h : AW P GT ro code ⟨T.set i (.pd x), frz M b, D⟩ Q) : AW P GT ro code ⟨T, M, D⟩ Q := by
 intro B I0 c a w n hR ho
 obtain ⟨c', r, he, hs⟩ := hR.freeze hT hx
 have := h B I0 c' a w n r (fun l hl => he.obj l (ho l hl))
 rw [fen_ext he ho] at this
 exact wpIn_mono this fun e a u h => Aft.from he hs h
def pure1 (M : Mem) : AV → Option AV
 | .pd x => some (.pd x)
 | .fixed l => some (.pd (.sl l))
 | .nilp => some .nilp
 | .nilf => some .nilf
 | .own b len ver => (ownPD M b len ver).map .pd
 | .fn f [] [] => some (.fn f [] [])
 | _ => none
def pure2 (M : Mem) : AV → Option AV
 | .agg l => (l.mapM (pure1 M)).map .agg
 | x => pure1 M x
def pure3 (M : Mem) : AV → Option AV
 | .tup l => (l.mapM (pure2 M)).map .tup
 | x => pure2 M x
def Ctx.still (c : Ctx) (M : Mem) : Ctx := { c with imm := fun k => c.imm k ∨ ∃ i, real M i ∧ k = c.blk i }
theorem pure1_ok {B : Nat} {I0 : Nat → Prop} {c : Ctx} {M : Mem} {w : World} {v : Value} {x y : AV} (hS : Sim B I0 c M w) (hv : ARep c M w v x) (h : pure1 M x = some y) : ARep (c.still M) [] w v y ∧ y.pure = true := by
 have up : ∀ {u : Value} {p : PD}, PRep c.imm w u p → PRep (c.still M).imm w u p := fun h => h.mono (fun _ h => .inl h) (Kept.refl _ _)
 cases hv with
 | pd v p hp => simp [pure1] at h; subst h; exact ⟨.pd _ _ (up hp), by simp [AV.pure]⟩
 | fixed a n l hn hp => simp [pure1] at h; subst h; exact ⟨.pd _ _ (up hp), by simp [AV.pure]⟩
 | nilp => simp [pure1] at h; subst h; exact ⟨.nilp, by simp [AV.pure]⟩
 | nilf => simp [pure1] at h; subst h; exact ⟨.nilf, by simp [AV.pure]⟩
 | own v b len ver hb hver hp =>
  simp only [pure1, Option.map_eq_some_iff] at h
  obtain ⟨p, hpd, rfl⟩ := h
  exact ⟨.pd _ _ (ownPD_ok hS (.own v b len ver hb hver hp) hpd (fun _ h => .inl h) fun hr => .inr ⟨b, hr, rfl⟩), by simp [AV.pure]⟩
 | fn f v1 v2 l1 l2 h1 h2 r1 r2 =>
  cases l1 with
  | nil =>
   cases l2 with
   | nil => simp [pure1] at h; subst h; exact ⟨.fn _ _ _ _ _ h1 h2 (by simp) (by simp), by simp [AV.pure]⟩
   | cons _ _ => simp [pure1] at h
  | cons _ _ => simp [pure1] at h
 | _ => simp [pure1] at h
theorem pureL_ok {c : Ctx} {M : Mem} {w : World} {g : AV → Option AV} (hg : ∀ v x y, ARep c M w v x → g x = some y → ARep (c.still M) [] w v y ∧ y.pure = true) {vs : Array Value} {l l' : List AV} (hs : vs.size = l.length)
  (hr : ∀ (i : Nat) (v : Value) (x : AV), vs[i]? = some v → l[i]? = some x → ARep c M w v x) (h : l.mapM g = some l') : vs.size = l'.length ∧ (∀ (i : Nat) (v : Value) (x : AV), vs[i]? = some v → l'[i]? = some x → ARep (c.still M) [] w v x) ∧ ∀ x, x ∈ l' → x.pure = true := by
 obtain ⟨m1, m2⟩ := mapM_some h
 have at' : ∀ (i : Nat) (x : AV), l'[i]? = some x → ∃ v y, vs[i]? = some v ∧ l[i]? = some y ∧ g y = some x := by
  intro i x hx
  have hlt := (List.getElem?_eq_some_iff.1 hx).1
  obtain ⟨b, b1, b2⟩ := m2 i l[i] (List.getElem?_eq_getElem (by omega))
  rw [hx] at b1; cases b1
  exact ⟨vs[i]'(by omega), _, Array.getElem?_eq_getElem (by omega), List.getElem?_eq_getElem (by omega), b2⟩
 refine ⟨by omega, fun i v x h1 h2 => ?_, fun x hx => ?_⟩
 ·obtain ⟨v', y, q1, q2, q3⟩ := at' i x h2
  rw [h1] at q1; cases q1
  exact (hg _ _ _ (hr i v y h1 q2) q3).1
 ·obtain ⟨i, hi⟩ := List.mem_iff_getElem?.1 hx
  obtain ⟨v', y, q1, q2, q3⟩ := at' i x hi
  exact (hg _ _ _ (hr i v' y q1 q2) q3).2
theorem pure2_ok {B : Nat} {I0 : Nat → Prop} {c : Ctx} {M : Mem} {w : World} {v : Value} {x y : AV} (hS : Sim B I0 c M w) (hv : ARep c M w v x) (h : pure2 M x = some y) : ARep (c.still M) [] w v y ∧ y.pure = true := by
 cases x with
 | agg l =>
  simp only [pure2, Option.map_eq_some_iff] at h
  obtain ⟨l', hl, rfl⟩ := h
  cases hv with
  | agg vs l hs hr =>
   obtain ⟨q1, q2, q3⟩ := pureL_ok (fun v x y a b => pure1_ok hS a b) hs hr hl
   exact ⟨.agg _ _ q1 q2, by simp only [AV.pure, List.all_eq_true]; exact fun x _ => q3 _ x.2⟩
 | _ => exact pure1_ok hS hv h
theorem pure3_ok {B : Nat} {I0 : Nat → Prop} {c : Ctx} {M : Mem} {w : World} {v : Value} {x y : AV} (hS : Sim B I0 c M w) (hv : ARep c M w v x) (h : pure3 M x = some y) : ARep (c.still M) [] w v y ∧ y.pure = true := by
 cases x with
 | tup l =>
  simp only [pure3, Option.map_eq_some_iff] at h
  obtain ⟨l', hl, rfl⟩ := h
  cases hv with
  | tup vs l hs hr =>
   obtain ⟨q1, q2, q3⟩ := pureL_ok (fun v x y a b => pure2_ok hS a b) hs hr hl
   exact ⟨.tup _ _ q1 q2, by simp only [AV.pure, List.all_eq_true]; exact fun x _ => q3 _ x.2⟩
 | _ => exact pure2_ok hS hv h
def ASpec (P : Program) (GT : Tabs) (f : FuncId) (args : List AV) (R : AV → Prop) : Prop := ACall P GT f args [] fun r M' => M' = [] ∧ r.pure = true ∧ R r
theorem Ext.nil (c c' : Ctx) : Ext c [] c' [] := ⟨⟨Nat.le_refl _, fun _ h => absurd h (by simp), fun _ h => absurd h (by simp), fun _ h => h⟩, fun _ _ h => h⟩
theorem ASpec.of {f : FuncId} {args : List AV} {R : AV → Prop} (h : ACall P GT f args [] fun r M' => ∃ r', pure3 M' r = some r' ∧ R r') : ASpec P GT f args R := by
 intro B I0 c w vs n hS hG hA
 refine (h B I0 c w vs n hS hG hA).mono ?_
 rintro e w' ⟨v, r, M', c', rfl, ⟨r', h1, h2⟩, h3, h4, h5, h6⟩
 obtain ⟨q1, q2⟩ := pure3_ok h4 h3 h1
 refine ⟨v, r', [], c'.still M', rfl, ⟨rfl, q2, h2⟩, q1, ?_, Ext.nil _ _, h6.trans ⟨Below.refl _ _, fun _ h => .inl h, Kept.refl _ _⟩⟩
 refine ⟨fun i hi => absurd hi.lt (by simp), fun i j hi => absurd hi.lt (by simp), fun b hb => .inl (h4.imm0 b hb), ?_, ?_, by simp, by simp, h4.hB⟩
 ·rintro b (hb | ⟨i, hi, rfl⟩) hlt
  ·exact h4.immB b hb hlt
  ·have := h4.blkB i hi; omega
 ·rintro b (hb | ⟨i, hi, rfl⟩)
  ·exact h4.immlt b hb
  ·exact h4.lt hi
theorem ASpec.mono {f : FuncId} {args : List AV} {R R' : AV → Prop} (h : ASpec P GT f args R) (hr : ∀ r, R r → R' r) : ASpec P GT f args R' := ACall.mono h fun r M' ⟨a, b, q⟩ => ⟨a, b, hr r q⟩
theorem Sim.empty {B : Nat} {I0 : Nat → Prop} {c : Ctx} {M : Mem} {w : World} (h : Sim B I0 c M w) : Sim w.heap.size c.imm c [] w :=
 ⟨fun i hi => absurd hi.lt (by simp), fun i j hi => absurd hi.lt (by simp), fun _ h => h, fun _ h _ => h, h.immlt, by simp, by simp, Nat.le_refl _⟩
theorem ASpec.call {f : FuncId} {args : List AV} {R : AV → Prop} (h : ASpec P GT f args R) (hp : ∀ x, x ∈ args → x.pure = true) (M : Mem) : ACall P GT f args M fun r M' => M' = M ∧ r.pure = true ∧ R r := by
 intro B I0 c w vs n hS hG hA
 have hA' : ArgsRep c [] w vs args := ⟨hA.1, fun i v x h1 h2 => (hA.2 i v x h1 h2).pure (hp x (List.mem_of_getElem? h2)) (fun _ h => h) (Kept.refl _ _)⟩
 refine (h w.heap.size c.imm c w vs n hS.empty hG hA').mono ?_
 rintro e w' ⟨v, r, M', c', rfl, ⟨rfl, h1, h2⟩, h3, h4, h5, h6⟩
 have hS' := hS.grown h6.below
 refine ⟨v, r, M, c.grown w w', rfl, ⟨rfl, h1, h2⟩, h3.pure h1 (fun b hb => ?_) (Kept.refl _ _), hS', Ext.grown _ _ _, Stp.grown hS.hB hS.immlt h6.below⟩
 by_cases hlt : b < w.heap.size
 ·exact .inl (h4.immB b hb hlt)
 ·exact .inr ⟨by omega, h4.immlt b hb⟩
theorem ASpec_of_body {f : FuncId} {fn : Func} {code : Code} {args : List AV} {R : AV → Prop} (hf : P.funcs[f]? = some fn) (hb : fn.body = some code)
  (h : AW P GT none code ⟨args ++ List.replicate (fn.ntmps - args.length) .junk, [], []⟩ fun e s' => (e = .normal ∨ e = .ret) ∧ ∃ r r', resOf P fn s'.T (shut s'.M s'.D) = some r ∧ pure3 (shut s'.M s'.D) r = some r' ∧ R r') : ASpec P GT f args R :=
 .of (ACall_of_body hf hb (h.mono fun _ _ ⟨a, r, r', b, d, e⟩ => ⟨a, fun _ _ => Nat.zero_le _, r, b, r', d, e⟩))
end Go.Abs
end

section
namespace Go.Abs
open Go.RowKit Go.Proofs
variable {P : Program} {GT : Tabs} {ro : Option Nat} {Q : Exit → S → Prop} {s : S}
theorem Sim.loop {B : Nat} {I0 : Nat → Prop} {c : Ctx} {M : Mem} {w : World} (hS : Sim B I0 c M w) {l df : Nat} {st : LoopState} {pe : Option Code} {T : List AV} {ps : Array Tmp} {asg bo : Code} (hM : M[l]? = some (.loop st pe T ps asg bo df)) :
  ∃ tmps fn, w.heap[c.blk l]? = some (.loop { state := st, pending := pe, fn := fn, tmps := tmps, params := ps, assign := asg, body := bo, defers := c.blk df }) ∧ TRep c M w tmps T ∧ ∀ (st' : LoopState) (pe' : Option Code),
   Sim B I0 c (M.set l (.loop st' pe' T ps asg bo df)) (w.putObj (c.blk l) (.loop { state := st', pending := pe', fn := fn, tmps := tmps, params := ps, assign := asg, body := bo, defers := c.blk df })) ∧
   Ext c M c (M.set l (.loop st' pe' T ps asg bo df)) ∧ Stp B c w c (w.putObj (c.blk l) (.loop { state := st', pending := pe', fn := fn, tmps := tmps, params := ps, assign := asg, body := bo, defers := c.blk df })) := by
 obtain ⟨tmps, fn, h1, h2, h3, h4⟩ := hS.obj l _ hM
 refine ⟨tmps, fn, h1, ⟨h3, h4⟩, fun st' pe' => ?_⟩
 have hE : Ext c M c (M.set l (.loop st' pe' T ps asg bo df)) := Ext.set hM rfl (Nat.le_refl _) (fun _ => rfl)
 have hs : Stp B c w c (w.putObj (c.blk l) (.loop { state := st', pending := pe', fn := fn, tmps := tmps, params := ps, assign := asg, body := bo, defers := c.blk df })) :=
  Stp.of_block (hS.sep l _ hM rfl rfl) (hS.blkB l ⟨_, hM, rfl⟩) rfl rfl rfl (by simp) fun k hk => World.putObj_heap_other hk
 refine ⟨hS.put hM hE hs (fun k hk => World.putObj_heap_other hk) ?_ rfl rfl, hE, hs⟩
 exact ⟨tmps, fn, World.putObj_heap_same (Array.getElem?_eq_some_iff.1 h1).1, hE.obj _ h2, h3, fun j x hj => (h4 j x hj).mono hE hs⟩
def setAll (T : List AV) : List Tmp → List AV → List AV
 | p :: ps, x :: xs => setAll (T.set p x) ps xs
 | _, _ => T
theorem setAll_rep {c : Ctx} {M : Mem} {w : World} : ∀ (ps : List Tmp) (vs : List Value) (xs : List AV) (tmps : Array Value) (T : List AV), TRep c M w tmps T → vs.length = xs.length → (∀ (i : Nat) (v : Value) (x : AV), vs[i]? = some v → xs[i]? = some x → ARep c M w v x) →
  TRep c M w ((ps.zip vs).foldl (fun t (p : Tmp × Value) => t.setIfInBounds p.1 p.2) tmps) (setAll T ps xs)
 | [], vs, xs, tmps, T, h, _, _ => by cases xs <;> simpa [setAll] using h
 | p :: ps, [], [], tmps, T, h, _, _ => by simpa [setAll] using h
 | p :: ps, v :: vs, x :: xs, tmps, T, h, hl, hr => by
  rw [List.zip_cons_cons, List.foldl_cons, setAll]
  refine setAll_rep ps vs xs _ _ ?_ (by simpa using hl) fun i v' x' h1 h2 => hr (i + 1) v' x' (by simpa using h1) (by simpa using h2)
  exact TRep.put (a := { tmps := tmps, defers := [] }) h (some p) (hr 0 v x rfl rfl)
 | p :: ps, [], x :: xs, _, _, _, hl, _ => by simp at hl
 | p :: ps, v :: vs, [], _, _, _, hl, _ => by simp at hl
def rndEnd : Exit → Option (LoopState × Option Code × Bool)
 | .normal => some (.ready, none, true)
 | .ret => some (.done, some .ret, false)
 | .exit id => some (.done, some (.exit id), false)
 | .goto t => some (.done, some (.goto t), false)
 | _ => none
def setLoop (M : Mem) (l : Nat) (st : LoopState) (pe : Option Code) : Option Mem :=
 match M[l]? with
 | some (.loop _ _ T ps asg bo df) => some (M.set l (.loop st pe T ps asg bo df))
 | _ => none
def loopSt (M : Mem) (l : Nat) : Option (LoopState × Option Code) :=
 match M[l]? with
 | some (.loop st pe _ _ _ _ _) => some (st, pe)
 | _ => none
def rndQ (l : Nat) (K : Bool → Mem → Prop) : Exit → S → Prop := fun e s2 => ∃ st pe b M', rndEnd e = some (st, pe, b) ∧ setLoop s2.M l st pe = some M' ∧ K b M'
theorem AL_yield {ops : Array Oper} {o : Oper} {rest : List Oper} {f : Operand} {args : Array Operand} {ts : Array TypeId} {l df : Nat} {pe : Option Code} {T : List AV} {ps : Array Tmp} {asg bo : Code} (hg : aGuard ops s.T o = some true)
  (ho : o.op = .call { callee := .value f, args := args, argTypes := ts }) (hf : aev GT s.T f = .yld l) (hM : s.M[l]? = some (.loop .ready pe T ps asg bo df)) (hsz : args.size = ps.size)
  (h : AW P GT (some l) asg ⟨setAll T ps.toList (args.toList.map (aev GT s.T)), s.M, []⟩ (thn (fun s1 => (loopSt s1.M l).map (·.1) = some .ready ∧ ∃ M1 pe1, (loopSt s1.M l).map (·.2) = some pe1 ∧ setLoop s1.M l .busy pe1 = some M1 ∧
   AW P GT (some l) bo ⟨s1.T, M1, s1.D⟩ (rndQ l fun b M' => AL P GT ro ops rest ⟨aput s.T o.dst (.pd (.bool b)), M', s.D⟩ Q)) fun _ _ => False)) : AL P GT ro ops (o :: rest) s Q := by
 intro B I0 c a w n hR hob
 have hw := aGuard_ok hR.tmps hg
 have hfv := hR.ev f
 rw [hf] at hfv
 have hobj : obj s.M l := ⟨_, hM, rfl⟩
 have hargs : ArgsRep c s.M w (args.map a.eval) (args.toList.map (aev GT s.T)) := list_rep (fun x => hR.ev x) args
 generalize hv : a.eval f = v at hfv
 cases hfv with
 | yld l _ =>
  obtain ⟨tmps, fn, hL, hT, hturn⟩ := hR.sim.loop hM
  unfold wpListIn
  rw [if_pos hw]
  refine ⟨fun _ _ => fen_fn _ _ _, ?_⟩
  have hrun : (o.semAt (fen c ro).round a.eval).run P w = .ok (.round (c.blk l) fn ((ps.zip (args.map a.eval)).foldl (fun tmps (t, a) => tmps.setIfInBounds t a) tmps) asg bo) w := by
   rw [Oper.semAt_eq _ _ _ (by intro k e; rw [e] at ho; cases ho)]
   simp only [execOp, ho, resolve, hv, Deferred.ofValue, invoke]
   simp only [Sem.run_bind, Sem.run_pure, Result.andThen_ok]
   have := run_yield (P := P) (args := #[] ++ args.map a.eval ++ #[]) hL (by simpa using hsz)
   simpa using this
  rw [hrun]
  refine ⟨fun h => fen_depth _ _ h, ?_⟩
  refine roundIn_of_wpIn (fen_fn _ _ _) ?_
  have hfen : (fen c ro).inRound (c.blk l) = fen c (some l) := by cases ro <;> rfl
  rw [hfen]
  have hT0 : TRep c s.M w ((ps.zip (args.map a.eval)).foldl (fun tmps (t, a) => tmps.setIfInBounds t a) tmps) (setAll T ps.toList (args.toList.map (aev GT s.T))) := by
   have := setAll_rep ps.toList (args.map a.eval).toList (args.toList.map (aev GT s.T)) tmps T hT (by simp) (fun i v x h1 h2 => hargs.2 i v x (by simpa using h1) h2)
   rw [← Array.foldl_toList, Array.toList_zip]; exact this
  refine wpIn_mono (h B I0 c _ w (n - 1) ⟨hR.sim, hR.glob, hT0, rfl, List.nodup_nil, by simp⟩ (by rintro _ ⟨⟩; exact hobj)) ?_
  rintro e a1 w1 ⟨s1, c1, q1, r1, e1, t1⟩
  cases e with
  | normal =>
   obtain ⟨hst, M1, pe1, hpe, hset, hbody⟩ := q1
   unfold loopSt at hst hpe
   unfold setLoop at hset
   split at hset
   ·rename_i st1 pe2 T1 ps1 asg1 bo1 df1 hM1
    rw [hM1] at hst hpe
    simp at hst hpe
    subst hst; subst hpe
    cases hset
    obtain ⟨tmps1, fn1, hL1, hT1, hturn1⟩ := r1.sim.loop hM1
    obtain ⟨hS2, hE2, hs2⟩ := hturn1 .busy pe2
    have eb : c1.blk l = c.blk l := e1.toExt0.blk hobj
    refine ⟨_, run_beginRound (by rw [← eb]; exact hL1) rfl, ?_⟩
    have hob1 : obj (s1.M.set l (.loop .busy pe2 T1 ps1 asg1 bo1 df1)) l := hE2.obj l (e1.obj l hobj)
    have hb := hbody B I0 c1 a1 _ (n - 1) ⟨hS2, r1.glob.mono hs2, r1.tmps.mono hE2 hs2, r1.dfs.mono hE2⟩ (by rintro _ ⟨⟩; exact hob1)
    have ef : fen c1 (some l) = fen c (some l) := by simp only [fen, eb]
    rw [ef, eb] at hb
    refine wpIn_mono hb ?_
    rintro e a2 w2 ⟨s2, c2, ⟨st, pe3, b, M3, z1, z2, z3⟩, r2, e2, t2⟩
    unfold setLoop at z2
    split at z2
    ·rename_i st3 pe4 T3 ps3 asg3 bo3 df3 hM3
     cases z2
     obtain ⟨tmps3, fn3, hL3, hT3, hturn3⟩ := r2.sim.loop hM3
     obtain ⟨hS3, hE3, hs3⟩ := hturn3 st pe3
     have eb2 : c2.blk l = c.blk l := by rw [e2.toExt0.blk hob1, eb]
     have hEx : Ext c s.M c2 (s2.M.set l (.loop st pe3 T3 ps3 asg3 bo3 df3)) := ((e1.trans hE2).trans e2).trans hE3
     have hSt := ((t1.trans (eb ▸ hs2)).trans t2).trans hs3
     have hrest := z3 B I0 c2 (a.put o.dst (.bool b)) _ n (hR.step hS3 hEx hSt o.dst (.pd _ _ (.bool b))) (fun k hk => hEx.obj k (hob k hk))
     rw [fen_ext hEx hob] at hrest
     have hfin := wpListIn_mono2 (fun e a u h => Aft.from hEx hSt h) _ _ _ hrest
     have main : ∀ jump : Option Code, b = jump.isNone → st = (if jump.isNone then .ready else .done) → pe3 = jump → ∃ v w', (Instr.endRound (c.blk l) jump).run P w2 = .ok v w' ∧
       wpListIn (fen c ro) n P ops (Aft GT B I0 c s.M w Q) rest (a.put o.dst v) w' := by
      rintro jump rfl rfl rfl
      exact ⟨_, _, run_endRound _ (by rw [← eb2]; exact hL3), by rw [← eb2]; exact hfin⟩
     cases e with
     | normal => cases z1; exact main none rfl rfl rfl
     | ret => cases z1; exact main (some .ret) rfl rfl rfl
     | exit id => cases z1; exact main (some (.exit id)) rfl rfl rfl
     | goto t => cases z1; exact main (some (.goto t)) rfl rfl rfl
     | panic ch => cases z1
     | outgrown => cases z1
    ·cases z2
   ·cases hset
  | _ => exact q1.elim
end Go.Abs
namespace Go.Abs
open Go.RowKit Go.Proofs
variable {P : Program} {GT : Tabs} {ro : Option Nat} {Q : Exit → S → Prop} {s : S}
def aftFn (P : Program) (GT : Tabs) (ro : Option Nat) (l : Nat) (T : List AV) (D : List Nat) (Q : Exit → S → Prop) (M : Mem) : Prop :=
 ∃ st pe M', loopSt M l = some (st, pe) ∧ st ≠ .busy ∧ setLoop M l .exhausted pe = some M' ∧
  (match pe with
   | none => Q .normal ⟨T, M', D⟩
   | some c => AW P GT ro c ⟨T, M', D⟩ Q)
theorem Sim.pushDefers {B : Nat} {I0 : Nat → Prop} {c : Ctx} {M : Mem} {w : World} (hS : Sim B I0 c M w) : Sim B I0 (c.push M w.heap.size 0) (M ++ [.defers false]) (w.alloc (.deferred (some []))) := by
 refine hS.push _ 0 _ ?_
 show (w.alloc _).heap[(c.push M w.heap.size 0).blk M.length]? = _
 rw [show (c.push M w.heap.size 0).blk M.length = w.heap.size from upd_self _ _ _]
 exact World.alloc_heap_new _ _
theorem Sim.pushLoop {B : Nat} {I0 : Nat → Prop} {c : Ctx} {M : Mem} {w : World} (hS : Sim B I0 c M w) {tmps : Array Value} {T : List AV} (hT : TRep c M w tmps T) (fn : FuncId) (ps : Array Tmp) (asg bo : Code) {df : Nat} (hd : Abs.obj M df) :
  Sim B I0 (c.push M w.heap.size 0) (M ++ [.loop .ready none T ps asg bo df]) (w.alloc (.loop { state := .ready, pending := none, fn := fn, tmps := tmps, params := ps, assign := asg, body := bo, defers := c.blk df })) := by
 refine hS.push _ 0 _ ?_
 have hE := Ext.push c M w.heap.size 0 (.loop .ready none T ps asg bo df)
 refine ⟨tmps, fn, ?_, hE.obj df hd, hT.1, fun j x hj => (hT.2 j x hj).mono hE (Stp.alloc hS.hB hS.immlt _ _ _)⟩
 rw [show (c.push M w.heap.size 0).blk M.length = w.heap.size from upd_self _ _ _, hE.toExt0.blk hd]
 exact World.alloc_heap_new _ _
theorem rangeFunc_core {g : Operand} {ps : Array Tmp} {asg bo : Code} {gf : FuncId} {l1 l2 : List AV} {B : Nat} {I0 : Nat → Prop} {c c1 : Ctx} {a : Act} {w : World} {n l : Nat} {M1 : Mem} {mk : List Deferred} {D : List Nat} {v1 v2 : Array Value}
  (hv : a.eval g = .func (.func gf) v1 v2) (q1 : ArgsRep c s.M w v1 l1) (q2 : ArgsRep c s.M w v2 l2) (he : Enters P gf) (hR : Rel GT B I0 c s a w) (hob : ∀ k, ro = some k → obj s.M k)
  (henter : ∀ fn, ∃ w1, (Instr.enterLoop fn a.tmps ps asg bo (fen c ro).round).run P w = .ok (c1.blk l, mk) w1 ∧ Sim B I0 c1 M1 w1 ∧ Stp B c w c1 w1)
  (hE : Ext c s.M c1 M1) (hl : obj M1 l) (hD : ∀ c' M', Ext c1 M1 c' M' → DRep c' M' (mk ++ a.defers) D)
  (h : ACall P GT gf (l1 ++ [.yld l] ++ l2) M1 fun _ M' => aftFn P GT ro l s.T D Q M') : (Code.rangeFunc g ps asg bo).wpIn (fen c ro) n P (Aft GT B I0 c s.M w Q) a w := by
 refine wpIn_rangeFunc fun fn _ => ?_
 obtain ⟨w1, hent, hS, hs⟩ := henter fn
 refine ⟨c1.blk l, mk, w1, { target := .fn (.func gf) v2, args := v1 ++ #[.func (.yield (c1.blk l)) #[] #[]] }, w1, gf, v1 ++ #[.func (.yield (c1.blk l)) #[] #[]] ++ v2, w1, hent, ?_, ?_, ?_, fun h => fen_depth _ _ h, ?_⟩
 ·simp only [resolve, hv, Deferred.ofValue]
  simp [go_sem, Act.eval]
 ·intro f' _; exact fen_fn _ _ _
 ·simp only [invoke]
  exact he _ _
 ·have hy : ArgsRep c1 M1 w1 #[.func (.yield (c1.blk l)) #[] #[]] [.yld l] := by
   refine ⟨rfl, fun i u y h1 h2 => ?_⟩
   match i with
   | 0 => simp at h1 h2; subst h1; subst h2; exact .yld l hl
   | i + 1 => simp at h1
  have mono : ∀ {vs xs}, ArgsRep c s.M w vs xs → ArgsRep c1 M1 w1 vs xs := fun h => ⟨h.1, fun i v x h1 h2 => (h.2 i v x h1 h2).mono hE hs⟩
  refine callsIn_fen ((h B I0 c1 w1 _ (n - 1) hS (hR.glob.mono hs) (((mono q1).append hy).append (mono q2))).mono ?_)
  rintro e w2 ⟨v, r, M', c', rfl, ⟨st, pe, M2, h1, h2, h3, h4⟩, hv', hS', hE', hs'⟩
  unfold loopSt at h1
  unfold setLoop at h3
  split at h1
  ·rename_i st' pe' T' ps' as' bo' df' hM'
   cases h1
   rw [hM'] at h3
   cases h3
   obtain ⟨tmps, fn', hL, hT, hturn⟩ := hS'.loop hM'
   obtain ⟨hS3, hE3, hs3⟩ := hturn .exhausted pe
   have eb : c'.blk l = c1.blk l := hE'.toExt0.blk hl
   have hEx := (hE.trans hE').trans hE3
   have hSt := (hs.trans hs').trans hs3
   have hRel : Rel GT B I0 c' ⟨s.T, M'.set l (.loop .exhausted pe T' ps' as' bo' df'), D⟩ { a with defers := mk ++ a.defers } _ := ⟨hS3, hR.glob.mono hSt, hR.tmps.mono hEx hSt, hD _ _ (hE'.trans hE3)⟩
   refine ⟨pe, _, by rw [← eb]; exact run_endLoop hL h2, ?_⟩
   cases pe with
   | none => exact ⟨_, c', h4, hRel, hEx, hSt⟩
   | some jc =>
    have := h4 B I0 c' _ _ n hRel (fun k hk => hEx.obj k (hob k hk))
    rw [fen_ext hEx hob] at this
    exact wpIn_mono this fun e a u h => Aft.from hEx hSt h
  ·cases h1
theorem AW_rangeFunc {g : Operand} {ps : Array Tmp} {asg bo : Code} {gf : FuncId} {l1 l2 : List AV} (hg : aev GT s.T g = .fn (.func gf) l1 l2) (he : Enters P gf)
  (h : ACall P GT gf (l1 ++ [.yld (s.M.length + 1)] ++ l2) (s.M ++ [.defers false] ++ [.loop .ready none s.T ps asg bo s.M.length]) fun _ M' => aftFn P GT none (s.M.length + 1) s.T (s.M.length :: s.D) Q M') : AW P GT none (.rangeFunc g ps asg bo) s Q := by
 intro B I0 c a w n hR hob
 have hfv := hR.ev g
 rw [hg] at hfv
 obtain ⟨v1, v2, hv, q1, q2⟩ := hfv.fnInv
 have hS0 := hR.sim.pushDefers
 have hE0 := Ext.push c s.M w.heap.size 0 (.defers false)
 have hs0 : Stp B c w (c.push s.M w.heap.size 0) (w.alloc (.deferred (some []))) := Stp.alloc hR.sim.hB hR.sim.immlt _ _ _
 have hd : obj (s.M ++ [.defers false]) s.M.length := ⟨.defers false, by simp, rfl⟩
 have eblk : (c.push s.M w.heap.size 0).blk s.M.length = w.heap.size := upd_self _ _ _
 have hE1 := Ext.push (c.push s.M w.heap.size 0) (s.M ++ [.defers false]) (w.heap.size + 1) 0 (.loop .ready none s.T ps asg bo s.M.length)
 have el : (s.M ++ [Ob.defers false]).length = s.M.length + 1 := by simp
 have ebl : ((c.push s.M w.heap.size 0).push (s.M ++ [.defers false]) (w.heap.size + 1) 0).blk (s.M.length + 1) = w.heap.size + 1 := by rw [← el]; exact upd_self _ _ _
 have ebd : ((c.push s.M w.heap.size 0).push (s.M ++ [.defers false]) (w.heap.size + 1) 0).blk s.M.length = w.heap.size := by rw [hE1.toExt0.blk hd, eblk]
 have hkeep : ∀ (i : Nat) (t : Bool), s.M[i]? = some (.defers t) → i < s.M.length := fun i t hi => (List.getElem?_eq_some_iff.1 hi).1
 refine rangeFunc_core (c1 := (c.push s.M w.heap.size 0).push (s.M ++ [.defers false]) (w.heap.size + 1) 0) (l := s.M.length + 1) (mk := [{ target := .collected w.heap.size, args := #[] }]) hv q1 q2 he hR hob (fun fn => ?_) (hE0.trans hE1) ⟨_, by rw [List.getElem?_append_right (by omega)]; simp; rfl, rfl⟩ ?_ h
 ·refine ⟨_, by rw [ebl]; exact run_enterLoop_outer fn a.tmps ps asg bo, ?_, ?_⟩
  ·have := hS0.pushLoop (hR.tmps.mono hE0 hs0) fn ps asg bo hd
   rw [eblk, World.size_alloc] at this
   exact this
  ·refine hs0.trans ?_
   have := Stp.alloc (B := B) hS0.hB hS0.immlt (.loop { state := .ready, pending := none, fn := fn, tmps := a.tmps, params := ps, assign := asg, body := bo, defers := w.heap.size }) ((c.push s.M w.heap.size 0).push (s.M ++ [.defers false]) (w.heap.size + 1) 0).blk ((c.push s.M w.heap.size 0).push (s.M ++ [.defers false]) (w.heap.size + 1) 0).rsz
   exact this
 ·intro c' M' hE'
  obtain ⟨d1, d2, d3⟩ := hR.dfs.mono ((hE0.trans hE1).trans hE')
  refine ⟨?_, List.nodup_cons.2 ⟨fun hm => ?_, d2⟩, fun d hd' => ?_⟩
  ·rw [List.map_cons, ← d1]
   simp only [mark, List.cons_append, List.nil_append]
   rw [(hE1.trans hE').toExt0.blk hd, eblk]
  ·have := hkeep _ _ (hR.dfs.2.2 _ hm); omega
  ·rcases List.mem_cons.1 hd' with rfl | hm
   ·exact (hE1.trans hE').keep _ _ (by simp)
   ·exact d3 d hm
theorem AW_rangeFuncIn {g : Operand} {ps : Array Tmp} {asg bo : Code} {gf : FuncId} {l1 l2 : List AV} {l0 df : Nat} {st0 : LoopState} {pe0 : Option Code} {T0 : List AV} {ps0 : Array Tmp} {asg0 bo0 : Code} (hM0 : s.M[l0]? = some (.loop st0 pe0 T0 ps0 asg0 bo0 df))
  (hg : aev GT s.T g = .fn (.func gf) l1 l2) (he : Enters P gf)
  (h : ACall P GT gf (l1 ++ [.yld s.M.length] ++ l2) (s.M ++ [.loop .ready none s.T ps asg bo df]) fun _ M' => aftFn P GT (some l0) s.M.length s.T s.D Q M') : AW P GT (some l0) (.rangeFunc g ps asg bo) s Q := by
 intro B I0 c a w n hR hob
 have hfv := hR.ev g
 rw [hg] at hfv
 obtain ⟨v1, v2, hv, q1, q2⟩ := hfv.fnInv
 obtain ⟨tm, fn0, hL0, _, _⟩ := hR.sim.loop hM0
 have hd : obj s.M df := by obtain ⟨_, _, _, h2, _⟩ := hR.sim.obj l0 _ hM0; exact h2
 have hE1 := Ext.push c s.M w.heap.size 0 (.loop .ready none s.T ps asg bo df)
 refine rangeFunc_core (c1 := c.push s.M w.heap.size 0) (l := s.M.length) (mk := []) hv q1 q2 he hR hob (fun fn => ?_) hE1 ⟨_, by simp; rfl, rfl⟩ ?_ h
 ·refine ⟨_, by rw [show (c.push s.M w.heap.size 0).blk s.M.length = w.heap.size from upd_self _ _ _]; exact run_enterLoop_inner hL0 fn a.tmps ps asg bo, hR.sim.pushLoop hR.tmps fn ps asg bo hd, Stp.alloc hR.sim.hB hR.sim.immlt _ _ _⟩
 ·intro c' M' hE'
  exact hR.dfs.mono (hE1.trans hE')
end Go.Abs
end
