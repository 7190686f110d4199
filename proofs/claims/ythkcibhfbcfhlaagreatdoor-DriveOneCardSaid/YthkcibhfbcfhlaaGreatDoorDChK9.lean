/- Part of a proof, in few files: Abs20f. -/
import Derived.Test.YthkcibhfbcfhlaaGreatDoorDChK8

set_option linter.unusedVariables false
set_option linter.unusedSimpArgs false
set_option linter.unnecessarySimpa false
section
namespace Go.Abs
open Go.RowKit Go.Proofs
variable {P : Program} {GT : Tabs} {ro : Option Nat} {Q : Exit → S → Prop} {s : S}
def RunsC (C : Nat → Oper → List AV → Mem → AV → Mem → Prop) (Ms : Nat → Mem → Prop) (ops : Array Oper) (louds fr : List Nat) : List (Nat × AV × Mem) → List AV → Mem → Prop
 | [], _, _ => True
 | (i, x, M') :: L, T, M => ∃ o, ops[i]? = some o ∧ C i o T M x M' ∧ (louds.contains i = false → M' = M) ∧ ((still o.op || fr.contains i) = true → ∀ M2, Ms i M2 → C i o T M2 x M2) ∧ RunsC C Ms ops louds fr L (aput T o.dst x) M'
theorem RunsC.split {C : Nat → Oper → List AV → Mem → AV → Mem → Prop} {Ms : Nat → Mem → Prop} {ops : Array Oper} {louds fr : List Nat} : ∀ {L1 : List (Nat × AV × Mem)} {L2 : List (Nat × AV × Mem)} {T : List AV} {M : Mem}, RunsC C Ms ops louds fr (L1 ++ L2) T M → RunsC C Ms ops louds fr L2 (stT ops L1 T) (stM L1 M)
 | [], _, _, _, h => h
 | (i, x, m) :: L1, L2, T, M, h => by
  obtain ⟨o, h1, h2, h3, _, h4⟩ := h
  have := RunsC.split h4
  simpa [stT, stM, h1] using this
theorem memE_allC {C : Nat → Oper → List AV → Mem → AV → Mem → Prop} {Ms : Nat → Mem → Prop} {ops : Array Oper} {louds fr : List Nat} {E : Nat → Bool} : ∀ {L : List (Nat × AV × Mem)} {T : List AV} {M : Mem}, RunsC C Ms ops louds fr L T M → (∀ p, p ∈ L → louds.contains p.1 = true → E p.1 = true) → memE louds L M E = stM L M
 | [], _, _, _, _ => rfl
 | (i, x, m) :: L, T, M, h, hE => by
  obtain ⟨o, h1, h2, h3, _, h4⟩ := h
  have ih := memE_allC h4 fun p hp => hE p (by simp [hp])
  simp only [memE, List.foldl_cons, stM] at ih ⊢
  by_cases hl : louds.contains i = true
  ·have e1 : E i = true := hE (i, x, m) (by simp) hl
   rw [e1, hl]; exact ih
  ·have hl' : louds.contains i = false := by simpa using hl
   rw [hl', Bool.and_false, if_neg (by simp), ← h3 hl']; exact ih
theorem AW_drawRunC {C : Nat → Oper → List AV → Mem → AV → Mem → Prop} {Ms : Nat → Mem → Prop} {id : Nat} {ops : Array Oper} {T : List AV} {M M0 Mend : Mem} {D : List Nat} {louds fr : List Nat} {L : List (Nat × AV × Mem)} (hm : P.follows .mixedOrders = true) (zs : List Nat) (μ : (Nat → Bool) → Mem)
  (hcong : ∀ i o T1 T2 M1 x M2, C i o T1 M1 x M2 → T2.length = T1.length → (∀ t, t ∈ o.looksAt ops → T2[t]? = T1[t]?) → C i o T2 M1 x M2)
  (hμ : ∀ i o T1 x E, ops[i]? = some o → i ∉ zs → E i = false → C i o T1 (memE louds L M E) x (memE louds L M (addE E i)) → Can1 P GT ro ops o T1 (μ E) x (μ (addE E i)))
  (hμ0 : μ (fun _ => false) = M0) (hμe : ∀ E, (∀ p, p ∈ L → E p.1 = true) → memE louds L M E = stM L M → μ E = Mend)
  (hch : ∀ z r, zs = z :: r → ∀ k, k ∈ r → edgeIn ops zs k = true) (hok : drawOk ops louds (L.map (·.1) ++ zs) fr = true)
  (hz : ∀ z r, zs = z :: r → ((List.range ops.size).all fun k => zs.contains k || tbit (tblOf ops (L.map (·.1) ++ zs) (List.replicate ops.size 0)) z k) = true ∧ ZGo P GT ro ops zs ⟨stT ops L T, Mend, D⟩ Q)
  (hM : ∀ i, Ms i M) (hMs : ∀ p, p ∈ L → louds.contains p.1 = true → ∀ i, tbit (tblOf ops (L.map (·.1) ++ zs) (List.replicate ops.size 0)) p.1 i = false → Ms i p.2.2) (hr : RunsC C Ms ops louds fr L T M) (hq : zs = [] → Q .normal ⟨stT ops L T, Mend, D⟩) : AW P GT ro (.region id ops true) ⟨T, M0, D⟩ Q := by
 simp only [drawOk, Bool.and_eq_true, List.all_eq_true] at hok
 obtain ⟨hchk, hcov⟩ := hok
 generalize htb : tblOf ops (L.map (·.1) ++ zs) (List.replicate ops.size 0) = tbl at hchk hMs hz
 have hT : TblOK ops tbl := by
  rw [← htb]
  refine (tblOf_ok _ _ ?_ (by simp)).1
  intro E _ i o hi _ k hk
  have hlt := (Array.getElem?_eq_some_iff.1 hi).1
  simp [List.getD_eq_getElem?_getD, hlt] at hk
 -- every operation has its place
 have place : ∀ i o, ops[i]? = some o → i ∉ zs → ∃ L1 x M' L2, L = L1 ++ (i, x, M') :: L2 := by
  intro i o hi hne
  have hlt := (Array.getElem?_eq_some_iff.1 hi).1
  have := hcov i (by simpa using hlt)
  rw [bitsOf, bits_foldl] at this
  have hnz : i ∉ zs := hne
  simp only [Nat.zero_testBit, Bool.false_or, List.contains_eq_mem, decide_eq_true_eq, List.mem_append, hnz, or_false, List.mem_map] at this
  obtain ⟨⟨j, x, M'⟩, hp, rfl⟩ := this
  obtain ⟨L1, L2, e⟩ := List.append_of_mem hp
  exact ⟨L1, x, M', L2, e⟩
 -- what the checks tell at a place
 have told : ∀ L1 i x M' L2, L = L1 ++ (i, x, M') :: L2 → ∃ o, ops[i]? = some o ∧ (L1.map (·.1)).contains i = false ∧ (∀ e, e ∈ o.after → Region.binds .any e = true → (L1.map (·.1)).contains e.on = true ∧ e.on < ops.size) ∧
   (∀ u, u ∈ o.looksAt ops → ∀ k, ownOf ops u = some k → k = i ∨ (if (L1.map (·.1)).contains k then tbit tbl i k = true else tbit tbl k i = true)) ∧
   (((still o.op || fr.contains i) = true ∧ louds.contains i = false) ∨ ∀ k, k ∈ louds → k = i ∨ (if (L1.map (·.1)).contains k then tbit tbl i k = true else tbit tbl k i = true)) ∧ (∀ d, o.dst = some d → ownOf ops d = some i) := by
  intro L1 i x M' L2 e
  have h := hchk
  rw [e, List.map_append, List.map_cons, List.append_assoc, List.cons_append] at h
  have h := chk_split h
  rw [chk, Bool.and_eq_true] at h
  have h := h.1
  cases ho : ops[i]? with
  | none => simp [ho] at h
  | some o =>
   generalize hst : (still o.op || fr.contains i) = st at h
   simp only [ho, hst, Bool.and_eq_true, List.all_eq_true, Bool.or_eq_true, Bool.not_eq_true', bits_foldl, Nat.zero_testBit, Bool.false_or] at h
   obtain ⟨⟨⟨⟨h1, h2⟩, h3⟩, h4⟩, h5⟩ := h
   refine ⟨o, rfl, h1, fun e he hb => ?_, fun u hu k hk => ?_, h4.imp (fun h => by rw [hst]; exact h) fun h4 k hk => ?_, fun d hd => ?_⟩
   ·rcases h2 e (by simpa using he) with q | q
    ·rw [hb] at q; cases q
    ·exact ⟨q.1, by simpa using q.2⟩
   ·have := h3 u hu
    rw [hk] at this
    simp only [Bool.or_eq_true, beq_iff_eq] at this
    rcases this with q | q
    ·exact .inl q
    ·right; split at q <;> simp_all
   ·rcases h4 k hk with q | q
    ·exact .inl (by simpa using q)
    ·right; split at q <;> simp_all
   ·rw [hd] at h5; simpa using h5
 -- what the checks tell of the last ones
 have toldz : ∀ l1 z l2, zs = l1 ++ z :: l2 → ∃ o, ops[z]? = some o ∧ (L.map (·.1)).contains z = false ∧ l1.contains z = false ∧ (∀ e, e ∈ o.after → Region.binds .any e = true → ((L.map (·.1)).contains e.on = true ∨ l1.contains e.on = true) ∧ e.on < ops.size) ∧ (∀ d, o.dst = some d → ownOf ops d = some z) := by
  intro l1 z l2 hzs
  have h := hchk
  rw [hzs, ← List.append_assoc] at h
  have h := chk_split h
  rw [chk, Bool.and_eq_true] at h
  have h := h.1
  cases ho : ops[z]? with
  | none => simp [ho] at h
  | some o =>
   generalize hst : (still o.op || fr.contains z) = st at h
   simp only [ho, hst, Bool.and_eq_true, List.all_eq_true, Bool.or_eq_true, Bool.not_eq_true', bits_foldl, Nat.zero_testBit, Bool.false_or, List.contains_append, Bool.or_eq_false_iff] at h
   obtain ⟨⟨⟨⟨h1, h2⟩, h3⟩, h4⟩, h5⟩ := h
   refine ⟨o, rfl, h1.1, h1.2, fun e he hb => ?_, fun d hd => ?_⟩
   ·rcases h2 e (by simpa using he) with q | q
    ·rw [hb] at q; cases q
    ·exact ⟨q.1, by simpa using q.2⟩
   ·rw [hd] at h5; simpa using h5
 have toldm : ∀ z, z ∈ zs → ∃ o, ops[z]? = some o ∧ (L.map (·.1)).contains z = false ∧ (∀ d, o.dst = some d → ownOf ops d = some z) := by
  intro z hz
  obtain ⟨l1, l2, e⟩ := List.append_of_mem hz
  obtain ⟨o, h1, h2, _, _, h5⟩ := toldz l1 z l2 e
  exact ⟨o, h1, h2, h5⟩
 have hnd : zs.Nodup := by
  have : ∀ (l2 l1 : List Nat), zs = l1 ++ l2 → l2.Nodup := by
   intro l2
   induction l2 with
   | nil => intro _ _; exact List.nodup_nil
   | cons z l2 ih =>
    intro l1 e
    have e2 : zs = (l1 ++ [z]) ++ l2 := by rw [e]; simp
    refine List.nodup_cons.2 ⟨fun hm => ?_, ih _ e2⟩
    obtain ⟨m1, m2, e3⟩ := List.append_of_mem hm
    obtain ⟨_, _, _, h3, _⟩ := toldz (l1 ++ z :: m1) z m2 (by rw [e, e3]; simp)
    simp at h3
  exact this zs [] (by simp)
 have hown : ∀ i o, ops[i]? = some o → (∀ d, o.dst = some d → ownOf ops d = some i) ∧ ∀ t, ownOf ops t = some i → o.dst = some t := by
  intro i o hi
  refine ⟨fun d hd => ?_, fun t ht => ?_⟩
  ·by_cases hzi : i ∈ zs
   ·obtain ⟨o', ho', _, h6⟩ := toldm i hzi
    rw [hi] at ho'; cases ho'
    exact h6 d hd
   obtain ⟨L1, x, M', L2, e⟩ := place i o hi hzi
   obtain ⟨o', ho', _, _, _, _, h6⟩ := told L1 i x M' L2 e
   rw [hi] at ho'; cases ho'
   exact h6 d hd
  ·obtain ⟨o', ho', hd⟩ := ownOf_some ht
   rw [hi] at ho'; cases ho'; exact hd
 have xAt : ∀ L1 i x M' L2, L = L1 ++ (i, x, M') :: L2 → xOf L i = x := by
  intro L1 i x M' L2 e
  obtain ⟨o, _, h2, _⟩ := told L1 i x M' L2 e
  have hn : L1.find? (fun p => p.1 == i) = none := by
   rw [List.find?_eq_none]
   intro p hp hpi
   have : (L1.map (·.1)).contains i = true := by
    simp only [List.contains_eq_mem, decide_eq_true_eq, List.mem_map]
    exact ⟨p, hp, by simpa using hpi⟩
   rw [h2] at this; cases this
  simp [xOf, e, List.find?_append, hn]
 -- the state behind a first part
 have stTT : ∀ L1 L2, L = L1 ++ L2 → stT ops L1 T = TT T (ownOf ops) (xOf L) fun k => (L1.map (·.1)).contains k := by
  intro L1
  generalize hlen : L1.length = len
  induction len generalizing L1 with
  | zero =>
   intro L2 _
   obtain rfl := List.length_eq_zero_iff.1 hlen
   apply List.ext_getElem?
   intro t
   simp only [TT, List.getElem?_mapIdx, stT, List.map_nil]
   cases T[t]? with
   | none => rfl
   | some y => cases ownOf ops t <;> simp
  | succ len ih =>
   intro L2 e
   rcases List.eq_nil_or_concat L1 with rfl | ⟨L1, p, rfl⟩
   ·simp at hlen
   rw [List.concat_eq_append] at e hlen ⊢
   obtain ⟨i, x, M'⟩ := p
   have ih := ih L1 (by simpa using hlen)
   have e' : L = L1 ++ (i, x, M') :: L2 := by simpa using e
   obtain ⟨o, ho, _⟩ := told L1 i x M' L2 e'
   rw [stT_append, ih _ e']
   simp only [stT, ho, Option.bind_some]
   have hx := xAt L1 i x M' L2 e'
   obtain ⟨o1, o2⟩ := hown i o ho
   rw [← hx, TT_add o1 o2, hx]
   congr 1
   funext k
   simp only [addE, List.map_append, List.map_cons, List.map_nil, List.contains_append, List.contains_cons, List.contains_nil, Bool.or_false]
   by_cases hk : k = i
   ·subst hk; simp
   ·simp [hk]
 refine AW_drawZ hm zs hch hnd (fun i => (L.map (·.1) ++ zs).idxOf i) (ownOf ops) (xOf L) μ ?_ hown hμ0 ?_ ?_ ?_ ?_
 ·intro i o e hi he hb
  have key : ∀ (l1 l2 : List Nat), L.map (·.1) ++ zs = l1 ++ i :: l2 → e.on ∈ l1 → i ∉ l1 → (L.map (·.1) ++ zs).idxOf e.on < (L.map (·.1) ++ zs).idxOf i := by
   intro l1 l2 e0 m1 m2
   rw [e0, List.idxOf_append, if_pos m1, List.idxOf_append, if_neg m2]
   have := List.idxOf_lt_length_of_mem m1
   omega
  by_cases hzi : i ∈ zs
  ·obtain ⟨l1, l2, e1⟩ := List.append_of_mem hzi
   obtain ⟨o', ho', h1, h1', h2, _⟩ := toldz l1 i l2 e1
   rw [hi] at ho'; cases ho'
   obtain ⟨q1, q2⟩ := h2 e he hb
   refine ⟨key (L.map (·.1) ++ l1) l2 (by rw [e1]; simp) ?_ ?_, q2⟩
   ·simp only [List.contains_eq_mem, decide_eq_true_eq] at q1
    exact List.mem_append.2 q1
   ·simp only [List.contains_eq_mem, decide_eq_false_iff_not] at h1 h1'
    intro hm
    rcases List.mem_append.1 hm with hm | hm
    ·exact h1 hm
    ·exact h1' hm
  obtain ⟨L1, x, M', L2, e0⟩ := place i o hi hzi
  obtain ⟨o', ho', h2, h3, _⟩ := told L1 i x M' L2 e0
  rw [hi] at ho'; cases ho'
  obtain ⟨q1, q2⟩ := h3 e he hb
  exact ⟨key (L1.map (·.1)) (L2.map (·.1) ++ zs) (by rw [e0]; simp) (by simpa using q1) (by simpa using h2), q2⟩
 ·intro i o hi hzi E hC hpre hE
  obtain ⟨L1, x, M', L2, e0⟩ := place i o hi hzi
  obtain ⟨o', ho', h2, h3, h4, h5, h6⟩ := told L1 i x M' L2 e0
  rw [hi] at ho'; cases ho'
  have hrun : RunsC C Ms ops louds fr ((i, x, M') :: L2) (stT ops L1 T) (stM L1 M) := RunsC.split (e0 ▸ hr)
  obtain ⟨o', ho', hcan, hquiet, hfree, hrest⟩ := hrun
  rw [hi] at ho'; cases ho'
  -- who is ahead has been, who is behind has not
  have ahead : ∀ k, k ≠ i → (if (L1.map (·.1)).contains k then tbit tbl i k = true else tbit tbl k i = true) → (E k = true ↔ (L1.map (·.1)).contains k = true) := by
   intro k hki hk
   split at hk
   ·rename_i hin
    exact ⟨fun _ => hin, fun _ => hT E hC i o hi hpre k hk⟩
   ·rename_i hin
    refine ⟨fun hEk => ?_, fun h => absurd h hin⟩
    exfalso
    by_cases hks : k < ops.size
    ·have := hT E hC k _ (Array.getElem?_eq_getElem hks) (hC k _ (Array.getElem?_eq_getElem hks) hEk) i hk
     rw [hE] at this; cases this
    ·have hz : tbl.length = ops.size := by rw [← htb]; exact (tblOf_ok _ _ (fun E _ i o hi _ k hk => by
      have hlt := (Array.getElem?_eq_some_iff.1 hi).1
      simp [List.getD_eq_getElem?_getD, hlt] at hk) (by simp)).2
     simp [tbit, List.getD_eq_getElem?_getD, List.getElem?_eq_none (show tbl.length ≤ k by omega)] at hk
  have hx := xAt L1 i x M' L2 e0
  have fin : ∀ M1 M2 : Mem, C i o (stT ops L1 T) M1 x M2 → C i o (TT T (ownOf ops) (xOf L) E) M1 x M2 := by
   intro M1 M2 hcan
   refine hcong _ _ _ _ _ _ _ hcan ?_ fun u hu => ?_
   ·rw [stTT L1 _ e0]; simp [TT]
   ·rw [stTT L1 _ e0]
    simp only [TT, List.getElem?_mapIdx]
    cases hTu : T[u]? with
    | none => rfl
    | some y =>
     cases ho : ownOf ops u with
     | none => rfl
     | some k =>
      simp only [Option.map_some]
      by_cases hki : k = i
      ·subst hki
       have hb : E k = (L1.map (·.1)).contains k := by rw [hE, h2]
       simp only [hb]
      ·have := ahead k hki ((h4 u hu k ho).resolve_left hki)
       have hb : E k = (L1.map (·.1)).contains k := by rw [Bool.eq_iff_iff]; exact this
       simp only [hb]
  refine hμ i o _ _ E hi hzi hE ?_
  rcases h5 with ⟨hs, hl⟩ | h5
  ·have same : ∀ (L' : List (Nat × AV × Mem)) (m : Mem), memE louds L' m (addE E i) = memE louds L' m E := by
    intro L'
    induction L' with
    | nil => intros; rfl
    | cons p L' ih =>
     intro m
     simp only [memE, List.foldl_cons] at ih ⊢
     by_cases hp : p.1 = i
     ·rw [hp, hl, Bool.and_false, Bool.and_false]; exact ih _
     ·rw [show addE E i p.1 = E p.1 by simp [addE, hp]]; exact ih _
   rw [same, hx]
   refine fin _ _ (hfree hs _ (memE_in (Ms := Ms i) (hM i) fun p hp hpl hEp => hMs p hp hpl i ?_))
   cases hb : tbit tbl p.1 i with
   | false => rfl
   | true =>
    exfalso
    by_cases hks : p.1 < ops.size
    ·have := hT E hC p.1 _ (Array.getElem?_eq_getElem hks) (hC p.1 _ (Array.getElem?_eq_getElem hks) hEp) i hb
     rw [hE] at this; cases this
    ·have hz : tbl.length = ops.size := by rw [← htb]; exact (tblOf_ok _ _ (fun E _ i o hi _ k hk => by
      have hlt := (Array.getElem?_eq_some_iff.1 hi).1
      simp [List.getD_eq_getElem?_getD, hlt] at hk) (by simp)).2
     simp [tbit, List.getD_eq_getElem?_getD, List.getElem?_eq_none (show tbl.length ≤ p.1 by omega)] at hb
  have hmem : memE louds L M E = stM L1 M := by
   rw [e0, memE, List.foldl_append]
   have a1 := memE_allC (C := C) (Ms := Ms) (E := E) (L := L1) (T := T) (M := M) (louds := louds) (ops := ops) (fr := fr) (by
    have : ∀ {L1 L2 : List (Nat × AV × Mem)} {T : List AV} {M : Mem}, RunsC C Ms ops louds fr (L1 ++ L2) T M → RunsC C Ms ops louds fr L1 T M := by
     intro L1
     induction L1 with
     | nil => intros; trivial
     | cons p L1 ih => intro L2 T M ⟨o, q1, q2, q3, qf, q4⟩; exact ⟨o, q1, q2, q3, qf, ih q4⟩
    exact this (e0 ▸ hr)) (fun p hp hl => by
    have hpl : p.1 ∈ louds := by simpa using hl
    have hin : (L1.map (·.1)).contains p.1 = true := by simp only [List.contains_eq_mem, decide_eq_true_eq, List.mem_map]; exact ⟨p, hp, rfl⟩
    have hne : p.1 ≠ i := fun e => by rw [e, h2] at hin; cases hin
    exact (ahead p.1 hne ((h5 p.1 hpl).resolve_left hne)).2 hin)
   rw [memE] at a1
   rw [a1]
   refine memE_none (L := (i, x, M') :: L2) fun p hp hl => ?_
   rcases List.mem_cons.1 hp with rfl | hp
   ·exact hE
   ·have hpl : p.1 ∈ louds := by simpa using hl
    by_cases hne : p.1 = i
    ·rw [hne]; exact hE
    ·have := ahead p.1 hne ((h5 p.1 hpl).resolve_left hne)
     have hout : (L1.map (·.1)).contains p.1 = false := by
      obtain ⟨L3, L4, e3⟩ := List.append_of_mem hp
      obtain ⟨p1, p2, p3⟩ := p
      obtain ⟨_, _, hh, _⟩ := told (L1 ++ (i, x, M') :: L3) p1 p2 p3 L4 (by rw [e0, e3]; simp)
      simp only [List.map_append, List.contains_append, Bool.or_eq_false_iff] at hh
      exact hh.1
     cases hEp : E p.1 with
     | false => rfl
     | true => rw [this.1 hEp] at hout; cases hout
  have hmem2 : memE louds L M (addE E i) = M' := by
   have split3 : ∀ F : Nat → Bool, memE louds L M F = memE louds L2 (if F i && louds.contains i then M' else memE louds L1 M F) F := by
    intro F; rw [e0]; simp only [memE, List.foldl_append, List.foldl_cons]
   have out2 : ∀ p, p ∈ L2 → p.1 ≠ i := by
    intro p hp hpi
    obtain ⟨L3, L4, e3⟩ := List.append_of_mem hp
    obtain ⟨p1, p2, p3⟩ := p
    obtain ⟨_, _, hh, _⟩ := told (L1 ++ (i, x, M') :: L3) p1 p2 p3 L4 (by rw [e0, e3]; simp)
    simp at hpi; subst hpi
    simp at hh
   have out1 : ∀ p, p ∈ L1 → p.1 ≠ i := by
    intro p hp hpi
    have hin : (L1.map (·.1)).contains i = true := by simp only [List.contains_eq_mem, decide_eq_true_eq, List.mem_map]; exact ⟨p, hp, hpi⟩
    rw [h2] at hin; cases hin
   have same : ∀ (L' : List (Nat × AV × Mem)) (m : Mem), (∀ p, p ∈ L' → p.1 ≠ i) → memE louds L' m (addE E i) = memE louds L' m E := by
    intro L'
    induction L' with
    | nil => intros; rfl
    | cons p L' ih =>
     intro m hp
     simp only [memE, List.foldl_cons] at ih ⊢
     rw [show addE E i p.1 = E p.1 by simp [addE, hp p (by simp)]]
     exact ih _ fun q hq => hp q (by simp [hq])
   have hl2 : ∀ m, memE louds L2 m E = m := fun m => memE_none fun p hp hl => by
    have hpl : p.1 ∈ louds := by simpa using hl
    have := ahead p.1 (out2 p hp) ((h5 p.1 hpl).resolve_left (out2 p hp))
    have hout : (L1.map (·.1)).contains p.1 = false := by
     obtain ⟨L3, L4, e3⟩ := List.append_of_mem hp
     obtain ⟨p1, p2, p3⟩ := p
     obtain ⟨_, _, hh, _⟩ := told (L1 ++ (i, x, M') :: L3) p1 p2 p3 L4 (by rw [e0, e3]; simp)
     simp only [List.map_append, List.contains_append, Bool.or_eq_false_iff] at hh
     exact hh.1
    cases hEp : E p.1 with
    | false => rfl
    | true => rw [this.1 hEp] at hout; cases hout
   rw [split3, same L2 _ out2, hl2, same L1 _ out1]
   have hb : memE louds L1 M E = stM L1 M := by
    have := hmem
    rw [split3, hE, Bool.false_and, if_neg (by simp), hl2] at this
    exact this
   by_cases hl : louds.contains i = true
   ·rw [hl]; simp [addE]
   ·have hl' : louds.contains i = false := by simpa using hl
    rw [hl', Bool.and_false, if_neg (by simp), hb]
    exact (hquiet hl').symm
  rw [hmem, hmem2, hx]
  exact fin _ _ hcan
 ·intro z r hzs o hi E hC hpre hE
  obtain ⟨hmask, hAL⟩ := hz z r hzs
  have hall : ∀ k, k < ops.size → k ∉ zs → E k = true := by
   intro k hk hkz
   have := List.all_eq_true.1 hmask k (by simpa using hk)
   rw [Bool.or_eq_true, List.contains_iff_mem] at this
   exact hT E hC z o hi hpre k (this.resolve_left hkz)
  refine ⟨hall, ?_⟩
  have hallL : ∀ p, p ∈ L → E p.1 = true := by
   intro p hp
   obtain ⟨L1, L2, e⟩ := List.append_of_mem hp
   obtain ⟨i, x, M'⟩ := p
   obtain ⟨o', ho', _⟩ := told L1 i x M' L2 e
   refine hall i (Array.getElem?_eq_some_iff.1 ho').1 fun hiz => ?_
   have : (L.map (·.1)).contains i = true := by simp only [List.contains_eq_mem, decide_eq_true_eq, List.mem_map]; exact ⟨_, hp, rfl⟩
   obtain ⟨_, _, h2, _⟩ := toldm i hiz
   rw [h2] at this; cases this
  rw [hμe E hallL (memE_allC hr fun p hp _ => hallL p hp)]
  have : TT T (ownOf ops) (xOf L) E = stT ops L T := by
   rw [stTT L [] (by simp)]
   apply List.ext_getElem?
   intro t
   simp only [TT, List.getElem?_mapIdx]
   cases T[t]? with
   | none => rfl
   | some y =>
    cases ho : ownOf ops t with
    | none => rfl
    | some k =>
     obtain ⟨o', h1, h2⟩ := ownOf_some ho
     have hk := (Array.getElem?_eq_some_iff.1 h1).1
     by_cases hkz : k ∈ zs
     ·obtain ⟨_, _, h2, _⟩ := toldm k hkz
      simp only [Option.map_some, hE k hkz, h2]
     ·obtain ⟨L1, x, M', L2, e⟩ := place k o' h1 hkz
      have : (L.map (·.1)).contains k = true := by simp only [List.contains_eq_mem, decide_eq_true_eq, List.mem_map]; exact ⟨(k, x, M'), by rw [e]; simp, rfl⟩
      simp only [Option.map_some, hall k hk hkz, this]
  rw [this]; exact hAL
 ·intro z hzo
  obtain ⟨o', ho', _⟩ := toldm z hzo
  exact (Array.getElem?_eq_some_iff.1 ho').1
 ·intro hno E hE
  have hall : ∀ p, p ∈ L → E p.1 = true := by
   intro p hp
   obtain ⟨L1, L2, e⟩ := List.append_of_mem hp
   obtain ⟨i, x, M'⟩ := p
   obtain ⟨o, ho, _⟩ := told L1 i x M' L2 e
   exact hE i (Array.getElem?_eq_some_iff.1 ho).1
  rw [hμe E hall (memE_allC hr fun p hp _ => hall p hp)]
  have : TT T (ownOf ops) (xOf L) E = stT ops L T := by
   rw [stTT L [] (by simp)]
   apply List.ext_getElem?
   intro t
   simp only [TT, List.getElem?_mapIdx]
   cases T[t]? with
   | none => rfl
   | some y =>
    cases ho : ownOf ops t with
    | none => rfl
    | some k =>
     obtain ⟨o, h1, h2⟩ := ownOf_some ho
     have hk := hE k (Array.getElem?_eq_some_iff.1 h1).1
     obtain ⟨L1, x, M', L2, e⟩ := place k o h1 (by rw [hno]; simp)
     have : (L.map (·.1)).contains k = true := by simp only [List.contains_eq_mem, decide_eq_true_eq, List.mem_map]; exact ⟨(k, x, M'), by rw [e]; simp, rfl⟩
     simp only [Option.map_some, hk, this]
  rw [this]; exact hq hno
theorem alloc_at {B : Nat} {I0 : Nat → Prop} {c : Ctx} {M : Mem} {w : World} {t : TypeId} {x : AV} {xs : List AV} {p sz : Nat} (hS : Sim B I0 c M w) (hz : zeroOf P t = some x) (hc : x.cells = some xs) (hp : M[p]? = some (.vrow sz 0)) :
  Out P B I0 c M w (Instr.alloc t true (.tuple #[])) (.ptr p 0 1) (M.set p (.cells xs 1 1 false)) := by
 obtain ⟨v, h1, h2⟩ := zeroOf_ok hz w
 obtain ⟨hv, xs', hx1, hok, hsz⟩ := zAV_ok (c := c) (M := M) (w := w) h2
 rw [hc] at hx1; cases hx1
 obtain ⟨k1, k2⟩ := hv.cells hc hok
 have hb := (List.getElem?_eq_some_iff.1 hp).1
 have hM' : (M.set p (.cells xs 1 1 false))[p]? = some (.cells xs 1 1 false) := List.getElem?_set_self hb
 have hE : Ext c M (c.move p w.heap.size v.cells.size) (M.set p (.cells xs 1 1 false)) := Ext.move (o' := .cells xs 1 1 false) hp rfl (by simp [Ob.ver]) _ _
 have hs : Stp B c w (c.move p w.heap.size v.cells.size) (w.alloc (.cells v.cells t)) := Stp.alloc hS.hB hS.immlt _ _ _
 have hS' := hS.move hp (o' := .cells xs 1 1 false) rfl (by simp [Ob.ver]) (.cells v.cells t) v.cells.size (by
  refine ⟨v.cells, t, ?_, (upd_self _ _ _).symm, by omega, fun j y hj => ?_⟩
  ·show (w.alloc _).heap[upd c.blk p w.heap.size p]? = _
   rw [upd_self]; exact World.alloc_heap_new _ _
  ·have hjl : j < v.cells.size := by rw [k1]; exact (List.getElem?_eq_some_iff.1 hj).1
   exact ⟨v.cells[j], Array.getElem?_eq_getElem hjl, (k2 j _ y (Array.getElem?_eq_getElem hjl) hj).mono hE hs⟩)
 refine ⟨.pointer (some ⟨w.heap.size, 0, none⟩), _, _, ?_, ?_, hS', hE, hs⟩
 ·simp [Instr.alloc, h1, newVar, newRow]
 ·have e : (.pointer (some ⟨w.heap.size, 0, none⟩) : Value) = .pointer (some ⟨(c.move p w.heap.size v.cells.size).blk p, 0, none⟩) := by
   show _ = Value.pointer (some ⟨upd c.blk p w.heap.size p, 0, none⟩)
   rw [upd_self]
  rw [e]
  exact .ptr _ _ _ _ (by simpa using hb) (by rw [verOf_some hM']; exact Nat.le_refl _) (fun _ => rfl)
theorem Can1_allocAt {ops : Array Oper} {o : Oper} {T : List AV} {M : Mem} {t : TypeId} {x : AV} {xs : List AV} {p sz : Nat} (hg : aGuard ops T o = some true) (ho : o.op = .alloc t) (hz : zeroOf P t = some x) (hc : x.cells = some xs) (hp : M[p]? = some (.vrow sz 0)) :
  Can1 P GT ro ops o T M (.ptr p 0 1) (M.set p (.cells xs 1 1 false)) := by
 intro B I0 c a w n KK QQ hS hG hob hl hT hK
 have hT' := sieve_rep hl hT
 rw [← sieve_guard] at hg
 have hw := aGuard_ok hT' hg
 rw [if_pos hw]
 obtain ⟨v', w', c', h1, h3, h4, h5, h6⟩ := alloc_at (P := P) hS hz hc hp
 refine ⟨fun _ _ => fen_fn _ _ _, ?_⟩
 have hd : ∀ k, o.op ≠ .defer k := by intro k e; rw [e] at ho; cases ho
 have e : (o.semAt (fen c ro).round a.eval) = execOp a.eval o := Oper.semAt_eq _ _ _ hd
 have e2 : (execOp a.eval o).run P w = .ok (.value v') w' := by
  have h1' : (Instr.alloc t true (.tuple #[])).run P w = .ok v' w' := h1
  simp [execOp, ho, h1']
 rw [e, e2]
 exact hK c' v' w' h4 h3 h5 h6
theorem AW_pushV {code : Code} {T : List AV} {M : Mem} {D : List Nat} (sz ver : Nat) (h : AW P GT ro code ⟨T, M ++ [.vrow sz ver], D⟩ Q) : AW P GT ro code ⟨T, M, D⟩ Q := by
 intro B I0 c a w n hR ho
 obtain ⟨h1, h2⟩ := hR.sim.pushV sz ver
 exact wpIn_mono (h B I0 c a w n ⟨h1, hR.glob.mono (Stp.refl B _ _), hR.tmps.mono h2 (Stp.refl B _ _), hR.dfs.mono h2⟩ fun l hl => h2.obj l (ho l hl)) fun _ _ _ hq => hq.from h2 (Stp.refl _ _ _)
def CA (P : Program) (GT : Tabs) (ro : Option Nat) (ops : Array Oper) (z p : Nat) (ob : Ob) (i : Nat) (o : Oper) (T : List AV) (M : Mem) (x : AV) (M' : Mem) : Prop :=
 if i = z then M' = M ∧ Can1 P GT ro ops o T M x (M.set p ob) else Can1 P GT ro ops o T M x M' ∧ Can1 P GT ro ops o T (M.set p ob) x (M'.set p ob)
theorem memE_quiet {louds : List Nat} {E : Nat → Bool} {i : Nat} (hl : louds.contains i = false) : ∀ (L : List (Nat × AV × Mem)) (m : Mem), memE louds L m (addE E i) = memE louds L m E := by
 intro L'
 induction L' with
 | nil => intros; rfl
 | cons p L' ih =>
  intro m
  simp only [memE, List.foldl_cons] at ih ⊢
  by_cases hp : p.1 = i
  ·rw [hp, hl, Bool.and_false, Bool.and_false]; exact ih _
  ·rw [show addE E i p.1 = E p.1 by simp [addE, hp]]; exact ih _
theorem AW_drawA {Ms : Nat → Mem → Prop} {id : Nat} {ops : Array Oper} {T : List AV} {M : Mem} {D : List Nat} {louds fr : List Nat} {L : List (Nat × AV × Mem)} {z l : Nat} {p : Nat} {ob : Ob} {ol : Oper} (hm : P.follows .mixedOrders = true)
  (hzl : louds.contains z = false) (hzL : (L.map (·.1)).contains z = true) (hol : ops[l]? = some ol) (hch : chainOk ops [l] = true) (hok : drawOk ops louds (L.map (·.1) ++ [l]) fr = true)
  (hmask : ((List.range ops.size).all fun k => [l].contains k || tbit (tblOf ops (L.map (·.1) ++ [l]) (List.replicate ops.size 0)) l k) = true)
  (hM : ∀ i, Ms i M) (hMs : ∀ p, p ∈ L → louds.contains p.1 = true → ∀ i, tbit (tblOf ops (L.map (·.1) ++ [l]) (List.replicate ops.size 0)) p.1 i = false → Ms i p.2.2)
  (hr : RunsC (CA P GT ro ops z p ob) Ms ops louds fr L T M) (hq : AL P GT ro ops [ol] ⟨stT ops L T, (stM L M).set p ob, D⟩ Q) : AW P GT ro (.region id ops true) ⟨T, M, D⟩ Q := by
 refine AW_drawRunC (C := CA P GT ro ops z p ob) (Ms := Ms) (M := M) (Mend := (stM L M).set p ob) hm [l] (fun E => if E z = true then (memE louds L M E).set p ob else memE louds L M E) ?_ ?_ ?_ ?_ ?_ hok ?_ hM hMs hr (fun h => by cases h)
 ·intro i o T1 T2 M1 x M2 h hl ha
  unfold CA at h ⊢
  split
  ·rename_i e; rw [if_pos e] at h; exact ⟨h.1, h.2.congr hl ha⟩
  ·rename_i e; rw [if_neg e] at h; exact ⟨h.1.congr hl ha, h.2.congr hl ha⟩
 ·intro i o T1 x E ho hi hE h
  unfold CA at h
  by_cases e : i = z
  ·subst e
   rw [if_pos rfl] at h
   have e2 : addE E i i = true := by simp [addE]
   simp only [hE, e2, if_true, Bool.false_eq_true, if_false]
   rw [memE_quiet hzl]
   exact h.2
  ·rw [if_neg e] at h
   have e2 : addE E i z = E z := by simp [addE, show ¬ z = i from fun h => e h.symm]
   simp only [e2]
   cases E z with
   | false => simpa using h.1
   | true => simpa using h.2
 ·simp only [Bool.false_eq_true, if_false]
  exact memE_none fun _ _ _ => rfl
 ·intro E hE hm'
  have hzE : E z = true := by
   simp only [List.contains_eq_mem, decide_eq_true_eq, List.mem_map] at hzL
   obtain ⟨p, hp, e⟩ := hzL
   rw [← e]; exact hE p hp
  simp only [hzE, if_true]; rw [hm']
 ·intro z' r h k hk
  cases h; cases hk
 ·intro z' r h
  cases h
  refine ⟨hmask, ZGo.chain hch ?_⟩
  simp only [List.filterMap_cons, hol, List.filterMap_nil]
  exact hq
theorem frozen_of {B : Nat} {I0 : Nat → Prop} {c : Ctx} {M : Mem} {w : World} {s : Sem Value} {x : PD} {n : Nat} {ob : Ob} (hS : Sim B I0 c M w) (h : Sim w.heap.size c.imm c [] w → Out P w.heap.size c.imm c [] w s (.own 0 n 0) [ob]) (hx : ownPD [ob] 0 n 0 = some x) : Out P B I0 c M w s (.pd x) M := by
 have S0 : Sim w.heap.size c.imm c [] w := ⟨fun i hi => absurd hi.lt (by simp), fun i j hi => absurd hi.lt (by simp), fun _ h => h, fun _ h _ => h, hS.immlt, fun i o hi => by simp at hi, fun i o hi => by simp at hi, Nat.le_refl _⟩
 obtain ⟨v', w', c1, h1, h2, h3, h4, h5⟩ := h S0
 have hG := hS.grown h5.below
 refine ⟨v', w', c.grown w w', h1, .pd _ _ (ownPD_ok h3 h2 hx (fun k hk => ?_) fun hr => ?_), hG, Ext.grown _ _ _, Stp.grown hS.hB hS.immlt h5.below⟩
 ·by_cases hk2 : k < w.heap.size
  ·exact .inl (h3.immB k hk hk2)
  ·exact .inr ⟨by omega, h3.immlt k hk⟩
 ·exact .inr ⟨h3.blkB 0 hr, h3.lt hr⟩
def mkPlain (P : Program) (GT : Tabs) (ops : Array Oper) (o : Oper) (T : List AV) : Option AV :=
 match aGuard ops T o, o.op with
 | some true, .makeSlice t l k =>
  match aev GT T l, aev GT T k with
  | .pd a, .pd b => (match aMake P [] t (.pd a) (.pd b) with
   | some (.own 0 n 0, [ob]) => (match ownPD [ob] 0 n 0 with | some x => some (.pd x) | none => none)
   | _ => none)
  | _, _ => none
 | _, _ => none
theorem mkPlain_ok {ops : Array Oper} {o : Oper} {T : List AV} {x : AV} (h : mkPlain P GT ops o T = some x) (M : Mem) : Can1 P GT ro ops o T M x M := by
 unfold mkPlain at h
 split at h
 case h_2 => cases h
 rename_i t l k hg ho
 split at h
 case h_2 => cases h
 rename_i av bv hl hk
 split at h
 case h_2 => cases h
 rename_i n ob hmk
 split at h
 case h_2 => cases h
 rename_i y hy
 cases h
 intro B I0 c w0 w m KK QQ hS hG hob hl' hT hK
 have hT' := sieve_rep hl' hT
 have hR : Rel GT B I0 c ⟨sieve ops o T, M, []⟩ { w0 with defers := [] } w := ⟨hS, hG, hT', rfl, List.nodup_nil, by simp⟩
 rw [← sieve_guard] at hg
 have hw := aGuard_ok hT' hg
 rw [if_pos hw]
 have e1 := hR.ev l
 have e2 := hR.ev k
 have m1 : l ∈ o.op.operands := by rw [ho]; simp [Op.operands]
 have m2 : k ∈ o.op.operands := by rw [ho]; simp [Op.operands]
 rw [sieve_ev m1, hl] at e1
 rw [sieve_ev m2, hk] at e2
 have p1 : ARep c [] w (w0.eval l) (.pd av) := e1.pure (by simp [AV.pure]) (fun _ h => h) (Kept.refl _ _)
 have p2 : ARep c [] w (w0.eval k) (.pd bv) := e2.pure (by simp [AV.pure]) (fun _ h => h) (Kept.refl _ _)
 have hd : ∀ k, o.op ≠ .defer k := by intro k e; rw [ho] at e; cases e
 have e : (o.semAt (fen c ro).round w0.eval) = execOp w0.eval o := Oper.semAt_eq _ _ _ hd
 refine ⟨fun _ _ => fen_fn _ _ _, ?_⟩
 obtain ⟨v', w', c', h1, h2, h3, h4, h5⟩ := frozen_of (P := P) hS (fun S0 => aMake_ok S0 p1 p2 hmk) hy
 have e2 : (execOp w0.eval o).run P w = .ok (.value v') w' := by
  have h1' : (Instr.makeSlice t (w0.eval l) (w0.eval k)).run P w = .ok v' w' := h1
  simp [execOp, ho, h1']
 rw [e, e2]
 exact hK c' v' w' h3 h2 h4 h5
end Go.Abs
end
