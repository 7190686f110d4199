/- Part of a proof, in few files: Abs20. -/
import Derived.Test.YthkcibhfbcfhlaaGreatDoorDChK7

set_option linter.unusedVariables false
set_option linter.unusedSimpArgs false
set_option linter.unnecessarySimpa false
section
namespace Go.Abs
open Go.RowKit Go.Proofs
variable {P : Program} {GT : Tabs} {ro : Option Nat} {Q : Exit → S → Prop} {s : S}
def maskOf (tbl : List Nat) (o : Oper) : Nat := o.after.toList.foldl (fun m e => if Region.binds .any e then m ||| (1 <<< e.on) ||| tbl.getD e.on 0 else m) 0
def tblOf (ops : Array Oper) : List Nat → List Nat → List Nat
 | [], tbl => tbl
 | i :: r, tbl => tblOf ops r (match ops[i]? with | some o => tbl.set i (maskOf tbl o) | none => tbl)
def TblOK (ops : Array Oper) (tbl : List Nat) : Prop := ∀ E, Closed ops E → ∀ i o, ops[i]? = some o → (∀ e, e ∈ o.after → Region.binds .any e = true → E e.on = true) → ∀ k, (tbl.getD i 0).testBit k = true → E k = true
theorem maskOf_ok {ops : Array Oper} {tbl : List Nat} (ht : TblOK ops tbl) {E : Nat → Bool} (hC : Closed ops E) (hlt : ∀ k, E k = true → k < ops.size ∨ ∀ j, ((tbl.getD k 0).testBit j) = false) {o : Oper} (h : ∀ e, e ∈ o.after → Region.binds .any e = true → E e.on = true) {k : Nat} (hk : (maskOf tbl o).testBit k = true) : E k = true := by
 have key : ∀ (l : List Edge) (m : Nat), (∀ e, e ∈ l → Region.binds .any e = true → E e.on = true) → (∀ k, m.testBit k = true → E k = true) → ∀ k, (l.foldl (fun m e => if Region.binds .any e then m ||| (1 <<< e.on) ||| tbl.getD e.on 0 else m) m).testBit k = true → E k = true := by
  intro l
  induction l with
  | nil => intro m _ hm k hk; exact hm k hk
  | cons e l ih =>
   intro m hl hm k hk
   rw [List.foldl_cons] at hk
   refine ih _ (fun e' he' => hl e' (by simp [he'])) ?_ k hk
   intro j hj
   split at hj
   ·rename_i hb
    have hon := hl e (by simp) hb
    rw [Nat.testBit_or, Nat.testBit_or, Bool.or_eq_true, Bool.or_eq_true] at hj
    rcases hj with (hj | hj) | hj
    ·exact hm j hj
    ·rw [Nat.one_shiftLeft, Nat.testBit_two_pow] at hj
     have : e.on = j := by simpa using hj
     rw [← this]; exact hon
    ·rcases hlt _ hon with hs | hz
     ·exact ht E hC e.on _ (Array.getElem?_eq_getElem hs) (fun e' he' hb' => hC e.on _ (Array.getElem?_eq_getElem hs) hon e' he' hb') j hj
     ·rw [hz j] at hj; cases hj
   ·exact hm j hj
 exact key _ 0 (fun e he => h e (by simpa using he)) (by simp) k hk
theorem tblOf_ok {ops : Array Oper} : ∀ (ord tbl : List Nat), TblOK ops tbl → tbl.length = ops.size → TblOK ops (tblOf ops ord tbl) ∧ (tblOf ops ord tbl).length = ops.size
 | [], tbl, h, hl => ⟨h, hl⟩
 | i :: r, tbl, h, hl => by
  unfold tblOf
  refine tblOf_ok r _ ?_ ?_
  ·cases ho : ops[i]? with
   | none => exact h
   | some o =>
    intro E hC j oj hj hpre k hk
    by_cases e : i = j
    ·subst e
     rw [ho] at hj; cases hj
     have hlt := (Array.getElem?_eq_some_iff.1 ho).1
     simp only [List.getD_eq_getElem?_getD, List.getElem?_set_self (show i < tbl.length by omega), Option.getD_some] at hk
     refine maskOf_ok h hC (fun k _ => ?_) hpre hk
     by_cases hk : k < ops.size
     ·exact .inl hk
     ·right; intro j; simp [List.getD_eq_getElem?_getD, List.getElem?_eq_none (show tbl.length ≤ k by omega)]
    ·simp only [List.getD_eq_getElem?_getD, List.getElem?_set_ne e] at hk
     exact h E hC j oj hj hpre k (by simpa [List.getD_eq_getElem?_getD] using hk)
  ·cases ops[i]? <;> simp [hl]
def ownOf (ops : Array Oper) (t : Nat) : Option Nat := (ops.toList.zipIdx.find? fun p => p.1.dst == some t).map (·.2)
theorem ownOf_some {ops : Array Oper} {t i : Nat} (h : ownOf ops t = some i) : ∃ o, ops[i]? = some o ∧ o.dst = some t := by
 simp only [ownOf, Option.map_eq_some_iff] at h
 obtain ⟨p, hp, rfl⟩ := h
 have h1 := List.find?_some hp
 have h2 := List.mem_of_find?_eq_some hp
 obtain ⟨o, i⟩ := p
 have := List.mem_zipIdx h2
 refine ⟨o, ?_, by simpa using h1⟩
 have h3 := List.mk_mem_zipIdx_iff_getElem?.1 h2
 simpa using h3
def tbit (tbl : List Nat) (i k : Nat) : Bool := (tbl.getD i 0).testBit k
def still : Op → Bool
 | .binOp _ _ _ y _ => !isNilK y
 | .move _ | .assign _ | .pick .. | .unOp .. | .extract .. | .field .. | .index .. => true
 | _ => false
theorem still_any {ρ : Operand → AV} {M M' : Mem} {op : Op} {x : AV} (hs : still op = true) (h : aop P ρ M op = some (x, M')) : M' = M ∧ ∀ M2, aop P ρ M2 op = some (x, M2) := by
 have same : ∀ {α : Option AV}, α.map (·, M) = some (x, M') → M' = M ∧ ∀ M2 : Mem, α.map (·, M2) = some (x, M2) := by
  intro α h
  rw [Option.map_eq_some_iff] at h
  obtain ⟨a, h1, h2⟩ := h
  cases h2; exact ⟨rfl, fun M2 => by rw [h1]; rfl⟩
 cases op <;> simp only [still, Bool.false_eq_true] at hs <;> simp only [aop] at h ⊢ <;> first
  | exact same h
  | (cases h; exact ⟨rfl, fun _ => rfl⟩)
  | skip
 ·split at h
  ·cases h; exact ⟨rfl, fun _ => rfl⟩
  ·cases h
 ·have hy := Bool.not_eq_true' _ ▸ hs
  simp only [hy, cond_false] at h ⊢
  exact same h
def chk (ops : Array Oper) (tbl louds fr : List Nat) : Nat → List Nat → Bool
 | _, [] => true
 | seen, i :: r =>
  (match ops[i]? with
   | none => false
   | some o => !seen.testBit i && (o.after.toList.all fun e => !Region.binds .any e || (seen.testBit e.on && Nat.blt e.on ops.size)) &&
    ((o.looksAt ops).all fun u => match ownOf ops u with | none => true | some k => k == i || (if seen.testBit k then tbit tbl i k else tbit tbl k i)) &&
    (((still o.op || fr.contains i) && !louds.contains i) || louds.all fun k => k == i || (if seen.testBit k then tbit tbl i k else tbit tbl k i)) && (match o.dst with | some d => ownOf ops d == some i | none => true)) && chk ops tbl louds fr (seen ||| (1 <<< i)) r
def RunsM (Ms : Nat → Mem → Prop) (P : Program) (GT : Tabs) (ro : Option Nat) (ops : Array Oper) (louds fr : List Nat) : List (Nat × AV × Mem) → List AV → Mem → Prop
 | [], _, _ => True
 | (i, x, M') :: L, T, M => ∃ o, ops[i]? = some o ∧ Can1 P GT ro ops o T M x M' ∧ (louds.contains i = false → M' = M) ∧ ((still o.op || fr.contains i) = true → ∀ M2, Ms i M2 → Can1 P GT ro ops o T M2 x M2) ∧ RunsM Ms P GT ro ops louds fr L (aput T o.dst x) M'
def stT (ops : Array Oper) : List (Nat × AV × Mem) → List AV → List AV
 | [], T => T
 | (i, x, _) :: L, T => stT ops L (aput T ((ops[i]?).bind (·.dst)) x)
def stM : List (Nat × AV × Mem) → Mem → Mem
 | [], M => M
 | (_, _, M') :: L, _ => stM L M'
theorem stT_append {ops : Array Oper} : ∀ (L1 L2 : List (Nat × AV × Mem)) (T : List AV), stT ops (L1 ++ L2) T = stT ops L2 (stT ops L1 T)
 | [], _, _ => rfl
 | (i, x, m) :: L1, L2, T => stT_append L1 L2 _
theorem RunsM.split {Ms : Nat → Mem → Prop} {ops : Array Oper} {louds fr : List Nat} : ∀ {L1 : List (Nat × AV × Mem)} {L2 : List (Nat × AV × Mem)} {T : List AV} {M : Mem}, RunsM Ms P GT ro ops louds fr (L1 ++ L2) T M → RunsM Ms P GT ro ops louds fr L2 (stT ops L1 T) (stM L1 M)
 | [], _, _, _, h => h
 | (i, x, m) :: L1, L2, T, M, h => by
  obtain ⟨o, h1, h2, h3, _, h4⟩ := h
  have := RunsM.split h4
  simpa [stT, stM, h1] using this
def memE (louds : List Nat) (L : List (Nat × AV × Mem)) (M : Mem) (E : Nat → Bool) : Mem := L.foldl (fun m p => if E p.1 && louds.contains p.1 then p.2.2 else m) M
theorem memE_all {Ms : Nat → Mem → Prop} {ops : Array Oper} {louds fr : List Nat} {E : Nat → Bool} : ∀ {L : List (Nat × AV × Mem)} {T : List AV} {M : Mem}, RunsM Ms P GT ro ops louds fr L T M → (∀ p, p ∈ L → louds.contains p.1 = true → E p.1 = true) → memE louds L M E = stM L M
 | [], _, _, _, _ => rfl
 | (i, x, m) :: L, T, M, h, hE => by
  obtain ⟨o, h1, h2, h3, _, h4⟩ := h
  have ih := memE_all h4 fun p hp => hE p (by simp [hp])
  simp only [memE, List.foldl_cons, stM] at ih ⊢
  by_cases hl : louds.contains i = true
  ·have e1 : E i = true := hE (i, x, m) (by simp) hl
   rw [e1, hl]; exact ih
  ·have hl' : louds.contains i = false := by simpa using hl
   rw [hl', Bool.and_false, if_neg (by simp), ← h3 hl']; exact ih
theorem memE_none {louds : List Nat} {E : Nat → Bool} : ∀ {L : List (Nat × AV × Mem)} {M : Mem}, (∀ p, p ∈ L → louds.contains p.1 = true → E p.1 = false) → memE louds L M E = M
 | [], _, _ => rfl
 | (i, x, m) :: L, M, hE => by
  have ih := memE_none (louds := louds) (E := E) (L := L) (M := M) fun p hp => hE p (by simp [hp])
  simp only [memE, List.foldl_cons] at ih ⊢
  by_cases hl : louds.contains i = true
  ·have e1 : E i = false := hE (i, x, m) (by simp) hl
   rw [e1, Bool.false_and, if_neg (by simp)]; exact ih
  ·rw [show louds.contains i = false by simpa using hl, Bool.and_false, if_neg (by simp)]; exact ih
theorem memE_in {Ms : Mem → Prop} {louds : List Nat} {E : Nat → Bool} : ∀ {L : List (Nat × AV × Mem)} {M : Mem}, Ms M → (∀ p, p ∈ L → louds.contains p.1 = true → E p.1 = true → Ms p.2.2) → Ms (memE louds L M E)
 | [], _, h, _ => h
 | p :: L, M, h, hl => by
  simp only [memE, List.foldl_cons]
  refine memE_in (L := L) ?_ fun q hq => hl q (by simp [hq])
  split
  ·rename_i h'
   simp only [Bool.and_eq_true] at h'
   exact hl p (by simp) h'.2 h'.1
  ·exact h
def bitsOf (l : List Nat) : Nat := l.foldl (fun m i => m ||| (1 <<< i)) 0
theorem bits_foldl : ∀ (l : List Nat) (m k : Nat), (l.foldl (fun m i => m ||| (1 <<< i)) m).testBit k = (m.testBit k || l.contains k)
 | [], m, k => by simp
 | i :: l, m, k => by
  rw [List.foldl_cons, bits_foldl l, Nat.testBit_or, Nat.one_shiftLeft, Nat.testBit_two_pow, List.contains_cons, Bool.or_assoc]
  congr 2
  by_cases h : i = k
  ·subst h; simp
  ·have h' : ¬ k = i := fun e => h e.symm
   simp [h, h']
theorem chk_split {ops : Array Oper} {tbl louds fr : List Nat} : ∀ {l1 : List Nat} {i : Nat} {l2 : List Nat} {seen : Nat}, chk ops tbl louds fr seen (l1 ++ i :: l2) = true → chk ops tbl louds fr (l1.foldl (fun m i => m ||| (1 <<< i)) seen) (i :: l2) = true
 | [], _, _, _, h => h
 | j :: l1, i, l2, seen, h => by
  rw [List.cons_append, chk, Bool.and_eq_true] at h
  rw [List.foldl_cons]
  exact chk_split h.2
def drawOk (ops : Array Oper) (louds ord : List Nat) (fr : List Nat := []) : Bool :=
 chk ops (tblOf ops ord (List.replicate ops.size 0)) louds fr 0 ord && (List.range ops.size).all fun i => (bitsOf ord).testBit i
def xOf (L : List (Nat × AV × Mem)) (i : Nat) : AV := ((L.find? fun p => p.1 == i).map (·.2.1)).getD .junk
theorem AW_drawRunZ {Ms : Nat → Mem → Prop} {id : Nat} {ops : Array Oper} {T : List AV} {M : Mem} {D : List Nat} {louds fr : List Nat} {L : List (Nat × AV × Mem)} (hm : P.follows .mixedOrders = true) (zs : List Nat) (hch : ∀ z r, zs = z :: r → ∀ k, k ∈ r → edgeIn ops zs k = true) (hok : drawOk ops louds (L.map (·.1) ++ zs) fr = true)
  (hz : ∀ z r, zs = z :: r → ((List.range ops.size).all fun k => zs.contains k || tbit (tblOf ops (L.map (·.1) ++ zs) (List.replicate ops.size 0)) z k) = true ∧ ZGo P GT ro ops zs ⟨stT ops L T, stM L M, D⟩ Q)
  (hM : ∀ i, Ms i M) (hMs : ∀ p, p ∈ L → louds.contains p.1 = true → ∀ i, tbit (tblOf ops (L.map (·.1) ++ zs) (List.replicate ops.size 0)) p.1 i = false → Ms i p.2.2) (hr : RunsM Ms P GT ro ops louds fr L T M) (hq : zs = [] → Q .normal ⟨stT ops L T, stM L M, D⟩) : AW P GT ro (.region id ops true) ⟨T, M, D⟩ Q := by
 simp only [drawOk, Bool.and_eq_true, List.all_eq_true] at hok
 obtain ⟨hchk, hcov⟩ := hok
 generalize htb : tblOf ops (L.map (·.1) ++ zs) (List.replicate ops.size 0) = tbl at hchk hMs hz
 have hT : TblOK ops tbl := by
  rw [← htb]
  refine (tblOf_ok _ _ ?_ (by simp)).1
  intro E _ i o hi _ k hk
  have hlt := (Array.getElem?_eq_some_iff.1 hi).1
  simp [List.getD_eq_getElem?_getD, hlt] at hk
 -- every operation has its place
 have place : ∀ i o, ops[i]? = some o → i ∉ zs → ∃ L1 x M' L2, L = L1 ++ (i, x, M') :: L2 := by
  intro i o hi hne
  have hlt := (Array.getElem?_eq_some_iff.1 hi).1
  have := hcov i (by simpa using hlt)
  rw [bitsOf, bits_foldl] at this
  have hnz : i ∉ zs := hne
  simp only [Nat.zero_testBit, Bool.false_or, List.contains_eq_mem, decide_eq_true_eq, List.mem_append, hnz, or_false, List.mem_map] at this
  obtain ⟨⟨j, x, M'⟩, hp, rfl⟩ := this
  obtain ⟨L1, L2, e⟩ := List.append_of_mem hp
  exact ⟨L1, x, M', L2, e⟩
 -- what the checks tell at a place
 have told : ∀ L1 i x M' L2, L = L1 ++ (i, x, M') :: L2 → ∃ o, ops[i]? = some o ∧ (L1.map (·.1)).contains i = false ∧ (∀ e, e ∈ o.after → Region.binds .any e = true → (L1.map (·.1)).contains e.on = true ∧ e.on < ops.size) ∧
   (∀ u, u ∈ o.looksAt ops → ∀ k, ownOf ops u = some k → k = i ∨ (if (L1.map (·.1)).contains k then tbit tbl i k = true else tbit tbl k i = true)) ∧
   (((still o.op || fr.contains i) = true ∧ louds.contains i = false) ∨ ∀ k, k ∈ louds → k = i ∨ (if (L1.map (·.1)).contains k then tbit tbl i k = true else tbit tbl k i = true)) ∧ (∀ d, o.dst = some d → ownOf ops d = some i) := by
  intro L1 i x M' L2 e
  have h := hchk
  rw [e, List.map_append, List.map_cons, List.append_assoc, List.cons_append] at h
  have h := chk_split h
  rw [chk, Bool.and_eq_true] at h
  have h := h.1
  cases ho : ops[i]? with
  | none => simp [ho] at h
  | some o =>
   generalize hst : (still o.op || fr.contains i) = st at h
   simp only [ho, hst, Bool.and_eq_true, List.all_eq_true, Bool.or_eq_true, Bool.not_eq_true', bits_foldl, Nat.zero_testBit, Bool.false_or] at h
   obtain ⟨⟨⟨⟨h1, h2⟩, h3⟩, h4⟩, h5⟩ := h
   refine ⟨o, rfl, h1, fun e he hb => ?_, fun u hu k hk => ?_, h4.imp (fun h => by rw [hst]; exact h) fun h4 k hk => ?_, fun d hd => ?_⟩
   ·rcases h2 e (by simpa using he) with q | q
    ·rw [hb] at q; cases q
    ·exact ⟨q.1, by simpa using q.2⟩
   ·have := h3 u hu
    rw [hk] at this
    simp only [Bool.or_eq_true, beq_iff_eq] at this
    rcases this with q | q
    ·exact .inl q
    ·right; split at q <;> simp_all
   ·rcases h4 k hk with q | q
    ·exact .inl (by simpa using q)
    ·right; split at q <;> simp_all
   ·rw [hd] at h5; simpa using h5
 -- what the checks tell of the last ones
 have toldz : ∀ l1 z l2, zs = l1 ++ z :: l2 → ∃ o, ops[z]? = some o ∧ (L.map (·.1)).contains z = false ∧ l1.contains z = false ∧ (∀ e, e ∈ o.after → Region.binds .any e = true → ((L.map (·.1)).contains e.on = true ∨ l1.contains e.on = true) ∧ e.on < ops.size) ∧ (∀ d, o.dst = some d → ownOf ops d = some z) := by
  intro l1 z l2 hzs
  have h := hchk
  rw [hzs, ← List.append_assoc] at h
  have h := chk_split h
  rw [chk, Bool.and_eq_true] at h
  have h := h.1
  cases ho : ops[z]? with
  | none => simp [ho] at h
  | some o =>
   generalize hst : (still o.op || fr.contains z) = st at h
   simp only [ho, hst, Bool.and_eq_true, List.all_eq_true, Bool.or_eq_true, Bool.not_eq_true', bits_foldl, Nat.zero_testBit, Bool.false_or, List.contains_append, Bool.or_eq_false_iff] at h
   obtain ⟨⟨⟨⟨h1, h2⟩, h3⟩, h4⟩, h5⟩ := h
   refine ⟨o, rfl, h1.1, h1.2, fun e he hb => ?_, fun d hd => ?_⟩
   ·rcases h2 e (by simpa using he) with q | q
    ·rw [hb] at q; cases q
    ·exact ⟨q.1, by simpa using q.2⟩
   ·rw [hd] at h5; simpa using h5
 have toldm : ∀ z, z ∈ zs → ∃ o, ops[z]? = some o ∧ (L.map (·.1)).contains z = false ∧ (∀ d, o.dst = some d → ownOf ops d = some z) := by
  intro z hz
  obtain ⟨l1, l2, e⟩ := List.append_of_mem hz
  obtain ⟨o, h1, h2, _, _, h5⟩ := toldz l1 z l2 e
  exact ⟨o, h1, h2, h5⟩
 have hnd : zs.Nodup := by
  have : ∀ (l2 l1 : List Nat), zs = l1 ++ l2 → l2.Nodup := by
   intro l2
   induction l2 with
   | nil => intro _ _; exact List.nodup_nil
   | cons z l2 ih =>
    intro l1 e
    have e2 : zs = (l1 ++ [z]) ++ l2 := by rw [e]; simp
    refine List.nodup_cons.2 ⟨fun hm => ?_, ih _ e2⟩
    obtain ⟨m1, m2, e3⟩ := List.append_of_mem hm
    obtain ⟨_, _, _, h3, _⟩ := toldz (l1 ++ z :: m1) z m2 (by rw [e, e3]; simp)
    simp at h3
  exact this zs [] (by simp)
 have hown : ∀ i o, ops[i]? = some o → (∀ d, o.dst = some d → ownOf ops d = some i) ∧ ∀ t, ownOf ops t = some i → o.dst = some t := by
  intro i o hi
  refine ⟨fun d hd => ?_, fun t ht => ?_⟩
  ·by_cases hzi : i ∈ zs
   ·obtain ⟨o', ho', _, h6⟩ := toldm i hzi
    rw [hi] at ho'; cases ho'
    exact h6 d hd
   obtain ⟨L1, x, M', L2, e⟩ := place i o hi hzi
   obtain ⟨o', ho', _, _, _, _, h6⟩ := told L1 i x M' L2 e
   rw [hi] at ho'; cases ho'
   exact h6 d hd
  ·obtain ⟨o', ho', hd⟩ := ownOf_some ht
   rw [hi] at ho'; cases ho'; exact hd
 have xAt : ∀ L1 i x M' L2, L = L1 ++ (i, x, M') :: L2 → xOf L i = x := by
  intro L1 i x M' L2 e
  obtain ⟨o, _, h2, _⟩ := told L1 i x M' L2 e
  have hn : L1.find? (fun p => p.1 == i) = none := by
   rw [List.find?_eq_none]
   intro p hp hpi
   have : (L1.map (·.1)).contains i = true := by
    simp only [List.contains_eq_mem, decide_eq_true_eq, List.mem_map]
    exact ⟨p, hp, by simpa using hpi⟩
   rw [h2] at this; cases this
  simp [xOf, e, List.find?_append, hn]
 -- the state behind a first part
 have stTT : ∀ L1 L2, L = L1 ++ L2 → stT ops L1 T = TT T (ownOf ops) (xOf L) fun k => (L1.map (·.1)).contains k := by
  intro L1
  generalize hlen : L1.length = len
  induction len generalizing L1 with
  | zero =>
   intro L2 _
   obtain rfl := List.length_eq_zero_iff.1 hlen
   apply List.ext_getElem?
   intro t
   simp only [TT, List.getElem?_mapIdx, stT, List.map_nil]
   cases T[t]? with
   | none => rfl
   | some y => cases ownOf ops t <;> simp
  | succ len ih =>
   intro L2 e
   rcases List.eq_nil_or_concat L1 with rfl | ⟨L1, p, rfl⟩
   ·simp at hlen
   rw [List.concat_eq_append] at e hlen ⊢
   obtain ⟨i, x, M'⟩ := p
   have ih := ih L1 (by simpa using hlen)
   have e' : L = L1 ++ (i, x, M') :: L2 := by simpa using e
   obtain ⟨o, ho, _⟩ := told L1 i x M' L2 e'
   rw [stT_append, ih _ e']
   simp only [stT, ho, Option.bind_some]
   have hx := xAt L1 i x M' L2 e'
   obtain ⟨o1, o2⟩ := hown i o ho
   rw [← hx, TT_add o1 o2, hx]
   congr 1
   funext k
   simp only [addE, List.map_append, List.map_cons, List.map_nil, List.contains_append, List.contains_cons, List.contains_nil, Bool.or_false]
   by_cases hk : k = i
   ·subst hk; simp
   ·simp [hk]
 refine AW_drawZ hm zs hch hnd (fun i => (L.map (·.1) ++ zs).idxOf i) (ownOf ops) (xOf L) (memE louds L M) ?_ hown (memE_none fun _ _ _ => rfl) ?_ ?_ ?_ ?_
 ·intro i o e hi he hb
  have key : ∀ (l1 l2 : List Nat), L.map (·.1) ++ zs = l1 ++ i :: l2 → e.on ∈ l1 → i ∉ l1 → (L.map (·.1) ++ zs).idxOf e.on < (L.map (·.1) ++ zs).idxOf i := by
   intro l1 l2 e0 m1 m2
   rw [e0, List.idxOf_append, if_pos m1, List.idxOf_append, if_neg m2]
   have := List.idxOf_lt_length_of_mem m1
   omega
  by_cases hzi : i ∈ zs
  ·obtain ⟨l1, l2, e1⟩ := List.append_of_mem hzi
   obtain ⟨o', ho', h1, h1', h2, _⟩ := toldz l1 i l2 e1
   rw [hi] at ho'; cases ho'
   obtain ⟨q1, q2⟩ := h2 e he hb
   refine ⟨key (L.map (·.1) ++ l1) l2 (by rw [e1]; simp) ?_ ?_, q2⟩
   ·simp only [List.contains_eq_mem, decide_eq_true_eq] at q1
    exact List.mem_append.2 q1
   ·simp only [List.contains_eq_mem, decide_eq_false_iff_not] at h1 h1'
    intro hm
    rcases List.mem_append.1 hm with hm | hm
    ·exact h1 hm
    ·exact h1' hm
  obtain ⟨L1, x, M', L2, e0⟩ := place i o hi hzi
  obtain ⟨o', ho', h2, h3, _⟩ := told L1 i x M' L2 e0
  rw [hi] at ho'; cases ho'
  obtain ⟨q1, q2⟩ := h3 e he hb
  exact ⟨key (L1.map (·.1)) (L2.map (·.1) ++ zs) (by rw [e0]; simp) (by simpa using q1) (by simpa using h2), q2⟩
 ·intro i o hi hzi E hC hpre hE
  obtain ⟨L1, x, M', L2, e0⟩ := place i o hi hzi
  obtain ⟨o', ho', h2, h3, h4, h5, h6⟩ := told L1 i x M' L2 e0
  rw [hi] at ho'; cases ho'
  have hrun : RunsM Ms P GT ro ops louds fr ((i, x, M') :: L2) (stT ops L1 T) (stM L1 M) := RunsM.split (e0 ▸ hr)
  obtain ⟨o', ho', hcan, hquiet, hfree, hrest⟩ := hrun
  rw [hi] at ho'; cases ho'
  -- who is ahead has been, who is behind has not
  have ahead : ∀ k, k ≠ i → (if (L1.map (·.1)).contains k then tbit tbl i k = true else tbit tbl k i = true) → (E k = true ↔ (L1.map (·.1)).contains k = true) := by
   intro k hki hk
   split at hk
   ·rename_i hin
    exact ⟨fun _ => hin, fun _ => hT E hC i o hi hpre k hk⟩
   ·rename_i hin
    refine ⟨fun hEk => ?_, fun h => absurd h hin⟩
    exfalso
    by_cases hks : k < ops.size
    ·have := hT E hC k _ (Array.getElem?_eq_getElem hks) (hC k _ (Array.getElem?_eq_getElem hks) hEk) i hk
     rw [hE] at this; cases this
    ·have hz : tbl.length = ops.size := by rw [← htb]; exact (tblOf_ok _ _ (fun E _ i o hi _ k hk => by
      have hlt := (Array.getElem?_eq_some_iff.1 hi).1
      simp [List.getD_eq_getElem?_getD, hlt] at hk) (by simp)).2
     simp [tbit, List.getD_eq_getElem?_getD, List.getElem?_eq_none (show tbl.length ≤ k by omega)] at hk
  have hx := xAt L1 i x M' L2 e0
  have fin : ∀ M1 M2 : Mem, Can1 P GT ro ops o (stT ops L1 T) M1 x M2 → Can1 P GT ro ops o (TT T (ownOf ops) (xOf L) E) M1 x M2 := by
   intro M1 M2 hcan
   refine hcan.congr ?_ fun u hu => ?_
   ·rw [stTT L1 _ e0]; simp [TT]
   ·rw [stTT L1 _ e0]
    simp only [TT, List.getElem?_mapIdx]
    cases hTu : T[u]? with
    | none => rfl
    | some y =>
     cases ho : ownOf ops u with
     | none => rfl
     | some k =>
      simp only [Option.map_some]
      by_cases hki : k = i
      ·subst hki
       have hb : E k = (L1.map (·.1)).contains k := by rw [hE, h2]
       simp only [hb]
      ·have := ahead k hki ((h4 u hu k ho).resolve_left hki)
       have hb : E k = (L1.map (·.1)).contains k := by rw [Bool.eq_iff_iff]; exact this
       simp only [hb]
  rcases h5 with ⟨hs, hl⟩ | h5
  ·have same : ∀ (L' : List (Nat × AV × Mem)) (m : Mem), memE louds L' m (addE E i) = memE louds L' m E := by
    intro L'
    induction L' with
    | nil => intros; rfl
    | cons p L' ih =>
     intro m
     simp only [memE, List.foldl_cons] at ih ⊢
     by_cases hp : p.1 = i
     ·rw [hp, hl, Bool.and_false, Bool.and_false]; exact ih _
     ·rw [show addE E i p.1 = E p.1 by simp [addE, hp]]; exact ih _
   rw [same, hx]
   refine fin _ _ (hfree hs _ (memE_in (Ms := Ms i) (hM i) fun p hp hpl hEp => hMs p hp hpl i ?_))
   cases hb : tbit tbl p.1 i with
   | false => rfl
   | true =>
    exfalso
    by_cases hks : p.1 < ops.size
    ·have := hT E hC p.1 _ (Array.getElem?_eq_getElem hks) (hC p.1 _ (Array.getElem?_eq_getElem hks) hEp) i hb
     rw [hE] at this; cases this
    ·have hz : tbl.length = ops.size := by rw [← htb]; exact (tblOf_ok _ _ (fun E _ i o hi _ k hk => by
      have hlt := (Array.getElem?_eq_some_iff.1 hi).1
      simp [List.getD_eq_getElem?_getD, hlt] at hk) (by simp)).2
     simp [tbit, List.getD_eq_getElem?_getD, List.getElem?_eq_none (show tbl.length ≤ p.1 by omega)] at hb
  have hmem : memE louds L M E = stM L1 M := by
   rw [e0, memE, List.foldl_append]
   have a1 := memE_all (E := E) (L := L1) (T := T) (M := M) (louds := louds) (P := P) (GT := GT) (ro := ro) (ops := ops) (fr := fr) (by
    have : ∀ {L1 L2 : List (Nat × AV × Mem)} {T : List AV} {M : Mem}, RunsM Ms P GT ro ops louds fr (L1 ++ L2) T M → RunsM Ms P GT ro ops louds fr L1 T M := by
     intro L1
     induction L1 with
     | nil => intros; trivial
     | cons p L1 ih => intro L2 T M ⟨o, q1, q2, q3, qf, q4⟩; exact ⟨o, q1, q2, q3, qf, ih q4⟩
    exact this (e0 ▸ hr)) (fun p hp hl => by
    have hpl : p.1 ∈ louds := by simpa using hl
    have hin : (L1.map (·.1)).contains p.1 = true := by simp only [List.contains_eq_mem, decide_eq_true_eq, List.mem_map]; exact ⟨p, hp, rfl⟩
    have hne : p.1 ≠ i := fun e => by rw [e, h2] at hin; cases hin
    exact (ahead p.1 hne ((h5 p.1 hpl).resolve_left hne)).2 hin)
   rw [memE] at a1
   rw [a1]
   refine memE_none (L := (i, x, M') :: L2) fun p hp hl => ?_
   rcases List.mem_cons.1 hp with rfl | hp
   ·exact hE
   ·have hpl : p.1 ∈ louds := by simpa using hl
    by_cases hne : p.1 = i
    ·rw [hne]; exact hE
    ·have := ahead p.1 hne ((h5 p.1 hpl).resolve_left hne)
     have hout : (L1.map (·.1)).contains p.1 = false := by
      obtain ⟨L3, L4, e3⟩ := List.append_of_mem hp
      obtain ⟨p1, p2, p3⟩ := p
      obtain ⟨_, _, hh, _⟩ := told (L1 ++ (i, x, M') :: L3) p1 p2 p3 L4 (by rw [e0, e3]; simp)
      simp only [List.map_append, List.contains_append, Bool.or_eq_false_iff] at hh
      exact hh.1
     cases hEp : E p.1 with
     | false => rfl
     | true => rw [this.1 hEp] at hout; cases hout
  have hmem2 : memE louds L M (addE E i) = M' := by
   have split3 : ∀ F : Nat → Bool, memE louds L M F = memE louds L2 (if F i && louds.contains i then M' else memE louds L1 M F) F := by
    intro F; rw [e0]; simp only [memE, List.foldl_append, List.foldl_cons]
   have out2 : ∀ p, p ∈ L2 → p.1 ≠ i := by
    intro p hp hpi
    obtain ⟨L3, L4, e3⟩ := List.append_of_mem hp
    obtain ⟨p1, p2, p3⟩ := p
    obtain ⟨_, _, hh, _⟩ := told (L1 ++ (i, x, M') :: L3) p1 p2 p3 L4 (by rw [e0, e3]; simp)
    simp at hpi; subst hpi
    simp at hh
   have out1 : ∀ p, p ∈ L1 → p.1 ≠ i := by
    intro p hp hpi
    have hin : (L1.map (·.1)).contains i = true := by simp only [List.contains_eq_mem, decide_eq_true_eq, List.mem_map]; exact ⟨p, hp, hpi⟩
    rw [h2] at hin; cases hin
   have same : ∀ (L' : List (Nat × AV × Mem)) (m : Mem), (∀ p, p ∈ L' → p.1 ≠ i) → memE louds L' m (addE E i) = memE louds L' m E := by
    intro L'
    induction L' with
    | nil => intros; rfl
    | cons p L' ih =>
     intro m hp
     simp only [memE, List.foldl_cons] at ih ⊢
     rw [show addE E i p.1 = E p.1 by simp [addE, hp p (by simp)]]
     exact ih _ fun q hq => hp q (by simp [hq])
   have hl2 : ∀ m, memE louds L2 m E = m := fun m => memE_none fun p hp hl => by
    have hpl : p.1 ∈ louds := by simpa using hl
    have := ahead p.1 (out2 p hp) ((h5 p.1 hpl).resolve_left (out2 p hp))
    have hout : (L1.map (·.1)).contains p.1 = false := by
     obtain ⟨L3, L4, e3⟩ := List.append_of_mem hp
     obtain ⟨p1, p2, p3⟩ := p
     obtain ⟨_, _, hh, _⟩ := told (L1 ++ (i, x, M') :: L3) p1 p2 p3 L4 (by rw [e0, e3]; simp)
     simp only [List.map_append, List.contains_append, Bool.or_eq_false_iff] at hh
     exact hh.1
    cases hEp : E p.1 with
    | false => rfl
    | true => rw [this.1 hEp] at hout; cases hout
   rw [split3, same L2 _ out2, hl2, same L1 _ out1]
   have hb : memE louds L1 M E = stM L1 M := by
    have := hmem
    rw [split3, hE, Bool.false_and, if_neg (by simp), hl2] at this
    exact this
   by_cases hl : louds.contains i = true
   ·rw [hl]; simp [addE]
   ·have hl' : louds.contains i = false := by simpa using hl
    rw [hl', Bool.and_false, if_neg (by simp), hb]
    exact (hquiet hl').symm
  rw [hmem, hmem2, hx]
  exact fin _ _ hcan
 ·intro z r hzs o hi E hC hpre hE
  obtain ⟨hmask, hAL⟩ := hz z r hzs
  have hall : ∀ k, k < ops.size → k ∉ zs → E k = true := by
   intro k hk hkz
   have := List.all_eq_true.1 hmask k (by simpa using hk)
   rw [Bool.or_eq_true, List.contains_iff_mem] at this
   exact hT E hC z o hi hpre k (this.resolve_left hkz)
  refine ⟨hall, ?_⟩
  have hallL : ∀ p, p ∈ L → E p.1 = true := by
   intro p hp
   obtain ⟨L1, L2, e⟩ := List.append_of_mem hp
   obtain ⟨i, x, M'⟩ := p
   obtain ⟨o', ho', _⟩ := told L1 i x M' L2 e
   refine hall i (Array.getElem?_eq_some_iff.1 ho').1 fun hiz => ?_
   have : (L.map (·.1)).contains i = true := by simp only [List.contains_eq_mem, decide_eq_true_eq, List.mem_map]; exact ⟨_, hp, rfl⟩
   obtain ⟨_, _, h2, _⟩ := toldm i hiz
   rw [h2] at this; cases this
  rw [memE_all hr fun p hp _ => hallL p hp]
  have : TT T (ownOf ops) (xOf L) E = stT ops L T := by
   rw [stTT L [] (by simp)]
   apply List.ext_getElem?
   intro t
   simp only [TT, List.getElem?_mapIdx]
   cases T[t]? with
   | none => rfl
   | some y =>
    cases ho : ownOf ops t with
    | none => rfl
    | some k =>
     obtain ⟨o', h1, h2⟩ := ownOf_some ho
     have hk := (Array.getElem?_eq_some_iff.1 h1).1
     by_cases hkz : k ∈ zs
     ·obtain ⟨_, _, h2, _⟩ := toldm k hkz
      simp only [Option.map_some, hE k hkz, h2]
     ·obtain ⟨L1, x, M', L2, e⟩ := place k o' h1 hkz
      have : (L.map (·.1)).contains k = true := by simp only [List.contains_eq_mem, decide_eq_true_eq, List.mem_map]; exact ⟨(k, x, M'), by rw [e]; simp, rfl⟩
      simp only [Option.map_some, hall k hk hkz, this]
  rw [this]; exact hAL
 ·intro z hzo
  obtain ⟨o', ho', _⟩ := toldm z hzo
  exact (Array.getElem?_eq_some_iff.1 ho').1
 ·intro hno E hE
  have hall : ∀ p, p ∈ L → E p.1 = true := by
   intro p hp
   obtain ⟨L1, L2, e⟩ := List.append_of_mem hp
   obtain ⟨i, x, M'⟩ := p
   obtain ⟨o, ho, _⟩ := told L1 i x M' L2 e
   exact hE i (Array.getElem?_eq_some_iff.1 ho).1
  rw [memE_all hr fun p hp _ => hall p hp]
  have : TT T (ownOf ops) (xOf L) E = stT ops L T := by
   rw [stTT L [] (by simp)]
   apply List.ext_getElem?
   intro t
   simp only [TT, List.getElem?_mapIdx]
   cases T[t]? with
   | none => rfl
   | some y =>
    cases ho : ownOf ops t with
    | none => rfl
    | some k =>
     obtain ⟨o, h1, h2⟩ := ownOf_some ho
     have hk := hE k (Array.getElem?_eq_some_iff.1 h1).1
     obtain ⟨L1, x, M', L2, e⟩ := place k o h1 (by rw [hno]; simp)
     have : (L.map (·.1)).contains k = true := by simp only [List.contains_eq_mem, decide_eq_true_eq, List.mem_map]; exact ⟨(k, x, M'), by rw [e]; simp, rfl⟩
     simp only [Option.map_some, hk, this]
  rw [this]; exact hq hno
theorem AW_drawRunM {Ms : Nat → Mem → Prop} {id : Nat} {ops : Array Oper} {T : List AV} {M : Mem} {D : List Nat} {louds fr : List Nat} {L : List (Nat × AV × Mem)} (hm : P.follows .mixedOrders = true) (hok : drawOk ops louds (L.map (·.1)) fr = true)
  (hM : ∀ i, Ms i M) (hMs : ∀ p, p ∈ L → louds.contains p.1 = true → ∀ i, tbit (tblOf ops (L.map (·.1)) (List.replicate ops.size 0)) p.1 i = false → Ms i p.2.2) (hr : RunsM Ms P GT ro ops louds fr L T M) (hq : Q .normal ⟨stT ops L T, stM L M, D⟩) : AW P GT ro (.region id ops true) ⟨T, M, D⟩ Q :=
 AW_drawRunZ hm [] (fun _ _ h => by cases h) (by simpa using hok) (fun _ _ h => by cases h) hM (by simpa using hMs) hr fun _ => hq
def Runs (P : Program) (GT : Tabs) (ro : Option Nat) (ops : Array Oper) (louds fr : List Nat) : List (Nat × AV × Mem) → List AV → Mem → Prop
 | [], _, _ => True
 | (i, x, M') :: L, T, M => ∃ o, ops[i]? = some o ∧ Can1 P GT ro ops o T M x M' ∧ (louds.contains i = false → M' = M) ∧ ((still o.op || fr.contains i) = true → ∀ M2, Can1 P GT ro ops o T M2 x M2) ∧ Runs P GT ro ops louds fr L (aput T o.dst x) M'
theorem Runs.toM {ops : Array Oper} {louds fr : List Nat} : ∀ {L : List (Nat × AV × Mem)} {T : List AV} {M : Mem}, Runs P GT ro ops louds fr L T M → RunsM (fun _ _ => True) P GT ro ops louds fr L T M
 | [], _, _, _ => trivial
 | (i, x, M') :: L, T, M, h => by
  obtain ⟨o, h1, h2, h3, h4, h5⟩ := h
  exact ⟨o, h1, h2, h3, fun hs M2 _ => h4 hs M2, h5.toM⟩
theorem AW_drawRun {id : Nat} {ops : Array Oper} {T : List AV} {M : Mem} {D : List Nat} {louds fr : List Nat} {L : List (Nat × AV × Mem)} (hm : P.follows .mixedOrders = true) (hok : drawOk ops louds (L.map (·.1)) fr = true)
  (hr : Runs P GT ro ops louds fr L T M) (hq : Q .normal ⟨stT ops L T, stM L M, D⟩) : AW P GT ro (.region id ops true) ⟨T, M, D⟩ Q :=
 AW_drawRunM hm hok (fun _ => trivial) (fun _ _ _ _ _ => trivial) hr.toM hq
def dstOf (ops : Array Oper) (k : Nat) : Option Tmp := (ops[k]?).bind (·.dst)
def restGo (ops : Array Oper) : List Nat → List Nat → Bool
 | _, [] => true
 | pre, i :: s =>
  (match ops[i]? with
   | none => false
   | some o => o.guard.isNone && still o.op && o.dst.isSome && ((o.looksAt ops).all fun u => ((i :: s).all fun k => !(dstOf ops k == some u)) && (pre.all fun k => !(dstOf ops k == some u) || o.after.toList.any fun e => Region.binds .any e && e.on == k)) &&
    (s.all fun k => !(dstOf ops k == o.dst)) && (o.after.toList.all fun e => !Region.binds .any e || (!(i :: s).contains e.on && Nat.blt e.on ops.size))) && restGo ops (pre ++ [i]) s
def restOk (ops : Array Oper) : List Nat → Bool
 | [] => false
 | z :: r => (match ops[z]? with | some o => o.after.toList.all fun e => !Region.binds .any e || (!(z :: r).contains e.on && Nat.blt e.on ops.size) | none => false) && (r.all fun k => edgeIn ops (z :: r) k) && restGo ops [] r
def RestT (P : Program) (GT : Tabs) (ops : Array Oper) (M : Mem) : List Nat → List AV → List AV → Prop
 | [], T, TF => TF = T
 | i :: r, T, TF => ∃ o x, ops[i]? = some o ∧ aop P (aev GT T) M o.op = some (x, M) ∧ RestT P GT ops M r (aput T o.dst x) TF
theorem RestT_out {ops : Array Oper} {M : Mem} : ∀ {r : List Nat} {T TF : List AV}, RestT P GT ops M r T TF → TF.length = T.length ∧ ∀ u, (∀ k, k ∈ r → dstOf ops k ≠ some u) → TF[u]? = T[u]?
 | [], T, TF, h => by cases h; exact ⟨rfl, fun _ _ => rfl⟩
 | i :: r, T, TF, ⟨o, x, ho, _, h⟩ => by
  obtain ⟨h1, h2⟩ := RestT_out h
  refine ⟨by rw [h1]; cases o.dst <;> simp [aput], fun u hu => ?_⟩
  rw [h2 u fun k hk => hu k (by simp [hk])]
  have := hu i (by simp)
  simp only [dstOf, ho, Option.bind_some] at this
  cases hd : o.dst with
  | none => rfl
  | some d =>
   rw [hd] at this
   exact List.getElem?_set_ne (by intro e; exact this (by rw [e]))
theorem rest_fix {ops : Array Oper} {M : Mem} : ∀ {r pre : List Nat} {T TF : List AV}, restGo ops pre r = true → RestT P GT ops M r T TF → ∀ i, i ∈ r → ∃ o x, ops[i]? = some o ∧ o.guard = none ∧ o.dst.isSome = true ∧ aop P (aev GT TF) M o.op = some (x, M) ∧ ∀ d, o.dst = some d → d < TF.length → TF[d]? = some x
 | [], _, _, _, _, _, i, hi => by cases hi
 | j :: r, pre, T, TF, hg, ⟨o, x, ho, ha, h⟩, i, hi => by
  unfold restGo at hg
  rw [ho] at hg
  simp only [Bool.and_eq_true, List.all_eq_true, Bool.not_eq_true', beq_eq_false_iff_ne, ne_eq] at hg
  obtain ⟨⟨⟨⟨⟨⟨g1, g2⟩, g3⟩, g4⟩, g5⟩, g6⟩, g7⟩ := hg
  rcases List.mem_cons.1 hi with rfl | hi
  ·obtain ⟨q1, q2⟩ := RestT_out h
   refine ⟨o, x, ho, by simpa using g1, g3, ?_, fun d hd hlt => ?_⟩
   ·rw [← ha]
    refine aop_congr fun y hy => ?_
    cases y with
    | tmp t =>
     have hm : t ∈ o.looksAt ops := List.mem_append_left _ (List.mem_filterMap.2 ⟨.tmp t, by simpa using hy, rfl⟩)
     obtain ⟨g4, _⟩ := g4 t hm
     have e1 : TF[t]? = T[t]? := by
      have : ∀ k, k ∈ i :: r → dstOf ops k ≠ some t := fun k hk => g4 k hk
      rw [q2 t fun k hk => this k (by simp [hk])]
      have hi0 := this i (by simp)
      simp only [dstOf, ho, Option.bind_some] at hi0
      cases hd : o.dst with
      | none => rfl
      | some d => rw [hd] at hi0; exact List.getElem?_set_ne (by intro e; exact hi0 (by rw [e]))
     simp only [aev, List.getD_eq_getElem?_getD, e1]
    | _ => rfl
   ·rw [q2 d fun k hk e => g5 k hk (by rw [e, hd])]
    rw [hd]
    exact List.getElem?_set_self (by rw [q1, hd] at hlt; simpa [aput] using hlt)
  ·exact rest_fix g7 h i hi
theorem restGo_mem {ops : Array Oper} : ∀ {r pre : List Nat}, restGo ops pre r = true → ∀ {l1 l2 : List Nat} {i : Nat}, r = l1 ++ i :: l2 → ∃ o, ops[i]? = some o ∧ (∀ u, u ∈ o.looksAt ops → (∀ k, k ∈ i :: l2 → dstOf ops k ≠ some u) ∧ ∀ k, k ∈ pre ++ l1 → dstOf ops k = some u → ∃ e, e ∈ o.after ∧ Region.binds .any e = true ∧ e.on = k) ∧
  (∀ k, k ∈ l2 → dstOf ops k ≠ o.dst) ∧ o.dst.isSome = true ∧ ∀ e, e ∈ o.after → Region.binds .any e = true → e.on ∉ i :: l2 ∧ e.on < ops.size
 | [], _, _, l1, l2, i, e => by simp at e
 | j :: r, pre, hg, l1, l2, i, e => by
  unfold restGo at hg
  rw [Bool.and_eq_true] at hg
  cases l1 with
  | nil =>
   simp only [List.nil_append, List.cons.injEq] at e
   obtain ⟨rfl, rfl⟩ := e
   have hg := hg.1
   split at hg
   ·cases hg
   ·rename_i o ho
    simp only [Bool.and_eq_true, List.all_eq_true, Bool.not_eq_true', beq_eq_false_iff_ne, ne_eq, Bool.or_eq_true] at hg
    obtain ⟨⟨⟨⟨⟨g1, g2⟩, g3⟩, g4⟩, g5⟩, g6⟩ := hg
    refine ⟨o, ho, fun u hu => ⟨fun k hk => (g4 u hu).1 k hk, fun k hk hd => ?_⟩, fun k hk => g5 k hk, g3, fun e he hb => ?_⟩
    ·rcases (g4 u hu).2 k (by simpa using hk) with q | q
     ·exact absurd hd q
     ·obtain ⟨e, he, hb⟩ := List.any_eq_true.1 q
      rw [Bool.and_eq_true] at hb
      exact ⟨e, by simpa using he, hb.1, by simpa using hb.2⟩
    ·rcases g6 e (by simpa using he) with q | q
     ·rw [hb] at q; cases q
     ·exact ⟨by simpa using q.1, by simpa using q.2⟩
  | cons l l1 =>
   simp only [List.cons_append, List.cons.injEq] at e
   obtain ⟨rfl, e⟩ := e
   obtain ⟨o, ho, a1, a2⟩ := restGo_mem hg.2 e
   exact ⟨o, ho, fun u hu => ⟨(a1 u hu).1, fun k hk hd => (a1 u hu).2 k (by simpa using hk) hd⟩, a2⟩
theorem ZGo.rest {ops : Array Oper} {z : Nat} {r : List Nat} {s : S} {o : Oper} (hr : restOk ops (z :: r) = true) (ho : ops[z]? = some o)
  (h : One P GT ro ops o s fun s' => ∃ TF, RestT P GT ops s'.M r s'.T TF ∧ Q .normal ⟨TF, s'.M, s'.D⟩) : ZGo P GT ro ops (z :: r) s Q := by
 intro fuel E listed B I0 c a w n hE hC hsz hl hf hnd hzl hR hob
 unfold restOk at hr
 rw [Bool.and_eq_true, Bool.and_eq_true, ho] at hr
 obtain ⟨⟨hr1, hr2⟩, hr3⟩ := hr
 have hz := hzl z (by simp)
 have hEz : E z = false := by
  cases he : E z with
  | false => rfl
  | true => exact absurd (List.mem_cons_self ..) ((hE z hz).1 he)
 have hla := left_add hz hEz
 cases fuel with
 | zero => omega
 | succ fuel =>
  have hEr : ∀ k, k ∈ z :: r → E k = false := fun k hk => by
   cases he : E k with
   | false => rfl
   | true => exact absurd hk ((hE k (hzl k hk)).1 he)
  have only : ∀ i, i ∈ Region.ready .any ops listed → i = z := by
   intro i hi
   obtain ⟨h1, o', h2, h3⟩ := mem_ready.1 hi
   have hlt := (Array.getElem?_eq_some_iff.1 h2).1
   have hi0 : E i = false := by simpa [Array.getD_eq_getD_getElem?, hl i hlt] using h1
   have him : i ∈ z :: r := Decidable.byContradiction fun hn => by rw [(hE i hlt).2 hn] at hi0; cases hi0
   rcases List.mem_cons.1 him with e | hir
   ·exact e
   ·exfalso
    obtain ⟨e, he, hb, hon⟩ := edgeIn_some (List.all_eq_true.1 hr2 i hir) h2
    have h4 := h3 e he hb
    have hlt2 := hzl _ hon
    have : E e.on = true := by simpa [Array.getD_eq_getD_getElem?, hl _ hlt2] using h4
    rw [hEr _ hon] at this; cases this
  refine ⟨fun hre => ?_, fun i hi => ?_⟩
  ·exfalso
   have hmem : z ∈ Region.ready .any ops listed := by
    rw [mem_ready]
    refine ⟨by simp [Array.getD_eq_getD_getElem?, hl z hz, hEz], o, ho, fun e he hb => ?_⟩
    have := List.all_eq_true.1 hr1 e (by simpa using he)
    rw [hb] at this
    simp only [Bool.not_true, Bool.false_or, Bool.and_eq_true, Bool.not_eq_true'] at this
    have q1 : e.on ∉ z :: r := by simpa using this.1
    have q2 : e.on < ops.size := by simpa using this.2
    simp [Array.getD_eq_getD_getElem?, hl _ q2, (hE _ q2).2 q1]
   rw [hre] at hmem; cases hmem
  ·rw [only i hi]
   unfold wpOpIn
   simp only [ho]
   refine h B I0 c a w n _ _ hR hob ?_
   rintro c' a' w' ⟨T1, M1, D1⟩ ⟨TF, hT, hQ⟩ hR' hE' hs'
   obtain ⟨o1, o2⟩ := RestT_out hT
   dsimp only at o1 o2 hT hQ
   -- what is left
   let own : Nat → Option Nat := fun t => r.find? fun k => dstOf ops k == some t
   let x : Nat → AV := fun k => match ops[k]? with | some o => ((aop P (aev GT TF) M1 o.op).map (·.1)).getD .junk | none => .junk
   have own_some : ∀ t k, own t = some k → k ∈ r ∧ dstOf ops k = some t := fun t k hk => ⟨List.mem_of_find?_eq_some hk, by simpa using List.find?_some hk⟩
   have uniq : ∀ i j t, i ∈ r → j ∈ r → dstOf ops i = some t → dstOf ops j = some t → i = j := by
    intro i j t hi hj di dj
    obtain ⟨l1, l2, e⟩ := List.append_of_mem hi
    obtain ⟨oi, q1, _, q3, _⟩ := restGo_mem hr3 e
    have di' : oi.dst = some t := by simpa [dstOf, q1] using di
    rw [e] at hj
    rcases List.mem_append.1 hj with hj | hj
    ·obtain ⟨l3, l4, e3⟩ := List.append_of_mem hj
     obtain ⟨oj, p1, _, p3, _⟩ := restGo_mem hr3 (l1 := l3) (l2 := l4 ++ i :: l2) (i := j) (by rw [e, e3]; simp)
     have dj' : oj.dst = some t := by simpa [dstOf, p1] using dj
     exact absurd (by rw [di, dj']) (p3 i (by simp))
    ·rcases List.mem_cons.1 hj with rfl | hj
     ·rfl
     ·exact absurd (by rw [dj, di']) (q3 j hj)
   have own_is : ∀ t k, k ∈ r → dstOf ops k = some t → own t = some k := by
    intro t k hk hd
    cases ho' : own t with
    | none =>
     have := List.find?_eq_none.1 ho' k hk
     simp [hd] at this
    | some k' =>
     obtain ⟨a1, a2⟩ := own_some t k' ho'
     rw [uniq k' k t a1 hk a2 hd]
   have xis : ∀ k, k ∈ r → ∃ o, ops[k]? = some o ∧ o.guard = none ∧ aop P (aev GT TF) M1 o.op = some (x k, M1) ∧ ∀ d, o.dst = some d → d < TF.length → TF[d]? = some (x k) := by
    intro k hk
    obtain ⟨o', y, q1, q2, _, q3, q4⟩ := rest_fix hr3 hT k hk
    have : x k = y := by simp only [x, q1, q3]; rfl
    exact ⟨o', q1, q2, by rw [this]; exact q3, fun d hd hlt => by rw [this]; exact q4 d hd hlt⟩
   have atT : ∀ (E2 : Nat → Bool) u, (∀ k, k ∈ r → dstOf ops k = some u → E2 k = true) → (TT T1 own x E2)[u]? = TF[u]? := by
    intro E2 u hu
    simp only [TT, List.getElem?_mapIdx]
    cases ho' : own u with
    | none =>
     have : ∀ k, k ∈ r → dstOf ops k ≠ some u := fun k hk hd => by rw [own_is u k hk hd] at ho'; cases ho'
     rw [o2 u this]
     cases T1[u]? <;> simp [ho']
    | some k =>
     obtain ⟨a1, a2⟩ := own_some u k ho'
     obtain ⟨o', q1, _, _, q4⟩ := xis k a1
     have hd : o'.dst = some u := by simpa [dstOf, q1] using a2
     by_cases hlt : u < TF.length
     ·have hlt1 : u < T1.length := by rw [← o1]; exact hlt
      rw [q4 u hd hlt, List.getElem?_eq_getElem hlt1]
      simp [ho', hu k a1 a2]
     ·have hlt1 : T1.length ≤ u := by rw [← o1]; exact Nat.le_of_not_lt hlt
      rw [List.getElem?_eq_none (Nat.le_of_not_lt hlt), List.getElem?_eq_none hlt1]; rfl
   have T0 : TT T1 own x (addE E z) = T1 := by
    apply List.ext_getElem?
    intro t
    simp only [TT, List.getElem?_mapIdx]
    cases T1[t]? with
    | none => rfl
    | some y =>
     cases ho' : own t with
     | none => rfl
     | some k =>
      obtain ⟨a1, _⟩ := own_some t k ho'
      have hkz : k ≠ z := fun e => (List.nodup_cons.1 hnd).1 (e ▸ a1)
      simp only [Option.map_some, addE, if_neg hkz, hEr k (by simp [a1])]
      rfl
   have hA : ∀ i (o' : Oper), ops[i]? = some o' → (Nat.blt i ops.size && !r.contains i) = false → i ∈ r := fun i o' hi h => by
    have := (Array.getElem?_eq_some_iff.1 hi).1
    simpa [this] using h
   have key := any_key (P := P) (GT := GT) (ro := ro) (Q := Q) (ops := ops) (D := D1) (A := fun k => Nat.blt k ops.size && !r.contains k) (T1 := T1) (M1 := M1) (fun i => r.idxOf i) own x
    (fun i o' e hi hAi he hb => by
     have hir : i ∈ r := hA i o' hi hAi
     obtain ⟨l1, l2, el⟩ := List.append_of_mem hir
     obtain ⟨o'', q1, _, _, _, q5⟩ := restGo_mem hr3 el
     rw [hi] at q1; cases q1
     obtain ⟨p1, p2⟩ := q5 e he hb
     refine ⟨?_, p2⟩
     by_cases hin : e.on ∈ r
     ·right
      have hin2 := hin
      rw [el] at hin2
      have hl1 : e.on ∈ l1 := (List.mem_append.1 hin2).resolve_right p1
      have hnr := (List.nodup_cons.1 hnd).2
      rw [el] at hnr
      have hil : i ∉ l1 := fun hm => by
       rw [List.nodup_append] at hnr
       exact hnr.2.2 i hm i (by simp) rfl
      rw [el, List.idxOf_append, if_pos hl1, List.idxOf_append, if_neg hil]
      have := List.idxOf_lt_length_of_mem hl1
      omega
     ·left; simpa [p2] using hin)
    (fun i o' hi hAi => by
     have hir : i ∈ r := hA i o' hi hAi
     refine ⟨fun d hd => own_is d i hir (by simp [dstOf, hi, hd]), fun t ht => ?_⟩
     obtain ⟨_, a2⟩ := own_some t i ht
     simpa [dstOf, hi] using a2)
    (fun i o' hi hAi E2 hA2 hpre hE2 => by
     have hir : i ∈ r := hA i o' hi hAi
     obtain ⟨o'', q1, q2, q3, _⟩ := xis i hir
     rw [hi] at q1; cases q1
     have hg : aGuard ops TF o' = some true := by simp [aGuard, q2]
     refine (Can1_op hg q3).congr (by simp [TT, o1]) fun u hu => atT E2 u fun k hk hd => ?_
     obtain ⟨l1, l2, el⟩ := List.append_of_mem hir
     obtain ⟨o'', p1, p2, _⟩ := restGo_mem hr3 el
     rw [hi] at p1; cases p1
     obtain ⟨p3, p4⟩ := p2 u hu
     have hk1 : k ∈ l1 := by
      have hk' := hk
      rw [el] at hk'
      rcases List.mem_append.1 hk' with hk' | hk'
      ·exact hk'
      ·exact absurd hd (p3 k hk')
     obtain ⟨e, he, hb, hon⟩ := p4 k (by simpa using hk1) hd
     rw [← hon]; exact hpre e he hb)
    (fun E2 hE2 => by
     have : TT T1 own x E2 = TF := by
      apply List.ext_getElem?
      intro u
      refine atT E2 u fun k hk _ => hE2 k (hzl k (by simp [hk]))
     rw [this]; exact hQ)
    fuel (addE E z) (listed.setIfInBounds z true) B I0 c' a' w' n
    (fun k hk => by
     rw [Bool.and_eq_true, Nat.blt_eq] at hk
     have hkr : k ∉ r := by simpa using hk.2
     simp only [addE]
     split
     ·rfl
     ·rename_i hkz
      exact (hE k hk.1).2 (by simp [hkz, hkr]))
    (by simpa using hsz) (fun k hk => by
     rw [Array.getElem?_setIfInBounds]
     by_cases e : z = k
     ·subst e; simp [addE, hsz, hz]
     ·rw [if_neg e, hl k hk]; simp [addE, Ne.symm e]) (by omega) (by rw [T0]; exact hR') (fun l hl => hE'.obj l (hob l hl))
   rw [fen_ext hE' hob] at key
   exact wpAnyIn_mono2 (fun e a u h => Aft.from hE' hs' h) _ _ _ _ key
end Go.Abs
end
