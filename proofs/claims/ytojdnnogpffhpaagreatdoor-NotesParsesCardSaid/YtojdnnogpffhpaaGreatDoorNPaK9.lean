/- Part of a proof, in few files: Abs21 Abs22. -/
import Derived.Test.YtojdnnogpffhpaaGreatDoorNPaK8

section
namespace Go.Abs
open Go.RowKit Go.Proofs
structure Fs where
  code : Option Nat → Code → S → Option (Exit × S)
  call : FuncId → List AV → Mem → Option (AV × Mem × Bool)
def quietOp : Op → Bool
  | .alloc _ | .box .. | .store .. | .makeSlice .. | .range .. | .next .. | .makeMap .. | .mapUpdate .. => false
  | .call { callee := .builtin b, .. } => match b with | .append | .copy => false | _ => true
  | _ => true
def istep (P : Program) (GT : Tabs) (F : Fs) (ops : Array Oper) (o : Oper) (T : List AV) (M : Mem) : Option (AV × Mem × Bool) :=
  match aGuard ops T o with
  | none => none
  | some false => some (.tup [], M, false)
  | some true =>
    match o.op with
    | .call { callee := .value f, args, .. } =>
      match aev GT T f with
      | .fn (.func g) l1 l2 => F.call g (l1 ++ args.toList.map (aev GT T) ++ l2) M
      | _ => none
    | op => match aop P (aev GT T) M op with | some (x, M') => some (x, M', !quietOp op) | none => none
def frzTmps (T : List AV) (M : Mem) : List Operand → Option (List AV × Mem)
  | [] => none
  | .tmp i :: r => match T[i]? with | some (.own b len ver) => (match ownPD M b len ver with | some x => some (T.set i (.pd x), frz M b) | none => frzTmps T M r) | _ => frzTmps T M r
  | _ :: r => frzTmps T M r
def ifrz (o : Oper) (s : S) : Option S :=
  match o.op with
  | .call { callee := .value _, args, .. } => (match frzTmps s.T s.M args.toList with | some (T, M) => some ⟨T, M, s.D⟩ | none => none)
  | _ => none
def ifrzs (s : S) : List Oper → Option S
  | [] => none
  | o :: r => match ifrz o s with | some s2 => some s2 | none => ifrzs s r
def iyield (GT : Tabs) (F : Fs) (ops : Array Oper) (o : Oper) (s : S) : Option (Bool × Mem) :=
  match aGuard ops s.T o, o.op with
  | some true, .call { callee := .value f, args, .. } =>
    match aev GT s.T f with
    | .yld l =>
      match s.M[l]? with
      | some (.loop .ready _ T ps asg bo _) =>
        if args.size = ps.size then
          match F.code (some l) asg ⟨setAll T ps.toList (args.toList.map (aev GT s.T)), s.M, []⟩ with
          | some (.normal, s1) =>
            match loopSt s1.M l with
            | some (.ready, pe1) =>
              match setLoop s1.M l .busy pe1 with
              | some M1 =>
                match F.code (some l) bo ⟨s1.T, M1, s1.D⟩ with
                | some (e, s2) =>
                  match rndEnd e with
                  | some (st, pe, b) => match setLoop s2.M l st pe with | some M' => some (b, M') | none => none
                  | none => none
                | none => none
              | none => none
            | _ => none
          | _ => none
        else none
      | _ => none
    | _ => none
  | _, _ => none
def iops (P : Program) (GT : Tabs) (F : Fs) (ops : Array Oper) : List Oper → S → Option S
  | [], s => some s
  | o :: rest, s =>
    match istep P GT F ops o s.T s.M with
    | some (x, M', _) => iops P GT F ops rest ⟨aput s.T o.dst x, M', s.D⟩
    | none => match iyield GT F ops o s with
      | some (b, M') => iops P GT F ops rest ⟨aput s.T o.dst (.pd (.bool b)), M', s.D⟩
      | none => match ifrz o s with
        | some s2 => match istep P GT F ops o s2.T s2.M with
          | some (x, M', _) => iops P GT F ops rest ⟨aput s2.T o.dst x, M', s2.D⟩
          | none => none
        | none => none
def ordGo : Nat → List (Nat × Nat) → Nat → List Nat
  | 0, _, _ => []
  | f + 1, pend, done =>
    match pend.find? fun p => Nat.beq (p.2 &&& done) p.2 with
    | none => []
    | some p => p.1 :: ordGo f (pend.filter fun q => !Nat.beq q.1 p.1) (done ||| (1 <<< p.1))
def edgeMask (o : Oper) : Nat := o.after.toList.foldl (fun m e => if Region.binds .any e then m ||| (1 <<< e.on) else m) 0
def ordOf (ops : Array Oper) : List Nat := ordGo ops.size (ops.toList.zipIdx.map fun p => (p.2, edgeMask p.1)) 0
def drun (P : Program) (GT : Tabs) (F : Fs) (ops : Array Oper) : List Nat → List AV → Mem → Option (List (Nat × AV × Mem) × List Nat × List AV × Mem)
  | [], T, M => some ([], [], T, M)
  | i :: r, T, M =>
    match ops[i]? with
    | none => none
    | some o =>
      match istep P GT F ops o T M with
      | none =>
        match iyield GT F ops o ⟨T, M, []⟩ with
        | none => none
        | some (b, M') =>
          match drun P GT F ops r (aput T o.dst (.pd (.bool b))) M' with
          | none => none
          | some (L, ls, T2, M2) => some ((i, .pd (.bool b), M') :: L, i :: ls, T2, M2)
      | some (x, M', q) =>
        match drun P GT F ops r (aput T o.dst x) M' with
        | none => none
        | some (L, ls, T2, M2) => some ((i, x, M') :: L, if q then i :: ls else ls, T2, M2)
def sameI : List PD → List PD → Bool
  | [], [] => true
  | .int k a :: l, .int k' b :: m => decide (k = k') && decide (a = b) && sameI l m
  | .str a :: l, .str b :: m => decide (a = b) && sameI l m
  | _, _ => false
def sameB : AV → AV → Bool
  | .own a b c, .own a' b' c' => Nat.beq a a' && Nat.beq b b' && Nat.beq c c'
  | .ptr a b c, .ptr a' b' c' => Nat.beq a a' && Nat.beq b b' && Nat.beq c c'
  | .nilp, .nilp => true
  | .fixed l, .fixed m => sameI l m
  | .pd (.sl l), .pd (.sl m) => sameI l m
  | .pd (.int k a), .pd (.int k' b) => decide (k = k') && decide (a = b)
  | .pd (.bool a), .pd (.bool b) => a == b
  | .pd (.str a), .pd (.str b) => decide (a = b)
  | _, _ => false
def sameBs : List AV → List AV → Bool
  | [], [] => true
  | x :: l, y :: m => sameB x y && sameBs l m
  | _, _ => false
def sameA : AV → AV → Bool
  | .agg l, .agg m => sameBs l m
  | x, y => sameB x y
def loadOk (P : Program) (GT : Tabs) (ops : Array Oper) (o : Oper) (T : List AV) (x : AV) (mems : List Mem) : Bool :=
  match aGuard ops T o with
  | some true => bif quietOp o.op then (mems.all fun M2 => match aop P (aev GT T) M2 o.op with | some (x', _) => sameA x x' | none => false) else false
  | _ => false
def frOf (P : Program) (GT : Tabs) (ops : Array Oper) (mems : List Mem) : List (Nat × AV × Mem) → List AV → List Nat
  | [], _ => []
  | (i, x, _) :: L, T =>
    match ops[i]? with
    | none => []
    | some o => if loadOk P GT ops o T x mems then i :: frOf P GT ops mems L (aput T o.dst x) else frOf P GT ops mems L (aput T o.dst x)
def frOk (P : Program) (GT : Tabs) (ops : Array Oper) (mems : List Mem) (fr : List Nat) : List (Nat × AV × Mem) → List AV → Bool
  | [], _ => true
  | (i, x, _) :: L, T =>
    match ops[i]? with
    | none => false
    | some o => (!fr.contains i || loadOk P GT ops o T x mems) && frOk P GT ops mems fr L (aput T o.dst x)
def memsOf (M : Mem) (ls : List Nat) (L : List (Nat × AV × Mem)) : List Mem := M :: (L.filter fun p => ls.contains p.1).map (·.2.2)
def idrawF (P : Program) (GT : Tabs) (ops : Array Oper) (s : S) (L : List (Nat × AV × Mem)) (ls : List Nat) (mems : List Mem) : Bool :=
  match frOf P GT ops mems L s.T with
  | [] => false
  | fr => drawOk ops ls (ordOf ops) fr && frOk P GT ops mems fr L s.T
def idraw (P : Program) (GT : Tabs) (F : Fs) (ops : Array Oper) (s : S) : Option S :=
  match drun P GT F ops (ordOf ops) s.T s.M with
  | none => none
  | some (L, ls, T2, M2) => if drawOk ops ls (ordOf ops) then some ⟨T2, M2, s.D⟩ else if idrawF P GT ops s L ls (memsOf s.M ls L) then some ⟨T2, M2, s.D⟩ else none
def iaft2 (F : Fs) (ro : Option Nat) (l : Nat) (T : List AV) (D : List Nat) (M : Mem) (pe : Option Code) : Option (Exit × S) :=
  match setLoop M l .exhausted pe with
  | some M2 => match pe with | none => some (.normal, ⟨T, M2, D⟩) | some c => F.code ro c ⟨T, M2, D⟩
  | none => none
def isBusy : LoopState → Bool | .busy => true | _ => false
def iaft (F : Fs) (ro : Option Nat) (l : Nat) (T : List AV) (D : List Nat) (M : Mem) : Option (Exit × S) :=
  match loopSt M l with
  | some (st, pe) => if isBusy st then none else iaft2 F ro l T D M pe
  | none => none
def endOk : Exit → Bool | .normal | .ret => true | _ => false
def icode (P : Program) (GT : Tabs) (F : Fs) (ro : Option Nat) (c : Code) (s : S) : Option (Exit × S) :=
  match c with
  | .skip => some (.normal, s)
  | .label _ => some (.normal, s)
  | .exit id => some (.exit id, s)
  | .ret => some (.ret, s)
  | .seq a b => match F.code ro a s with | some (.normal, s') => F.code ro b s' | r => r
  | .block id x => match F.code ro x s with | some (.exit id', s') => if Nat.beq id' id then some (.normal, s') else some (.exit id', s') | r => r
  | .cond k a b => match aev GT s.T k with | .pd (.bool t) => F.code ro (if t then a else b) s | _ => none
  | .loop x => match F.code ro x s with | some (.normal, s') => F.code ro (.loop x) s' | r => r
  | .region _ ops d => if d then (match idraw P GT F ops s with | some s' => some (.normal, s') | none => match ifrzs s ops.toList with | some s2 => (match idraw P GT F ops s2 with | some s' => some (.normal, s') | none => none) | none => none) else (match iops P GT F ops ops.toList s with | some s' => some (.normal, s') | none => none)
  | .rangeFunc g ps asg bo =>
    match aev GT s.T g with
    | .fn (.func gf) l1 l2 =>
      match ro with
      | none =>
        match F.call gf (l1 ++ [.yld (s.M.length + 1)] ++ l2) (s.M ++ [.defers false] ++ [.loop .ready none s.T ps asg bo s.M.length]) with
        | some (_, M', _) => iaft F none (s.M.length + 1) s.T (s.M.length :: s.D) M'
        | none => none
      | some l0 =>
        match s.M[l0]? with
        | some (.loop _ _ _ _ _ _ df) =>
          match F.call gf (l1 ++ [.yld s.M.length] ++ l2) (s.M ++ [.loop .ready none s.T ps asg bo df]) with
          | some (_, M', _) => iaft F (some l0) s.M.length s.T s.D M'
          | none => none
        | _ => none
    | _ => none
  | _ => none
def ibody (P : Program) (F : Fs) (f : FuncId) (args : List AV) (M : Mem) : Option (AV × Mem) :=
  match P.funcs[f]? with
  | some fn =>
    match fn.body with
    | some code =>
      match F.code none code ⟨args ++ List.replicate (fn.ntmps - args.length) .junk, M, []⟩ with
      | some (e, s') =>
        if endOk e && s'.D.all (fun d => Nat.ble M.length d) then
          match resOf P fn s'.T (shut s'.M s'.D) with | some r => some (r, shut s'.M s'.D) | none => none
        else none
      | none => none
    | none => none
  | none => none
def iown (P : Program) (F : Fs) (f : FuncId) (args : List AV) (M : Mem) : Option (AV × Mem × Bool) :=
  match ibody P F f args M with
  | some (r, M1) => if bel3 M.length r && (M1.take M.length).all (belO M.length) then some (r, M1.take M.length, true) else some (r, M1, true)
  | none => none
def iplain (P : Program) (F : Fs) (f : FuncId) (args : List AV) (M : Mem) : Option (AV × Mem × Bool) :=
  if args.all pur2 then
    match ibody P F f args [] with
    | some (r, M1) => match pure3 M1 r with | some r' => some (r', M, false) | none => none
    | none => none
  else none
def ifresh (P : Program) (F : Fs) (f : FuncId) (args : List AV) (M : Mem) : Option (AV × Mem × Bool) :=
  match ibody P F f args M with
  | some (.own b len ver, M1) => match ownPD M1 b len ver with | some x => if Nat.ble M.length b && (M1.take M.length).all (belO M.length) then some (.pd x, M1.take M.length, true) else none | none => none
  | _ => none
def icall (P : Program) (orc : FuncId → List AV → Mem → Option (AV × Mem × Bool)) (keep : FuncId → Bool) (F : Fs) (f : FuncId) (args : List AV) (M : Mem) : Option (AV × Mem × Bool) :=
  match orc f args M with
  | some z => some z
  | none => if keep f then ifresh P F f args M else match iplain P F f args M with | some z => some z | none => iown P F f args M
noncomputable def fixF (P : Program) (GT : Tabs) (orc : FuncId → List AV → Mem → Option (AV × Mem × Bool)) (keep : FuncId → Bool) (n : Nat) : Fs :=
  Nat.rec ⟨fun _ _ _ => none, fun _ _ _ => none⟩ (fun _ F => ⟨icode P GT F, icall P orc keep F⟩) n
variable {P : Program} {GT : Tabs} {orc : FuncId → List AV → Mem → Option (AV × Mem × Bool)} {keep : FuncId → Bool}
def AWx (P : Program) (GT : Tabs) (ro : Option Nat) (c : Code) (s : S) (Q : Exit → S → Prop) : Prop :=
  match c with
  | .loop x => ∃ k, LoopRun P GT ro x Q k s
  | c => AW P GT ro c s Q
theorem AWx.aw {ro : Option Nat} {c : Code} {s : S} {Q : Exit → S → Prop} (h : AWx P GT ro c s Q) : AW P GT ro c s Q := by
  cases c <;> first | exact h | exact AW_loopN h.choose_spec
def CallOK (P : Program) (GT : Tabs) (f : FuncId) (args : List AV) (M : Mem) (z : AV × Mem × Bool) : Prop :=
  Enters P f ∧ ACall P GT f args M (fun r M1 => r = z.1 ∧ M1 = z.2.1) ∧ (z.2.2 = false → z.2.1 = M)
structure Good (P : Program) (GT : Tabs) (F : Fs) : Prop where
  code : ∀ ro c s e s' (Q : Exit → S → Prop), F.code ro c s = some (e, s') → Q e s' → AWx P GT ro c s Q
  call : ∀ f args M z, F.call f args M = some z → CallOK P GT f args M z
theorem quiet_same {ρ : Operand → AV} {M M' : Mem} {op : Op} {x : AV} (h : aop P ρ M op = some (x, M')) (hq : quietOp op = true) : M' = M := by
  have same : ∀ {α : Option AV}, α.map (·, M) = some (x, M') → M' = M := by
    intro α h
    rw [Option.map_eq_some_iff] at h
    obtain ⟨a, h1, h2⟩ := h
    cases h2; rfl
  unfold aop at h
  split at h <;> first
    | (cases h; done)
    | (cases h; rfl)
    | exact same h
    | (simp [quietOp] at hq; done)
    | skip
  · split at h
    · cases h; rfl
    · cases h
  · unfold aBuiltin at h
    split at h <;> first
      | exact same h
      | (simp [quietOp] at hq; done)
      | cases h
theorem istep_ok {F : Fs} (hF : Good P GT F) {ro : Option Nat} {ops : Array Oper} {o : Oper} {T : List AV} {M M' : Mem} {x : AV} {q : Bool} (h : istep P GT F ops o T M = some (x, M', q)) :
    Can1 P GT ro ops o T M x M' ∧ (q = false → M' = M) ∧ (still o.op = true → ∀ M2, Can1 P GT ro ops o T M2 x M2) := by
  unfold istep at h
  split at h
  · cases h
  · rename_i hg; cases h; exact ⟨Can1_skip hg, fun _ => rfl, fun _ _ => Can1_skip hg⟩
  · rename_i hg
    split at h
    · rename_i f args ts ho
      split at h
      · rename_i g l1 l2 hf
        obtain ⟨h1, h2, h3⟩ := hF.call _ _ _ _ h
        exact ⟨Can1_call hg ho hf h1 h2, h3, fun hs => by rw [ho] at hs; cases hs⟩
      · cases h
    · split at h
      · rename_i x' M1 ha
        cases h
        exact ⟨Can1_op hg ha, fun hq => quiet_same ha (by simpa using hq), fun hs M2 => Can1_op hg ((still_any hs ha).2 M2)⟩
      · cases h
theorem AL_can1 {ro : Option Nat} {ops : Array Oper} {o : Oper} {rest : List Oper} {s : S} {x : AV} {M' : Mem} {Q : Exit → S → Prop} (h : Can1 P GT ro ops o s.T s.M x M') (hr : AL P GT ro ops rest ⟨aput s.T o.dst x, M', s.D⟩ Q) : AL P GT ro ops (o :: rest) s Q := by
  intro B I0 c a w n hR hob
  unfold wpListIn
  refine h B I0 c a w n _ _ hR.sim hR.glob hob hR.tmps.1 (fun t _ y hy => hR.tmps.2 t y hy) ?_
  intro c' v w' hS' hv hE hs
  have := hr B I0 c' (a.put o.dst v) w' n (hR.step hS' hE hs o.dst hv) (fun l hl => hE.obj l (hob l hl))
  rw [fen_ext hE hob] at this
  exact wpListIn_mono2 (fun e a u h => Aft.from hE hs h) _ _ _ this
theorem iyield_ok {F : Fs} (hF : Good P GT F) {ro : Option Nat} {ops : Array Oper} {o : Oper} {rest : List Oper} {s : S} {b : Bool} {M' : Mem} {Q : Exit → S → Prop} (h : iyield GT F ops o s = some (b, M'))
    (hr : AL P GT ro ops rest ⟨aput s.T o.dst (.pd (.bool b)), M', s.D⟩ Q) : AL P GT ro ops (o :: rest) s Q := by
  unfold iyield at h
  split at h
  case h_2 => cases h
  rename_i f args ts hg ho
  split at h
  case h_2 => cases h
  rename_i l hf
  split at h
  case h_2 => cases h
  rename_i pe T ps asg bo df hM
  split at h
  case isFalse => cases h
  rename_i hsz
  split at h
  case h_2 => cases h
  rename_i s1 h1
  split at h
  case h_2 => cases h
  rename_i pe1 h2
  split at h
  case h_2 => cases h
  rename_i M1 h3
  split at h
  case h_2 => cases h
  rename_i e s2 h4
  split at h
  case h_2 => cases h
  rename_i st pe2 b' h5
  split at h
  case h_2 => cases h
  rename_i M2 h6
  cases h
  refine AL_yield hg ho hf hM hsz (hF.code _ _ _ _ _ _ h1 ?_).aw
  exact ⟨by rw [h2]; rfl, M1, pe1, by rw [h2]; rfl, h3, (hF.code _ _ _ _ _ _ h4 ⟨st, pe2, b, M', h5, h6, hr⟩).aw⟩
theorem frzTmps_ok {T : List AV} {M : Mem} : ∀ {l : List Operand} {T' : List AV} {M' : Mem}, frzTmps T M l = some (T', M') → ∃ i b len ver x, T[i]? = some (.own b len ver) ∧ ownPD M b len ver = some x ∧ T' = T.set i (.pd x) ∧ M' = frz M b
  | [], _, _, h => by cases h
  | y :: r, T', M', h => by
    unfold frzTmps at h
    split at h
    · cases h
    · rename_i i r' e
      cases e
      split at h
      · rename_i b len ver hT
        split at h
        · rename_i x hx
          cases h
          exact ⟨i, b, len, ver, x, hT, hx, rfl, rfl⟩
        · exact frzTmps_ok h
      · exact frzTmps_ok h
    · rename_i r' _ e
      cases e
      exact frzTmps_ok h
theorem ifrz_ok {o : Oper} {s s2 : S} (h : ifrz o s = some s2) : ∃ i b len ver x, s.T[i]? = some (.own b len ver) ∧ ownPD s.M b len ver = some x ∧ s2 = ⟨s.T.set i (.pd x), frz s.M b, s.D⟩ := by
  unfold ifrz at h
  split at h
  · split at h
    · rename_i T M hz
      cases h
      obtain ⟨i, b, len, ver, x, h1, h2, rfl, rfl⟩ := frzTmps_ok hz
      exact ⟨i, b, len, ver, x, h1, h2, rfl⟩
    · cases h
  · cases h
theorem ifrzs_ok {s s2 : S} : ∀ {l : List Oper}, ifrzs s l = some s2 → ∃ i b len ver x, s.T[i]? = some (.own b len ver) ∧ ownPD s.M b len ver = some x ∧ s2 = ⟨s.T.set i (.pd x), frz s.M b, s.D⟩
  | [], h => by cases h
  | o :: r, h => by
    unfold ifrzs at h
    split at h
    · rename_i hz; cases h; exact ifrz_ok hz
    · exact ifrzs_ok h
theorem iops_ok {F : Fs} (hF : Good P GT F) {ro : Option Nat} {ops : Array Oper} {Q : Exit → S → Prop} : ∀ (l : List Oper) (s s' : S), iops P GT F ops l s = some s' → Q .normal s' → AL P GT ro ops l s Q
  | [], s, s', h, hq => by cases h; exact AL_nil hq
  | o :: rest, s, s', h, hq => by
    unfold iops at h
    split at h
    · rename_i x M' q hs
      exact AL_can1 (istep_ok hF hs).1 (iops_ok hF rest _ _ h hq)
    · split at h
      · rename_i b M' hy
        exact iyield_ok hF hy (iops_ok hF rest _ _ h hq)
      · split at h
        · rename_i s2 hz
          split at h
          · rename_i x M' q hs
            obtain ⟨i, b, len, ver, y, h1, h2, rfl⟩ := ifrz_ok hz
            exact AL_freeze i h1 h2 (AL_can1 (istep_ok hF hs).1 (iops_ok hF rest _ _ h hq))
          · cases h
        · cases h
theorem Can1_yield {ro : Option Nat} {ops : Array Oper} {o : Oper} {T : List AV} {M M0 : Mem} {b0 : Bool} {f : Operand} {args : Array Operand} {ts : Array TypeId} {l df : Nat} {pe : Option Code} {T0 : List AV} {ps : Array Tmp} {asg bo : Code} (hg : aGuard ops T o = some true)
    (ho : o.op = .call { callee := .value f, args := args, argTypes := ts }) (hf : aev GT T f = .yld l) (hM : M[l]? = some (.loop .ready pe T0 ps asg bo df)) (hsz : args.size = ps.size)
    (h : AW P GT (some l) asg ⟨setAll T0 ps.toList (args.toList.map (aev GT T)), M, []⟩ (thn (fun s1 => (loopSt s1.M l).map (·.1) = some .ready ∧ ∃ M1 pe1, (loopSt s1.M l).map (·.2) = some pe1 ∧ setLoop s1.M l .busy pe1 = some M1 ∧
      AW P GT (some l) bo ⟨s1.T, M1, s1.D⟩ (rndQ l fun b M' => b = b0 ∧ M' = M0)) fun _ _ => False)) : Can1 P GT ro ops o T M (.pd (.bool b0)) M0 := by
  intro B I0 c a w n KK QQ hS hG hob hl hT hK
  have hT' := sieve_rep hl hT
  have hR : Rel GT B I0 c ⟨sieve ops o T, M, []⟩ { a with defers := [] } w := ⟨hS, hG, hT', rfl, List.nodup_nil, by simp⟩
  rw [← sieve_guard] at hg
  have hmem : ∀ y, y = f ∨ y ∈ args → y ∈ o.op.operands := by
    intro y hy
    rw [ho]
    simp only [Op.operands, Call.operands, Array.mem_append]
    rcases hy with rfl | hy
    · exact .inl (by simp)
    · exact .inr hy
  have hw := aGuard_ok hT' hg
  have hfv := hR.ev f
  rw [sieve_ev (hmem f (.inl rfl)), hf] at hfv
  have hobj : obj M l := ⟨_, hM, rfl⟩
  have hargs : ArgsRep c M w (args.map a.eval) (args.toList.map (aev GT (sieve ops o T))) := list_rep (fun x => hR.ev x) args
  have emap : args.toList.map (aev GT (sieve ops o T)) = args.toList.map (aev GT T) := List.map_congr_left fun y hy => sieve_ev (hmem y (.inr (by simpa using hy)))
  rw [emap] at hargs
  have hfv : ARep c M w (a.eval f) (.yld l) := hfv
  generalize hv : a.eval f = v at hfv
  cases hfv with
  | yld l _ =>
    obtain ⟨tmps, fn, hL, hTl, hturn⟩ := hS.loop hM
    rw [if_pos hw]
    refine ⟨fun _ _ => fen_fn _ _ _, ?_⟩
    have hrun : (o.semAt (fen c ro).round a.eval).run P w = .ok (.round (c.blk l) fn ((ps.zip (args.map a.eval)).foldl (fun tmps (t, a) => tmps.setIfInBounds t a) tmps) asg bo) w := by
      rw [Oper.semAt_eq _ _ _ (by intro k e; rw [e] at ho; cases ho)]
      simp only [execOp, ho, resolve, hv, Deferred.ofValue, invoke]
      simp only [Sem.run_bind, Sem.run_pure, Result.andThen_ok]
      have := run_yield (P := P) (args := #[] ++ args.map a.eval ++ #[]) hL (by simpa using hsz)
      simpa using this
    rw [hrun]
    refine ⟨fun h => fen_depth _ _ h, ?_⟩
    refine roundIn_of_wpIn (fen_fn _ _ _) ?_
    have hfen : (fen c ro).inRound (c.blk l) = fen c (some l) := by cases ro <;> rfl
    rw [hfen]
    have hT0 : TRep c M w ((ps.zip (args.map a.eval)).foldl (fun tmps (t, a) => tmps.setIfInBounds t a) tmps) (setAll T0 ps.toList (args.toList.map (aev GT T))) := by
      have := setAll_rep ps.toList (args.map a.eval).toList (args.toList.map (aev GT T)) tmps T0 hTl (by simp) (fun i v x h1 h2 => hargs.2 i v x (by simpa using h1) h2)
      rw [← Array.foldl_toList, Array.toList_zip]; exact this
    refine wpIn_mono (h B I0 c _ w (n - 1) ⟨hS, hG, hT0, rfl, List.nodup_nil, by simp⟩ (by rintro _ ⟨⟩; exact hobj)) ?_
    rintro e a1 w1 ⟨s1, c1, q1, r1, e1, t1⟩
    cases e with
    | normal =>
      obtain ⟨hst, M1, pe1, hpe, hset, hbody⟩ := q1
      unfold loopSt at hst hpe
      unfold setLoop at hset
      split at hset
      · rename_i st1 pe2 T1 ps1 asg1 bo1 df1 hM1
        rw [hM1] at hst hpe
        simp at hst hpe
        subst hst; subst hpe
        cases hset
        obtain ⟨tmps1, fn1, hL1, hT1, hturn1⟩ := r1.sim.loop hM1
        obtain ⟨hS2, hE2, hs2⟩ := hturn1 .busy pe2
        have eb : c1.blk l = c.blk l := e1.toExt0.blk hobj
        refine ⟨_, run_beginRound (by rw [← eb]; exact hL1) rfl, ?_⟩
        have hob1 : obj (s1.M.set l (.loop .busy pe2 T1 ps1 asg1 bo1 df1)) l := hE2.obj l (e1.obj l hobj)
        have hb := hbody B I0 c1 a1 _ (n - 1) ⟨hS2, r1.glob.mono hs2, r1.tmps.mono hE2 hs2, r1.dfs.mono hE2⟩ (by rintro _ ⟨⟩; exact hob1)
        have ef : fen c1 (some l) = fen c (some l) := by simp only [fen, eb]
        rw [ef, eb] at hb
        refine wpIn_mono hb ?_
        rintro e a2 w2 ⟨s2, c2, ⟨st, pe3, b, M3, z1, z2, z3⟩, r2, e2, t2⟩
        unfold setLoop at z2
        split at z2
        · rename_i st3 pe4 T3 ps3 asg3 bo3 df3 hM3
          cases z2
          obtain ⟨tmps3, fn3, hL3, hT3, hturn3⟩ := r2.sim.loop hM3
          obtain ⟨hS3, hE3, hs3⟩ := hturn3 st pe3
          have eb2 : c2.blk l = c.blk l := by rw [e2.toExt0.blk hob1, eb]
          have hEx : Ext c M c2 (s2.M.set l (.loop st pe3 T3 ps3 asg3 bo3 df3)) := ((e1.trans hE2).trans e2).trans hE3
          have hSt := ((t1.trans (eb ▸ hs2)).trans t2).trans hs3
          obtain ⟨rfl, rfl⟩ := z3
          have hfin := hK c2 (.bool b) _ hS3 (.pd _ _ (.bool b)) hEx hSt
          have main : ∀ jump : Option Code, b = jump.isNone → st = (if jump.isNone then .ready else .done) → pe3 = jump → ∃ v w', (Instr.endRound (c.blk l) jump).run P w2 = .ok v w' ∧ KK (a.put o.dst v) w' := by
            rintro jump rfl rfl rfl
            exact ⟨_, _, run_endRound _ (by rw [← eb2]; exact hL3), by rw [← eb2]; exact hfin⟩
          cases e with
          | normal => cases z1; exact main none rfl rfl rfl
          | ret => cases z1; exact main (some .ret) rfl rfl rfl
          | exit id => cases z1; exact main (some (.exit id)) rfl rfl rfl
          | goto t => cases z1; exact main (some (.goto t)) rfl rfl rfl
          | panic ch => cases z1
          | outgrown => cases z1
        · cases z2
      · cases hset
    | _ => exact q1.elim
theorem iyield_can {F : Fs} (hF : Good P GT F) {ro : Option Nat} {ops : Array Oper} {o : Oper} {T : List AV} {M : Mem} {b : Bool} {M' : Mem} (h : iyield GT F ops o ⟨T, M, []⟩ = some (b, M')) : Can1 P GT ro ops o T M (.pd (.bool b)) M' ∧ still o.op = false := by
  unfold iyield at h
  split at h
  case h_2 => cases h
  rename_i f args ts hg ho
  split at h
  case h_2 => cases h
  rename_i l hf
  split at h
  case h_2 => cases h
  rename_i pe T0 ps asg bo df hM
  split at h
  case isFalse => cases h
  rename_i hsz
  split at h
  case h_2 => cases h
  rename_i s1 h1
  split at h
  case h_2 => cases h
  rename_i pe1 h2
  split at h
  case h_2 => cases h
  rename_i M1 h3
  split at h
  case h_2 => cases h
  rename_i e s2 h4
  split at h
  case h_2 => cases h
  rename_i st pe2 b' h5
  split at h
  case h_2 => cases h
  rename_i M2 h6
  cases h
  refine ⟨Can1_yield hg ho hf hM hsz (hF.code _ _ _ _ _ _ h1 ?_).aw, by rw [ho]; rfl⟩
  exact ⟨by rw [h2]; rfl, M1, pe1, by rw [h2]; rfl, h3, (hF.code _ _ _ _ _ _ h4 ⟨st, pe2, b, M', h5, h6, rfl, rfl⟩).aw⟩
theorem drun_ok {F : Fs} (hF : Good P GT F) {ro : Option Nat} {ops : Array Oper} (louds : List Nat) : ∀ (ord : List Nat) (T : List AV) (M : Mem) (L : List (Nat × AV × Mem)) (ls : List Nat) (T2 : List AV) (M2 : Mem), drun P GT F ops ord T M = some (L, ls, T2, M2) → (∀ i, i ∈ ls → i ∈ louds) →
    L.map (·.1) = ord ∧ Runs P GT ro ops louds [] L T M ∧ T2 = stT ops L T ∧ M2 = stM L M
  | [], T, M, L, ls, T2, M2, h, _ => by cases h; exact ⟨rfl, trivial, rfl, rfl⟩
  | i :: r, T, M, L, ls, T2, M2, h, hl => by
    unfold drun at h
    split at h
    · cases h
    · rename_i o ho
      split at h
      · split at h
        · cases h
        · rename_i b M' hy
          split at h
          · cases h
          · rename_i L' ls' T3 M3 hd
            cases h
            obtain ⟨a1, a2, a3, a4⟩ := drun_ok hF louds r _ _ _ _ _ _ hd (fun k hk => hl k (by simp [hk]))
            obtain ⟨b1, b2⟩ := iyield_can hF (ro := ro) hy
            refine ⟨by simp [a1], ⟨o, ho, b1, fun hc => ?_, fun hs => by simp [b2] at hs, a2⟩, by rw [a3]; simp [stT, ho], by rw [a4]; rfl⟩
            have := hl i (by simp); simp at hc; exact absurd this hc
      · rename_i x M' q hs
        split at h
        · cases h
        · rename_i L' ls' T3 M3 hd
          cases h
          obtain ⟨a1, a2, a3, a4⟩ := drun_ok hF louds r _ _ _ _ _ _ hd (fun k hk => hl k (by cases q <;> simp [hk]))
          obtain ⟨b1, b2, b3⟩ := istep_ok hF (ro := ro) hs
          refine ⟨by simp [a1], ⟨o, ho, b1, fun hc => b2 ?_, fun hs => b3 (by simpa using hs), a2⟩, by rw [a3]; simp [stT, ho], by rw [a4]; rfl⟩
          cases q with
          | false => rfl
          | true => have := hl i (by simp); simp at hc; exact absurd this hc
theorem sameI_ok {l m : List PD} (h : sameI l m = true) : l = m := by
  fun_induction sameI l m with
  | case1 => rfl
  | case2 l m k a k' b ih =>
    simp only [Bool.and_eq_true, decide_eq_true_eq] at h
    obtain ⟨⟨rfl, rfl⟩, h⟩ := h
    rw [ih h]
  | case3 l m a b ih =>
    simp only [Bool.and_eq_true, decide_eq_true_eq] at h
    obtain ⟨rfl, h⟩ := h
    rw [ih h]
  | case4 => cases h
theorem sameB_ok {x y : AV} (h : sameB x y = true) : x = y := by
  unfold sameB at h
  split at h
  · simp only [Bool.and_eq_true] at h
    obtain ⟨⟨h1, h2⟩, h3⟩ := h
    rw [Nat.eq_of_beq_eq_true h1, Nat.eq_of_beq_eq_true h2, Nat.eq_of_beq_eq_true h3]
  · simp only [Bool.and_eq_true] at h
    obtain ⟨⟨h1, h2⟩, h3⟩ := h
    rw [Nat.eq_of_beq_eq_true h1, Nat.eq_of_beq_eq_true h2, Nat.eq_of_beq_eq_true h3]
  · rfl
  · rw [sameI_ok h]
  · rw [sameI_ok h]
  · simp only [Bool.and_eq_true, decide_eq_true_eq] at h
    rw [h.1, h.2]
  · rw [beq_iff_eq.1 h]
  · rw [of_decide_eq_true h]
  · cases h
theorem sameBs_ok : ∀ {l m : List AV}, sameBs l m = true → l = m
  | [], [], _ => rfl
  | x :: l, y :: m, h => by
    simp only [sameBs, Bool.and_eq_true] at h
    rw [sameB_ok h.1, sameBs_ok h.2]
  | [], _ :: _, h => by simp [sameBs] at h
  | _ :: _, [], h => by simp [sameBs] at h
theorem sameA_ok {x y : AV} (h : sameA x y = true) : x = y := by
  unfold sameA at h
  split at h
  · rw [sameBs_ok h]
  · exact sameB_ok h
theorem loadOk_ok {ro : Option Nat} {ops : Array Oper} {o : Oper} {T : List AV} {x : AV} {mems : List Mem} (h : loadOk P GT ops o T x mems = true) : ∀ M2, M2 ∈ mems → Can1 P GT ro ops o T M2 x M2 := by
  intro M2 hM
  unfold loadOk at h
  split at h
  · rename_i hg
    cases hq : quietOp o.op with
    | false => rw [hq] at h; cases h
    | true =>
      rw [hq, cond_true] at h
      have h := List.all_eq_true.1 h M2 hM
      split at h
      · rename_i x' M3 ha
        have := sameA_ok h
        subst this
        have e := quiet_same ha hq
        subst e
        exact Can1_op hg ha
      · cases h
  · cases h
theorem RunsM.of {ro : Option Nat} {ops : Array Oper} {louds fr : List Nat} {mems : List Mem} : ∀ {L : List (Nat × AV × Mem)} {T : List AV} {M : Mem}, Runs P GT ro ops louds [] L T M → frOk P GT ops mems fr L T = true → RunsM (fun _ => (· ∈ mems)) P GT ro ops louds fr L T M
  | [], _, _, _, _ => trivial
  | (i, x, M') :: L, T, M, h, hf => by
    obtain ⟨o, h1, h2, h3, h4, h5⟩ := h
    unfold frOk at hf
    rw [h1] at hf
    simp only [Bool.and_eq_true, Bool.or_eq_true, Bool.not_eq_true'] at hf
    refine ⟨o, h1, h2, h3, fun hs M2 hM2 => ?_, RunsM.of h5 hf.2⟩
    cases hst : still o.op with
    | true => exact h4 (by simp [hst]) M2
    | false =>
      rw [hst, Bool.false_or] at hs
      exact loadOk_ok (hf.1.resolve_left (by rw [hs]; simp)) M2 hM2
theorem idraw_ok {F : Fs} (hF : Good P GT F) (hm : P.follows .mixedOrders = true) {ro : Option Nat} {id : Nat} {ops : Array Oper} {Q : Exit → S → Prop} {s s' : S} (h : idraw P GT F ops s = some s') (hq : Q .normal s') : AW P GT ro (.region id ops true) s Q := by
  unfold idraw at h
  split at h
  · cases h
  · rename_i L ls T2 M2 hd
    split at h
    · rename_i hok
      cases h
      obtain ⟨a1, a2, a3, a4⟩ := drun_ok hF (ro := ro) ls _ _ _ _ _ _ _ hd fun _ h => h
      rw [← a1] at hok
      subst a3; subst a4
      exact AW_drawRun hm hok a2 hq
    · split at h
      · rename_i hok
        cases h
        obtain ⟨a1, a2, a3, a4⟩ := drun_ok hF (ro := ro) ls _ _ _ _ _ _ _ hd fun _ h => h
        subst a3; subst a4
        unfold idrawF at hok
        split at hok
        · cases hok
        · rw [Bool.and_eq_true] at hok
          refine AW_drawRunM (Ms := fun _ => (· ∈ memsOf s.M ls L)) hm (a1 ▸ hok.1) (fun _ => by simp [memsOf]) (fun p hp hl _ _ => ?_) (RunsM.of a2 hok.2) hq
          simp only [memsOf, List.mem_cons, List.mem_map, List.mem_filter]
          exact .inr ⟨p, ⟨hp, hl⟩, rfl⟩
      · cases h
theorem iaft_ok {F : Fs} (hF : Good P GT F) {ro : Option Nat} {l : Nat} {T : List AV} {D : List Nat} {M : Mem} {e : Exit} {s' : S} {Q : Exit → S → Prop} (h : iaft F ro l T D M = some (e, s')) (hq : Q e s') : aftFn P GT ro l T D Q M := by
  unfold iaft at h
  split at h
  · rename_i st pe hst
    split at h
    · cases h
    · rename_i hb
      have hb' : st ≠ .busy := fun e => hb (by rw [e]; rfl)
      unfold iaft2 at h
      split at h
      · rename_i M2 hs
        refine ⟨st, pe, M2, hst, hb', hs, ?_⟩
        cases pe with
        | none => cases h; exact hq
        | some c => exact (hF.code _ _ _ _ _ _ h hq).aw
      · cases h
  · cases h
theorem icode_ok {F : Fs} (hF : Good P GT F) (hm : P.follows .mixedOrders = true) {ro : Option Nat} {c : Code} {s : S} {e : Exit} {s' : S} {Q : Exit → S → Prop} (h : icode P GT F ro c s = some (e, s')) (hq : Q e s') : AWx P GT ro c s Q := by
  cases c with
  | skip => cases h; exact AW_skip hq
  | label l => cases h; exact AW_label hq
  | exit id => cases h; exact AW_exit hq
  | ret => cases h; exact AW_ret hq
  | seq a b =>
    refine AW_seq ?_
    simp only [icode] at h
    split at h
    · rename_i s1 h1
      exact (hF.code _ _ _ _ _ _ h1 (hF.code _ _ _ _ _ _ h hq).aw).aw
    · rename_i h1
      refine (hF.code _ _ _ _ _ _ h ?_).aw
      cases e with
      | normal => exact absurd h (h1 _)
      | _ => exact hq
  | block id x =>
    refine AW_block ?_
    simp only [icode] at h
    split at h
    · rename_i id' s1 h1
      refine (hF.code _ _ _ _ _ _ h1 ?_).aw
      simp only [inB]
      split at h
      · rename_i hb; cases h; rw [if_pos (Nat.eq_of_beq_eq_true hb)]; exact hq
      · rename_i hb; cases h; rw [if_neg (fun e => hb (by rw [e]; exact Nat.beq_refl _))]; exact hq
    · rename_i h1
      refine (hF.code _ _ _ _ _ _ h ?_).aw
      cases e with
      | exit id' => exact absurd h (h1 _ _)
      | _ => exact hq
  | cond k a b =>
    simp only [icode] at h
    split at h
    · rename_i t hk
      exact AW_cond hk (hF.code _ _ _ _ _ _ h hq).aw
    · cases h
  | loop x =>
    simp only [icode] at h
    split at h
    · rename_i s1 h1
      obtain ⟨k, hk⟩ := hF.code _ _ _ _ _ _ h hq
      exact ⟨k + 1, (hF.code _ _ _ _ _ (thn (LoopRun P GT ro x Q k) Q) h1 hk).aw⟩
    · rename_i h1
      refine ⟨0, (hF.code _ _ _ _ _ (thn (fun _ => False) Q) h ?_).aw⟩
      cases e with
      | normal => exact absurd h (h1 _)
      | _ => exact hq
  | region id ops d =>
    simp only [icode] at h
    cases d with
    | false =>
      simp only [Bool.false_eq_true, if_false] at h
      split at h
      · rename_i s1 h1; cases h; exact AW_region (iops_ok hF _ _ _ h1 hq)
      · cases h
    | true =>
      simp only [if_true] at h
      split at h
      · rename_i s1 h1; cases h; exact idraw_ok hF hm h1 hq
      · split at h
        · rename_i s2 hz
          split at h
          · rename_i s1 h1
            cases h
            obtain ⟨i, b, len, ver, y, e1, e2, rfl⟩ := ifrzs_ok hz
            exact AW_freeze i e1 e2 (idraw_ok hF hm h1 hq)
          · cases h
        · cases h
  | rangeFunc g ps asg bo =>
    simp only [icode] at h
    split at h
    · rename_i gf l1 l2 hg
      cases ro with
      | none =>
        simp only at h
        split at h
        · rename_i v M' q hc
          obtain ⟨c1, c2, _⟩ := hF.call _ _ _ _ hc
          refine AW_rangeFunc hg c1 (c2.mono ?_)
          rintro r M1 ⟨_, rfl⟩
          exact iaft_ok hF h hq
        · cases h
      | some l0 =>
        simp only at h
        split at h
        · rename_i st0 pe0 T0 ps0 asg0 bo0 df hM0
          split at h
          · rename_i v M' q hc
            obtain ⟨c1, c2, _⟩ := hF.call _ _ _ _ hc
            refine AW_rangeFuncIn hM0 hg c1 (c2.mono ?_)
            rintro r M1 ⟨_, rfl⟩
            exact iaft_ok hF h hq
          · cases h
        · cases h
    · cases h
  | _ => cases h
theorem ibody_ok {F : Fs} (hF : Good P GT F) (hn : P.funcs.all (fun fn => !(fn.name == "runtime.NumGoroutine")) = true) {f : FuncId} {args : List AV} {M M' : Mem} {r : AV} (h : ibody P F f args M = some (r, M')) :
    Enters P f ∧ ACall P GT f args M fun r1 M1 => r1 = r ∧ M1 = M' := by
  unfold ibody at h
  split at h
  · rename_i fn hfn
    split at h
    · rename_i code hb
      split at h
      · rename_i e s' hc
        split at h
        · rename_i hcond
          split at h
          · rename_i r' hr
            cases h
            simp only [Bool.and_eq_true, List.all_eq_true] at hcond
            have hname : (fn.name == "runtime.NumGoroutine") = false := by
              have := Array.all_eq_true_iff_forall_mem.1 hn fn (Array.mem_of_getElem? hfn)
              simpa using this
            refine ⟨enters_of hfn hname hb, ACall_of_body hfn hb (hF.code _ _ _ _ _ _ hc ⟨?_, fun d hd => Nat.le_of_ble_eq_true (hcond.2 d hd), r, hr, rfl, rfl⟩).aw⟩
            have he := hcond.1
            cases e <;> first | exact .inl rfl | exact .inr rfl | exact absurd he (by simp [endOk])
          · cases h
        · cases h
      · cases h
    · cases h
  · cases h
theorem ACall.fresh {f : FuncId} {args : List AV} {M M1 : Mem} {b len ver : Nat} {x : PD} (h : ACall P GT f args M fun r M' => r = .own b len ver ∧ M' = M1) (hb : M.length ≤ b) (hx : ownPD M1 b len ver = some x) (hM : (M1.take M.length).all (belO M.length) = true) :
    ACall P GT f args M fun r M' => r = .pd x ∧ M' = M1.take M.length := by
  intro B I0 c w vs n h1 h2 h3
  refine (h B I0 c w vs n h1 h2 h3).mono ?_
  rintro e w' ⟨v, r, M', c', rfl, ⟨rfl, rfl⟩, q1, q2, q3, q4⟩
  have q3' := q3.cut
  have hlen := q3.len
  have main : ∀ (c2 : Ctx) (M2 : Mem), Sim B I0 c2 M2 w' → M2.take M.length = M'.take M.length → M.length ≤ M2.length → Ext c M c2 (M'.take M.length) → Stp B c' w' c2 w' → PRep c2.imm w' v x →
      ∃ v_1 r M'' c', Ending.returned v = .returned v_1 ∧ (r = .pd x ∧ M'' = M'.take M.length) ∧ ARep c' M'' w' v_1 r ∧ Sim B I0 c' M'' w' ∧ Ext c M c' M'' ∧ Stp B c w c' w' := by
    intro c2 M2 hS ht hl hE hs hp
    have := hS.take hl (by rw [ht]; exact hM)
    rw [ht] at this
    exact ⟨v, .pd x, _, c2, rfl, ⟨rfl, rfl⟩, .pd _ _ hp, this, hE, q4.trans hs⟩
  unfold ownPD at hx
  split at hx
  · rename_i l sz ver' z hMb
    obtain ⟨f1, f2, f3⟩ := q2.freeze hMb
    refine main (c'.freeze b) _ f1 ?_ (by simpa using hlen) (q3'.trans (Ext.grown _ _ _)) f3 ?_
    · rw [List.take_set_of_le hb]
    · exact ownPD_ok q2 q1 (show ownPD M' b len ver = some x by unfold ownPD; rw [hMb]; exact hx) (fun _ h => .inl h) fun _ => .inr rfl
  · rename_i sz ver' hMb
    refine main c' M' q2 rfl hlen q3' (Stp.refl _ _ _) ?_
    refine ownPD_ok q2 q1 (show ownPD M' b len ver = some x by unfold ownPD; rw [hMb]; exact hx) (fun _ h => h) fun hr => ?_
    obtain ⟨o, ho, hov⟩ := hr
    rw [hMb] at ho; cases ho; cases hov
  · cases hx
theorem icall_ok {F : Fs} (hF : Good P GT F) (hn : P.funcs.all (fun fn => !(fn.name == "runtime.NumGoroutine")) = true) (ho : ∀ f args M z, orc f args M = some z → CallOK P GT f args M z) {f : FuncId} {args : List AV} {M : Mem} {z : AV × Mem × Bool} (h : icall P orc keep F f args M = some z) : CallOK P GT f args M z := by
  have own : iown P F f args M = some z → CallOK P GT f args M z := by
    intro h
    unfold iown at h
    split at h
    · rename_i r M1 hb
      obtain ⟨h1, h2⟩ := ibody_ok hF hn hb
      split at h
      · rename_i hc
        simp only [Bool.and_eq_true] at hc
        cases h
        exact ⟨h1, h2.cut hc.1 hc.2, fun h => by cases h⟩
      · cases h; exact ⟨h1, h2, fun h => by cases h⟩
    · cases h
  have fresh : ifresh P F f args M = some z → CallOK P GT f args M z := by
    intro h
    unfold ifresh at h
    split at h
    · rename_i b len ver M1 hb
      obtain ⟨h1, h2⟩ := ibody_ok hF hn hb
      split at h
      · rename_i x hx
        split at h
        · rename_i hc
          simp only [Bool.and_eq_true] at hc
          cases h
          exact ⟨h1, h2.fresh (Nat.le_of_ble_eq_true hc.1) hx hc.2, fun h => by cases h⟩
        · cases h
      · cases h
    · cases h
  have plain : iplain P F f args M = some z → CallOK P GT f args M z := by
    intro h
    unfold iplain at h
    split at h
    · rename_i ha
      split at h
      · rename_i r M1 hb
        split at h
        · rename_i r' hr
          cases h
          obtain ⟨h1, h2⟩ := ibody_ok hF hn hb
          exact ⟨h1, h2.plain hr ha M, fun _ => rfl⟩
        · cases h
      · cases h
    · cases h
  unfold icall at h
  split at h
  · rename_i z' hz; cases h; exact ho _ _ _ _ hz
  · split at h
    · exact fresh h
    · split at h
      · rename_i z' hz; cases h; exact plain hz
      · exact own h
theorem fixF_ok (hm : P.follows .mixedOrders = true) (hn : P.funcs.all (fun fn => !(fn.name == "runtime.NumGoroutine")) = true) (ho : ∀ f args M z, orc f args M = some z → CallOK P GT f args M z) : ∀ n, Good P GT (fixF P GT orc keep n)
  | 0 => by
    constructor
    · intro ro c s e s' Q h _
      have h : (none : Option (Exit × S)) = some (e, s') := h
      cases h
    · intro f args M z h
      have h : (none : Option (AV × Mem × Bool)) = some z := h
      cases h
  | n + 1 => by
    constructor
    · intro ro c s e s' Q h hq
      exact icode_ok (fixF_ok hm hn ho n) hm h hq
    · intro f args M z h
      exact icall_ok (fixF_ok hm hn ho n) hn ho h
noncomputable def saysTrue (P : Program) (GT : Tabs) (orc : FuncId → List AV → Mem → Option (AV × Mem × Bool)) (keep : FuncId → Bool) (n : Nat) (f : FuncId) (args : List AV) : Bool :=
  match iplain P (fixF P GT orc keep n) f args [] with
  | some (.pd (.bool b), _, _) => b
  | _ => false
theorem saysTrue_ok (hm : P.follows .mixedOrders = true) (hn : P.funcs.all (fun fn => !(fn.name == "runtime.NumGoroutine")) = true) (ho : ∀ f args M z, orc f args M = some z → CallOK P GT f args M z) {n : Nat} {f : FuncId} {args : List AV} (h : saysTrue P GT orc keep n f args = true) :
    ASpec P GT f args (· = .pd (.bool true)) := by
  unfold saysTrue at h
  split at h
  · rename_i b M q hz
    subst h
    unfold iplain at hz
    split at hz
    · split at hz
      · rename_i r M1 hb
        split at hz
        · rename_i r' hr
          cases hz
          obtain ⟨h1, h2⟩ := ibody_ok (fixF_ok hm hn ho n) hn hb
          exact .of (h2.mono fun r2 M2 ⟨a, b⟩ => ⟨_, by rw [a, b]; exact hr, rfl⟩)
        · cases hz
      · cases hz
    · cases hz
  · cases h
end Go.Abs
end

section
namespace Go.Abs
open Go.RowKit Go.Proofs
def two (b : Bool) (k : Bool → Prop) : Prop := (b = true → k true) ∧ (b = false → k false)
def Rnd (P : Program) (GT : Tabs) (l : Nat) (args : List AV) (M : Mem) (K : Bool → Mem → Prop) : Prop :=
  ∃ pe T ps asg bo df, M[l]? = some (.loop .ready pe T ps asg bo df) ∧ args.length = ps.size ∧
    AW P GT (some l) asg ⟨setAll T ps.toList args, M, []⟩ (thn (fun s1 => (loopSt s1.M l).map (·.1) = some .ready ∧ ∃ M1 pe1, (loopSt s1.M l).map (·.2) = some pe1 ∧ setLoop s1.M l .busy pe1 = some M1 ∧ AW P GT (some l) bo ⟨s1.T, M1, s1.D⟩ (rndQ l K)) fun _ _ => False)
variable {P : Program} {GT : Tabs} {ro : Option Nat}
theorem Rnd.yield {ops : Array Oper} {o : Oper} {rest : List Oper} {f : Operand} {args : Array Operand} {ts : Array TypeId} {l : Nat} {s : S} {Q : Exit → S → Prop} (hg : aGuard ops s.T o = some true) (ho : o.op = .call { callee := .value f, args := args, argTypes := ts })
    (hf : aev GT s.T f = .yld l) (h : Rnd P GT l (args.toList.map (aev GT s.T)) s.M fun b M' => AL P GT ro ops rest ⟨aput s.T o.dst (.pd (.bool b)), M', s.D⟩ Q) : AL P GT ro ops (o :: rest) s Q := by
  obtain ⟨pe, T, ps, asg, bo, df, h1, h2, h3⟩ := h
  exact AL_yield hg ho hf h1 (by simpa using h2) h3
theorem Rnd.mono {l : Nat} {args : List AV} {M : Mem} {K K' : Bool → Mem → Prop} (hk : ∀ b M, K b M → K' b M) (h : Rnd P GT l args M K) : Rnd P GT l args M K' := by
  obtain ⟨pe, T, ps, asg, bo, df, h1, h2, h3⟩ := h
  refine ⟨pe, T, ps, asg, bo, df, h1, h2, h3.mono ?_⟩
  intro e s' hq
  cases e with
  | normal =>
    obtain ⟨q1, M1, pe1, q2, q3, q4⟩ := hq
    refine ⟨q1, M1, pe1, q2, q3, q4.mono ?_⟩
    rintro e s2 ⟨st, pe, b, M', r1, r2, r3⟩
    exact ⟨st, pe, b, M', r1, r2, hk _ _ r3⟩
  | _ => exact hq
end Go.Abs
end
