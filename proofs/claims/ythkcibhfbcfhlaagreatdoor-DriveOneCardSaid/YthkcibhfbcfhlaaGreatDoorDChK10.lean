/- Part of a proof, in few files: Abs21. -/
import Derived.Test.YthkcibhfbcfhlaaGreatDoorDChK9

set_option linter.unusedVariables false
set_option linter.unusedSimpArgs false
set_option linter.unnecessarySimpa false
section
namespace Go.Abs
open Go.RowKit Go.Proofs
structure Fs where
 code : Option Nat → Code → S → Option (Exit × S)
 call : FuncId → List AV → Mem → Option (AV × Mem × Bool)
def quietOp : Op → Bool
 | .alloc _ | .box .. | .store .. | .makeSlice .. | .range .. | .next .. | .makeMap .. | .mapUpdate .. => false
 | .call { callee := .builtin b, .. } => match b with | .append | .copy => false | _ => true
 | _ => true
def istep (P : Program) (GT : Tabs) (F : Fs) (ops : Array Oper) (o : Oper) (T : List AV) (M : Mem) : Option (AV × Mem × Bool) :=
 match aGuard ops T o with
 | none => none
 | some false => some (.tup [], M, false)
 | some true =>
  match o.op with
  | .call { callee := .value f, args, .. } =>
   match aev GT T f with
   | .fn (.func g) l1 l2 => F.call g (l1 ++ args.toList.map (aev GT T) ++ l2) M
   | _ => none
  | op => match aop P (aev GT T) M op with | some (x, M') => some (x, M', !quietOp op) | none => none
def frzTmps (T : List AV) (M : Mem) : List Operand → Option (List AV × Mem)
 | [] => none
 | .tmp i :: r => match T[i]? with | some (.own b len ver) => (match ownPD M b len ver with | some x => some (T.set i (.pd x), frz M b) | none => frzTmps T M r) | _ => frzTmps T M r
 | _ :: r => frzTmps T M r
def ifrz (o : Oper) (s : S) : Option S :=
 match o.op with
 | .call { callee := .value _, args, .. } => (match frzTmps s.T s.M args.toList with | some (T, M) => some ⟨T, M, s.D⟩ | none => none)
 | .buildSlice _ _ ps => (match frzTmps s.T s.M (ps.toList.map (·.2)) with | some (T, M) => some ⟨T, M, s.D⟩ | none => none)
 | .move y => (match frzTmps s.T s.M [y] with | some (T, M) => some ⟨T, M, s.D⟩ | none => none)
 | _ => none
def ifrzs (s : S) : List Oper → Option S
 | [] => none
 | o :: r => match ifrz o s with | some s2 => some s2 | none => ifrzs s r
def iyield (GT : Tabs) (F : Fs) (ops : Array Oper) (o : Oper) (s : S) : Option (Bool × Mem) :=
 match aGuard ops s.T o, o.op with
 | some true, .call { callee := .value f, args, .. } =>
  match aev GT s.T f with
  | .yld l =>
   match s.M[l]? with
   | some (.loop .ready _ T ps asg bo _) =>
    if args.size = ps.size then
     match F.code (some l) asg ⟨setAll T ps.toList (args.toList.map (aev GT s.T)), s.M, []⟩ with
     | some (.normal, s1) =>
      match loopSt s1.M l with
      | some (.ready, pe1) =>
       match setLoop s1.M l .busy pe1 with
       | some M1 =>
        match F.code (some l) bo ⟨s1.T, M1, s1.D⟩ with
        | some (e, s2) =>
         match rndEnd e with
         | some (st, pe, b) => match setLoop s2.M l st pe with | some M' => some (b, M') | none => none
         | none => none
        | none => none
       | none => none
      | _ => none
     | _ => none
    else none
   | _ => none
  | _ => none
 | _, _ => none
def inext (GT : Tabs) (ops : Array Oper) (o : Oper) (s : S) : Option (AV × Mem) :=
 match aGuard ops s.T o, o.op with
 | some true, .next y false =>
  match aev GT s.T y with
  | .it i =>
   match s.M[i]? with
   | some (.mit b n seen) =>
    match s.M[b]? with
    | some (.map bl l) =>
     if l.length = n then
      match (List.range n).filter fun j => !seen.contains j with
      | [] => some (.tup [.pd (.bool false)], s.M)
      | [j] => match l[j]? with | some p => some (.tup [.pd (.bool true), .pd (.int .i64 p.1), mvA bl p.2], s.M.set i (.mit b n (seen ++ [j]))) | none => none
      | _ => none
     else none
    | _ => none
   | _ => none
  | _ => none
 | _, _ => none
def iops (P : Program) (GT : Tabs) (F : Fs) (ops : Array Oper) : List Oper → S → Option S
 | [], s => some s
 | o :: rest, s =>
  match istep P GT F ops o s.T s.M with
  | some (x, M', _) => iops P GT F ops rest ⟨aput s.T o.dst x, M', s.D⟩
  | none => match iyield GT F ops o s with
   | some (b, M') => iops P GT F ops rest ⟨aput s.T o.dst (.pd (.bool b)), M', s.D⟩
   | none => match inext GT ops o s with
    | some (x, M') => iops P GT F ops rest ⟨aput s.T o.dst x, M', s.D⟩
    | none => match ifrz o s with
     | some s2 => match istep P GT F ops o s2.T s2.M with
      | some (x, M', _) => iops P GT F ops rest ⟨aput s2.T o.dst x, M', s2.D⟩
      | none => none
     | none => none
def ordGo : Nat → List (Nat × Nat) → Nat → List Nat
 | 0, _, _ => []
 | f + 1, pend, done =>
  match pend.find? fun p => Nat.beq (p.2 &&& done) p.2 with
  | none => []
  | some p => p.1 :: ordGo f (pend.filter fun q => !Nat.beq q.1 p.1) (done ||| (1 <<< p.1))
def edgeMask (o : Oper) : Nat := o.after.toList.foldl (fun m e => if Region.binds .any e then m ||| (1 <<< e.on) else m) 0
def ordOf (ops : Array Oper) : List Nat := ordGo ops.size (ops.toList.zipIdx.map fun p => (p.2, edgeMask p.1)) 0
def drun (P : Program) (GT : Tabs) (F : Fs) (ops : Array Oper) : List Nat → List AV → Mem → Option (List (Nat × AV × Mem) × List Nat × List AV × Mem)
 | [], T, M => some ([], [], T, M)
 | i :: r, T, M =>
  match ops[i]? with
  | none => none
  | some o =>
   match istep P GT F ops o T M with
   | none =>
    match iyield GT F ops o ⟨T, M, []⟩ with
    | none =>
     match (bif still o.op then none else ifrz o ⟨T, M, []⟩) with
     | none => none
     | some s2 =>
      match istep P GT F ops o s2.T s2.M with
      | none => none
      | some (x, M', _) =>
       match drun P GT F ops r (aput T o.dst x) M' with
       | none => none
       | some (L, ls, T2, M2) => some ((i, x, M') :: L, i :: ls, T2, M2)
    | some (b, M') =>
     match drun P GT F ops r (aput T o.dst (.pd (.bool b))) M' with
     | none => none
     | some (L, ls, T2, M2) => some ((i, .pd (.bool b), M') :: L, i :: ls, T2, M2)
   | some (x, M', q) =>
    match drun P GT F ops r (aput T o.dst x) M' with
    | none => none
    | some (L, ls, T2, M2) => some ((i, x, M') :: L, if q then i :: ls else ls, T2, M2)
mutual
def eqPD : PD → PD → Bool
 | .int k a, .int k' b => decide (k = k') && decide (a = b)
 | .bool a, .bool b => a == b
 | .str a, .str b => decide (a = b)
 | .err a, .err b => a == b
 | .agg l, .agg m => eqPDs l m
 | .sl l, .sl m => eqPDs l m
 | _, _ => false
def eqPDs : List PD → List PD → Bool
 | [], [] => true
 | x :: l, y :: m => eqPD x y && eqPDs l m
 | _, _ => false
end
def sameB : AV → AV → Bool
 | .own a b c, .own a' b' c' => Nat.beq a a' && Nat.beq b b' && Nat.beq c c'
 | .ptr a b c, .ptr a' b' c' => Nat.beq a a' && Nat.beq b b' && Nat.beq c c'
 | .nilp, .nilp => true
 | .fixed l, .fixed m => eqPDs l m
 | .rd l, .rd m => eqPDs l m
 | .yld a, .yld b => Nat.beq a b
 | .mp a, .mp b => Nat.beq a b
 | .pd x, .pd y => eqPD x y
 | _, _ => false
def sameBs : List AV → List AV → Bool
 | [], [] => true
 | x :: l, y :: m => sameB x y && sameBs l m
 | _, _ => false
def sameA : AV → AV → Bool
 | .agg l, .agg m => sameBs l m
 | x, y => sameB x y
def loadOk (P : Program) (GT : Tabs) (ops : Array Oper) (o : Oper) (T : List AV) (x : AV) (mems : List Mem) : Bool :=
 match aGuard ops T o with
 | some true => bif quietOp o.op then (mems.all fun M2 => match aop P (aev GT T) M2 o.op with | some (x', _) => sameA x x' | none => false) else false
 | _ => false
def frOf (P : Program) (GT : Tabs) (ops : Array Oper) (mems : Nat → List Mem) : List (Nat × AV × Mem) → List AV → List Nat
 | [], _ => []
 | (i, x, _) :: L, T =>
  match ops[i]? with
  | none => []
  | some o => if loadOk P GT ops o T x (mems i) then i :: frOf P GT ops mems L (aput T o.dst x) else frOf P GT ops mems L (aput T o.dst x)
def frOk (P : Program) (GT : Tabs) (ops : Array Oper) (mems : Nat → List Mem) (fr : List Nat) : List (Nat × AV × Mem) → List AV → Bool
 | [], _ => true
 | (i, x, _) :: L, T =>
  match ops[i]? with
  | none => false
  | some o => (!fr.contains i || loadOk P GT ops o T x (mems i)) && frOk P GT ops mems fr L (aput T o.dst x)
def memsOf (ops : Array Oper) (ord : List Nat) (M : Mem) (ls : List Nat) (L : List (Nat × AV × Mem)) (i : Nat) : List Mem := M :: (L.filter fun p => ls.contains p.1 && !tbit (tblOf ops ord (List.replicate ops.size 0)) p.1 i).map (·.2.2)
def isCallV : Op → Bool
 | .call { callee := .value _, .. } => true
 | _ => false
def isFr : Op → Bool
 | .makeSlice .. => true
 | op => isCallV op
def cfr (ops : Array Oper) (ls : List Nat) : List Nat := (List.range ops.size).filter fun i => (match ops[i]? with | some o => isCallV o.op | none => false) && !ls.contains i
def idrawF (P : Program) (GT : Tabs) (ops : Array Oper) (s : S) (L : List (Nat × AV × Mem)) (ls : List Nat) (mems : Nat → List Mem) : Bool :=
 match frOf P GT ops mems L s.T with
 | [] => false
 | fr => drawOk ops ls (ordOf ops) (fr ++ cfr ops ls) && frOk P GT ops mems fr L s.T
def idraw (P : Program) (GT : Tabs) (F : Fs) (ops : Array Oper) (s : S) : Option S :=
 match drun P GT F ops (ordOf ops) s.T s.M with
 | none => none
 | some (L, ls, T2, M2) => if drawOk ops ls (ordOf ops) then some ⟨T2, M2, s.D⟩ else if drawOk ops ls (ordOf ops) (cfr ops ls) then some ⟨T2, M2, s.D⟩ else if idrawF P GT ops s L ls (memsOf ops (ordOf ops) s.M ls L) then some ⟨T2, M2, s.D⟩ else none
mutual
def eqAV : AV → AV → Bool
 | .pd x, .pd y => eqPD x y
 | .agg l, .agg m => eqAVs l m
 | .tup l, .tup m => eqAVs l m
 | .ptr a b c, .ptr a' b' c' => Nat.beq a a' && Nat.beq b b' && Nat.beq c c'
 | .nilp, .nilp => true
 | .rd l, .rd m => eqPDs l m
 | .own a b c, .own a' b' c' => Nat.beq a a' && Nat.beq b b' && Nat.beq c c'
 | .fixed l, .fixed m => eqPDs l m
 | .fn (.func f) a b, .fn (.func f') a' b' => Nat.beq f f' && eqAVs a a' && eqAVs b b'
 | .nilf, .nilf => true
 | .mp a, .mp b => Nat.beq a b
 | .junk, .junk => true
 | _, _ => false
def eqAVs : List AV → List AV → Bool
 | [], [] => true
 | x :: l, y :: m => eqAV x y && eqAVs l m
 | _, _ => false
end
def eqII : List (Int × Int) → List (Int × Int) → Bool
 | [], [] => true
 | (a, b) :: l, (c, d) :: m => decide (a = c) && decide (b = d) && eqII l m
 | _, _ => false
def eqOb : Ob → Ob → Bool
 | .cells l s v z, .cells l' s' v' z' => eqAVs l l' && Nat.beq s s' && Nat.beq v v' && (z == z')
 | .vrow s v, .vrow s' v' => Nat.beq s s' && Nat.beq v v'
 | .defers a, .defers b => a == b
 | .map a l, .map b m => (a == b) && eqII l m
 | _, _ => false
def eqMem : Mem → Mem → Bool
 | [], [] => true
 | a :: l, b :: m => eqOb a b && eqMem l m
 | _, _ => false
def isVrow (M : Mem) (p : Nat) : Bool := match M[p]? with | some (.vrow _ v) => Nat.beq v 0 | _ => false
def chkA (P : Program) (GT : Tabs) (F : Fs) (ops : Array Oper) (p : Nat) (xs : List AV) (o : Oper) (T : List AV) (M : Mem) (x : AV) (M' : Mem) (q : Bool) : Bool :=
 still o.op || (!q && isCallV o.op) || (match istep P GT F ops o T (M.set p (.cells xs 1 1 false)) with | some (x', M2, _) => sameA x x' && eqMem M2 (M'.set p (.cells xs 1 1 false)) | none => false)
def drunA (P : Program) (GT : Tabs) (F : Fs) (ops : Array Oper) (z p : Nat) (xs : List AV) : List Nat → List AV → Mem → Option (List (Nat × AV × Mem) × List Nat × List AV × Mem)
 | [], T, M => some ([], [], T, M)
 | i :: r, T, M =>
  match ops[i]? with
  | none => none
  | some o =>
   if i = z then
    if isVrow M p then
    match drunA P GT F ops z p xs r (aput T o.dst (.ptr p 0 1)) M with
    | none => none
    | some (L, ls, T2, M2) => some ((i, .ptr p 0 1, M) :: L, ls, T2, M2)
    else none
   else match mkPlain P GT ops o T with
   | some x =>
    match drunA P GT F ops z p xs r (aput T o.dst x) M with
    | none => none
    | some (L, ls, T2, M2) => some ((i, x, M) :: L, ls, T2, M2)
   | none =>
    match istep P GT F ops o T M with
    | none => none
    | some (x, M', q) =>
     if chkA P GT F ops p xs o T M x M' q then
      match drunA P GT F ops z p xs r (aput T o.dst x) M' with
      | none => none
      | some (L, ls, T2, M2) => some ((i, x, M') :: L, if q then i :: ls else ls, T2, M2)
     else none
def mfr (ops : Array Oper) (ls : List Nat) : List Nat := (List.range ops.size).filter fun i => (match ops[i]? with | some o => isFr o.op | none => false) && !ls.contains i
def memsA (ops : Array Oper) (ord : List Nat) (M : Mem) (ls : List Nat) (L : List (Nat × AV × Mem)) (p : Nat) (xs : List AV) (i : Nat) : List Mem := memsOf ops ord M ls L i ++ (memsOf ops ord M ls L i).map fun M2 => M2.set p (.cells xs 1 1 false)
def idrawA (P : Program) (GT : Tabs) (F : Fs) (ops : Array Oper) (s : S) : Option S :=
 match (ops.toList.zipIdx.find? fun q => match q.1.op with | .alloc _ => true | _ => false) with
 | some (oz, z) =>
  match oz.op, oz.guard, ops[ops.size - 1]? with
  | .alloc t, none, some ol =>
   match zeroOf P t with
   | some x =>
    match x.cells with
    | some xs =>
     match drunA P GT F ops z s.M.length xs (z :: (ordOf ops).filter fun i => !Nat.beq i z && !Nat.beq i (ops.size - 1)) s.T (s.M ++ [.vrow 1 0]) with
     | some (L, ls, T2, M2) =>
      if !ls.contains z && (L.map (·.1)).contains z && chainOk ops [ops.size - 1] &&
        drawOk ops ls (L.map (·.1) ++ [ops.size - 1]) (z :: (frOf P GT ops (memsA ops (L.map (·.1) ++ [ops.size - 1]) (s.M ++ [.vrow 1 0]) ls L s.M.length xs) L s.T ++ mfr ops ls)) &&
        ((List.range ops.size).all fun k => [ops.size - 1].contains k || tbit (tblOf ops (L.map (·.1) ++ [ops.size - 1]) (List.replicate ops.size 0)) (ops.size - 1) k) &&
        frOk P GT ops (memsA ops (L.map (·.1) ++ [ops.size - 1]) (s.M ++ [.vrow 1 0]) ls L s.M.length xs) (frOf P GT ops (memsA ops (L.map (·.1) ++ [ops.size - 1]) (s.M ++ [.vrow 1 0]) ls L s.M.length xs) L s.T) L s.T &&
        (memsOf ops (L.map (·.1) ++ [ops.size - 1]) (s.M ++ [.vrow 1 0]) ls L z).all (isVrow · s.M.length) then
       iops P GT F ops [ol] ⟨T2, M2.set s.M.length (.cells xs 1 1 false), s.D⟩
      else none
     | none => none
    | none => none
   | none => none
  | _, _, _ => none
 | none => none
def iaft2 (F : Fs) (ro : Option Nat) (l : Nat) (T : List AV) (D : List Nat) (M : Mem) (pe : Option Code) : Option (Exit × S) :=
 match setLoop M l .exhausted pe with
 | some M2 => match pe with | none => some (.normal, ⟨T, M2, D⟩) | some c => F.code ro c ⟨T, M2, D⟩
 | none => none
def isBusy : LoopState → Bool | .busy => true | _ => false
def iaft (F : Fs) (ro : Option Nat) (l : Nat) (T : List AV) (D : List Nat) (M : Mem) : Option (Exit × S) :=
 match loopSt M l with
 | some (st, pe) => if isBusy st then none else iaft2 F ro l T D M pe
 | none => none
def endOk : Exit → Bool | .normal | .ret => true | _ => false
def icode (P : Program) (GT : Tabs) (F : Fs) (ro : Option Nat) (c : Code) (s : S) : Option (Exit × S) :=
 match c with
 | .skip => some (.normal, s)
 | .label _ => some (.normal, s)
 | .exit id => some (.exit id, s)
 | .ret => some (.ret, s)
 | .seq a b => match F.code ro a s with | some (.normal, s') => F.code ro b s' | r => r
 | .block id x => match F.code ro x s with | some (.exit id', s') => if Nat.beq id' id then some (.normal, s') else some (.exit id', s') | r => r
 | .cond k a b => match aev GT s.T k with | .pd (.bool t) => F.code ro (if t then a else b) s | _ => none
 | .loop x => match F.code ro x s with | some (.normal, s') => F.code ro (.loop x) s' | r => r
 | .scope x => match F.code ro x s with | some (.goto _, _) => none | r => r
 | .region _ ops d => if d then (match idraw P GT F ops s with | some s' => some (.normal, s') | none => match ifrzs s ops.toList with | some s2 => (match idraw P GT F ops s2 with | some s' => some (.normal, s') | none => none) | none => (match idrawA P GT F ops s with | some s' => some (.normal, s') | none => none)) else (match iops P GT F ops ops.toList s with | some s' => some (.normal, s') | none => none)
 | .rangeFunc g ps asg bo =>
  match aev GT s.T g with
  | .fn (.func gf) l1 l2 =>
   match ro with
   | none =>
    match F.call gf (l1 ++ [.yld (s.M.length + 1)] ++ l2) (s.M ++ [.defers false] ++ [.loop .ready none s.T ps asg bo s.M.length]) with
    | some (_, M', _) => iaft F none (s.M.length + 1) s.T (s.M.length :: s.D) M'
    | none => none
   | some l0 =>
    match s.M[l0]? with
    | some (.loop _ _ _ _ _ _ df) =>
     match F.call gf (l1 ++ [.yld s.M.length] ++ l2) (s.M ++ [.loop .ready none s.T ps asg bo df]) with
     | some (_, M', _) => iaft F (some l0) s.M.length s.T s.D M'
     | none => none
    | _ => none
  | _ => none
 | _ => none
def ibody (P : Program) (F : Fs) (f : FuncId) (args : List AV) (M : Mem) : Option (AV × Mem) :=
 match P.funcs[f]? with
 | some fn =>
  match fn.body with
  | some code =>
   match F.code none code ⟨args ++ List.replicate (fn.ntmps - args.length) .junk, M, []⟩ with
   | some (e, s') =>
    if endOk e && s'.D.all (fun d => Nat.ble M.length d) then
     match resOf P fn s'.T (shut s'.M s'.D) with | some r => some (r, shut s'.M s'.D) | none => none
    else none
   | none => none
  | none => none
 | none => none
def iown (P : Program) (F : Fs) (f : FuncId) (args : List AV) (M : Mem) : Option (AV × Mem × Bool) :=
 match ibody P F f args M with
 | some (r, M1) => if bel3 M.length r && (M1.take M.length).all (belO M.length) then some (r, M1.take M.length, true) else some (r, M1, true)
 | none => none
def iplain (P : Program) (F : Fs) (f : FuncId) (args : List AV) (M : Mem) : Option (AV × Mem × Bool) :=
 if args.all pur2 then
  match ibody P F f args [] with
  | some (r, M1) => match pure3 M1 r with | some r' => some (r', M, false) | none => none
  | none => none
 else none
def ifresh (P : Program) (F : Fs) (f : FuncId) (args : List AV) (M : Mem) : Option (AV × Mem × Bool) :=
 match ibody P F f args M with
 | some (.own b len ver, M1) => match ownPD M1 b len ver with | some x => if Nat.ble M.length b && (M1.take M.length).all (belO M.length) then some (.pd x, M1.take M.length, true) else none | none => none
 | _ => none
def icall (P : Program) (orc : FuncId → List AV → Mem → Option (AV × Mem × Bool)) (keep : FuncId → Bool) (F : Fs) (f : FuncId) (args : List AV) (M : Mem) : Option (AV × Mem × Bool) :=
 match orc f args M with
 | some z => some z
 | none => if keep f then ifresh P F f args M else if keep (1000000 + f) then iown P F f args M else match iplain P F f args M with | some z => some z | none => iown P F f args M
noncomputable def fixF (P : Program) (GT : Tabs) (orc : FuncId → List AV → Mem → Option (AV × Mem × Bool)) (keep : FuncId → Bool) (n : Nat) : Fs :=
 Nat.rec ⟨fun _ _ _ => none, fun _ _ _ => none⟩ (fun _ F => ⟨icode P GT F, icall P orc keep F⟩) n
variable {P : Program} {GT : Tabs} {orc : FuncId → List AV → Mem → Option (AV × Mem × Bool)} {keep : FuncId → Bool}
def AWx (P : Program) (GT : Tabs) (ro : Option Nat) (c : Code) (s : S) (Q : Exit → S → Prop) : Prop :=
 match c with
 | .loop x => ∃ k, LoopRun P GT ro x Q k s
 | c => AW P GT ro c s Q
theorem AWx.aw {ro : Option Nat} {c : Code} {s : S} {Q : Exit → S → Prop} (h : AWx P GT ro c s Q) : AW P GT ro c s Q := by
 cases c <;> first | exact h | exact AW_loopN h.choose_spec
def CallOK (P : Program) (GT : Tabs) (f : FuncId) (args : List AV) (M : Mem) (z : AV × Mem × Bool) : Prop :=
 Enters P f ∧ ACall P GT f args M (fun r M1 => r = z.1 ∧ M1 = z.2.1) ∧ (z.2.2 = false → z.2.1 = M ∧ ∀ M2, ACall P GT f args M2 fun r M1 => r = z.1 ∧ M1 = M2)
structure Good (P : Program) (GT : Tabs) (F : Fs) : Prop where
 code : ∀ ro c s e s' (Q : Exit → S → Prop), F.code ro c s = some (e, s') → Q e s' → AWx P GT ro c s Q
 call : ∀ f args M z, F.call f args M = some z → CallOK P GT f args M z
theorem quiet_same {ρ : Operand → AV} {M M' : Mem} {op : Op} {x : AV} (h : aop P ρ M op = some (x, M')) (hq : quietOp op = true) : M' = M := by
 have same : ∀ {α : Option AV}, α.map (·, M) = some (x, M') → M' = M := by
  intro α h
  rw [Option.map_eq_some_iff] at h
  obtain ⟨a, h1, h2⟩ := h
  cases h2; rfl
 unfold aop at h
 split at h <;> first
  | (cases h; done)
  | (cases h; rfl)
  | exact same h
  | (simp [quietOp] at hq; done)
  | skip
 ·split at h
  ·cases h; rfl
  ·cases h
 ·unfold aBuiltin at h
  split at h <;> first
   | exact same h
   | (simp [quietOp] at hq; done)
   | cases h
theorem isFr_of {op : Op} (h : isCallV op = true) : isFr op = true := by
 unfold isFr
 split
 ·rfl
 ·exact h
theorem still_quiet {op : Op} (h : still op = true) : quietOp op = true := by
 cases op <;> first | rfl | (simp [still] at h; done)
theorem istep_ok {F : Fs} (hF : Good P GT F) {ro : Option Nat} {ops : Array Oper} {o : Oper} {T : List AV} {M M' : Mem} {x : AV} {q : Bool} (h : istep P GT F ops o T M = some (x, M', q)) :
  Can1 P GT ro ops o T M x M' ∧ (q = false → M' = M) ∧ (still o.op = true → ∀ M2, Can1 P GT ro ops o T M2 x M2) ∧ (q = false → isFr o.op = true → ∀ M2, Can1 P GT ro ops o T M2 x M2) := by
 unfold istep at h
 split at h
 ·cases h
 ·rename_i hg; cases h; exact ⟨Can1_skip hg, fun _ => rfl, fun _ _ => Can1_skip hg, fun _ _ _ => Can1_skip hg⟩
 ·rename_i hg
  split at h
  ·rename_i f args ts ho
   split at h
   ·rename_i g l1 l2 hf
    obtain ⟨h1, h2, h3⟩ := hF.call _ _ _ _ h
    exact ⟨Can1_call hg ho hf h1 h2, fun hq => (h3 hq).1, fun hs => (by rw [ho] at hs; cases hs), fun hq _ M2 => Can1_call hg ho hf h1 ((h3 hq).2 M2)⟩
   ·cases h
  ·rename_i hno
   split at h
   ·rename_i x' M1 ha
    cases h
    refine ⟨Can1_op hg ha, fun hq => quiet_same ha (by simpa using hq), fun hs M2 => Can1_op hg ((still_any hs ha).2 M2), fun hq hc => ?_⟩
    exfalso
    unfold isFr at hc
    split at hc
    ·rename_i ho
     rw [ho] at hq; cases hq
    ·unfold isCallV at hc
     split at hc
     ·rename_i ho; exact hno _ _ _ ho
     ·cases hc
   ·cases h
theorem AL_can1 {ro : Option Nat} {ops : Array Oper} {o : Oper} {rest : List Oper} {s : S} {x : AV} {M' : Mem} {Q : Exit → S → Prop} (h : Can1 P GT ro ops o s.T s.M x M') (hr : AL P GT ro ops rest ⟨aput s.T o.dst x, M', s.D⟩ Q) : AL P GT ro ops (o :: rest) s Q := by
 intro B I0 c a w n hR hob
 unfold wpListIn
 refine h B I0 c a w n _ _ hR.sim hR.glob hob hR.tmps.1 (fun t _ y hy => hR.tmps.2 t y hy) ?_
 intro c' v w' hS' hv hE hs
 have := hr B I0 c' (a.put o.dst v) w' n (hR.step hS' hE hs o.dst hv) (fun l hl => hE.obj l (hob l hl))
 rw [fen_ext hE hob] at this
 exact wpListIn_mono2 (fun e a u h => Aft.from hE hs h) _ _ _ this
theorem iyield_ok {F : Fs} (hF : Good P GT F) {ro : Option Nat} {ops : Array Oper} {o : Oper} {rest : List Oper} {s : S} {b : Bool} {M' : Mem} {Q : Exit → S → Prop} (h : iyield GT F ops o s = some (b, M'))
  (hr : AL P GT ro ops rest ⟨aput s.T o.dst (.pd (.bool b)), M', s.D⟩ Q) : AL P GT ro ops (o :: rest) s Q := by
 unfold iyield at h
 split at h
 case h_2 => cases h
 rename_i f args ts hg ho
 split at h
 case h_2 => cases h
 rename_i l hf
 split at h
 case h_2 => cases h
 rename_i pe T ps asg bo df hM
 split at h
 case isFalse => cases h
 rename_i hsz
 split at h
 case h_2 => cases h
 rename_i s1 h1
 split at h
 case h_2 => cases h
 rename_i pe1 h2
 split at h
 case h_2 => cases h
 rename_i M1 h3
 split at h
 case h_2 => cases h
 rename_i e s2 h4
 split at h
 case h_2 => cases h
 rename_i st pe2 b' h5
 split at h
 case h_2 => cases h
 rename_i M2 h6
 cases h
 refine AL_yield hg ho hf hM hsz (hF.code _ _ _ _ _ _ h1 ?_).aw
 exact ⟨by rw [h2]; rfl, M1, pe1, by rw [h2]; rfl, h3, (hF.code _ _ _ _ _ _ h4 ⟨st, pe2, b, M', h5, h6, hr⟩).aw⟩
theorem frzTmps_ok {T : List AV} {M : Mem} : ∀ {l : List Operand} {T' : List AV} {M' : Mem}, frzTmps T M l = some (T', M') → ∃ i b len ver x, T[i]? = some (.own b len ver) ∧ ownPD M b len ver = some x ∧ T' = T.set i (.pd x) ∧ M' = frz M b
 | [], _, _, h => by cases h
 | y :: r, T', M', h => by
  unfold frzTmps at h
  split at h
  ·cases h
  ·rename_i i r' e
   cases e
   split at h
   ·rename_i b len ver hT
    split at h
    ·rename_i x hx
     cases h
     exact ⟨i, b, len, ver, x, hT, hx, rfl, rfl⟩
    ·exact frzTmps_ok h
   ·exact frzTmps_ok h
  ·rename_i r' _ e
   cases e
   exact frzTmps_ok h
theorem ifrz_ok {o : Oper} {s s2 : S} (h : ifrz o s = some s2) : ∃ i b len ver x, s.T[i]? = some (.own b len ver) ∧ ownPD s.M b len ver = some x ∧ s2 = ⟨s.T.set i (.pd x), frz s.M b, s.D⟩ := by
 unfold ifrz at h
 split at h
 ·split at h
  ·rename_i T M hz
   cases h
   obtain ⟨i, b, len, ver, x, h1, h2, rfl, rfl⟩ := frzTmps_ok hz
   exact ⟨i, b, len, ver, x, h1, h2, rfl⟩
  ·cases h
 ·split at h
  ·rename_i T M hz
   cases h
   obtain ⟨i, b, len, ver, x, h1, h2, rfl, rfl⟩ := frzTmps_ok hz
   exact ⟨i, b, len, ver, x, h1, h2, rfl⟩
  ·cases h
 ·split at h
  ·rename_i T M hz
   cases h
   obtain ⟨i, b, len, ver, x, h1, h2, rfl, rfl⟩ := frzTmps_ok hz
   exact ⟨i, b, len, ver, x, h1, h2, rfl⟩
  ·cases h
 ·cases h
theorem ifrzs_ok {s s2 : S} : ∀ {l : List Oper}, ifrzs s l = some s2 → ∃ i b len ver x, s.T[i]? = some (.own b len ver) ∧ ownPD s.M b len ver = some x ∧ s2 = ⟨s.T.set i (.pd x), frz s.M b, s.D⟩
 | [], h => by cases h
 | o :: r, h => by
  unfold ifrzs at h
  split at h
  ·rename_i hz; cases h; exact ifrz_ok hz
  ·exact ifrzs_ok h
theorem next_map_run {P : Program} {w : World} {r m n : Nat} {seen : Array Nat} {es L : Array MapEntry} {ty : TypeId} (hgi : (getObj r).run P w = .ok (.mapIter (some m) n seen n) w) (hgm : (getObj m).run P w = .ok (.map es n) w)
  (hun : (!seen.isEmpty && !es.isEmpty && es.all (fun e => decide (e.born ≥ n))) = false) (hL : (es.filter fun e => !seen.contains e.born) = L) (hold : (L.filter fun e => decide (e.born < n)) = L) (hnew : (L.filter fun e => decide (e.born ≥ n)) = #[]) :
  (Instr.next (.pointer (some ⟨r, 0, none⟩)) false ty).run P w = ((choose (.mapNext ((if L.isEmpty then #[none] else #[]) ++ (L ++ #[]).map some).size)).run P w).andThen fun k w1 => (match ((if L.isEmpty then #[none] else #[]) ++ (L ++ #[]).map some : Array (Option MapEntry))[k]? with
   | some (some e) => (do setObj r (.mapIter (some m) n (seen.push e.born) n); pure (.tuple #[.bool true, e.key, e.val]) : Sem Value)
   | some none => pure (.tuple #[.bool false])
   | none => stuck "Next: no such candidate").run P w1 := by
 unfold Instr.next
 simp only [Sem.run_bind, hgi, Result.andThen_ok, hgm, hun, hL, hold, hnew, Bool.false_eq_true, if_false]
 rfl
theorem AL_mnext {ro : Option Nat} {Q : Exit → S → Prop} {ops : Array Oper} {o : Oper} {rest : List Oper} {y : Operand} {s : S} {i b n : Nat} {seen : List Nat} {bl : Bool} {l : List (Int × Int)} (hg : aGuard ops s.T o = some true) (ho : o.op = .next y false) (hx : aev GT s.T y = .it i)
  (hi : s.M[i]? = some (.mit b n seen)) (hb : s.M[b]? = some (.map bl l)) (hn : l.length = n)
  (h1 : ∀ (j : Nat) (p : Int × Int), j ∉ seen → l[j]? = some p → AL P GT ro ops rest ⟨aput s.T o.dst (.tup [.pd (.bool true), .pd (.int .i64 p.1), mvA bl p.2]), s.M.set i (.mit b n (seen ++ [j])), s.D⟩ Q)
  (h2 : (∀ j, j < n → j ∈ seen) → AL P GT ro ops rest ⟨aput s.T o.dst (.tup [.pd (.bool false)]), s.M, s.D⟩ Q) : AL P GT ro ops (o :: rest) s Q := by
 intro B I0 c a w m hR hob
 unfold wpListIn
 have hw := aGuard_ok hR.tmps hg
 rw [hw, if_pos rfl]
 refine ⟨fun _ _ => fen_fn _ _ _, ?_⟩
 have hv := hR.ev y
 rw [hx] at hv
 generalize hev : a.eval y = v at hv
 cases hv with
 | it _ hio =>
 have hmb : w.heap[c.blk b]? = some (.map (mEntL bl 0 l).toArray l.length) := hR.sim.obj b _ hb
 have hmi : w.heap[c.blk i]? = some (.mapIter (some (c.blk b)) n seen.toArray n) := (hR.sim.obj i _ hi).1
 have hgi : (getObj (c.blk i)).run P w = .ok (.mapIter (some (c.blk b)) n seen.toArray n) w := by simp [getObj, Sem.run, hmi]
 have e1 : (o.semAt (fen c ro).round a.eval).run P w = ((execOp a.eval o).run P w) := by rw [Oper.semAt_eq _ _ _ (by intro k e; rw [e] at ho; cases ho)]
 rw [e1]
 have bornlt : ∀ e, e ∈ mEntL bl 0 l → e.born < n := fun e he => by
  obtain ⟨j, hj, rfl⟩ := List.getElem_of_mem he
  have h3 := mEnt_get bl l 0 j
  rw [List.getElem?_eq_getElem hj] at h3
  cases hl : l[j]? with
  | none => rw [hl] at h3; cases h3
  | some p =>
   rw [hl] at h3
   simp only [Option.map_some, Option.some.injEq] at h3
   rw [h3]
   have := (List.getElem?_eq_some_iff.1 hl).1
   simp; omega
 have hold : (((mEntL bl 0 l).toArray.filter fun e => !seen.toArray.contains e.born).filter fun e => decide (e.born < n)) = ((mEntL bl 0 l).toArray.filter fun e => !seen.toArray.contains e.born) := by
  rw [Array.filter_eq_self]
  intro e he
  have := bornlt e (by simpa using (Array.mem_filter.1 he).1)
  simpa using this
 have hnew : (((mEntL bl 0 l).toArray.filter fun e => !seen.toArray.contains e.born).filter fun e => decide (e.born ≥ n)) = #[] := by
  rw [Array.filter_eq_empty_iff]
  intro e he
  have := bornlt e (by simpa using (Array.mem_filter.1 he).1)
  simp; omega
 have hun : (!seen.toArray.isEmpty && !(mEntL bl 0 l).toArray.isEmpty && (mEntL bl 0 l).toArray.all (fun e => decide (e.born ≥ n))) = false := by
  cases hl : mEntL bl 0 l with
  | nil => simp
  | cons e r =>
   have := bornlt e (by rw [hl]; simp)
   have h4 : decide (e.born ≥ n) = false := by simp; omega
   simp [h4]
 generalize hL : ((mEntL bl 0 l).toArray.filter fun e => !seen.toArray.contains e.born) = L at hold hnew
 have hLm : ∀ e, e ∈ L → ∃ p, e.born ∉ seen ∧ l[e.born]? = some p ∧ e.key = .int .i64 p.1 ∧ e.val = mvV bl p.2 := fun e he => by
  rw [← hL, Array.mem_filter] at he
  obtain ⟨he1, he2⟩ := he
  obtain ⟨j, hj, rfl⟩ := List.getElem_of_mem (by simpa using he1 : e ∈ mEntL bl 0 l)
  have h3 := mEnt_get bl l 0 j
  rw [List.getElem?_eq_getElem hj] at h3
  cases hl : l[j]? with
  | none => rw [hl] at h3; cases h3
  | some p =>
   rw [hl] at h3
   simp only [Option.map_some, Option.some.injEq, Nat.zero_add] at h3
   rw [h3] at he2 ⊢
   exact ⟨p, by simpa using he2, hl, rfl, rfl⟩
 have hgm := MapKept.run_getObj_map (P := P) hmb
 rw [hn] at hgm
 have hnx := next_map_run (ty := o.type) hgi hgm hun hL hold hnew
 by_cases hemp : L.isEmpty = true
 ·-- all seen
  have hrun : (execOp a.eval o).run P w = .ok (.value (.tuple #[.bool false])) w := by
   have hc : ((if L.isEmpty = true then #[none] else #[]) ++ (L ++ (#[] : Array MapEntry)).map some) = (#[none] : Array (Option MapEntry)) := by
    rw [if_pos hemp]
    have : L = #[] := by simpa using hemp
    subst this; simp
   have hf : (choose (.mapNext 1)).run P w = .ok 0 w := by rw [run_choose_drew]; rfl
   have hr := hnx
   rw [hc] at hr
   have hr2 : (Instr.next (.pointer (some ⟨c.blk i, 0, none⟩)) false o.type).run P w = .ok (.tuple #[.bool false]) w := by
    rw [hr]
    show ((choose (.mapNext 1)).run P w).andThen _ = _
    rw [hf]; rfl
   simp only [execOp, ho, hev]
   rw [Sem.run_bind, hr2]; rfl
  rw [hrun]
  have hall : ∀ j, j < n → j ∈ seen := fun j hj => by
   have hj' : j < l.length := by omega
   by_cases hs : j ∈ seen
   ·exact hs
   ·have h3 := mEnt_get bl l 0 j
    rw [List.getElem?_eq_getElem hj'] at h3
    have hmem := List.mem_of_getElem? h3
    have : ({ key := .int .i64 (l[j]).1, val := mvV bl (l[j]).2, born := 0 + j } : MapEntry) ∈ L := by
     rw [← hL, Array.mem_filter]
     exact ⟨by simpa using hmem, by simpa using hs⟩
    simp at hemp
    rw [hemp] at this
    simp at this
  have := h2 hall B I0 c _ w m (hR.step hR.sim (Ext.refl _ _) (Stp.refl _ _ _) o.dst (tup1 (.pd _ _ (.bool _)))) hob
  exact this
 ·obtain ⟨w1, k, hk, hrunk, hw1⟩ : ∃ w1 k, k < L.size ∧ (choose (.mapNext L.size)).run P w = .ok k w1 ∧ (w1 = w ∨ w1 = w.drew) := by
   have hpos : 0 < L.size := by
    rcases Nat.eq_zero_or_pos L.size with h0 | h0
    ·exact absurd (by simpa using h0) hemp
    ·exact h0
   rw [run_choose_drew]
   split
   ·exact ⟨w, 0, hpos, rfl, .inl rfl⟩
   ·exact ⟨w.drew, _, Nat.mod_lt _ hpos, rfl, .inr rfl⟩
  have hheap : w1.heap = w.heap := by rcases hw1 with rfl | rfl <;> rfl
  have hS1 : Sim B I0 c s.M w1 ∧ Stp B c w c w1 := by
   rcases hw1 with rfl | rfl
   ·exact ⟨hR.sim, Stp.refl _ _ _⟩
   ·exact hR.sim.same rfl rfl rfl rfl
  obtain ⟨p, hp1, hp2, hp3, hp4⟩ := hLm L[k] (Array.getElem_mem hk)
  have hlt : c.blk i < w1.heap.size := by rw [hheap]; exact (Array.getElem?_eq_some_iff.1 hmi).1
  have hni : ¬ c.imm (c.blk i) := hR.sim.sep i _ hi rfl rfl
  have hs2 : Stp B c w1 c (w1.putObj (c.blk i) (.mapIter (some (c.blk b)) n (seen.toArray.push (L[k]).born) n)) :=
   Stp.of_block hni (hR.sim.blkB i ⟨_, hi, rfl⟩) rfl rfl rfl (by simp) fun k hk => World.putObj_heap_other hk
  have he : Ext c s.M c (s.M.set i (.mit b n (seen ++ [(L[k]).born]))) := Ext.set hi rfl (Nat.le_refl _) fun _ => rfl
  have hb' : obj (s.M.set i (.mit b n (seen ++ [(L[k]).born]))) b := he.obj b (hR.sim.obj i _ hi).2
  have hS2 := hS1.1.put hi he hs2 (fun k hk => World.putObj_heap_other hk) (by
   refine ⟨?_, hb'⟩
   have : (seen.toArray.push (L[k]).born) = (seen ++ [(L[k]).born]).toArray := by simp
   rw [← this]
   exact World.putObj_heap_same hlt) rfl rfl
  have hrun : (execOp a.eval o).run P w = .ok (.value (.tuple #[.bool true, (L[k]).key, (L[k]).val])) (w1.putObj (c.blk i) (.mapIter (some (c.blk b)) n (seen.toArray.push (L[k]).born) n)) := by
   have hc : ((if L.isEmpty = true then #[none] else #[]) ++ (L ++ (#[] : Array MapEntry)).map some) = L.map some := by
    rw [if_neg hemp]; simp
   have hset : ∀ ob, (setObj (c.blk i) ob).run P w1 = .ok () (w1.putObj (c.blk i) ob) := fun ob => by
    have hmi1 : w1.heap[c.blk i]? = some (.mapIter (some (c.blk b)) n seen.toArray n) := by rw [hheap]; exact hmi
    simp only [setObj, Sem.run, hmi1]; rfl
   have hget : (L.map some)[k]? = some (some L[k]) := by simp [hk]
   have hr := hnx
   rw [hc, Array.size_map, hrunk, Result.andThen_ok, hget] at hr
   dsimp only at hr
   rw [Sem.run_bind, hset, Result.andThen_ok] at hr
   simp only [execOp, ho, hev]
   rw [Sem.run_bind, hr]; rfl
  rw [hrun, hp3, hp4]
  have := h1 (L[k]).born p hp1 hp2 B I0 c _ _ m (hR.step hS2 he (hS1.2.trans hs2) o.dst (tup3 (.pd _ _ (.bool _)) (.pd _ _ (.int _ _)) (mvA_ok _ _))) (fun l hl => he.obj l (hob l hl))
  exact wpListIn_mono2 (fun e a u h => Aft.from he (hS1.2.trans hs2) h) _ _ _ this
theorem inext_ok {ro : Option Nat} {ops : Array Oper} {o : Oper} {rest : List Oper} {s : S} {x : AV} {M' : Mem} {Q : Exit → S → Prop} (h : inext GT ops o s = some (x, M')) (hr : AL P GT ro ops rest ⟨aput s.T o.dst x, M', s.D⟩ Q) : AL P GT ro ops (o :: rest) s Q := by
 unfold inext at h
 split at h
 case h_2 => cases h
 rename_i y hg ho
 split at h
 case h_2 => cases h
 rename_i i hx
 split at h
 case h_2 => cases h
 rename_i b n seen hi
 split at h
 case h_2 => cases h
 rename_i bl l hb
 split at h
 case isFalse => cases h
 rename_i hn
 have mem : ∀ j, j < n → j ∉ seen → j ∈ (List.range n).filter fun j => !seen.contains j := fun j h1 h2 => List.mem_filter.2 ⟨List.mem_range.2 h1, by simpa using h2⟩
 split at h
 ·rename_i he
  cases h
  refine AL_mnext hg ho hx hi hb hn (fun j p h1 h2 => ?_) (fun _ => hr)
  have := mem j (by have := (List.getElem?_eq_some_iff.1 h2).1; omega) h1
  rw [he] at this; cases this
 ·rename_i j he
  split at h
  ·rename_i p hp
   cases h
   refine AL_mnext hg ho hx hi hb hn (fun j' p' h1 h2 => ?_) (fun hall => ?_)
   ·have := mem j' (by have := (List.getElem?_eq_some_iff.1 h2).1; omega) h1
    rw [he] at this
    obtain rfl := List.mem_singleton.1 this
    rw [hp] at h2; cases h2
    exact hr
   ·have hj : j ∈ (List.range n).filter fun j => !seen.contains j := by rw [he]; exact List.mem_singleton.2 rfl
    have hj := List.mem_filter.1 hj
    have h2 := hall j (List.mem_range.1 hj.1)
    have h3 := hj.2
    simp [h2] at h3
  ·cases h
 ·cases h
theorem Can1_freeze {ro : Option Nat} {ops : Array Oper} {o : Oper} {T : List AV} {M M' : Mem} {y : AV} (i : Nat) {b len ver : Nat} {x : PD} (hT : T[i]? = some (.own b len ver)) (hx : ownPD M b len ver = some x) (h : Can1 P GT ro ops o (T.set i (.pd x)) (frz M b) y M') : Can1 P GT ro ops o T M y M' := by
 intro B I0 c a w n KK QQ hS hG hob hl hA hK
 have main : ∀ c' : Ctx, Sim B I0 c' (frz M b) w → Ext c M c' (frz M b) → Stp B c w c' w → (∀ v, ARep c M w v (.own b len ver) → PRep c'.imm w v x) → if Region.wanted o (yielded ops a.tmps) then o.wpIn (fen c ro) n P a w KK QQ else (∀ f, o.about P w a.eval = some f → (fen c ro).fn f) ∧ KK (a.put o.dst undef) w := by
  intro c' hS' hE hs hp
  have := h B I0 c' a w n KK QQ hS' (hG.mono hs) (fun l hl => hE.obj l (hob l hl)) (by simpa using hl) (fun t ht z hz => by
   by_cases e : i = t
   ·subst e
    rw [List.getElem?_set_self (List.getElem?_eq_some_iff.1 hT).1] at hz; cases hz
    exact .pd _ _ (hp _ (hA i ht _ hT))
   ·rw [List.getElem?_set_ne e] at hz
    exact (hA t ht z hz).mono hE hs) (fun c2 v w' h1 h2 h3 h4 => hK c2 v w' h1 h2 (hE.trans h3) (hs.trans h4))
  rwa [fen_ext hE hob] at this
 unfold frz at main
 split at main
 ·rename_i l sz ver' z hM
  obtain ⟨q1, q2, q3⟩ := hS.freeze hM
  exact main _ q1 q2 q3 fun v hv => ownPD_ok hS hv hx (fun _ h => .inl h) fun _ => .inr rfl
 ·rename_i hno
  refine main c hS (Ext.refl _ _) (Stp.refl _ _ _) fun v hv => ownPD_ok hS hv hx (fun _ h => h) fun hr => ?_
  unfold ownPD at hx
  split at hx
  ·rename_i l sz ver' z hM; exact absurd hM (hno _ _ _ _)
  ·rename_i sz ver' hM
   obtain ⟨o, ho, hov⟩ := hr
   rw [hM] at ho; cases ho; cases hov
  ·cases hx
theorem iops_ok {F : Fs} (hF : Good P GT F) {ro : Option Nat} {ops : Array Oper} {Q : Exit → S → Prop} : ∀ (l : List Oper) (s s' : S), iops P GT F ops l s = some s' → Q .normal s' → AL P GT ro ops l s Q
 | [], s, s', h, hq => by cases h; exact AL_nil hq
 | o :: rest, s, s', h, hq => by
  unfold iops at h
  split at h
  ·rename_i x M' q hs
   exact AL_can1 (istep_ok hF hs).1 (iops_ok hF rest _ _ h hq)
  ·split at h
   ·rename_i b M' hy
    exact iyield_ok hF hy (iops_ok hF rest _ _ h hq)
   ·split at h
    ·rename_i x M' hx
     exact inext_ok hx (iops_ok hF rest _ _ h hq)
    ·split at h
     ·rename_i s2 hz
      split at h
      ·rename_i x M' q hs
       obtain ⟨i, b, len, ver, y, h1, h2, rfl⟩ := ifrz_ok hz
       exact AL_freeze i h1 h2 (AL_can1 (istep_ok hF hs).1 (iops_ok hF rest _ _ h hq))
      ·cases h
     ·cases h
theorem Can1_yield {ro : Option Nat} {ops : Array Oper} {o : Oper} {T : List AV} {M M0 : Mem} {b0 : Bool} {f : Operand} {args : Array Operand} {ts : Array TypeId} {l df : Nat} {pe : Option Code} {T0 : List AV} {ps : Array Tmp} {asg bo : Code} (hg : aGuard ops T o = some true)
  (ho : o.op = .call { callee := .value f, args := args, argTypes := ts }) (hf : aev GT T f = .yld l) (hM : M[l]? = some (.loop .ready pe T0 ps asg bo df)) (hsz : args.size = ps.size)
  (h : AW P GT (some l) asg ⟨setAll T0 ps.toList (args.toList.map (aev GT T)), M, []⟩ (thn (fun s1 => (loopSt s1.M l).map (·.1) = some .ready ∧ ∃ M1 pe1, (loopSt s1.M l).map (·.2) = some pe1 ∧ setLoop s1.M l .busy pe1 = some M1 ∧
   AW P GT (some l) bo ⟨s1.T, M1, s1.D⟩ (rndQ l fun b M' => b = b0 ∧ M' = M0)) fun _ _ => False)) : Can1 P GT ro ops o T M (.pd (.bool b0)) M0 := by
 intro B I0 c a w n KK QQ hS hG hob hl hT hK
 have hT' := sieve_rep hl hT
 have hR : Rel GT B I0 c ⟨sieve ops o T, M, []⟩ { a with defers := [] } w := ⟨hS, hG, hT', rfl, List.nodup_nil, by simp⟩
 rw [← sieve_guard] at hg
 have hmem : ∀ y, y = f ∨ y ∈ args → y ∈ o.op.operands := by
  intro y hy
  rw [ho]
  simp only [Op.operands, Call.operands, Array.mem_append]
  rcases hy with rfl | hy
  ·exact .inl (by simp)
  ·exact .inr hy
 have hw := aGuard_ok hT' hg
 have hfv := hR.ev f
 rw [sieve_ev (hmem f (.inl rfl)), hf] at hfv
 have hobj : obj M l := ⟨_, hM, rfl⟩
 have hargs : ArgsRep c M w (args.map a.eval) (args.toList.map (aev GT (sieve ops o T))) := list_rep (fun x => hR.ev x) args
 have emap : args.toList.map (aev GT (sieve ops o T)) = args.toList.map (aev GT T) := List.map_congr_left fun y hy => sieve_ev (hmem y (.inr (by simpa using hy)))
 rw [emap] at hargs
 have hfv : ARep c M w (a.eval f) (.yld l) := hfv
 generalize hv : a.eval f = v at hfv
 cases hfv with
 | yld l _ =>
  obtain ⟨tmps, fn, hL, hTl, hturn⟩ := hS.loop hM
  rw [if_pos hw]
  refine ⟨fun _ _ => fen_fn _ _ _, ?_⟩
  have hrun : (o.semAt (fen c ro).round a.eval).run P w = .ok (.round (c.blk l) fn ((ps.zip (args.map a.eval)).foldl (fun tmps (t, a) => tmps.setIfInBounds t a) tmps) asg bo) w := by
   rw [Oper.semAt_eq _ _ _ (by intro k e; rw [e] at ho; cases ho)]
   simp only [execOp, ho, resolve, hv, Deferred.ofValue, invoke]
   simp only [Sem.run_bind, Sem.run_pure, Result.andThen_ok]
   have := run_yield (P := P) (args := #[] ++ args.map a.eval ++ #[]) hL (by simpa using hsz)
   simpa using this
  rw [hrun]
  refine ⟨fun h => fen_depth _ _ h, ?_⟩
  refine roundIn_of_wpIn (fen_fn _ _ _) ?_
  have hfen : (fen c ro).inRound (c.blk l) = fen c (some l) := by cases ro <;> rfl
  rw [hfen]
  have hT0 : TRep c M w ((ps.zip (args.map a.eval)).foldl (fun tmps (t, a) => tmps.setIfInBounds t a) tmps) (setAll T0 ps.toList (args.toList.map (aev GT T))) := by
   have := setAll_rep ps.toList (args.map a.eval).toList (args.toList.map (aev GT T)) tmps T0 hTl (by simp) (fun i v x h1 h2 => hargs.2 i v x (by simpa using h1) h2)
   rw [← Array.foldl_toList, Array.toList_zip]; exact this
  refine wpIn_mono (h B I0 c _ w (n - 1) ⟨hS, hG, hT0, rfl, List.nodup_nil, by simp⟩ (by rintro _ ⟨⟩; exact hobj)) ?_
  rintro e a1 w1 ⟨s1, c1, q1, r1, e1, t1⟩
  cases e with
  | normal =>
   obtain ⟨hst, M1, pe1, hpe, hset, hbody⟩ := q1
   unfold loopSt at hst hpe
   unfold setLoop at hset
   split at hset
   ·rename_i st1 pe2 T1 ps1 asg1 bo1 df1 hM1
    rw [hM1] at hst hpe
    simp at hst hpe
    subst hst; subst hpe
    cases hset
    obtain ⟨tmps1, fn1, hL1, hT1, hturn1⟩ := r1.sim.loop hM1
    obtain ⟨hS2, hE2, hs2⟩ := hturn1 .busy pe2
    have eb : c1.blk l = c.blk l := e1.toExt0.blk hobj
    refine ⟨_, run_beginRound (by rw [← eb]; exact hL1) rfl, ?_⟩
    have hob1 : obj (s1.M.set l (.loop .busy pe2 T1 ps1 asg1 bo1 df1)) l := hE2.obj l (e1.obj l hobj)
    have hb := hbody B I0 c1 a1 _ (n - 1) ⟨hS2, r1.glob.mono hs2, r1.tmps.mono hE2 hs2, r1.dfs.mono hE2⟩ (by rintro _ ⟨⟩; exact hob1)
    have ef : fen c1 (some l) = fen c (some l) := by simp only [fen, eb]
    rw [ef, eb] at hb
    refine wpIn_mono hb ?_
    rintro e a2 w2 ⟨s2, c2, ⟨st, pe3, b, M3, z1, z2, z3⟩, r2, e2, t2⟩
    unfold setLoop at z2
    split at z2
    ·rename_i st3 pe4 T3 ps3 asg3 bo3 df3 hM3
     cases z2
     obtain ⟨tmps3, fn3, hL3, hT3, hturn3⟩ := r2.sim.loop hM3
     obtain ⟨hS3, hE3, hs3⟩ := hturn3 st pe3
     have eb2 : c2.blk l = c.blk l := by rw [e2.toExt0.blk hob1, eb]
     have hEx : Ext c M c2 (s2.M.set l (.loop st pe3 T3 ps3 asg3 bo3 df3)) := ((e1.trans hE2).trans e2).trans hE3
     have hSt := ((t1.trans (eb ▸ hs2)).trans t2).trans hs3
     obtain ⟨rfl, rfl⟩ := z3
     have hfin := hK c2 (.bool b) _ hS3 (.pd _ _ (.bool b)) hEx hSt
     have main : ∀ jump : Option Code, b = jump.isNone → st = (if jump.isNone then .ready else .done) → pe3 = jump → ∃ v w', (Instr.endRound (c.blk l) jump).run P w2 = .ok v w' ∧ KK (a.put o.dst v) w' := by
      rintro jump rfl rfl rfl
      exact ⟨_, _, run_endRound _ (by rw [← eb2]; exact hL3), by rw [← eb2]; exact hfin⟩
     cases e with
     | normal => cases z1; exact main none rfl rfl rfl
     | ret => cases z1; exact main (some .ret) rfl rfl rfl
     | exit id => cases z1; exact main (some (.exit id)) rfl rfl rfl
     | goto t => cases z1; exact main (some (.goto t)) rfl rfl rfl
     | panic ch => cases z1
     | outgrown => cases z1
    ·cases z2
   ·cases hset
  | _ => exact q1.elim
theorem iyield_can {F : Fs} (hF : Good P GT F) {ro : Option Nat} {ops : Array Oper} {o : Oper} {T : List AV} {M : Mem} {b : Bool} {M' : Mem} (h : iyield GT F ops o ⟨T, M, []⟩ = some (b, M')) : Can1 P GT ro ops o T M (.pd (.bool b)) M' ∧ still o.op = false := by
 unfold iyield at h
 split at h
 case h_2 => cases h
 rename_i f args ts hg ho
 split at h
 case h_2 => cases h
 rename_i l hf
 split at h
 case h_2 => cases h
 rename_i pe T0 ps asg bo df hM
 split at h
 case isFalse => cases h
 rename_i hsz
 split at h
 case h_2 => cases h
 rename_i s1 h1
 split at h
 case h_2 => cases h
 rename_i pe1 h2
 split at h
 case h_2 => cases h
 rename_i M1 h3
 split at h
 case h_2 => cases h
 rename_i e s2 h4
 split at h
 case h_2 => cases h
 rename_i st pe2 b' h5
 split at h
 case h_2 => cases h
 rename_i M2 h6
 cases h
 refine ⟨Can1_yield hg ho hf hM hsz (hF.code _ _ _ _ _ _ h1 ?_).aw, by rw [ho]; rfl⟩
 exact ⟨by rw [h2]; rfl, M1, pe1, by rw [h2]; rfl, h3, (hF.code _ _ _ _ _ _ h4 ⟨st, pe2, b, M', h5, h6, rfl, rfl⟩).aw⟩
theorem drun_ok {F : Fs} (hF : Good P GT F) {ro : Option Nat} {ops : Array Oper} (louds : List Nat) {fr : List Nat} (hfr : ∀ i, fr.contains i = true → louds.contains i = false ∧ ∀ o, ops[i]? = some o → isCallV o.op = true) : ∀ (ord : List Nat) (T : List AV) (M : Mem) (L : List (Nat × AV × Mem)) (ls : List Nat) (T2 : List AV) (M2 : Mem), drun P GT F ops ord T M = some (L, ls, T2, M2) → (∀ i, i ∈ ls → i ∈ louds) →
  L.map (·.1) = ord ∧ Runs P GT ro ops louds fr L T M ∧ T2 = stT ops L T ∧ M2 = stM L M
 | [], T, M, L, ls, T2, M2, h, _ => by cases h; exact ⟨rfl, trivial, rfl, rfl⟩
 | i :: r, T, M, L, ls, T2, M2, h, hl => by
  unfold drun at h
  split at h
  ·cases h
  ·rename_i o ho
   split at h
   ·split at h
    ·split at h
     ·cases h
     rename_i s2 hz
     split at h
     ·cases h
     rename_i x M' q hs
     split at h
     ·cases h
     rename_i L' ls' T3 M3 hd
     cases h
     obtain ⟨a1, a2, a3, a4⟩ := drun_ok hF (ro := ro) louds hfr r _ _ _ _ _ _ hd (fun k hk => hl k (by simp [hk]))
     have hst : still o.op = false := by
      cases hst : still o.op with
      | false => rfl
      | true => rw [hst, cond_true] at hz; cases hz
     rw [hst, cond_false] at hz
     obtain ⟨i', b, len, ver, y, e1, e2, rfl⟩ := ifrz_ok hz
     have b1 : Can1 P GT ro ops o T M x M' := Can1_freeze i' e1 e2 (istep_ok hF (ro := ro) hs).1
     have hin : louds.contains i = true := by have := hl i (by simp); simpa using this
     refine ⟨by simp [a1], ⟨o, ho, b1, fun hc => ?_, fun hs => ?_, a2⟩, by rw [a3]; simp [stT, ho], by rw [a4]; rfl⟩
     ·rw [hin] at hc; cases hc
     ·rw [hst, Bool.false_or] at hs
      have := (hfr i hs).1
      rw [hin] at this; cases this
    ·rename_i b M' hy
     split at h
     ·cases h
     ·rename_i L' ls' T3 M3 hd
      cases h
      obtain ⟨a1, a2, a3, a4⟩ := drun_ok hF (ro := ro) louds hfr r _ _ _ _ _ _ hd (fun k hk => hl k (by simp [hk]))
      obtain ⟨b1, b2⟩ := iyield_can hF (ro := ro) hy
      have hin : louds.contains i = true := by have := hl i (by simp); simpa using this
      refine ⟨by simp [a1], ⟨o, ho, b1, fun hc => ?_, fun hs => ?_, a2⟩, by rw [a3]; simp [stT, ho], by rw [a4]; rfl⟩
      ·rw [hin] at hc; cases hc
      ·rw [b2, Bool.false_or] at hs
       have := (hfr i hs).1
       rw [hin] at this; cases this
   ·rename_i x M' q hs
    split at h
    ·cases h
    ·rename_i L' ls' T3 M3 hd
     cases h
     obtain ⟨a1, a2, a3, a4⟩ := drun_ok hF (ro := ro) louds hfr r _ _ _ _ _ _ hd (fun k hk => hl k (by cases q <;> simp [hk]))
     obtain ⟨b1, b2, b3, b4⟩ := istep_ok hF (ro := ro) hs
     have hq : louds.contains i = false → q = false := fun hc => by
      cases q with
      | false => rfl
      | true => have := hl i (by simp); simp at hc; exact absurd this hc
     refine ⟨by simp [a1], ⟨o, ho, b1, fun hc => b2 (hq hc), fun hs => ?_, a2⟩, by rw [a3]; simp [stT, ho], by rw [a4]; rfl⟩
     cases hst : still o.op with
     | true => exact b3 hst
     | false =>
      rw [hst, Bool.false_or] at hs
      exact b4 (hq (hfr i hs).1) (isFr_of ((hfr i hs).2 o ho))
mutual
theorem eqPD_ok : ∀ {x y : PD}, eqPD x y = true → x = y
 | .int k a, y, h => by
  cases y <;> simp [eqPD] at h
  obtain ⟨rfl, rfl⟩ := h; rfl
 | .bool a, y, h => by cases y <;> simp [eqPD] at h; rw [h]
 | .str a, y, h => by cases y <;> simp [eqPD] at h; rw [h]
 | .err a, y, h => by cases y <;> simp [eqPD] at h; rw [h]
 | .flt .., y, h => by cases y <;> simp [eqPD] at h
 | .agg l, y, h => by
  cases y <;> simp only [eqPD, Bool.false_eq_true] at h
  rw [eqPDs_ok h]
 | .sl l, y, h => by
  cases y <;> simp only [eqPD, Bool.false_eq_true] at h
  rw [eqPDs_ok h]
theorem eqPDs_ok : ∀ {l m : List PD}, eqPDs l m = true → l = m
 | [], m, h => by cases m <;> simp [eqPDs] at h; rfl
 | x :: l, m, h => by
  cases m with
  | nil => simp [eqPDs] at h
  | cons y m =>
   simp only [eqPDs, Bool.and_eq_true] at h
   rw [eqPD_ok h.1, eqPDs_ok h.2]
end
theorem sameB_ok {x y : AV} (h : sameB x y = true) : x = y := by
 unfold sameB at h
 split at h
 ·simp only [Bool.and_eq_true] at h
  obtain ⟨⟨h1, h2⟩, h3⟩ := h
  rw [Nat.eq_of_beq_eq_true h1, Nat.eq_of_beq_eq_true h2, Nat.eq_of_beq_eq_true h3]
 ·simp only [Bool.and_eq_true] at h
  obtain ⟨⟨h1, h2⟩, h3⟩ := h
  rw [Nat.eq_of_beq_eq_true h1, Nat.eq_of_beq_eq_true h2, Nat.eq_of_beq_eq_true h3]
 ·rfl
 ·rw [eqPDs_ok h]
 ·rw [eqPDs_ok h]
 ·rw [Nat.eq_of_beq_eq_true h]
 ·rw [Nat.eq_of_beq_eq_true h]
 ·rw [eqPD_ok h]
 ·cases h
theorem sameBs_ok : ∀ {l m : List AV}, sameBs l m = true → l = m
 | [], [], _ => rfl
 | x :: l, y :: m, h => by
  simp only [sameBs, Bool.and_eq_true] at h
  rw [sameB_ok h.1, sameBs_ok h.2]
 | [], _ :: _, h => by simp [sameBs] at h
 | _ :: _, [], h => by simp [sameBs] at h
theorem sameA_ok {x y : AV} (h : sameA x y = true) : x = y := by
 unfold sameA at h
 split at h
 ·rw [sameBs_ok h]
 ·exact sameB_ok h
theorem loadOk_ok {ro : Option Nat} {ops : Array Oper} {o : Oper} {T : List AV} {x : AV} {mems : List Mem} (h : loadOk P GT ops o T x mems = true) : ∀ M2, M2 ∈ mems → Can1 P GT ro ops o T M2 x M2 := by
 intro M2 hM
 unfold loadOk at h
 split at h
 ·rename_i hg
  cases hq : quietOp o.op with
  | false => rw [hq] at h; cases h
  | true =>
   rw [hq, cond_true] at h
   have h := List.all_eq_true.1 h M2 hM
   split at h
   ·rename_i x' M3 ha
    have := sameA_ok h
    subst this
    have e := quiet_same ha hq
    subst e
    exact Can1_op hg ha
   ·cases h
 ·cases h
theorem RunsM.of {ro : Option Nat} {ops : Array Oper} {louds fr fr0 : List Nat} {mems : Nat → List Mem} : ∀ {L : List (Nat × AV × Mem)} {T : List AV} {M : Mem}, Runs P GT ro ops louds fr0 L T M → frOk P GT ops mems fr L T = true → RunsM (fun i => (· ∈ mems i)) P GT ro ops louds (fr ++ fr0) L T M
 | [], _, _, _, _ => trivial
 | (i, x, M') :: L, T, M, h, hf => by
  obtain ⟨o, h1, h2, h3, h4, h5⟩ := h
  unfold frOk at hf
  rw [h1] at hf
  simp only [Bool.and_eq_true, Bool.or_eq_true, Bool.not_eq_true'] at hf
  refine ⟨o, h1, h2, h3, fun hs M2 hM2 => ?_, RunsM.of h5 hf.2⟩
  cases hst : still o.op with
  | true => exact h4 (by simp [hst]) M2
  | false =>
   rw [hst, Bool.false_or] at hs
   cases h0 : fr0.contains i with
   | true => exact h4 (by rw [h0, Bool.or_true]) M2
   | false =>
    have hs' : fr.contains i = true := by
     simp only [List.contains_iff_mem, List.mem_append] at hs
     rcases hs with hs | hs
     ·simpa using hs
     ·simp [hs] at h0
    exact loadOk_ok (hf.1.resolve_left (by rw [hs']; simp)) M2 hM2
theorem cfr_ok {ops : Array Oper} {ls : List Nat} (i : Nat) (h : (cfr ops ls).contains i = true) : ls.contains i = false ∧ ∀ o, ops[i]? = some o → isCallV o.op = true := by
 simp only [List.contains_iff_mem, cfr, List.mem_filter, Bool.and_eq_true, Bool.not_eq_true'] at h
 obtain ⟨_, h1, h2⟩ := h
 refine ⟨h2, fun o ho => ?_⟩
 rw [ho] at h1; exact h1
theorem idraw_ok {F : Fs} (hF : Good P GT F) (hm : P.follows .mixedOrders = true) {ro : Option Nat} {id : Nat} {ops : Array Oper} {Q : Exit → S → Prop} {s s' : S} (h : idraw P GT F ops s = some s') (hq : Q .normal s') : AW P GT ro (.region id ops true) s Q := by
 unfold idraw at h
 split at h
 ·cases h
 ·rename_i L ls T2 M2 hd
  split at h
  ·rename_i hok
   cases h
   obtain ⟨a1, a2, a3, a4⟩ := drun_ok hF (ro := ro) ls (fr := []) (fun i h => by simp at h) _ _ _ _ _ _ _ hd fun _ h => h
   rw [← a1] at hok
   subst a3; subst a4
   exact AW_drawRun hm hok a2 hq
  split at h
  ·rename_i hok
   cases h
   obtain ⟨a1, a2, a3, a4⟩ := drun_ok hF (ro := ro) ls cfr_ok _ _ _ _ _ _ _ hd fun _ h => h
   rw [← a1] at hok
   subst a3; subst a4
   exact AW_drawRun hm hok a2 hq
  ·split at h
   ·rename_i hok
    cases h
    obtain ⟨a1, a2, a3, a4⟩ := drun_ok hF (ro := ro) ls cfr_ok _ _ _ _ _ _ _ hd fun _ h => h
    subst a3; subst a4
    unfold idrawF at hok
    split at hok
    ·cases hok
    ·rw [Bool.and_eq_true] at hok
     refine AW_drawRunM (Ms := fun i => (· ∈ memsOf ops (ordOf ops) s.M ls L i)) hm (a1 ▸ hok.1) (fun _ => by simp [memsOf]) (fun p hp hl i hi => ?_) (RunsM.of a2 hok.2) hq
     rw [a1] at hi
     simp only [memsOf, List.mem_cons, List.mem_map, List.mem_filter]
     exact .inr ⟨p, ⟨hp, by rw [hl, hi]; rfl⟩, rfl⟩
   ·cases h
mutual
theorem eqAV_ok : ∀ {x y : AV}, eqAV x y = true → x = y
 | .pd x, y, h => by
  cases y <;> simp only [eqAV, Bool.false_eq_true] at h
  rw [eqPD_ok h]
 | .agg l, y, h => by
  cases y <;> simp only [eqAV, Bool.false_eq_true] at h
  rw [eqAVs_ok h]
 | .tup l, y, h => by
  cases y <;> simp only [eqAV, Bool.false_eq_true] at h
  rw [eqAVs_ok h]
 | .ptr a b c, y, h => by
  cases y <;> simp only [eqAV, Bool.false_eq_true, Bool.and_eq_true] at h
  rw [Nat.eq_of_beq_eq_true h.1.1, Nat.eq_of_beq_eq_true h.1.2, Nat.eq_of_beq_eq_true h.2]
 | .nilp, y, h => by cases y <;> simp [eqAV] at h; rfl
 | .rd l, y, h => by
  cases y <;> simp only [eqAV, Bool.false_eq_true] at h
  rw [eqPDs_ok h]
 | .own a b c, y, h => by
  cases y <;> simp only [eqAV, Bool.false_eq_true, Bool.and_eq_true] at h
  rw [Nat.eq_of_beq_eq_true h.1.1, Nat.eq_of_beq_eq_true h.1.2, Nat.eq_of_beq_eq_true h.2]
 | .owx .., y, h => by cases y <;> simp [eqAV] at h
 | .fixed l, y, h => by
  cases y <;> simp only [eqAV, Bool.false_eq_true] at h
  rw [eqPDs_ok h]
 | .fn f a b, y, h => by
  cases y with
  | fn g c d =>
   cases f <;> cases g <;> simp only [eqAV, Bool.false_eq_true, Bool.and_eq_true] at h
   rw [Nat.eq_of_beq_eq_true h.1.1, eqAVs_ok h.1.2, eqAVs_ok h.2]
  | _ => cases f <;> simp [eqAV] at h
 | .yld b, y, h => by cases y <;> simp [eqAV] at h
 | .nilf, y, h => by cases y <;> simp [eqAV] at h; rfl
 | .mp b, y, h => by
  cases y <;> simp only [eqAV, Bool.false_eq_true] at h
  rw [Nat.eq_of_beq_eq_true h]
 | .it b, y, h => by cases y <;> simp [eqAV] at h
 | .junk, y, h => by cases y <;> simp [eqAV] at h; rfl
theorem eqAVs_ok : ∀ {l m : List AV}, eqAVs l m = true → l = m
 | [], m, h => by cases m <;> simp [eqAVs] at h; rfl
 | x :: l, m, h => by
  cases m with
  | nil => simp [eqAVs] at h
  | cons y m =>
   simp only [eqAVs, Bool.and_eq_true] at h
   rw [eqAV_ok h.1, eqAVs_ok h.2]
end
theorem eqII_ok : ∀ {l m : List (Int × Int)}, eqII l m = true → l = m
 | [], m, h => by cases m <;> simp [eqII] at h; rfl
 | (a, b) :: l, m, h => by
  cases m with
  | nil => simp [eqII] at h
  | cons y m =>
   obtain ⟨c, d⟩ := y
   simp only [eqII, Bool.and_eq_true, decide_eq_true_eq] at h
   rw [h.1.1, h.1.2, eqII_ok h.2]
theorem eqOb_ok {a b : Ob} (h : eqOb a b = true) : a = b := by
 unfold eqOb at h
 split at h
 ·simp only [Bool.and_eq_true, beq_iff_eq] at h
  obtain ⟨⟨⟨h1, h2⟩, h3⟩, h4⟩ := h
  rw [eqAVs_ok h1, Nat.eq_of_beq_eq_true h2, Nat.eq_of_beq_eq_true h3, h4]
 ·simp only [Bool.and_eq_true] at h
  rw [Nat.eq_of_beq_eq_true h.1, Nat.eq_of_beq_eq_true h.2]
 ·rw [beq_iff_eq.1 h]
 ·simp only [Bool.and_eq_true, beq_iff_eq] at h
  rw [h.1, eqII_ok h.2]
 ·cases h
theorem eqMem_ok : ∀ {l m : Mem}, eqMem l m = true → l = m
 | [], m, h => by cases m <;> simp [eqMem] at h; rfl
 | a :: l, m, h => by
  cases m with
  | nil => simp [eqMem] at h
  | cons b m =>
   simp only [eqMem, Bool.and_eq_true] at h
   rw [eqOb_ok h.1, eqMem_ok h.2]
theorem isVrow_ok {M : Mem} {p : Nat} (h : isVrow M p = true) : ∃ sz, M[p]? = some (.vrow sz 0) := by
 unfold isVrow at h
 split at h
 ·rename_i sz v hp
  rw [Nat.eq_of_beq_eq_true h] at hp
  exact ⟨sz, hp⟩
 ·cases h
theorem mfr_ok {ops : Array Oper} {ls : List Nat} (i : Nat) (h : (mfr ops ls).contains i = true) : ls.contains i = false ∧ ∀ o, ops[i]? = some o → isFr o.op = true := by
 simp only [List.contains_iff_mem, mfr, List.mem_filter, Bool.and_eq_true, Bool.not_eq_true'] at h
 obtain ⟨_, h1, h2⟩ := h
 refine ⟨h2, fun o ho => ?_⟩
 rw [ho] at h1; exact h1
theorem drunA_ok {F : Fs} (hF : Good P GT F) {ro : Option Nat} {ops : Array Oper} {z p : Nat} {xs : List AV} {t : TypeId} {x0 : AV} {oz : Oper} (hoz : ops[z]? = some oz) (hop : oz.op = .alloc t) (hgz : oz.guard = none) (hz0 : zeroOf P t = some x0) (hxs : x0.cells = some xs)
  (louds : List Nat) {mems : Nat → List Mem} (hvz : ∀ M2, M2 ∈ mems z → isVrow M2 p = true) {frF frM : List Nat} (hfr : ∀ i, frM.contains i = true → louds.contains i = false ∧ ∀ o, ops[i]? = some o → isFr o.op = true) :
  ∀ (ord : List Nat) (T : List AV) (M : Mem) (L : List (Nat × AV × Mem)) (ls : List Nat) (T2 : List AV) (M2 : Mem), drunA P GT F ops z p xs ord T M = some (L, ls, T2, M2) → (∀ i, i ∈ ls → i ∈ louds) → frOk P GT ops (fun i => mems i ++ (mems i).map fun M2 => M2.set p (.cells xs 1 1 false)) frF L T = true →
  RunsC (CA P GT ro ops z p (.cells xs 1 1 false)) (fun i => (· ∈ mems i)) ops louds (z :: (frF ++ frM)) L T M ∧ T2 = stT ops L T ∧ M2 = stM L M
 | [], T, M, L, ls, T2, M2, h, _, _ => by cases h; exact ⟨trivial, rfl, rfl⟩
 | i :: r, T, M, L, ls, T2, M2, h, hl, hf => by
  have alc : ∀ (T : List AV) (M2 : Mem), isVrow M2 p = true → Can1 P GT ro ops oz T M2 (.ptr p 0 1) (M2.set p (.cells xs 1 1 false)) := fun T M2 hv => by
   obtain ⟨sz, hp⟩ := isVrow_ok hv
   exact Can1_allocAt (by simp [aGuard, hgz]) hop hz0 hxs hp
  unfold drunA at h
  split at h
  ·cases h
  rename_i o ho
  split at h
  ·rename_i hi
   subst hi
   rw [hoz] at ho; cases ho
   split at h
   case isFalse => cases h
   rename_i hv
   split at h
   ·cases h
   rename_i L' ls' T3 M3 hd
   cases h
   simp only [frOk, hoz, Bool.and_eq_true] at hf
   obtain ⟨a2, a3, a4⟩ := drunA_ok hF (ro := ro) hoz hop hgz hz0 hxs louds hvz hfr r _ _ _ _ _ _ hd hl hf.2
   refine ⟨⟨_, hoz, ?_, fun _ => rfl, fun _ M2 hM2 => ?_, a2⟩, by rw [a3]; simp [stT, hoz], by rw [a4]; rfl⟩
   ·unfold CA; rw [if_pos rfl]; exact ⟨rfl, alc T M hv⟩
   ·unfold CA; rw [if_pos rfl]; exact ⟨rfl, alc T M2 (hvz M2 hM2)⟩
  ·rename_i hi
   have free : ∀ {x : AV} {M' : Mem} {L' : List (Nat × AV × Mem)}, frOk P GT ops (fun i => mems i ++ (mems i).map fun M2 => M2.set p (.cells xs 1 1 false)) frF ((i, x, M') :: L') T = true → (still o.op = true → ∀ M2, Can1 P GT ro ops o T M2 x M2) → (frM.contains i = true → ∀ M2, Can1 P GT ro ops o T M2 x M2) →
     (still o.op || (z :: (frF ++ frM)).contains i) = true → ∀ M2, M2 ∈ mems i → CA P GT ro ops z p (.cells xs 1 1 false) i o T M2 x M2 := by
    intro x M' L' hf h1 h2 hs M2 hM2
    unfold CA; rw [if_neg hi]
    cases hst : still o.op with
    | true => exact ⟨h1 hst M2, h1 hst _⟩
    | false =>
     rw [hst, Bool.false_or] at hs
     simp only [List.contains_iff_mem, List.mem_cons, List.mem_append] at hs
     rcases (hs.resolve_left hi) with hs | hs
     ·simp only [frOk, ho, Bool.and_eq_true, Bool.or_eq_true, Bool.not_eq_true'] at hf
      have hlo := loadOk_ok (ro := ro) (hf.1.resolve_left (by simp [hs]))
      exact ⟨hlo M2 (List.mem_append.2 (.inl hM2)), hlo _ (List.mem_append.2 (.inr (List.mem_map.2 ⟨M2, hM2, rfl⟩)))⟩
     ·have := h2 (by simpa using hs)
      exact ⟨this M2, this _⟩
   split at h
   ·rename_i x hmk
    split at h
    ·cases h
    rename_i L' ls' T3 M3 hd
    cases h
    have hf' := hf
    simp only [frOk, ho, Bool.and_eq_true] at hf
    obtain ⟨a2, a3, a4⟩ := drunA_ok hF (ro := ro) hoz hop hgz hz0 hxs louds hvz hfr r _ _ _ _ _ _ hd hl hf.2
    refine ⟨⟨_, ho, ?_, fun _ => rfl, free hf' (fun _ => mkPlain_ok hmk) (fun _ => mkPlain_ok hmk), a2⟩, by rw [a3]; simp [stT, ho], by rw [a4]; rfl⟩
    unfold CA; rw [if_neg hi]; exact ⟨mkPlain_ok hmk M, mkPlain_ok hmk _⟩
   ·split at h
    ·cases h
    rename_i x M' q hs
    split at h
    case isFalse => cases h
    rename_i hchk
    split at h
    ·cases h
    rename_i L' ls' T3 M3 hd
    cases h
    have hf' := hf
    simp only [frOk, ho, Bool.and_eq_true] at hf
    obtain ⟨a2, a3, a4⟩ := drunA_ok hF (ro := ro) hoz hop hgz hz0 hxs louds hvz hfr r _ _ _ _ _ _ hd (fun k hk => hl k (by cases q <;> simp [hk])) hf.2
    obtain ⟨b1, b2, b3, b4⟩ := istep_ok hF (ro := ro) hs
    have hq : louds.contains i = false → q = false := fun hc => by
     cases q with
     | false => rfl
     | true => have := hl i (by simp); simp at hc; exact absurd this hc
    refine ⟨⟨_, ho, ?_, fun hc => b2 (hq hc), free hf' b3 (fun hm => b4 (hq (hfr i hm).1) ((hfr i hm).2 o ho)), a2⟩, by rw [a3]; simp [stT, ho], by rw [a4]; rfl⟩
    unfold CA; rw [if_neg hi]
    refine ⟨b1, ?_⟩
    unfold chkA at hchk
    simp only [Bool.or_eq_true, Bool.and_eq_true, Bool.not_eq_true'] at hchk
    rcases hchk with (hst | ⟨hq0, hcv⟩) | hre
    ·have hM : M' = M := by
      refine b2 ?_
      unfold istep at hs
      split at hs
      ·cases hs
      ·cases hs; rfl
      ·split at hs
       ·rename_i hc; rw [hc] at hst; cases hst
       ·split at hs
        ·cases hs; rw [still_quiet hst]; rfl
        ·cases hs
     rw [hM]; exact b3 hst _
    ·rw [b2 hq0]; exact b4 hq0 (isFr_of hcv) _
    ·split at hre
     ·rename_i x' M2' q' hs2
      rw [Bool.and_eq_true] at hre
      have e1 := sameA_ok hre.1
      have e2 := eqMem_ok hre.2
      subst e1; subst e2
      exact (istep_ok hF (ro := ro) hs2).1
     ·cases hre
theorem idrawA_ok {F : Fs} (hF : Good P GT F) (hm : P.follows .mixedOrders = true) {ro : Option Nat} {id : Nat} {ops : Array Oper} {Q : Exit → S → Prop} {s s' : S} (h : idrawA P GT F ops s = some s') (hq : Q .normal s') : AW P GT ro (.region id ops true) s Q := by
 unfold idrawA at h
 split at h
 case h_2 => cases h
 rename_i oz z hfind
 split at h
 case h_2 => cases h
 rename_i t ol hop hgz hol
 split at h
 case h_2 => cases h
 rename_i x0 hz0
 split at h
 case h_2 => cases h
 rename_i xs hxs
 split at h
 case h_2 => cases h
 rename_i L ls T2 M2 hd
 split at h
 case isFalse => cases h
 rename_i hc
 simp only [Bool.and_eq_true, Bool.not_eq_true'] at hc
 obtain ⟨⟨⟨⟨⟨⟨c1, c2⟩, c3⟩, c4⟩, c5⟩, c6⟩, c7⟩ := hc
 have hoz : ops[z]? = some oz := by
  have := List.mem_of_find?_eq_some hfind
  simpa using List.mk_mem_zipIdx_iff_getElem?.1 this
 obtain ⟨T, M, D⟩ := s
 obtain ⟨a2, a3, a4⟩ := drunA_ok hF (ro := ro) hoz hop hgz hz0 hxs ls (mems := memsOf ops (L.map (·.1) ++ [ops.size - 1]) (M ++ [Ob.vrow 1 0]) ls L) (fun M2 h2 => List.all_eq_true.1 c7 M2 h2) (frM := mfr ops ls) mfr_ok _ _ _ _ _ _ _ hd (fun _ h => h) c6
 subst a3; subst a4
 refine AW_pushV 1 0 (AW_drawA (z := z) (Ms := fun i => (· ∈ memsOf ops (L.map (·.1) ++ [ops.size - 1]) (M ++ [Ob.vrow 1 0]) ls L i)) hm c1 c2 hol c3 c4 c5 (fun _ => by simp [memsOf]) (fun p hp hl i hi => ?_) a2 (iops_ok hF _ _ _ h hq))
 simp only [memsOf, List.mem_cons, List.mem_map, List.mem_filter]
 exact .inr ⟨p, ⟨hp, by rw [hl, hi]; rfl⟩, rfl⟩
theorem iaft_ok {F : Fs} (hF : Good P GT F) {ro : Option Nat} {l : Nat} {T : List AV} {D : List Nat} {M : Mem} {e : Exit} {s' : S} {Q : Exit → S → Prop} (h : iaft F ro l T D M = some (e, s')) (hq : Q e s') : aftFn P GT ro l T D Q M := by
 unfold iaft at h
 split at h
 ·rename_i st pe hst
  split at h
  ·cases h
  ·rename_i hb
   have hb' : st ≠ .busy := fun e => hb (by rw [e]; rfl)
   unfold iaft2 at h
   split at h
   ·rename_i M2 hs
    refine ⟨st, pe, M2, hst, hb', hs, ?_⟩
    cases pe with
    | none => cases h; exact hq
    | some c => exact (hF.code _ _ _ _ _ _ h hq).aw
   ·cases h
 ·cases h
theorem icode_ok {F : Fs} (hF : Good P GT F) (hm : P.follows .mixedOrders = true) {ro : Option Nat} {c : Code} {s : S} {e : Exit} {s' : S} {Q : Exit → S → Prop} (h : icode P GT F ro c s = some (e, s')) (hq : Q e s') : AWx P GT ro c s Q := by
 cases c with
 | skip => cases h; exact AW_skip hq
 | label l => cases h; exact AW_label hq
 | exit id => cases h; exact AW_exit hq
 | ret => cases h; exact AW_ret hq
 | seq a b =>
  refine AW_seq ?_
  simp only [icode] at h
  split at h
  ·rename_i s1 h1
   exact (hF.code _ _ _ _ _ _ h1 (hF.code _ _ _ _ _ _ h hq).aw).aw
  ·rename_i h1
   refine (hF.code _ _ _ _ _ _ h ?_).aw
   cases e with
   | normal => exact absurd h (h1 _)
   | _ => exact hq
 | block id x =>
  refine AW_block ?_
  simp only [icode] at h
  split at h
  ·rename_i id' s1 h1
   refine (hF.code _ _ _ _ _ _ h1 ?_).aw
   simp only [inB]
   split at h
   ·rename_i hb; cases h; rw [if_pos (Nat.eq_of_beq_eq_true hb)]; exact hq
   ·rename_i hb; cases h; rw [if_neg (fun e => hb (by rw [e]; exact Nat.beq_refl _))]; exact hq
  ·rename_i h1
   refine (hF.code _ _ _ _ _ _ h ?_).aw
   cases e with
   | exit id' => exact absurd h (h1 _ _)
   | _ => exact hq
 | scope x =>
  refine AW_scope ?_
  simp only [icode] at h
  split at h
  ·cases h
  ·rename_i hno
   refine (hF.code _ _ _ _ _ _ h ?_).aw
   cases e with
   | goto l => exact absurd h (hno l _)
   | _ => exact hq
 | cond k a b =>
  simp only [icode] at h
  split at h
  ·rename_i t hk
   exact AW_cond hk (hF.code _ _ _ _ _ _ h hq).aw
  ·cases h
 | loop x =>
  simp only [icode] at h
  split at h
  ·rename_i s1 h1
   obtain ⟨k, hk⟩ := hF.code _ _ _ _ _ _ h hq
   exact ⟨k + 1, (hF.code _ _ _ _ _ (thn (LoopRun P GT ro x Q k) Q) h1 hk).aw⟩
  ·rename_i h1
   refine ⟨0, (hF.code _ _ _ _ _ (thn (fun _ => False) Q) h ?_).aw⟩
   cases e with
   | normal => exact absurd h (h1 _)
   | _ => exact hq
 | region id ops d =>
  simp only [icode] at h
  cases d with
  | false =>
   simp only [Bool.false_eq_true, if_false] at h
   split at h
   ·rename_i s1 h1; cases h; exact AW_region (iops_ok hF _ _ _ h1 hq)
   ·cases h
  | true =>
   simp only [if_true] at h
   split at h
   ·rename_i s1 h1; cases h; exact idraw_ok hF hm h1 hq
   ·split at h
    ·rename_i s2 hz
     split at h
     ·rename_i s1 h1
      cases h
      obtain ⟨i, b, len, ver, y, e1, e2, rfl⟩ := ifrzs_ok hz
      exact AW_freeze i e1 e2 (idraw_ok hF hm h1 hq)
     ·cases h
    ·split at h
     ·rename_i s1 h1; cases h; exact idrawA_ok hF hm h1 hq
     ·cases h
 | rangeFunc g ps asg bo =>
  simp only [icode] at h
  split at h
  ·rename_i gf l1 l2 hg
   cases ro with
   | none =>
    simp only at h
    split at h
    ·rename_i v M' q hc
     obtain ⟨c1, c2, _⟩ := hF.call _ _ _ _ hc
     refine AW_rangeFunc hg c1 (c2.mono ?_)
     rintro r M1 ⟨_, rfl⟩
     exact iaft_ok hF h hq
    ·cases h
   | some l0 =>
    simp only at h
    split at h
    ·rename_i st0 pe0 T0 ps0 asg0 bo0 df hM0
     split at h
     ·rename_i v M' q hc
      obtain ⟨c1, c2, _⟩ := hF.call _ _ _ _ hc
      refine AW_rangeFuncIn hM0 hg c1 (c2.mono ?_)
      rintro r M1 ⟨_, rfl⟩
      exact iaft_ok hF h hq
     ·cases h
    ·cases h
  ·cases h
 | _ => cases h
theorem ibody_ok {F : Fs} (hF : Good P GT F) (hn : P.funcs.all (fun fn => !(fn.name == "runtime.NumGoroutine")) = true) {f : FuncId} {args : List AV} {M M' : Mem} {r : AV} (h : ibody P F f args M = some (r, M')) :
  Enters P f ∧ ACall P GT f args M fun r1 M1 => r1 = r ∧ M1 = M' := by
 unfold ibody at h
 split at h
 ·rename_i fn hfn
  split at h
  ·rename_i code hb
   split at h
   ·rename_i e s' hc
    split at h
    ·rename_i hcond
     split at h
     ·rename_i r' hr
      cases h
      simp only [Bool.and_eq_true, List.all_eq_true] at hcond
      have hname : (fn.name == "runtime.NumGoroutine") = false := by
       have := Array.all_eq_true_iff_forall_mem.1 hn fn (Array.mem_of_getElem? hfn)
       simpa using this
      refine ⟨enters_of hfn hname hb, ACall_of_body hfn hb (hF.code _ _ _ _ _ _ hc ⟨?_, fun d hd => Nat.le_of_ble_eq_true (hcond.2 d hd), r, hr, rfl, rfl⟩).aw⟩
      have he := hcond.1
      cases e <;> first | exact .inl rfl | exact .inr rfl | exact absurd he (by simp [endOk])
     ·cases h
    ·cases h
   ·cases h
  ·cases h
 ·cases h
theorem ACall.fresh {f : FuncId} {args : List AV} {M M1 : Mem} {b len ver : Nat} {x : PD} (h : ACall P GT f args M fun r M' => r = .own b len ver ∧ M' = M1) (hb : M.length ≤ b) (hx : ownPD M1 b len ver = some x) (hM : (M1.take M.length).all (belO M.length) = true) :
  ACall P GT f args M fun r M' => r = .pd x ∧ M' = M1.take M.length := by
 intro B I0 c w vs n h1 h2 h3
 refine (h B I0 c w vs n h1 h2 h3).mono ?_
 rintro e w' ⟨v, r, M', c', rfl, ⟨rfl, rfl⟩, q1, q2, q3, q4⟩
 have q3' := q3.cut
 have hlen := q3.len
 have main : ∀ (c2 : Ctx) (M2 : Mem), Sim B I0 c2 M2 w' → M2.take M.length = M'.take M.length → M.length ≤ M2.length → Ext c M c2 (M'.take M.length) → Stp B c' w' c2 w' → PRep c2.imm w' v x →
   ∃ v_1 r M'' c', Ending.returned v = .returned v_1 ∧ (r = .pd x ∧ M'' = M'.take M.length) ∧ ARep c' M'' w' v_1 r ∧ Sim B I0 c' M'' w' ∧ Ext c M c' M'' ∧ Stp B c w c' w' := by
  intro c2 M2 hS ht hl hE hs hp
  have := hS.take hl (by rw [ht]; exact hM)
  rw [ht] at this
  exact ⟨v, .pd x, _, c2, rfl, ⟨rfl, rfl⟩, .pd _ _ hp, this, hE, q4.trans hs⟩
 unfold ownPD at hx
 split at hx
 ·rename_i l sz ver' z hMb
  obtain ⟨f1, f2, f3⟩ := q2.freeze hMb
  refine main (c'.freeze b) _ f1 ?_ (by simpa using hlen) (q3'.trans (Ext.grown _ _ _)) f3 ?_
  ·rw [List.take_set_of_le hb]
  ·exact ownPD_ok q2 q1 (show ownPD M' b len ver = some x by unfold ownPD; rw [hMb]; exact hx) (fun _ h => .inl h) fun _ => .inr rfl
 ·rename_i sz ver' hMb
  refine main c' M' q2 rfl hlen q3' (Stp.refl _ _ _) ?_
  refine ownPD_ok q2 q1 (show ownPD M' b len ver = some x by unfold ownPD; rw [hMb]; exact hx) (fun _ h => h) fun hr => ?_
  obtain ⟨o, ho, hov⟩ := hr
  rw [hMb] at ho; cases ho; cases hov
 ·cases hx
theorem icall_ok {F : Fs} (hF : Good P GT F) (hn : P.funcs.all (fun fn => !(fn.name == "runtime.NumGoroutine")) = true) (ho : ∀ f args M z, orc f args M = some z → CallOK P GT f args M z) {f : FuncId} {args : List AV} {M : Mem} {z : AV × Mem × Bool} (h : icall P orc keep F f args M = some z) : CallOK P GT f args M z := by
 have own : iown P F f args M = some z → CallOK P GT f args M z := by
  intro h
  unfold iown at h
  split at h
  ·rename_i r M1 hb
   obtain ⟨h1, h2⟩ := ibody_ok hF hn hb
   split at h
   ·rename_i hc
    simp only [Bool.and_eq_true] at hc
    cases h
    exact ⟨h1, h2.cut hc.1 hc.2, fun h => by cases h⟩
   ·cases h; exact ⟨h1, h2, fun h => by cases h⟩
  ·cases h
 have fresh : ifresh P F f args M = some z → CallOK P GT f args M z := by
  intro h
  unfold ifresh at h
  split at h
  ·rename_i b len ver M1 hb
   obtain ⟨h1, h2⟩ := ibody_ok hF hn hb
   split at h
   ·rename_i x hx
    split at h
    ·rename_i hc
     simp only [Bool.and_eq_true] at hc
     cases h
     exact ⟨h1, h2.fresh (Nat.le_of_ble_eq_true hc.1) hx hc.2, fun h => by cases h⟩
    ·cases h
   ·cases h
  ·cases h
 have plain : iplain P F f args M = some z → CallOK P GT f args M z := by
  intro h
  unfold iplain at h
  split at h
  ·rename_i ha
   split at h
   ·rename_i r M1 hb
    split at h
    ·rename_i r' hr
     cases h
     obtain ⟨h1, h2⟩ := ibody_ok hF hn hb
     exact ⟨h1, h2.plain hr ha M, fun _ => ⟨rfl, h2.plain hr ha⟩⟩
    ·cases h
   ·cases h
  ·cases h
 unfold icall at h
 split at h
 ·rename_i z' hz; cases h; exact ho _ _ _ _ hz
 ·split at h
  ·exact fresh h
  ·split at h
   ·exact own h
   ·split at h
    ·rename_i z' hz; cases h; exact plain hz
    ·exact own h
theorem fixF_ok (hm : P.follows .mixedOrders = true) (hn : P.funcs.all (fun fn => !(fn.name == "runtime.NumGoroutine")) = true) (ho : ∀ f args M z, orc f args M = some z → CallOK P GT f args M z) : ∀ n, Good P GT (fixF P GT orc keep n)
 | 0 => by
  constructor
  ·intro ro c s e s' Q h _
   have h : (none : Option (Exit × S)) = some (e, s') := h
   cases h
  ·intro f args M z h
   have h : (none : Option (AV × Mem × Bool)) = some z := h
   cases h
 | n + 1 => by
  constructor
  ·intro ro c s e s' Q h hq
   exact icode_ok (fixF_ok hm hn ho n) hm h hq
  ·intro f args M z h
   exact icall_ok (fixF_ok hm hn ho n) hn ho h
noncomputable def saysTrue (P : Program) (GT : Tabs) (orc : FuncId → List AV → Mem → Option (AV × Mem × Bool)) (keep : FuncId → Bool) (n : Nat) (f : FuncId) (args : List AV) : Bool :=
 match iplain P (fixF P GT orc keep n) f args [] with
 | some (.pd (.bool b), _, _) => b
 | _ => false
theorem saysTrue_ok (hm : P.follows .mixedOrders = true) (hn : P.funcs.all (fun fn => !(fn.name == "runtime.NumGoroutine")) = true) (ho : ∀ f args M z, orc f args M = some z → CallOK P GT f args M z) {n : Nat} {f : FuncId} {args : List AV} (h : saysTrue P GT orc keep n f args = true) :
  ASpec P GT f args (· = .pd (.bool true)) := by
 unfold saysTrue at h
 split at h
 ·rename_i b M q hz
  subst h
  unfold iplain at hz
  split at hz
  ·split at hz
   ·rename_i r M1 hb
    split at hz
    ·rename_i r' hr
     cases hz
     obtain ⟨h1, h2⟩ := ibody_ok (fixF_ok hm hn ho n) hn hb
     exact .of (h2.mono fun r2 M2 ⟨a, b⟩ => ⟨_, by rw [a, b]; exact hr, rfl⟩)
    ·cases hz
   ·cases hz
  ·cases hz
 ·cases h
end Go.Abs
end
