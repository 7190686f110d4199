/- Part of a proof, in few files: Abs31 QW BCd BNd DNat DLin B13n BDd. -/
import Derived.Test.YthkcibhfbcfhlaaGreatDoorDChK15
import Derived.Test.YthkcibhfbcfhlaaGreatDoorDChK13
import Derived.Lib.Strings
import Derived.Lib.IndexMore

set_option linter.unusedVariables false
set_option linter.unusedSimpArgs false
set_option linter.unnecessarySimpa false
section
namespace Go.Abs
open Go.RowKit
variable {P : Program} {GT : Tabs} {ro : Option Nat} {Q : Exit → S → Prop}
theorem mpEntL_app : ∀ (l : List (List UInt8 × Int)) (p : List UInt8 × Int) (n : Nat), mpEntL n (l ++ [p]) = mpEntL n l ++ [{ key := strV p.1, val := .int .i64 p.2, born := n + l.length }]
 | [], p, n => rfl
 | q :: l, p, n => by
  rw [List.cons_append, mpEntL, mpEntL_app l p (n + 1), mpEntL, List.cons_append, List.length_cons, show n + 1 + l.length = n + (l.length + 1) from by omega]
theorem mpEnt_push (l : List (List UInt8 × Int)) (p : List UInt8 × Int) : (mpEnt l).push { key := strV p.1, val := .int .i64 p.2, born := l.length } = mpEnt (l ++ [p]) := by
 unfold mpEnt; rw [mpEntL_app]; simp
theorem run_ins {t k e : TypeId} {w : World} {r : Nat} {l : List (List UInt8 × Int)} {s : List UInt8} {v : Int} (ht : P.underlying t = some (.map k e)) (hk : P.underlying k = some .string) (hw : w.heap[r]? = some (.map (mpEnt l) l.length)) (hn : (l.find? fun p => p.1 == s) = none) :
  (Instr.mapUpdate t (.map (some r)) (strV s) (.int .i64 v)).run P w = .ok () { w with heap := w.heap.setIfInBounds r (.map (mpEnt (l ++ [(s, v)])) (l ++ [(s, v)]).length) } := by
 obtain ⟨j, hj⟩ := find_mp s l 0 0
 rw [hn] at hj
 have hf : (Instr.findKey k (strV s) (mpEnt l).toList).run P w = .ok none w := MapKept.run_findKey hk (by simpa [mpEnt] using hj)
 have hc : ∀ em, (Instr.checkKey em 10000 k (strV s)).run P w = .ok () w := fun em => MapKept.run_checkKey (n := 9999) hk (by simp [strV, MapKept.IsKey]) em
 simp [Instr.mapUpdate, run_underlying ht, MapKept.run_getObj_map hw, hc, hf, Result.andThen, MapKept.run_setObj_map _ hw, ← mpEnt_push]
def insOf (t : TypeId) (d : Tmp) : List Oper → Option (List (List UInt8 × Int))
 | [] => some []
 | o :: r =>
  match o.guard, o.dst, o.op with
  | none, none, .insert t' (.tmp d') (.const (.string s)) (.const (.int .i64 v)) => if t' = t ∧ d' = d then (insOf t d r).map ((s.data.toList, v) :: ·) else none
  | _, _, _ => none
theorem wanted_none {o : Oper} {T : Array Value} (h : o.guard = none) {ops : Array Oper} : Region.wanted o (yielded ops T) = true := by
 simp [Region.wanted, h]
theorem ins_run {F : Fence} {n : Nat} {ops : Array Oper} {QQ : Exit → Act → World → Prop} {t k e : TypeId} {d : Tmp} {r : Nat} (hF : ∀ f, F.fn f) (ht : P.underlying t = some (.map k e)) (hk : P.underlying k = some .string) (rest : List Oper) : ∀ (is : List Oper) (m l : List (List UInt8 × Int)) (a : Act) (w : World), insOf t d is = some m →
  a.eval (.tmp d) = .map (some r) → w.heap[r]? = some (.map (mpEnt l) l.length) → ((l ++ m).map (·.1)).Nodup →
  (∀ w' : World, w'.heap[r]? = some (.map (mpEnt (l ++ m)) (l ++ m).length) → (∀ b, b ≠ r → w'.heap[b]? = w.heap[b]?) → w'.heap.size = w.heap.size → w'.os = w.os → w'.tape = w.tape → w'.output = w.output → wpListIn F n P ops QQ rest a w') → wpListIn F n P ops QQ (is ++ rest) a w
 | [], m, l, a, w, hi, ha, hw, hnd, h => by
  simp only [insOf, Option.some.injEq] at hi
  subst hi
  rw [List.append_nil] at h
  exact h w hw (fun _ _ => rfl) rfl rfl rfl rfl
 | o :: is, m, l, a, w, hi, ha, hw, hnd, h => by
  unfold insOf at hi
  split at hi
  ·rename_i t' d' s v hg hd ho
   split at hi
   ·rename_i hc
    obtain ⟨rfl, rfl⟩ := hc
    rw [Option.map_eq_some_iff] at hi
    obtain ⟨m', hm, rfl⟩ := hi
    have hs : strV s.data.toList = .string s := by obtain ⟨x⟩ := s; simp [strV]
    have hfind : (l.find? fun p => p.1 == s.data.toList) = none := by
     rw [List.find?_eq_none]
     intro p hp hps
     have hps : p.1 = s.data.toList := by simpa using hps
     rw [List.map_append, List.nodup_append] at hnd
     exact hnd.2.2 p.1 (List.mem_map_of_mem hp) p.1 (by simp [hps]) rfl
    have hrun := run_ins (v := v) ht hk hw hfind
    rw [hs] at hrun
    have hlt : r < w.heap.size := (Array.getElem?_eq_some_iff.1 hw).1
    rw [List.cons_append]
    unfold wpListIn
    rw [wanted_none hg, if_pos rfl]
    have e1 : (o.semAt F.round a.eval).run P w = .ok .skip { w with heap := w.heap.setIfInBounds r (.map (mpEnt (l ++ [(s.data.toList, v)])) (l ++ [(s.data.toList, v)]).length) } := by
     rw [Oper.semAt_eq _ _ _ (by intro k e; rw [e] at ho; cases ho)]
     have ec : a.eval (.const (.string s)) = .string s := rfl
     have ec2 : a.eval (.const (.int .i64 v)) = .int .i64 v := rfl
     simp [execOp, ho, ha, ec, ec2, hrun]
    refine ⟨fun f _ => hF f, ?_⟩
    rw [e1]
    have ea : a.put o.dst undef = a := by rw [hd]; rfl
    have ih := ins_run (QQ := QQ) (n := n) (ops := ops) hF ht hk rest is m' (l ++ [(s.data.toList, v)]) a { w with heap := w.heap.setIfInBounds r (.map (mpEnt (l ++ [(s.data.toList, v)])) (l ++ [(s.data.toList, v)]).length) } hm ha (by simp [hlt]) (by simpa using hnd) (fun w' h1 h2 h3 h4 h5 h6 => by
     refine h w' (by simpa using h1) (fun b hb => ?_) (by rw [h3]; simp) h4 h5 h6
     rw [h2 b hb]
     simp [Ne.symm hb])
    simpa [Oper.uponIn, ea] using ih
   ·cases hi
  ·cases hi
theorem AL_mkmap {ops : Array Oper} {o : Oper} {is rest : List Oper} {t k e : TypeId} {d : Tmp} {m : List (List UInt8 × Int)} {s : S} (hg : o.guard = none) (hd : o.dst = some d) (ho : o.op = .makeMap t none) (hi : insOf t d is = some m) (ht : P.underlying t = some (.map k e)) (hk : P.underlying k = some .string) (hnd : (m.map (·.1)).Nodup)
  (hdT : d < s.T.length) (h : AL P GT ro ops rest ⟨aput s.T (some d) (.pd (.mp m)), s.M, s.D⟩ Q) : AL P GT ro ops (o :: (is ++ rest)) s Q := by
 intro B I0 c a w n hR hob
 unfold wpListIn
 rw [wanted_none hg, if_pos rfl]
 have e1 : (o.semAt (fen c ro).round a.eval).run P w = .ok (.value (.map (some w.heap.size))) (w.alloc (.map #[] 0)) := by
  rw [Oper.semAt_eq _ _ _ (by intro k e; rw [e] at ho; cases ho)]
  simp [execOp, ho, Instr.makeMap, Result.andThen]
 refine ⟨fun f _ => fen_fn _ _ _, ?_⟩
 rw [e1]
 simp only [Oper.uponIn]
 rw [hd]
 show wpListIn (fen c ro) n P ops _ (is ++ rest) (a.put (some d) (.map (some w.heap.size))) (w.alloc (.map #[] 0))
 have hsz := hR.tmps.1
 have ha : (a.put (some d) (.map (some w.heap.size))).eval (.tmp d) = .map (some w.heap.size) := by
  have : d < a.tmps.size := Nat.lt_of_lt_of_le hdT hsz
  simp [Act.put, Act.eval, this]
 refine ins_run (l := []) (fun f => fen_fn _ _ _) ht hk rest is m (a.put (some d) (.map (some w.heap.size))) _ hi ha (by exact World.alloc_heap_new _ _) (by simpa using hnd) ?_
 intro w' h1 h2 h3 h4 h5 h6
 have hal : (w.alloc (.map #[] 0)).heap.size = w.heap.size + 1 := by show (w.heap.push _).size = _; simp
 have hbel : Below w.heap.size w w' := ⟨h4, h5, h6, by omega, fun b hb => by
  rw [h2 b (by omega)]
  show (w.heap.push _)[b]? = _
  rw [Array.getElem?_push, if_neg (by omega)]⟩
 have hG := hR.sim.grown hbel
 have he : Ext c s.M (c.grown w w') s.M := Ext.grown _ _ _
 have hs := Stp.grown hR.sim.hB hR.sim.immlt hbel
 have hv : ARep (c.grown w w') s.M w' (.map (some w.heap.size)) (.pd (.mp m)) := .pd _ _ (.mp _ _ (.inr ⟨Nat.le_refl _, by omega⟩) (by simpa using h1))
 have hR' := hR.step hG he hs (some d) hv
 have := h B I0 (c.grown w w') _ w' n hR' (fun l hl => he.obj l (hob l hl))
 rw [fen_ext he hob] at this
 exact wpListIn_mono2 (fun e a u h => Aft.from he hs h) _ _ _ this
end Go.Abs
end

section
namespace Go.Abs
open Go.RowKit Go.Proofs
variable {P : Program} {GT : Tabs} {w : W} {Q : Exit → S → Prop} {α : Type}
def W.adv : Nat → W → W
 | 0, w => w
 | n + 1, .ask (some (x, M)) k => W.adv n (k x M)
 | _ + 1, _ => .fail
theorem QK (n : Nat) (h : (w.adv n).holds P GT Q) : w.holds P GT Q := by
 induction n generalizing w with
 | zero => exact h
 | succ n ih =>
  cases w with
  | ask t k =>
   cases t with
   | none => exact (fail_holds (Q := Q) h).elim
   | some z =>
    obtain ⟨x, M⟩ := z
    have e : W.holds P GT Q ((W.ask (some (x, M)) k).back x M) = W.holds P GT Q (k x M) := by kernel_rfl
    exact H_ask x M (by kernel_rfl) rfl (e ▸ ih (w := k x M) h)
  | _ => exact (fail_holds (Q := Q) h).elim
theorem QP (b : Bool) (h1 : b = true → (w.br true).holds P GT Q) (h2 : b = false → (w.br false).holds P GT Q) (hv : w.view = .split b := by kernel_rfl) : w.holds P GT Q := H_split b hv h1 h2
theorem QL (M : Mem) (t et : TypeId) (el : α → PD) (e : List α) (h : (w.back (.pd (.int .i64 (e.length : Int))) M).holds P GT Q) (hv : w.view = .ask ((aLen P M t (.pd (.sl (e.map el)))).map (·, M)) := by kernel_rfl) (hu : P.underlying t = some (.slice et) := by kernel_rfl) : w.holds P GT Q := H_ask _ _ hv (ask_len hu) h
theorem QI (M : Mem) (t et : TypeId) (k : IntKind) {el : α → PD} {lv : α → List PD} {s : Nat} (h1 : LVok lv s) (h2 : ELok el lv) {e : List α} {z : Int} {x : α} (h : Idx e z x) (hh : (w.back (.rd (lv x)) M).holds P GT Q) (hv : w.view = .ask ((aIndexAddr P M t (.pd (.sl (e.map el))) (.pd (.int k z))).map (·, M)) := by kernel_rfl) (hu : P.underlying t = some (.slice et) := by kernel_rfl) (hz : szOf P et = some s := by kernel_rfl) : w.holds P GT Q := H_ask _ _ hv (ask_idx h1 h2 hu hz h) hh
theorem QS (M : Mem) (t et : TypeId) (lo hi : Option Int) {el : α → PD} {lv : α → List PD} {s : Nat} (h1 : LVok lv s) (h2 : ELok el lv) {e : List α} (h : SubOk e (loOf lo) (hiOf e.length hi)) (hh : (w.back (.pd (.sl ((sub e (loOf lo) (hiOf e.length hi)).map el))) M).holds P GT Q) (hv : w.view = .ask ((aSlice P M t (.pd (.sl (e.map el))) (lo.map fun z => .pd (.int .i64 z)) (hi.map fun z => .pd (.int .i64 z)) none).map (·, M)) := by kernel_rfl) (hu : P.underlying t = some (.slice et) := by kernel_rfl) (hz : szOf P et = some s := by kernel_rfl) : w.holds P GT Q := H_ask _ _ hv (ask_sub h1 h2 hu hz h) hh
theorem QA (M : Mem) (b : Nat) (e e2 : List α) (ver sT xT by_ : Nat) {lv : α → List PD} {s n : Nat} {x : AV} (h1 : LVok lv s) (hs : Src M s x lv e2) (hn : n = e.length) (hf : Fits (e.length + e2.length) by_) (hh : (w.back (.own b (e ++ e2).length (vnext e e2 ver)) (M.set b (rowV lv s (e ++ e2) (vnext e e2 ver) false))).holds P GT Q) (hv : w.view = .ask (aAppend P M sT xT (.own b n ver) x) := by kernel_rfl) (hi : RowInfoOk P sT xT s by_ = true := by kernel_rfl) (hM : M[b]? = some (rowV lv s e ver false) := by kernel_rfl) : w.holds P GT Q := H_ask _ _ hv (ask_appV h1 hi hs hM hn hf) hh
def cellsAt (M : Mem) (b : Nat) : List AV := match M[b]? with | some (.cells l _ _ _) => l | _ => []
theorem QC (M : Mem) (t : TypeId) (b off v n s : Nat) (xs : List AV) (x : AV) (hok : xs.all (·.okCell M) = true) (hh : (w.back .junk (M.set b (.cells ((cellsAt M b).take off ++ xs ++ (cellsAt M b).drop (off + n)) s v false))).holds P GT Q) (hv : w.view = .ask ((aStore P M t (.ptr b off v) x).map (AV.junk, ·)) := by kernel_rfl) (hb : M[b]? = some (.cells (cellsAt M b) s v false) := by kernel_rfl) (hn : szOf P t = some n := by kernel_rfl) (hx : x.cells = some xs := by kernel_rfl) (hl : (Nat.beq xs.length n && Nat.ble (off + n) (cellsAt M b).length) = true := by kernel_rfl) : w.holds P GT Q := H_ask _ _ hv (ask_storeC hb hn hx hl hok rfl) hh
def W.cM : W → Mem | .call _ _ M _ => M | .dcall _ _ M _ => M | _ => []
theorem QV {g : FuncId} {args : List AV} {x : AV} (hc : ASpec Tryz.prog GT g args (· = x)) (h : (w.back x w.cM).holds Tryz.prog GT Q) (hv : w.view = .call g args w.cM := by kernel_rfl) (hk : args.map wk = args := by kernel_rfl) (hp : args.all pur2 = true := by kernel_rfl) (he : hasBody Tryz.prog g = true := by kernel_rfl) : w.holds Tryz.prog GT Q := H_valW x (.inl hv) hk hc hp (hasT g he) h
theorem QVd {g : FuncId} {args : List AV} {x : AV} (hc : ASpec Tryz.prog GT g args (· = x)) (h : (w.back x w.cM).holds Tryz.prog GT Q) (hv : w.view = .dcall g args w.cM := by kernel_rfl) (hk : args.map wk = args := by kernel_rfl) (hp : args.all pur2 = true := by kernel_rfl) (he : hasBody Tryz.prog g = true := by kernel_rfl) : w.holds Tryz.prog GT Q := H_valW x (.inr hv) hk hc hp (hasT g he) h
theorem QO (M : Mem) (t et : TypeId) (lv : α → List PD) (s b : Nat) (e : List α) (ver : Nat) {n : Nat} (hn : n = e.length) (h : (w.back (.pd (.int .i64 (e.length : Int))) M).holds P GT Q) (hv : w.view = .ask ((aLen P M t (.own b n ver)).map (·, M)) := by kernel_rfl) (hu : P.underlying t = some (.slice et) := by kernel_rfl) (hM : M[b]? = some (rowV lv s e ver false) := by kernel_rfl) : w.holds P GT Q := H_ask _ _ hv (ask_olen hu hM (rowIs_v' (z := false)) hn) h
theorem QOc (M : Mem) (t et : TypeId) (lv : α → List PD) (s b : Nat) (e : List α) (ver : Nat) {n : Nat} (hn : n = e.length) (h : (w.back (.pd (.int .i64 (e.length : Int))) M).holds P GT Q) (hv : w.view = .ask ((aLen P M t (.own b n ver)).map (·, M)) := by kernel_rfl) (hu : P.underlying t = some (.slice et) := by kernel_rfl) (hM : M[b]? = some (.cells (rowC lv e) s ver false) := by kernel_rfl) : w.holds P GT Q := H_ask _ _ hv (ask_olen hu hM (rowIs_c (z := false)) hn) h
theorem QJ (M : Mem) (t et : TypeId) (k : IntKind) (lv : α → List PD) (s b : Nat) (e : List α) (ver : Nat) {n : Nat} {i : Int} {x : α} (hn : n = e.length) (hx : Idx e i x) (h : (w.back (.ptr b (i.toNat * s) ver) M).holds P GT Q) (hv : w.view = .ask ((aIndexAddr P M t (.own b n ver) (.pd (.int k i))).map (·, M)) := by kernel_rfl) (hu : P.underlying t = some (.slice et) := by kernel_rfl) (hz : szOf P et = some s := by kernel_rfl) (hM : M[b]? = some (rowV lv s e ver false) := by kernel_rfl) : w.holds P GT Q := H_ask _ _ hv (ask_oidx hu hz hM (rowIs_v' (z := false)) hn hx) h
theorem QJc (M : Mem) (t et : TypeId) (k : IntKind) (lv : α → List PD) (s b : Nat) (e : List α) (ver : Nat) {n : Nat} {i : Int} {x : α} (hn : n = e.length) (hx : Idx e i x) (h : (w.back (.ptr b (i.toNat * s) ver) M).holds P GT Q) (hv : w.view = .ask ((aIndexAddr P M t (.own b n ver) (.pd (.int k i))).map (·, M)) := by kernel_rfl) (hu : P.underlying t = some (.slice et) := by kernel_rfl) (hz : szOf P et = some s := by kernel_rfl) (hM : M[b]? = some (.cells (rowC lv e) s ver false) := by kernel_rfl) : w.holds P GT Q := H_ask _ _ hv (ask_oidx hu hz hM (rowIs_c (z := false)) hn hx) h
theorem QZ {t : Option (AV × Mem)} {x : AV} {M : Mem} (ht : t = some (x, M)) (h : (w.back x M).holds P GT Q) (hv : w.view = .ask t := by kernel_rfl) : w.holds P GT Q := H_ask x M hv ht h
theorem QB {b : Bool} {A B : Prop} (hi : IfB b A B) (h1 : A → (w.br true).holds P GT Q) (h2 : B → (w.br false).holds P GT Q) (hv : w.view = .split b := by kernel_rfl) : w.holds P GT Q := H_split b hv (fun e => h1 (hi.t e)) (fun e => h2 (hi.f e))
theorem QBp {b : Bool} {A B : Prop} (hi : IfB b A B) (h1 : b = true → A → (w.br true).holds P GT Q) (h2 : b = false → B → (w.br false).holds P GT Q) (hv : w.view = .split b := by kernel_rfl) : w.holds P GT Q := H_split b hv (fun e => h1 e (hi.t e)) (fun e => h2 e (hi.f e))
theorem QE {fn : Func} {x : AV} (e : Exit) (hv : w.view = .done e := by kernel_rfl) (he : endOk e = true := by kernel_rfl) (hr : endVal P fn w.stS = some x := by kernel_rfl) : w.holds P GT (EndQ P fn (· = x)) := H_end e x hv he hr rfl
theorem QX {fn : Func} {x : AV} (e : Exit) (rv : AV) (M : Mem) (hp : pure3 M rv = some x) (hv : w.view = .done e := by kernel_rfl) (he : endOk e = true := by kernel_rfl) (hr : resOf P fn w.stS.T (shut w.stS.M w.stS.D) = some rv := by kernel_rfl) (hM : shut w.stS.M w.stS.D = M := by kernel_rfl) : w.holds P GT (EndQ P fn (· = x)) := H_endX e rv x M hv he hr hM hp rfl
theorem QT {fn : Func} {el : α → PD} {lv : α → List PD} {s n : Nat} {e : List α} {fl : Bool} (ex : Exit) (h1 : LVok lv s) (hg : ELg el lv s) (b ver : Nat) (hn : n = e.length) (hv : w.view = .done ex := by kernel_rfl) (he : endOk ex = true := by kernel_rfl) (hr : resOf P fn w.stS.T (shut w.stS.M w.stS.D) = some (.tup [.own b n ver, .pd (.bool fl)]) := by kernel_rfl) (hs : Nat.blt 0 s = true := by kernel_rfl) (hM : (shut w.stS.M w.stS.D)[b]? = some (rowV lv s e ver false) := by kernel_rfl) : w.holds P GT (EndQ P fn (· = .tup [.pd (.sl (e.map el)), .pd (.bool fl)])) :=
 H_endX ex _ _ _ hv he hr rfl (pure_tup (pl_cons (pure_1to2 (pure1_own h1 (Nat.le_of_ble_eq_true hs) hg hM rowIs_v' hn) rfl) (pl_cons rfl pl_nil))) rfl
variable {σ γ : Type} {w0 : W} {n m : Nat} {st : σ → γ → List (Nat × AV)} {mm : σ → γ → Mem} {I : σ → γ → Prop} {D : List Nat} {X : σ → Prop}
theorem QG {a : σ} (g : γ) (hX : X a) (hI : I a g) (hv : w.view = .done .normal := by kernel_rfl) (hn : w.stS.T.length = n := by kernel_rfl) (hT : pickW w.stS.T ((st a g).map (·.1)) = ((st a g).map fun p => some p.2) := by kernel_rfl) (hM : w.stS.M = mm a g := by kernel_rfl) (hD : w.stS.D = D := by kernel_rfl) : w.holds P GT (RndP P GT Q w0 n m st mm I D X) := H_againP a g hX hI hv hn hT hM hD
theorem QGC {a : σ} (g : γ) (hX : X a) (hI : I a g) (hb : (mm a g).all (belO m) = true) (hv : w.view = .done .normal := by kernel_rfl) (hn : w.stS.T.length = n := by kernel_rfl) (hT : pickW w.stS.T ((st a g).map (·.1)) = ((st a g).map fun p => some p.2) := by kernel_rfl) (hD : w.stS.D = D := by kernel_rfl) (hl : Nat.ble m w.stS.M.length = true := by kernel_rfl) (hM : w.stS.M.take m = mm a g := by kernel_rfl) (hs : (st a g).all (fun p => bel3 m p.2) = true := by kernel_rfl) (hd : D.all (fun d => Nat.blt d m) = true := by kernel_rfl) : w.holds P GT (RndP P GT Q w0 n m st mm I D X) := H_againC a g hX hI hv hn hT hD hl hM hb hs hd
def noN : Exit → Bool | .normal => false | _ => true
theorem QR (e : Exit) (h : (w0.go e w.stS).holds P GT Q) (hv : w.view = .done e := by kernel_rfl) (hne : noN e = true := by kernel_rfl) : w.holds P GT (RndP P GT Q w0 n m st mm I D X) := by
 cases e <;> first | exact H_leaveP _ hv rfl h | cases hne
theorem QD (h : w.on.holds P GT Q) (hv : w.view = .draw true := by kernel_rfl) : w.holds P GT Q := H_draw hv h
theorem ask_ofld {M : Mem} {st : TypeId} {f b off fo k s ver : Nat} {o : Ob} {lv : α → List PD} {e : List α} {z : Bool} (h1 : (fieldOf P st f).map (fun fl => (szOf P fl.type, fl.offset)) = some (some (k + 1), fo)) (hM : M[b]? = some o) (hr : RowIs o lv s e ver z) : (aFieldAddr P M st (.ptr b off ver) f).map (·, M) = some (.ptr b (off + fo) ver, M) := by
 have hv : verOf M b = ver := by rw [verOf_some hM, hr.ver]
 unfold aFieldAddr
 cases hf : fieldOf P st f with
 | none => rw [hf] at h1; cases h1
 | some fl =>
  rw [hf] at h1
  simp only [Option.map_some, Option.some.injEq, Prod.mk.injEq] at h1
  simp only [h1.1, h1.2, if_pos hv]; rfl
theorem po {M : Mem} {el : α → PD} {lv : α → List PD} {s : Nat} (h1 : LVok lv s) (hg : ELg el lv s) (b : Nat) (e : List α) (ver n : Nat) (hn : n = e.length) (hs : Nat.blt 0 s = true := by kernel_rfl) (hM : M[b]? = some (rowV lv s e ver false) := by kernel_rfl) : pure1 M (.own b n ver) = some (.pd (.sl (e.map el))) := pure1_own h1 (Nat.le_of_ble_eq_true hs) hg hM rowIs_v' hn
def Pre (M0 M : Mem) : Prop := ∃ RR : Mem, M = M0 ++ RR
theorem Dq : (∀ (p : Prop) [Decidable p], decide p = true ↔ p) ∧ (∀ (p : Prop) [Decidable p], decide p = false ↔ ¬ p) ∧ (∀ a b : Int, (a == b) = true ↔ a = b) ∧ (∀ a b : Int, (a == b) = false ↔ ¬ a = b) ∧ (∀ a b : Int, (a != b) = true ↔ ¬ a = b) ∧ (∀ a b : Int, (a != b) = false ↔ a = b) := by
 refine ⟨fun p _ => by simp, fun p _ => by simp, fun a b => by simp, fun a b => by simp, fun a b => by simp, fun a b => by simp⟩
theorem QAA (x : AV) (h : (w.backF x).holds P GT Q) (hv : w.view = .askall (fun M' => some (x, M')) := by kernel_rfl) : w.holds P GT Q := H_askall x hv (fun _ => rfl) h
theorem QEM {fn : Func} {n : Nat} {R : AV → Mem → Prop} (e : Exit) (r : AV) (M : Mem) (h : R r M) (hv : w.view = .done e := by kernel_rfl) (he : endOk e = true := by rfl) (hd : w.stS.D.all (fun d => Nat.ble n d) = true := by kernel_rfl) (hr : resOf P fn w.stS.T (shut w.stS.M w.stS.D) = some r := by kernel_rfl) (hM : shut w.stS.M w.stS.D = M := by kernel_rfl) : w.holds P GT (EndM P fn n R) := H_endM e r M hv he hd hr hM h
theorem QLP {σ γ : Type} {F : (σ → Prop) → σ → Prop} {s0 : σ} (hF : LoopP F s0) (g0 : γ) (n m : Nat) (st : σ → γ → List (Nat × AV)) (mm : σ → γ → Mem) (I : σ → γ → Prop) (hI : I s0 g0) (D : List Nat) (hm : P.follows .mixedOrders = true) (q : Op → Bool)
  (h : ∀ (X : σ → Prop) s g, I s g → F X s → (wc P GT q w.lro w.lx ⟨mkT n (st s g), mm s g, D⟩ .done).holds P GT (RndP P GT Q w n m st mm I D X))
  (hlen : ∀ s g, (mm s g).length = m := by exact fun _ _ => rfl) (hv : w.isLoop = true := by kernel_rfl) (hn : w.stS.T.length = n := by kernel_rfl) (hT : pickW w.stS.T ((st s0 g0).map (·.1)) = (st s0 g0).map (fun p => some p.2) := by kernel_rfl) (hM : w.stS.M = mm s0 g0 := by kernel_rfl) (hD : w.stS.D = D := by kernel_rfl) : w.holds P GT Q :=
 H_loopP hF g0 n m st mm I hI D hm q hv hn hT hM hD hlen h
theorem QIN {g : FuncId} {args : List AV} {M : Mem} (fn : Func) (hm : P.follows .mixedOrders = true) (q : Op → Bool) (he : Enters P g)
  (h : (fnW P GT q fn args M).holds P GT (EndM P fn M.length fun r M' => (w.back r M').holds P GT Q)) (hv : w.view = .call g args M := by kernel_rfl) (hf : P.funcs[g]? = some fn := by kernel_rfl) : w.holds P GT Q := H_inl fn hm q hv hf he h
end Go.Abs
end

section
namespace Go.Abs
open Go
def strings_CutPrefix (s p : List UInt8) (r : List UInt8 × Bool) : Prop := r = (Lib.trimPrefix s p, Lib.hasPrefix s p)
end Go.Abs
end

section
namespace Go.Abs
def slices_Clone_nat_Nat_uint32 (l r : List Int) : Prop := Fits l.length 4 ∧ r = l
end Go.Abs
end

section
namespace Go.Abs
def math_bits_Len32 (p0 : Int) (r : Int) : Prop :=
 IfB (decide (p0 ≥ 65536))
  (IfB (decide ((Int.fdiv p0 (2 ^ (min (Int.toNat (16 : Int)) (IntKind.bits .u32)))) ≥ 256))
   (∃ c1, Idx (len8L : List UInt8) (IntKind.u8.wrap (Int.fdiv (Int.fdiv p0 (2 ^ (min (Int.toNat (16 : Int)) (IntKind.bits .u32)))) (2 ^ (min (Int.toNat (8 : Int)) (IntKind.bits .u32))))) c1 ∧
   r = (IntKind.i64.wrap (24 + (IntKind.i64.wrap ((c1.toNat : Nat) : Int)))))
   (∃ c3, Idx (len8L : List UInt8) (IntKind.u8.wrap (Int.fdiv p0 (2 ^ (min (Int.toNat (16 : Int)) (IntKind.bits .u32))))) c3 ∧
   r = (IntKind.i64.wrap (16 + (IntKind.i64.wrap ((c3.toNat : Nat) : Int))))))
  (IfB (decide (p0 ≥ 256))
   (∃ c5, Idx (len8L : List UInt8) (IntKind.u8.wrap (Int.fdiv p0 (2 ^ (min (Int.toNat (8 : Int)) (IntKind.bits .u32))))) c5 ∧
   r = (IntKind.i64.wrap (8 + (IntKind.i64.wrap ((c5.toNat : Nat) : Int)))))
   (∃ c7, Idx (len8L : List UInt8) (IntKind.u8.wrap p0) c7 ∧
   r = (IntKind.i64.wrap (0 + (IntKind.i64.wrap ((c7.toNat : Nat) : Int))))))
def nat_trim_L1 (p0 : List Int) (r : (List Int)) (X1 : Int → Prop) (s : Int) : Prop := match s with
 | s100 =>
 IfB (decide (s100 > 0))
  (∃ x1, Idx p0 (IntKind.i64.wrap (s100 - 1)) x1 ∧
  IfB (x1 == 0)
   (X1 (IntKind.i64.wrap (s100 - 1)))
   (SubOk p0 0 s100 ∧
   ∃ x4, slices_Clone_nat_Nat_uint32 (sub p0 0 s100) x4 ∧
   r = x4))
  (SubOk p0 0 s100 ∧
  ∃ x7, slices_Clone_nat_Nat_uint32 (sub p0 0 s100) x7 ∧
  r = x7)
def nat_trim (p0 : List Int) (r : (List Int)) : Prop :=
 LoopP (nat_trim_L1 p0 r) (p0.length : Int)
def nat_Of (p0 : Int) (r : (List Int)) : Prop :=
 ∃ x1, nat_trim [(IntKind.u32.wrap p0), (IntKind.u32.wrap (Int.fdiv p0 (2 ^ (min (Int.toNat (32 : Int)) (IntKind.bits .u64)))))] x1 ∧
 r = x1
def nat_Small_L1 (x1 : List Int) (r : Int × Bool) (X1 : (Int × Int) → Prop) (s : Int × Int) : Prop := match s with
 | (s100, s101) =>
 IfB (decide (s100 ≥ 0))
  (∃ x3, Idx x1 s100 x3 ∧
  X1 ((IntKind.i64.wrap (s100 - 1)), (bitO .u64 (IntKind.u64.wrap (s101 * 2 ^ (min (Int.toNat (32 : Int)) (IntKind.bits .u64)))) (IntKind.u64.wrap x3))))
  (r = (s101, true))
def nat_Small (p0 : List Int) (r : Int × Bool) : Prop :=
 ∃ x1, nat_trim p0 x1 ∧
 IfB (decide ((x1.length : Int) > 2))
  (r = (0, false))
  (LoopP (nat_Small_L1 x1 r) ((IntKind.i64.wrap ((x1.length : Int) - 1)), (0 : Int)))
def nat_Compare_L1 (x1 : List Int) (x3 : List Int) (r : Int) (X1 : Int → Prop) (s : Int) : Prop := match s with
 | s100 =>
 IfB (decide (s100 ≥ 0))
  (∃ x5, Idx x1 s100 x5 ∧
  ∃ x7, Idx x3 s100 x7 ∧
  IfB (decide (x5 < x7))
   (r = (-1))
   (∃ x9, Idx x3 s100 x9 ∧
   IfB (decide (x5 > x9))
    (r = 1)
    (X1 (IntKind.i64.wrap (s100 - 1)))))
  (r = 0)
def nat_Compare (p0 : List Int) (p1 : List Int) (r : Int) : Prop :=
 ∃ x1, nat_trim p0 x1 ∧
 ∃ x3, nat_trim p1 x3 ∧
 IfB ((x1.length : Int) != (x3.length : Int))
  (r = (if (1 : Int) < (if (-1 : Int) > (IntKind.i64.wrap ((x1.length : Int) - (x3.length : Int))) then (-1) else (IntKind.i64.wrap ((x1.length : Int) - (x3.length : Int)))) then 1 else (if (-1 : Int) > (IntKind.i64.wrap ((x1.length : Int) - (x3.length : Int))) then (-1) else (IntKind.i64.wrap ((x1.length : Int) - (x3.length : Int))))))
  (LoopP (nat_Compare_L1 x1 x3 r) (IntKind.i64.wrap ((x1.length : Int) - 1)))
def nat_at (p0 : List Int) (p1 : Int) (r : Int) : Prop :=
 IfB (decide (p1 < (p0.length : Int)))
  (∃ x1, Idx p0 p1 x1 ∧
  r = (IntKind.u64.wrap x1))
  (r = 0)
def nat_Add_L1 (p0 : List Int) (p1 : List Int) (r : (List Int)) (X1 : (Int × Int × (List Int)) → Prop) (s : Int × Int × (List Int)) : Prop := match s with
 | (s100, s101, s150) =>
 IfB (decide (s101 < ((List.replicate (Int.toNat (IntKind.i64.wrap ((if (p1.length : Int) > (p0.length : Int) then (p1.length : Int) else (p0.length : Int)) + 1))) (0 : Int)).length : Int)))
  (∃ x4, nat_at p0 s101 x4 ∧
  ∃ x6, nat_at p1 s101 x6 ∧
  ∃ x8, Idx s150 s101 x8 ∧
  X1 ((Int.fdiv (IntKind.u64.wrap (s100 + (IntKind.u64.wrap (x4 + x6)))) (2 ^ (min (Int.toNat (32 : Int)) (IntKind.bits .u64)))), (IntKind.i64.wrap (s101 + 1)), (s150.set (Int.toNat s101) (IntKind.u32.wrap (IntKind.u64.wrap (s100 + (IntKind.u64.wrap (x4 + x6))))))))
  (∃ x10, nat_trim s150 x10 ∧
  r = x10)
def nat_Add (p0 : List Int) (p1 : List Int) (r : (List Int)) : Prop :=
 (0 ≤ (IntKind.i64.wrap ((if (p1.length : Int) > (p0.length : Int) then (p1.length : Int) else (p0.length : Int)) + 1)) ∧ Fits (Int.toNat (IntKind.i64.wrap ((if (p1.length : Int) > (p0.length : Int) then (p1.length : Int) else (p0.length : Int)) + 1))) 4 ∧ Fits (Int.toNat (IntKind.i64.wrap ((if (p1.length : Int) > (p0.length : Int) then (p1.length : Int) else (p0.length : Int)) + 1))) 1) ∧
 LoopP (nat_Add_L1 p0 p1 r) ((0 : Int), (0 : Int), (List.replicate (Int.toNat (IntKind.i64.wrap ((if (p1.length : Int) > (p0.length : Int) then (p1.length : Int) else (p0.length : Int)) + 1))) (0 : Int)))
def nat_Sub_L1 (p0 : List Int) (p1 : List Int) (r : (List Int) × Bool) (X1 : (Int × Int × (List Int)) → Prop) (s : Int × Int × (List Int)) : Prop := match s with
 | (s100, s101, s150) =>
 IfB (decide (s101 < ((List.replicate (Int.toNat (p0.length : Int)) (0 : Int)).length : Int)))
  (∃ x6, nat_at p0 s101 x6 ∧
  ∃ x8, nat_at p1 s101 x8 ∧
  ∃ x10, Idx s150 s101 x10 ∧
  X1 ((Int.fdiv (IntKind.u64.wrap ((IntKind.u64.wrap (x6 - x8)) - s100)) (2 ^ (min (Int.toNat (63 : Int)) (IntKind.bits .u64)))), (IntKind.i64.wrap (s101 + 1)), (s150.set (Int.toNat s101) (IntKind.u32.wrap (IntKind.u64.wrap ((IntKind.u64.wrap (x6 - x8)) - s100))))))
  (∃ x12, nat_trim s150 x12 ∧
  r = (x12, true))
def nat_Sub (p0 : List Int) (p1 : List Int) (r : (List Int) × Bool) : Prop :=
 ∃ x1, nat_Compare p0 p1 x1 ∧
 IfB (decide (x1 < 0))
  (r = ([], false))
  ((0 ≤ (p0.length : Int) ∧ Fits (Int.toNat (p0.length : Int)) 4 ∧ Fits (Int.toNat (p0.length : Int)) 1) ∧
  LoopP (nat_Sub_L1 p0 p1 r) ((0 : Int), (0 : Int), (List.replicate (Int.toNat (p0.length : Int)) (0 : Int))))
def nat_Mul_L2 (p1 : List Int) (s100 : Int) (X1 : (Int × (List Int)) → Prop) (x4 : Int) (X2 : (Int × Int × (List Int)) → Prop) (s : Int × Int × (List Int)) : Prop := match s with
 | (s200, s201, s250) =>
 IfB (decide (s201 < (p1.length : Int)))
  (∃ x6, Idx p1 s201 x6 ∧
  ∃ x8, Idx s250 (IntKind.i64.wrap (s100 + s201)) x8 ∧
  ∃ x10, Idx s250 (IntKind.i64.wrap (s100 + s201)) x10 ∧
  X2 ((Int.fdiv (IntKind.u64.wrap (s200 + (IntKind.u64.wrap ((IntKind.u64.wrap ((IntKind.u64.wrap x4) * (IntKind.u64.wrap x6))) + (IntKind.u64.wrap x8))))) (2 ^ (min (Int.toNat (32 : Int)) (IntKind.bits .u64)))), (IntKind.i64.wrap (s201 + 1)), (s250.set (Int.toNat (IntKind.i64.wrap (s100 + s201))) (IntKind.u32.wrap (IntKind.u64.wrap (s200 + (IntKind.u64.wrap ((IntKind.u64.wrap ((IntKind.u64.wrap x4) * (IntKind.u64.wrap x6))) + (IntKind.u64.wrap x8)))))))))
  (∃ x12, Idx s250 (IntKind.i64.wrap (s100 + (p1.length : Int))) x12 ∧
  X1 ((IntKind.i64.wrap (s100 + 1)), (s250.set (Int.toNat (IntKind.i64.wrap (s100 + (p1.length : Int)))) (IntKind.u32.wrap s200))))
def nat_Mul_L1 (p0 : List Int) (p1 : List Int) (r : (List Int)) (X1 : (Int × (List Int)) → Prop) (s : Int × (List Int)) : Prop := match s with
 | (s100, s150) =>
 IfB (decide (s100 < (p0.length : Int)))
  (∃ x4, Idx p0 s100 x4 ∧
  LoopP (nat_Mul_L2 p1 s100 X1 x4) ((0 : Int), (0 : Int), s150))
  (∃ x14, nat_trim s150 x14 ∧
  r = x14)
def nat_Mul (p0 : List Int) (p1 : List Int) (r : (List Int)) : Prop :=
 (0 ≤ (IntKind.i64.wrap ((p0.length : Int) + (p1.length : Int))) ∧ Fits (Int.toNat (IntKind.i64.wrap ((p0.length : Int) + (p1.length : Int)))) 4 ∧ Fits (Int.toNat (IntKind.i64.wrap ((p0.length : Int) + (p1.length : Int)))) 1) ∧
 LoopP (nat_Mul_L1 p0 p1 r) ((0 : Int), (List.replicate (Int.toNat (IntKind.i64.wrap ((p0.length : Int) + (p1.length : Int)))) (0 : Int)))
def nat_Bits (p0 : List Int) (r : Int) : Prop :=
 ∃ x1, nat_trim p0 x1 ∧
 IfB ((x1.length : Int) == 0)
  (r = 0)
  (∃ x3, Idx x1 (IntKind.i64.wrap ((x1.length : Int) - 1)) x3 ∧
  ∃ x5, math_bits_Len32 x3 x5 ∧
  r = (IntKind.i64.wrap ((IntKind.i64.wrap (32 * (IntKind.i64.wrap ((x1.length : Int) - 1)))) + x5)))
def nat_Shift_L1 (p0 : List Int) (p1 : Int) (r : (List Int)) (X1 : (Int × (List Int)) → Prop) (s : Int × (List Int)) : Prop := match s with
 | (s100, s150) =>
 IfB (decide (s100 < (p0.length : Int)))
  (∃ x8, Idx p0 s100 x8 ∧
  0 ≤ (Int.tmod p1 (32 : Int)) ∧
  ∃ x11, Idx s150 (IntKind.i64.wrap (s100 + (IntKind.i64.wrap (Int.tdiv p1 (32 : Int))))) x11 ∧
  ∃ x13, Idx s150 (IntKind.i64.wrap (s100 + (IntKind.i64.wrap (Int.tdiv p1 (32 : Int))))) x13 ∧
  ∃ x15, Idx (s150.set (Int.toNat (IntKind.i64.wrap (s100 + (IntKind.i64.wrap (Int.tdiv p1 (32 : Int)))))) (bitO .u32 x11 (IntKind.u32.wrap (IntKind.u64.wrap ((IntKind.u64.wrap x8) * 2 ^ (min (Int.toNat (Int.tmod p1 (32 : Int))) (IntKind.bits .u64))))))) (IntKind.i64.wrap ((IntKind.i64.wrap (s100 + (IntKind.i64.wrap (Int.tdiv p1 (32 : Int))))) + 1)) x15 ∧
  ∃ x17, Idx (s150.set (Int.toNat (IntKind.i64.wrap (s100 + (IntKind.i64.wrap (Int.tdiv p1 (32 : Int)))))) (bitO .u32 x11 (IntKind.u32.wrap (IntKind.u64.wrap ((IntKind.u64.wrap x8) * 2 ^ (min (Int.toNat (Int.tmod p1 (32 : Int))) (IntKind.bits .u64))))))) (IntKind.i64.wrap ((IntKind.i64.wrap (s100 + (IntKind.i64.wrap (Int.tdiv p1 (32 : Int))))) + 1)) x17 ∧
  X1 ((IntKind.i64.wrap (s100 + 1)), ((s150.set (Int.toNat (IntKind.i64.wrap (s100 + (IntKind.i64.wrap (Int.tdiv p1 (32 : Int)))))) (bitO .u32 x11 (IntKind.u32.wrap (IntKind.u64.wrap ((IntKind.u64.wrap x8) * 2 ^ (min (Int.toNat (Int.tmod p1 (32 : Int))) (IntKind.bits .u64))))))).set (Int.toNat (IntKind.i64.wrap ((IntKind.i64.wrap (s100 + (IntKind.i64.wrap (Int.tdiv p1 (32 : Int))))) + 1))) (bitO .u32 x15 (IntKind.u32.wrap (Int.fdiv (IntKind.u64.wrap ((IntKind.u64.wrap x8) * 2 ^ (min (Int.toNat (Int.tmod p1 (32 : Int))) (IntKind.bits .u64)))) (2 ^ (min (Int.toNat (32 : Int)) (IntKind.bits .u64)))))))))
  (∃ x19, nat_trim s150 x19 ∧
  r = x19)
def nat_Shift (p0 : List Int) (p1 : Int) (r : (List Int)) : Prop :=
 IfB (decide (p1 < 0))
  (∃ x1, nat_trim p0 x1 ∧
  r = x1)
  (IfB (decide (p1 > 65536))
   (∃ x3, nat_trim p0 x3 ∧
   r = x3)
   ((0 ≤ (IntKind.i64.wrap ((IntKind.i64.wrap ((p0.length : Int) + (IntKind.i64.wrap (Int.tdiv p1 (32 : Int))))) + 1)) ∧ Fits (Int.toNat (IntKind.i64.wrap ((IntKind.i64.wrap ((p0.length : Int) + (IntKind.i64.wrap (Int.tdiv p1 (32 : Int))))) + 1))) 4 ∧ Fits (Int.toNat (IntKind.i64.wrap ((IntKind.i64.wrap ((p0.length : Int) + (IntKind.i64.wrap (Int.tdiv p1 (32 : Int))))) + 1))) 1) ∧
   LoopP (nat_Shift_L1 p0 p1 r) ((0 : Int), (List.replicate (Int.toNat (IntKind.i64.wrap ((IntKind.i64.wrap ((p0.length : Int) + (IntKind.i64.wrap (Int.tdiv p1 (32 : Int))))) + 1))) (0 : Int)))))
def nat_digit_L1 (p1 : List Int) (r : Int × (List Int)) (X1 : ((List Int) × Int × Int) → Prop) (s : (List Int) × Int × Int) : Prop := match s with
 | (s100, s101, s102) =>
 IfB (decide (s102 ≥ 0))
  (∃ x1, nat_Shift p1 s102 x1 ∧
  ∃ x3 x4, nat_Sub s100 x1 (x3, x4) ∧
  IfB x4
   (0 ≤ s102 ∧
   X1 (x3, (bitO .u32 s101 (IntKind.u32.wrap ((1 : Int) * 2 ^ (min (Int.toNat s102) (IntKind.bits .u32))))), (IntKind.i64.wrap (s102 - 1))))
   (X1 (s100, s101, (IntKind.i64.wrap (s102 - 1)))))
  (r = (s101, s100))
def nat_digit (p0 : List Int) (p1 : List Int) (r : Int × (List Int)) : Prop :=
 LoopP (nat_digit_L1 p1 r) (p0, (0 : Int), (31 : Int))
def nat_DivMod_L1 (x1 : List Int) (x3 : List Int) (r : (List Int) × (List Int) × Int) (X1 : (Int × (List Int) × (List Int)) → Prop) (s : Int × (List Int) × (List Int)) : Prop := match s with
 | (s100, s101, s151) =>
 IfB (decide (s100 ≥ 0))
  (∃ x8, Idx x1 s100 x8 ∧
  IfB s101.isEmpty
   (∃ x11, nat_trim [x8] x11 ∧
   IfB ((x3.length : Int) == 1)
    (∃ x13 x14, nat_Small x11 (x13, x14) ∧
    IfB x14
     (∃ x16, Idx x3 0 x16 ∧
     (IntKind.u64.wrap x16) ≠ 0 ∧
     ∃ x19, Idx s151 s100 x19 ∧
     ∃ x21, Idx x3 0 x21 ∧
     (IntKind.u64.wrap x21) ≠ 0 ∧
     ∃ x24, nat_Of (Int.tmod x13 (IntKind.u64.wrap x21)) x24 ∧
     X1 ((IntKind.i64.wrap (s100 - 1)), x24, (s151.set (Int.toNat s100) (IntKind.u32.wrap (IntKind.u64.wrap (Int.tdiv x13 (IntKind.u64.wrap x16)))))))
     (∃ x26, Idx x3 0 x26 ∧
     (IntKind.u64.wrap x26) ≠ 0 ∧
     ∃ x29, Idx s151 s100 x29 ∧
     ∃ x31, Idx x3 0 x31 ∧
     (IntKind.u64.wrap x31) ≠ 0 ∧
     ∃ x34, nat_Of (Int.tmod x13 (IntKind.u64.wrap x31)) x34 ∧
     X1 ((IntKind.i64.wrap (s100 - 1)), x34, (s151.set (Int.toNat s100) (IntKind.u32.wrap (IntKind.u64.wrap (Int.tdiv x13 (IntKind.u64.wrap x26))))))))
    (∃ x36 x37, nat_digit x11 x3 (x36, x37) ∧
    ∃ x39, Idx s151 s100 x39 ∧
    X1 ((IntKind.i64.wrap (s100 - 1)), x37, (s151.set (Int.toNat s100) x36))))
   (Fits ([x8].length + s101.length) 4 ∧
   ∃ x42, nat_trim ([x8] ++ s101) x42 ∧
   IfB ((x3.length : Int) == 1)
    (∃ x44 x45, nat_Small x42 (x44, x45) ∧
    IfB x45
     (∃ x47, Idx x3 0 x47 ∧
     (IntKind.u64.wrap x47) ≠ 0 ∧
     ∃ x50, Idx s151 s100 x50 ∧
     ∃ x52, Idx x3 0 x52 ∧
     (IntKind.u64.wrap x52) ≠ 0 ∧
     ∃ x55, nat_Of (Int.tmod x44 (IntKind.u64.wrap x52)) x55 ∧
     X1 ((IntKind.i64.wrap (s100 - 1)), x55, (s151.set (Int.toNat s100) (IntKind.u32.wrap (IntKind.u64.wrap (Int.tdiv x44 (IntKind.u64.wrap x47)))))))
     (∃ x57, Idx x3 0 x57 ∧
     (IntKind.u64.wrap x57) ≠ 0 ∧
     ∃ x60, Idx s151 s100 x60 ∧
     ∃ x62, Idx x3 0 x62 ∧
     (IntKind.u64.wrap x62) ≠ 0 ∧
     ∃ x65, nat_Of (Int.tmod x44 (IntKind.u64.wrap x62)) x65 ∧
     X1 ((IntKind.i64.wrap (s100 - 1)), x65, (s151.set (Int.toNat s100) (IntKind.u32.wrap (IntKind.u64.wrap (Int.tdiv x44 (IntKind.u64.wrap x57))))))))
    (∃ x67 x68, nat_digit x42 x3 (x67, x68) ∧
    ∃ x70, Idx s151 s100 x70 ∧
    X1 ((IntKind.i64.wrap (s100 - 1)), x68, (s151.set (Int.toNat s100) x67)))))
  (∃ x72, nat_trim s151 x72 ∧
  r = (x72, s101, 0))
def nat_DivMod (p0 : List Int) (p1 : List Int) (r : (List Int) × (List Int) × Int) : Prop :=
 ∃ x1, nat_trim p0 x1 ∧
 ∃ x3, nat_trim p1 x3 ∧
 IfB ((x3.length : Int) == 0)
  (r = ([], [], 5))
  ((0 ≤ (x1.length : Int) ∧ Fits (Int.toNat (x1.length : Int)) 4 ∧ Fits (Int.toNat (x1.length : Int)) 1) ∧
  LoopP (nat_DivMod_L1 x1 x3 r) ((IntKind.i64.wrap ((x1.length : Int) - 1)), [], (List.replicate (Int.toNat (x1.length : Int)) (0 : Int))))
def nat_Gcd_L1 (r : (List Int)) (X1 : ((List Int) × (List Int)) → Prop) (s : (List Int) × (List Int)) : Prop := match s with
 | (s100, s101) =>
 IfB (decide ((s101.length : Int) > 0))
  (∃ x5 x6 x7, nat_DivMod s100 s101 (x5, x6, x7) ∧
  X1 (s101, x6))
  (r = s100)
def nat_Gcd (p0 : List Int) (p1 : List Int) (r : (List Int)) : Prop :=
 ∃ x1, nat_trim p0 x1 ∧
 ∃ x3, nat_trim p1 x3 ∧
 LoopP (nat_Gcd_L1 r) (x1, x3)
def nat_Parse_1 (p0 : Int) (r : Bool) : Prop :=
 IfB (decide (p0 ≥ 48))
  (IfB (decide (p0 ≤ 57))
   (r = true)
   (r = false))
  (r = false)
def nat_Parse_L1 (p0 : List UInt8) (r : (List Int) × Int) (X1 : ((List Int) × Int) → Prop) (s : (List Int) × Int) : Prop := match s with
 | (s100, s101) =>
 IfB (decide (s101 < (p0.length : Int)))
  (∃ c1, Idx p0 s101 c1 ∧
  ∃ x3, nat_Parse_1 ((c1.toNat : Nat) : Int) x3 ∧
  IfB x3
   (IfB (decide (s101 < 400))
    (∃ x5, nat_Of (10 : Int) x5 ∧
    ∃ x7, nat_Mul s100 x5 x7 ∧
    ∃ c9, Idx p0 s101 c9 ∧
    ∃ x11, nat_Of (IntKind.u64.wrap (IntKind.u8.wrap (((c9.toNat : Nat) : Int) - 48))) x11 ∧
    ∃ x13, nat_Add x7 x11 x13 ∧
    X1 (x13, (IntKind.i64.wrap (s101 + 1))))
    (X1 (s100, (IntKind.i64.wrap (s101 + 1)))))
   (r = ([], 2)))
  (IfB (p0 == [])
   (r = ([], 2))
   (IfB (decide ((p0.length : Int) > 400))
    (r = ([], 4))
    (r = (s100, 0))))
def nat_Parse (p0 : List UInt8) (r : (List Int) × Int) : Prop :=
 LoopP (nat_Parse_L1 p0 r) ([], (0 : Int))
def whole_Make (p0 : Bool) (p1 : List Int) (r : Bool × (List Int)) : Prop :=
 IfB p0
  (∃ x1, nat_Shift p1 (0 : Int) x1 ∧
  IfB (decide ((x1.length : Int) > 0))
   (r = (true, x1))
   (r = (false, x1)))
  (∃ x3, nat_Shift p1 (0 : Int) x3 ∧
  r = (false, x3))
def whole_Of (p0 : Int) (r : Bool × (List Int)) : Prop :=
 IfB (decide (p0 < 0))
  (∃ x1, nat_Of (IntKind.u64.wrap (if (IntKind.i64.wrap (0 - p0)) > p0 then (IntKind.i64.wrap (0 - p0)) else p0)) x1 ∧
  ∃ x3 x4, whole_Make true x1 (x3, x4) ∧
  r = (x3, x4))
  (∃ x6, nat_Of (IntKind.u64.wrap (if (IntKind.i64.wrap (0 - p0)) > p0 then (IntKind.i64.wrap (0 - p0)) else p0)) x6 ∧
  ∃ x8 x9, whole_Make false x6 (x8, x9) ∧
  r = (x8, x9))
def whole_Sign (p0 : Bool) (p1 : List Int) (r : Int) : Prop :=
 ∃ x1 x2, whole_Make p0 p1 (x1, x2) ∧
 IfB x1
  (IfB ((x2.length : Int) == 0)
   (r = 0)
   (r = (-1)))
  (IfB ((x2.length : Int) == 0)
   (r = 0)
   (r = 1))
def whole_Compare (p0 : Bool) (p1 : List Int) (p2 : Bool) (p3 : List Int) (r : Int) : Prop :=
 ∃ x1, whole_Sign p0 p1 x1 ∧
 ∃ x3, whole_Sign p2 p3 x3 ∧
 IfB (x1 != x3)
  (r = (if (1 : Int) < (if (-1 : Int) > (IntKind.i64.wrap (x1 - x3)) then (-1) else (IntKind.i64.wrap (x1 - x3))) then 1 else (if (-1 : Int) > (IntKind.i64.wrap (x1 - x3)) then (-1) else (IntKind.i64.wrap (x1 - x3)))))
  (IfB (decide (x1 < 0))
   (∃ x5, nat_Compare p3 p1 x5 ∧
   r = x5)
   (∃ x7, nat_Compare p1 p3 x7 ∧
   r = x7))
def whole_Add (p0 : Bool) (p1 : List Int) (p2 : Bool) (p3 : List Int) (r : Bool × (List Int)) : Prop :=
 ∃ x1, whole_Sign p0 p1 x1 ∧
 IfB (decide (x1 < 0))
  (∃ x3, whole_Sign p2 p3 x3 ∧
  IfB (decide (x3 < 0))
   (∃ x5, whole_Sign p0 p1 x5 ∧
   IfB (decide (x5 < 0))
    (∃ x7, nat_Add p1 p3 x7 ∧
    ∃ x9 x10, whole_Make true x7 (x9, x10) ∧
    r = (x9, x10))
    (∃ x12, nat_Add p1 p3 x12 ∧
    ∃ x14 x15, whole_Make false x12 (x14, x15) ∧
    r = (x14, x15)))
   (∃ x17 x18, nat_Sub p1 p3 (x17, x18) ∧
   IfB x18
    (∃ x20, whole_Sign p0 p1 x20 ∧
    IfB (decide (x20 < 0))
     (∃ x22 x23, whole_Make true x17 (x22, x23) ∧
     r = (x22, x23))
     (∃ x25 x26, whole_Make false x17 (x25, x26) ∧
     r = (x25, x26)))
    (∃ x28 x29, nat_Sub p3 p1 (x28, x29) ∧
    IfB x29
     (∃ x31, whole_Sign p2 p3 x31 ∧
     IfB (decide (x31 < 0))
      (∃ x33 x34, whole_Make true x28 (x33, x34) ∧
      r = (x33, x34))
      (∃ x36 x37, whole_Make false x28 (x36, x37) ∧
      r = (x36, x37)))
     (∃ x39, whole_Sign p2 p3 x39 ∧
     IfB (decide (x39 < 0))
      (∃ x41 x42, whole_Make true x28 (x41, x42) ∧
      r = (x41, x42))
      (∃ x44 x45, whole_Make false x28 (x44, x45) ∧
      r = (x44, x45))))))
  (∃ x47, whole_Sign p2 p3 x47 ∧
  IfB (decide (x47 < 0))
   (∃ x49 x50, nat_Sub p1 p3 (x49, x50) ∧
   IfB x50
    (∃ x52, whole_Sign p0 p1 x52 ∧
    IfB (decide (x52 < 0))
     (∃ x54 x55, whole_Make true x49 (x54, x55) ∧
     r = (x54, x55))
     (∃ x57 x58, whole_Make false x49 (x57, x58) ∧
     r = (x57, x58)))
    (∃ x60 x61, nat_Sub p3 p1 (x60, x61) ∧
    IfB x61
     (∃ x63, whole_Sign p2 p3 x63 ∧
     IfB (decide (x63 < 0))
      (∃ x65 x66, whole_Make true x60 (x65, x66) ∧
      r = (x65, x66))
      (∃ x68 x69, whole_Make false x60 (x68, x69) ∧
      r = (x68, x69)))
     (∃ x71, whole_Sign p2 p3 x71 ∧
     IfB (decide (x71 < 0))
      (∃ x73 x74, whole_Make true x60 (x73, x74) ∧
      r = (x73, x74))
      (∃ x76 x77, whole_Make false x60 (x76, x77) ∧
      r = (x76, x77)))))
   (∃ x79, whole_Sign p0 p1 x79 ∧
   IfB (decide (x79 < 0))
    (∃ x81, nat_Add p1 p3 x81 ∧
    ∃ x83 x84, whole_Make true x81 (x83, x84) ∧
    r = (x83, x84))
    (∃ x86, nat_Add p1 p3 x86 ∧
    ∃ x88 x89, whole_Make false x86 (x88, x89) ∧
    r = (x88, x89))))
def whole_Mul (p0 : Bool) (p1 : List Int) (p2 : Bool) (p3 : List Int) (r : Bool × (List Int)) : Prop :=
 ∃ x1, whole_Sign p0 p1 x1 ∧
 ∃ x3, whole_Sign p2 p3 x3 ∧
 IfB (decide ((IntKind.i64.wrap (x1 * x3)) < 0))
  (∃ x5, nat_Mul p1 p3 x5 ∧
  ∃ x7 x8, whole_Make true x5 (x7, x8) ∧
  r = (x7, x8))
  (∃ x10, nat_Mul p1 p3 x10 ∧
  ∃ x12 x13, whole_Make false x10 (x12, x13) ∧
  r = (x12, x13))
def whole_Parse (p0 : List UInt8) (r : Bool × (List Int) × Int) : Prop :=
 ∃ x1 x2, strings_CutPrefix p0 ([45] : List UInt8) (x1, x2) ∧
 IfB x2
  (∃ x4 x5, nat_Parse x1 (x4, x5) ∧
  IfB (x5 != 0)
   (r = (false, [], x5))
   (∃ x7 x8, whole_Make true x4 (x7, x8) ∧
   r = (x7, x8, 0)))
  (∃ x10 x11, nat_Parse x1 (x10, x11) ∧
  IfB (x11 != 0)
   (r = (false, [], x11))
   (∃ x13 x14, whole_Make false x10 (x13, x14) ∧
   r = (x13, x14, 0)))
def rat_den (p0 : Bool) (p1 : List Int) (p2 : List Int) (r : (List Int)) : Prop :=
 ∃ x1, nat_Bits p2 x1 ∧
 IfB (x1 == 0)
  (∃ x3, nat_Of (1 : Int) x3 ∧
  r = x3)
  (r = p2)
def rat_Make (p0 : Bool) (p1 : List Int) (p2 : List Int) (r : Fq) : Prop :=
 ∃ x1, rat_den false ([] : List Int) p2 x1 ∧
 ∃ x3, nat_Gcd p1 x1 x3 ∧
 ∃ x5 x6 x7, nat_DivMod p1 x3 (x5, x6, x7) ∧
 ∃ x9 x10 x11, nat_DivMod x1 x3 (x9, x10, x11) ∧
 ∃ x13 x14, whole_Make p0 x5 (x13, x14) ∧
 r = (x13, x14, x9)
def rat_Int (p0 : Int) (r : Fq) : Prop :=
 ∃ x1 x2, whole_Of p0 (x1, x2) ∧
 ∃ x4, nat_Of (1 : Int) x4 ∧
 ∃ x6 x7 x8, rat_Make x1 x2 x4 (x6, x7, x8) ∧
 r = (x6, x7, x8)
def rat_Sign (p0 : Bool) (p1 : List Int) (p2 : List Int) (r : Int) : Prop :=
 ∃ x1, whole_Sign p0 p1 x1 ∧
 r = x1
def rat_over (p0 : Bool) (p1 : List Int) (p2 : List Int) (p3 : Bool) (p4 : List Int) (p5 : List Int) (r : Bool × (List Int)) : Prop :=
 ∃ x1, rat_den p3 p4 p5 x1 ∧
 ∃ x3 x4, whole_Make false x1 (x3, x4) ∧
 ∃ x6 x7, whole_Mul p0 p1 x3 x4 (x6, x7) ∧
 r = (x6, x7)
def rat_Compare (p0 : Bool) (p1 : List Int) (p2 : List Int) (p3 : Bool) (p4 : List Int) (p5 : List Int) (r : Int) : Prop :=
 ∃ x1 x2, rat_over p0 p1 p2 p3 p4 p5 (x1, x2) ∧
 ∃ x4 x5, rat_over p3 p4 p5 p0 p1 p2 (x4, x5) ∧
 ∃ x7, whole_Compare x1 x2 x4 x5 x7 ∧
 r = x7
def rat_Add (p0 : Bool) (p1 : List Int) (p2 : List Int) (p3 : Bool) (p4 : List Int) (p5 : List Int) (r : Fq) : Prop :=
 ∃ x1 x2, rat_over p0 p1 p2 p3 p4 p5 (x1, x2) ∧
 ∃ x4 x5, rat_over p3 p4 p5 p0 p1 p2 (x4, x5) ∧
 ∃ x7 x8, whole_Add x1 x2 x4 x5 (x7, x8) ∧
 ∃ x10, rat_den p0 p1 p2 x10 ∧
 ∃ x12, rat_den p3 p4 p5 x12 ∧
 ∃ x14, nat_Mul x10 x12 x14 ∧
 ∃ x16 x17 x18, rat_Make x7 x8 x14 (x16, x17, x18) ∧
 r = (x16, x17, x18)
def rat_Mul (p0 : Bool) (p1 : List Int) (p2 : List Int) (p3 : Bool) (p4 : List Int) (p5 : List Int) (r : Fq) : Prop :=
 ∃ x1 x2, whole_Mul p0 p1 p3 p4 (x1, x2) ∧
 ∃ x4, rat_den p0 p1 p2 x4 ∧
 ∃ x6, rat_den p3 p4 p5 x6 ∧
 ∃ x8, nat_Mul x4 x6 x8 ∧
 ∃ x10 x11 x12, rat_Make x1 x2 x8 (x10, x11, x12) ∧
 r = (x10, x11, x12)
def rat_Parse (p0 : List UInt8) (r : Bool × (List Int) × (List Int) × Int) : Prop :=
 ∃ x1 x2 x3, strings_Cut p0 ([47] : List UInt8) (x1, x2, x3) ∧
 IfB x3
  (∃ x5 x6 x7, whole_Parse x1 (x5, x6, x7) ∧
  IfB (x7 != 0)
   (r = (false, [], [], x7))
   (∃ x9 x10, nat_Parse x2 (x9, x10) ∧
   IfB (x10 != 0)
    (r = (false, [], [], x10))
    (∃ x12, nat_Bits x9 x12 ∧
    IfB (x12 == 0)
     (r = (false, [], [], 5))
     (∃ x14 x15 x16, rat_Make x5 x6 x9 (x14, x15, x16) ∧
     r = (x14, x15, x16, 0)))))
  (∃ x18 x19 x20, whole_Parse x1 (x18, x19, x20) ∧
  IfB (x20 != 0)
   (r = (false, [], [], x20))
   (∃ x22 x23, nat_Parse ([49] : List UInt8) (x22, x23) ∧
   IfB (x23 != 0)
    (r = (false, [], [], x23))
    (∃ x25, nat_Bits x22 x25 ∧
    IfB (x25 == 0)
     (r = (false, [], [], 5))
     (∃ x27 x28 x29, rat_Make x18 x19 x22 (x27, x28, x29) ∧
     r = (x27, x28, x29, 0)))))
end Go.Abs
end

section
namespace Go.Abs
def lines_may (p0 : Int) (r : Bool) : Prop :=
 IfB (p0 == 10)
  (r = true)
  (IfB (decide (p0 ≥ 32))
   (IfB (decide (p0 ≤ 126))
    (r = true)
    (r = false))
   (r = false))
def lines_All_L2 (x4 : List Bz) (r : (List (Int × (List Bz))) × Int) (X2 : (Int × (List (Int × (List Bz)))) → Prop) (s : Int × (List (Int × (List Bz)))) : Prop := match s with
 | (s200, s252) =>
 IfB (decide (s200 < (x4.length : Int)))
  (∃ x6, Idx x4 s200 x6 ∧
  ∃ x8 x9 x10, strings_Cut x6 ([35] : List UInt8) (x8, x9, x10) ∧
  IfB x10
   (∃ x12, strings_Fields x8 x12 ∧
   IfB (decide ((x12.length : Int) > 0))
    (Fits (s252.length + [((IntKind.i64.wrap (s200 + 1)), x12)].length) 32 ∧
    X2 ((IntKind.i64.wrap (s200 + 1)), (s252 ++ [((IntKind.i64.wrap (s200 + 1)), x12)])))
    (X2 ((IntKind.i64.wrap (s200 + 1)), s252)))
   (∃ x15, strings_Fields x8 x15 ∧
   IfB (decide ((x15.length : Int) > 0))
    (Fits (s252.length + [((IntKind.i64.wrap (s200 + 1)), x15)].length) 32 ∧
    X2 ((IntKind.i64.wrap (s200 + 1)), (s252 ++ [((IntKind.i64.wrap (s200 + 1)), x15)])))
    (X2 ((IntKind.i64.wrap (s200 + 1)), s252))))
  (r = (s252, 0))
def lines_All_L1 (p0 : List UInt8) (r : (List (Int × (List Bz))) × Int) (X1 : Nat → Prop) (s : Nat) : Prop := match s with
 | s151 =>
 IfB (decide (s151 < p0.length))
  (∃ x2, lines_may (runeAt p0 s151) x2 ∧
  IfB x2
   (X1 (s151 + runeLen p0 s151))
   (r = ([], 2)))
  (∃ x4, strings_Split p0 ([10] : List UInt8) x4 ∧
  LoopP (lines_All_L2 x4 r) ((0 : Int), []))
def lines_All (p0 : List UInt8) (r : (List (Int × (List Bz))) × Int) : Prop :=
 IfB (decide ((p0.length : Int) > 65536))
  (r = ([], 4))
  (LoopP (lines_All_L1 p0 r) 0)
def lines_Name_L1 (p0 : List UInt8) (r : Bool) (X1 : Nat → Prop) (s : Nat) : Prop := match s with
 | s150 =>
 IfB (decide (s150 < p0.length))
  (IfB (decide ((runeAt p0 s150) ≥ 97))
   (IfB (decide ((runeAt p0 s150) ≤ 122))
    (X1 (s150 + runeLen p0 s150))
    (IfB (((s150 : Nat) : Int) == 0)
     (r = false)
     (IfB ((runeAt p0 s150) != 95)
      (IfB (decide ((runeAt p0 s150) < 48))
       (r = false)
       (IfB (decide ((runeAt p0 s150) > 57))
        (r = false)
        (X1 (s150 + runeLen p0 s150))))
      (X1 (s150 + runeLen p0 s150)))))
   (IfB (((s150 : Nat) : Int) == 0)
    (r = false)
    (IfB ((runeAt p0 s150) != 95)
     (IfB (decide ((runeAt p0 s150) < 48))
      (r = false)
      (IfB (decide ((runeAt p0 s150) > 57))
       (r = false)
       (X1 (s150 + runeLen p0 s150))))
     (X1 (s150 + runeLen p0 s150)))))
  (IfB (decide ((p0.length : Int) ≥ 1))
   (IfB (decide ((p0.length : Int) ≤ 16))
    (r = true)
    (r = false))
   (r = false))
def lines_Name (p0 : List UInt8) (r : Bool) : Prop :=
 LoopP (lines_Name_L1 p0 r) 0
def lines_Index (p0 : List Bz) (p1 : List UInt8) (r : Int) : Prop :=
 ∃ x1, slices_Index_string_string p0 p1 x1 ∧
 r = x1
end Go.Abs
end

section
namespace Go.Abs
end Go.Abs
end

section
namespace Go.Abs
open Go
def strings_CutSuffix (s p : List UInt8) (r : List UInt8 × Bool) : Prop := s.length ≤ 9223372036854775807 ∧ r = (Lib.trimSuffix s p, Lib.hasSuffix s p)
def strings_Contains (s p : List UInt8) (r : Bool) : Prop := Short s ∧ r = Lib.contains s p
end Go.Abs
end
