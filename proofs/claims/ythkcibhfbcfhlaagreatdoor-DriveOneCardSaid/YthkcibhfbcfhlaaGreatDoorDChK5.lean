/- Part of a proof, in few files: Abs11 Abs12 Abs13. -/
import Derived.Test.YthkcibhfbcfhlaaGreatDoorDChK4
import Derived.Lib.LazyBuf
import Derived.MapKept
import Derived.Scope
import Derived.Shelf.Abstract
import Derived.TacticsIn

set_option linter.unusedVariables false
set_option linter.unusedSimpArgs false
set_option linter.unnecessarySimpa false
section
namespace Go.Abs
open Go.RowKit
variable {P : Program} {B : Nat} {I0 : Nat → Prop} {c : Ctx} {M : Mem} {w : World}
def aev (GT : Nat → Option (List PD)) (T : List AV) : Operand → AV
 | .tmp t => T.getD t .junk
 | .const v => (zAV v).getD .junk
 | .global g => match GT g with | some l => .rd l | none => .junk
 | .func f => .fn (.func f) [] []
def aNil (M : Mem) (x : AV) : Option AV :=
 match x with
 | .ptr b off ver => if verOf M b = ver then some (.ptr b off ver) else none
 | .rd l => some (.rd l)
 | .fn (.func f) a b => some (.fn (.func f) a b)
 | _ => none
def aBuiltin (P : Program) (M : Mem) (b : Builtin) (ts : Array TypeId) (args : List AV) : Option (AV × Mem) :=
 match b, ts.toList, args with
 | .len, [t], [x] => (aLen P M t x).map (·, M)
 | .append, [sT, xT], [s, x] => aAppend P M sT xT s x
 | .copy, [dT, _], [d, x] => aCopy P M dT d x
 | .min, _, [x, y] => (aMin x y).map (·, M)
 | .max, _, [x, y] => (aMax x y).map (·, M)
 | _, _, _ => none
def isNilK : Operand → Bool
 | .const (.slice none 0 0) => true
 | .const .nilIface => true
 | _ => false
def nonNil (M : Mem) : AV → Option Bool
 | .pd (.sl (_ :: _)) => some true
 | .fixed (_ :: _) => some true
 | .own b _ ver =>
  match M[b]? with
  | some (.cells _ _ ver' _) => if ver' = ver then some true else none
  | some (.vrow _ ver') => if ver' = ver then some false else none
  | _ => none
 | _ => none
def aErrQ (P : Program) (op : BinOp) (t : TypeId) (x : AV) : Option AV :=
 match x with
 | .pd (.err b) =>
  match P.underlying t, op with
  | some (.interface _), .eql => some (.pd (.bool (!b)))
  | some (.interface _), .neq => some (.pd (.bool b))
  | _, _ => none
 | _ => none
def aNilQ (P : Program) (M : Mem) (op : BinOp) (t : TypeId) (x : AV) (y : Operand) : Option AV :=
 match y with
 | .const (.slice none 0 0) =>
  match P.underlying t, op with
  | some (.slice _), .eql => (nonNil M x).map fun b => .pd (.bool (!b))
  | some (.slice _), .neq => (nonNil M x).map fun b => .pd (.bool b)
  | _, _ => none
 | .const .nilIface => aErrQ P op t x
 | _ => none
theorem nonNil_ok {x : AV} {v : Value} {b : Bool} (hx : ARep c M w v x) (h : nonNil M x = some b) : ∃ a n k, v = .slice a n k ∧ b = !a.isNone := by
 unfold nonNil at h
 split at h
 ·cases h
  cases hx with
  | pd v x hx =>
  cases hx with
  | sl a n cap sz l f => exact ⟨_, _, _, rfl, rfl⟩
 ·cases h
  cases hx with
  | fixed a n l hn hx =>
  cases hx with
  | sl a n cap sz l f => exact ⟨_, _, _, rfl, rfl⟩
 ·rename_i bb len ver
  cases hx with
  | own v b len ver hb hv hx =>
  split at h
  ·rename_i l sz ver' z hM
   split at h
   ·rename_i e
    cases h
    subst e
    rcases hx (by simp [verOf, hM, Ob.ver]) with ⟨cap, l, sz, z, _, rfl, _⟩ | ⟨sz, hM2, _⟩
    ·exact ⟨_, _, _, rfl, rfl⟩
    ·rw [hM] at hM2; cases hM2
   ·cases h
  ·rename_i sz ver' hM
   split at h
   ·rename_i e
    cases h
    subst e
    rcases hx (by simp [verOf, hM, Ob.ver]) with ⟨cap, l, sz, z, hM2, _⟩ | ⟨sz, hM2, rfl, _⟩
    ·rw [hM] at hM2; cases hM2
    ·exact ⟨_, _, _, rfl, rfl⟩
   ·cases h
  ·cases h
 ·cases h
theorem aNilQ_ok {ρr : Operand → Value} {op : BinOp} {t : TypeId} {ox oy : Operand} {x z : AV} (hS : Sim B I0 c M w) (hk : ∀ v, ρr (.const v) = v) (hx : ARep c M w (ρr ox) x) (h : aNilQ P M op t x oy = some z) :
  Out P B I0 c M w (do eqGuard op t ox oy (ρr ox) (ρr oy); binOp op t (ρr ox) (ρr oy)) z M := by
 unfold aNilQ at h
 split at h
 ·rw [hk]
  split at h
  ·rename_i el hu
   rw [Option.map_eq_some_iff] at h
   obtain ⟨b, hb, rfl⟩ := h
   obtain ⟨a, n, k, e, rfl⟩ := nonNil_ok hx hb
   rw [e]
   refine Out.val hS ?_ (by rw [Bool.not_not]; exact .pd _ _ (.bool _))
   have := Go.run_eql_slice_nil w t el a n k hu
   simp [eqGuard, this]
  ·rename_i el hu
   rw [Option.map_eq_some_iff] at h
   obtain ⟨b, hb, rfl⟩ := h
   obtain ⟨a, n, k, e, rfl⟩ := nonNil_ok hx hb
   rw [e]
   refine Out.val hS ?_ (.pd _ _ (.bool _))
   have := Go.run_neq_slice_nil w t el a n k hu
   simp [eqGuard, this]
  ·cases h
 ·rw [hk]
  unfold aErrQ at h
  split at h
  ·rename_i b
   have hu' : ∀ ms, P.underlying t = some (.interface ms) → P.underlying t = some (.interface (P.methodsAt t)) := fun ms hu => by
    rw [hu]; simp [Program.methodsAt, hu]
   generalize hρ : ρr ox = vx at hx
   cases hx with
   | pd v x hx =>
   split at h
   ·rename_i ms hu
    cases h
    cases hx with
    | errN => exact Out.val hS (by simp [eqGuard, run_eql_nil_nil w t (hu' _ hu)]) (.pd _ _ (.bool _))
    | errS u x => exact Out.val hS (by simp [eqGuard, run_eql_held_nil w t u x (hu' _ hu)]) (.pd _ _ (.bool _))
   ·rename_i ms hu
    cases h
    cases hx with
    | errN => exact Out.val hS (by simp [eqGuard, run_neq_nil_nil w t (hu' _ hu)]) (.pd _ _ (.bool _))
    | errS u x => exact Out.val hS (by simp [eqGuard, run_neq_held_nil w t u x (hu' _ hu)]) (.pd _ _ (.bool _))
   ·cases h
  ·cases h
 ·cases h
def mpGet (l : List (List UInt8 × Int)) (s : List UInt8) : Int × Bool := match l.find? (fun p => p.1 == s) with | some p => (p.2, true) | none => (0, false)
def aLookup (P : Program) (t : TypeId) (x y : AV) (ok : Bool) : Option AV :=
 match P.underlying t, x, y, ok with
 | some (.map k e), .pd (.mp l), .pd (.str s), true =>
  match P.underlying k, (P.info? e).bind (·.zero) with
  | some .string, some (.int .i64 (Int.ofNat 0)) => some (.tup [.pd (.int .i64 (mpGet l s).1), .pd (.bool (mpGet l s).2)])
  | _, _ => none
 | _, _, _, _ => none
theorem strV_eq {a b : List UInt8} : ((⟨a.toArray⟩ : ByteArray) == ⟨b.toArray⟩) = (a == b) := by
 have inj : (⟨a.toArray⟩ : ByteArray) = ⟨b.toArray⟩ → a = b := fun h => by
  have := congrArg (fun x : ByteArray => x.data.toList) h
  simpa using this
 have hb : ∀ x y : ByteArray, (x == y) = true ↔ x = y := MapKept.bytes_beq
 by_cases h : a = b
 ·subst h
  rw [(hb _ _).2 rfl]; simp
 ·have h1 : ¬ ((⟨a.toArray⟩ : ByteArray) == ⟨b.toArray⟩) = true := fun e => h (inj ((hb _ _).1 e))
  have h2 : ¬ (a == b) = true := by simpa using h
  rw [Bool.not_eq_true] at h1 h2
  rw [h1, h2]
theorem find_mp (s : List UInt8) : ∀ (l : List (List UInt8 × Int)) (n i : Nat), ∃ j, Instr.findNow .string (strV s) (mpEntL n l) i = some (match l.find? (fun p => p.1 == s) with | some p => some (j, .int .i64 p.2) | none => none)
 | [], n, i => ⟨0, rfl⟩
 | p :: l, n, i => by
  obtain ⟨j, hj⟩ := find_mp s l (n + 1) (i + 1)
  rw [mpEntL, Instr.findNow]
  have e : Instr.sameNow .string (strV s) (strV p.1) = some (s == p.1) := by
   unfold strV; simp only [Instr.sameNow]; rw [strV_eq]
  rw [e]
  by_cases h : p.1 = s
  ·have h1 : (s == p.1) = true := by simp [h]
   have h2 : (p.1 == s) = true := by simp [h]
   rw [h1, List.find?_cons, h2]
   exact ⟨i, rfl⟩
  ·have h1 : (s == p.1) = false := by simp; exact fun e => h e.symm
   have h2 : (p.1 == s) = false := by simpa using h
   rw [h1, List.find?_cons, h2]
   exact ⟨j, hj⟩
theorem aLookup_ok {t : TypeId} {x y z : AV} {v u : Value} {ok : Bool} (hS : Sim B I0 c M w) (hx : ARep c M w v x) (hy : ARep c M w u y) (h : aLookup P t x y ok = some z) : Out P B I0 c M w (Instr.lookup t v u ok) z M := by
 unfold aLookup at h
 split at h
 ·rename_i k e l s ht
  split at h
  ·rename_i hk he
   cases h
   rw [Option.bind_eq_some_iff] at he
   obtain ⟨ti, he1, he2⟩ := he
   cases hx with
   | pd _ _ hx =>
   cases hx with
   | mp r _ hI hb =>
   cases hy with
   | pd _ _ hy =>
   cases hy with
   | str =>
   obtain ⟨j, hj⟩ := find_mp s l 0 0
   have hf : (Instr.findKey k (strV s) (mpEnt l).toList).run P w = .ok (match l.find? (fun p => p.1 == s) with | some p => some (j, .int .i64 p.2) | none => none) w := MapKept.run_findKey hk (by simpa [mpEnt] using hj)
   have hc : ∀ em, (Instr.checkKey em 10000 k (strV s)).run P w = .ok () w := fun em => MapKept.run_checkKey (n := 9999) hk (by simp [strV, MapKept.IsKey]) em
   refine ⟨.tuple #[.int .i64 (mpGet l s).1, .bool (mpGet l s).2], w, c, ?_, ?_, hS, Ext.refl _ _, Stp.refl _ _ _⟩
   ·unfold mpGet
    cases hq : l.find? (fun p => p.1 == s) with
    | some p =>
     rw [hq] at hf
     simp [Instr.lookup, run_underlying ht, MapKept.run_getObj_map hb, hc, hf, Result.andThen]
    | none =>
     rw [hq] at hf
     simp [Instr.lookup, run_underlying ht, MapKept.run_getObj_map hb, hc, hf, Result.andThen, zeroValue, typeInfo, he1, he2]
   ·refine .tup _ _ (by simp) fun i v x h1 h2 => ?_
    match i with
    | 0 => simp at h1 h2; subst h1 h2; exact .pd _ _ (.int _ _)
    | 1 => simp at h1 h2; subst h1 h2; exact .pd _ _ (.bool _)
    | i + 2 => simp at h2
  ·cases h
 ·cases h
def mGet (l : List (Int × Int)) (q : Int) : Int × Bool := match l.find? (fun p => p.1 == q) with | some p => (p.2, true) | none => (0, false)
def mvA (bl : Bool) (v : Int) : AV := match bl with | true => .pd (.bool (v != 0)) | false => .pd (.int .i64 v)
def mvOf (bl : Bool) (x : AV) : Option Int := match bl, x with | true, .pd (.bool t) => some (bif t then 1 else 0) | false, .pd (.int .i64 v) => some v | _, _ => none
theorem mvA_ok (bl : Bool) (v : Int) : ARep c M w (mvV bl v) (mvA bl v) := by cases bl <;> exact .pd _ _ (by first | exact .int _ _ | exact .bool _)
theorem mvOf_ok {bl : Bool} {x : AV} {v : Value} {n : Int} (hx : ARep c M w v x) (h : mvOf bl x = some n) : v = mvV bl n := by
 unfold mvOf at h
 split at h
 ·rename_i t
  cases h
  cases hx with
  | pd _ _ hx => cases hx; cases t <;> rfl
 ·rename_i t
  cases h
  cases hx with
  | pd _ _ hx => cases hx; rfl
 ·cases h
theorem find_m (bl : Bool) (q : Int) : ∀ (l : List (Int × Int)) (n i : Nat), ∃ j, Instr.findNow (.int .i64) (.int .i64 q) (mEntL bl n l) i = some (match l.find? (fun p => p.1 == q) with | some p => some (j, mvV bl p.2) | none => none)
 | [], n, i => ⟨0, rfl⟩
 | p :: l, n, i => by
  obtain ⟨j, hj⟩ := find_m bl q l (n + 1) (i + 1)
  rw [mEntL, Instr.findNow]
  have e : Instr.sameNow (.int .i64) (.int .i64 q) (.int .i64 p.1) = some (q == p.1) := by simp [Instr.sameNow]
  rw [e]
  by_cases h : p.1 = q
  ·have h1 : (q == p.1) = true := by simp [h]
   have h2 : (p.1 == q) = true := by simp [h]
   rw [h1, List.find?_cons, h2]
   exact ⟨i, rfl⟩
  ·have h1 : (q == p.1) = false := by simp; exact fun e => h e.symm
   have h2 : (p.1 == q) = false := by simpa using h
   rw [h1, List.find?_cons, h2]
   exact ⟨j, hj⟩
def lkA (bl ok : Bool) (r : Int × Bool) : AV := match ok with | true => .tup [mvA bl r.1, .pd (.bool r.2)] | false => mvA bl r.1
def aLookM (P : Program) (M : Mem) (t : TypeId) (x y : AV) (ok : Bool) : Option AV :=
 match P.underlying t, x, y with
 | some (.map k e), .mp b, .pd (.int .i64 q) =>
  match M[b]? with
  | some (.map bl l) =>
   match P.underlying k, bl, (P.info? e).bind (·.zero) with
   | some (.int .i64), true, some (.bool false) => some (lkA true ok (mGet l q))
   | some (.int .i64), false, some (.int .i64 (Int.ofNat 0)) => some (lkA false ok (mGet l q))
   | _, _, _ => none
  | _ => none
 | _, _, _ => none
def lkV (bl ok : Bool) (r : Int × Bool) : Value := match ok with | true => .tuple #[mvV bl r.1, .bool r.2] | false => mvV bl r.1
theorem lkA_ok (bl ok : Bool) (r : Int × Bool) : ARep c M w (lkV bl ok r) (lkA bl ok r) := by
 cases ok with
 | false => exact mvA_ok _ _
 | true =>
  refine .tup _ _ (by simp) fun i v x h1 h2 => ?_
  match i with
  | 0 => simp at h1 h2; subst h1 h2; exact mvA_ok _ _
  | 1 => simp at h1 h2; subst h1 h2; exact .pd _ _ (.bool _)
  | i + 2 => simp at h2
theorem aLookM_ok {t : TypeId} {x y z : AV} {v u : Value} {ok : Bool} (hS : Sim B I0 c M w) (hx : ARep c M w v x) (hy : ARep c M w u y) (h : aLookM P M t x y ok = some z) : Out P B I0 c M w (Instr.lookup t v u ok) z M := by
 unfold aLookM at h
 split at h
 ·rename_i k e b q ht
  split at h
  ·rename_i bl l hM
   have hb : w.heap[c.blk b]? = some (.map (mEntL bl 0 l).toArray l.length) := hS.obj b _ hM
   have key : ∀ bl', bl' = bl → ∀ zv, zv = mvV bl' 0 → P.underlying k = some (.int .i64) → (P.info? e).bind (·.zero) = some zv → z = lkA bl' ok (mGet l q) → Out P B I0 c M w (Instr.lookup t v u ok) z M := by
    rintro bl' rfl zv rfl hk he rfl
    rw [Option.bind_eq_some_iff] at he
    obtain ⟨ti, he1, he2⟩ := he
    cases hx with
    | mp _ hb' =>
    cases hy with
    | pd _ _ hy =>
    cases hy with
    | int =>
    obtain ⟨j, hj⟩ := find_m bl' q l 0 0
    have hf : (Instr.findKey k (.int .i64 q) (mEntL bl' 0 l)).run P w = .ok (match l.find? (fun p => p.1 == q) with | some p => some (j, mvV bl' p.2) | none => none) w := MapKept.run_findKey hk hj
    have hc : ∀ em, (Instr.checkKey em 10000 k (.int .i64 q)).run P w = .ok () w := fun em => MapKept.run_checkKey (n := 9999) hk (by simp [MapKept.IsKey]) em
    have hrun : (Instr.lookup t (.map (some (c.blk b))) (.int .i64 q) ok).run P w = .ok (lkV bl' ok (mGet l q)) w := by
     unfold mGet
     cases hq : l.find? (fun p => p.1 == q) with
     | some p =>
      rw [hq] at hf
      cases ok <;> simp [Instr.lookup, run_underlying ht, MapKept.run_getObj_map hb, hc, hf, Result.andThen, lkV]
     | none =>
      rw [hq] at hf
      cases ok <;> simp [Instr.lookup, run_underlying ht, MapKept.run_getObj_map hb, hc, hf, Result.andThen, zeroValue, typeInfo, he1, he2, lkV]
    exact ⟨_, w, c, hrun, lkA_ok _ _ _, hS, Ext.refl _ _, Stp.refl _ _ _⟩
   split at h
   ·rename_i hk he
    exact key true rfl _ rfl hk he (by cases h; rfl)
   ·rename_i hk he
    exact key false rfl _ rfl hk he (by cases h; rfl)
   ·cases h
  ·cases h
 ·cases h
def aMkM (P : Program) (M : Mem) (t : TypeId) : Option (AV × Mem) :=
 match P.underlying t with
 | some (.map k e) =>
  match P.underlying k, P.underlying e with
  | some (.int .i64), some .bool => some (.mp M.length, M ++ [.map true []])
  | some (.int .i64), some (.int .i64) => some (.mp M.length, M ++ [.map false []])
  | _, _ => none
 | _ => none
theorem aMkM_ok {t : TypeId} {x : AV} {M' : Mem} (hS : Sim B I0 c M w) (h : aMkM P M t = some (x, M')) : Out P B I0 c M w (Instr.makeMap t none) x M' := by
 have key : ∀ bl, x = .mp M.length → M' = M ++ [.map bl []] → Out P B I0 c M w (Instr.makeMap t none) x M' := by
  rintro bl rfl rfl
  have hS' := hS.push (.map #[] 0) 0 (.map bl []) (by
   show (w.alloc _).heap[upd c.blk M.length w.heap.size M.length]? = _
   rw [upd_self]; exact World.alloc_heap_new _ _)
  have hs : Stp B c w (c.push M w.heap.size 0) (w.alloc (.map #[] 0)) := Stp.alloc hS.hB hS.immlt _ _ _
  refine ⟨.map (some w.heap.size), _, _, ?_, ?_, hS', Ext.push c M _ _ _, hs⟩
  ·simp [Instr.makeMap, Result.andThen]
  ·have : ARep (c.push M w.heap.size 0) (M ++ [.map bl []]) (w.alloc (.map #[] 0)) (.map (some ((c.push M w.heap.size 0).blk M.length))) (.mp M.length) := .mp _ ⟨.map bl [], by simp, rfl⟩
   have e : (c.push M w.heap.size 0).blk M.length = w.heap.size := upd_self _ _ _
   rwa [e] at this
 unfold aMkM at h
 split at h
 ·split at h
  ·cases h; exact key true rfl rfl
  ·cases h; exact key false rfl rfl
  ·cases h
 ·cases h
theorem mEntL_app (bl : Bool) : ∀ (l : List (Int × Int)) (p : Int × Int) (n : Nat), mEntL bl n (l ++ [p]) = mEntL bl n l ++ [{ key := .int .i64 p.1, val := mvV bl p.2, born := n + l.length }]
 | [], p, n => rfl
 | q :: l, p, n => by
  rw [List.cons_append, mEntL, mEntL_app bl l p (n + 1), mEntL, List.cons_append, List.length_cons, show n + 1 + l.length = n + (l.length + 1) from by omega]
def aIns (P : Program) (M : Mem) (t : TypeId) (x y z : AV) : Option Mem :=
 match P.underlying t, x, y with
 | some (.map k _), .mp b, .pd (.int .i64 q) =>
  match M[b]?, P.underlying k with
  | some (.map bl l), some (.int .i64) =>
   match mvOf bl z with
   | some v => bif (mGet l q).2 then none else some (M.set b (.map bl (l ++ [(q, v)])))
   | none => none
  | _, _ => none
 | _, _, _ => none
theorem aIns_ok {t : TypeId} {x y z : AV} {v u s : Value} {M' : Mem} (hS : Sim B I0 c M w) (hx : ARep c M w v x) (hy : ARep c M w u y) (hz : ARep c M w s z) (h : aIns P M t x y z = some M') :
  ∃ w', (Instr.mapUpdate t v u s).run P w = .ok () w' ∧ Sim B I0 c M' w' ∧ Ext c M c M' ∧ Stp B c w c w' := by
 unfold aIns at h
 split at h
 ·rename_i k e b q ht
  split at h
  ·rename_i bl l hM hk
   split at h
   ·rename_i n hn
    cases hg : (mGet l q).2 with
    | true => rw [hg] at h; cases h
    | false =>
    rw [hg] at h
    simp only [cond_false, Option.some.injEq] at h
    subst h
    have hb : w.heap[c.blk b]? = some (.map (mEntL bl 0 l).toArray l.length) := hS.obj b _ hM
    cases hx with
    | mp _ hb' =>
    cases hy with
    | pd _ _ hy =>
    cases hy with
    | int =>
    obtain rfl := mvOf_ok hz hn
    obtain ⟨j, hj⟩ := find_m bl q l 0 0
    have hnone : l.find? (fun p => p.1 == q) = none := by
     unfold mGet at hg
     split at hg
     ·cases hg
     ·assumption
    rw [hnone] at hj
    have hf : (Instr.findKey k (.int .i64 q) (mEntL bl 0 l)).run P w = .ok none w := MapKept.run_findKey hk hj
    have hc : ∀ em, (Instr.checkKey em 10000 k (.int .i64 q)).run P w = .ok () w := fun em => MapKept.run_checkKey (n := 9999) hk (by simp [MapKept.IsKey]) em
    have hp : (mEntL bl 0 l).toArray.push { key := .int .i64 q, val := mvV bl n, born := l.length } = (mEntL bl 0 (l ++ [(q, n)])).toArray := by rw [mEntL_app]; simp
    have hlt : c.blk b < w.heap.size := (Array.getElem?_eq_some_iff.1 hb).1
    have hni : ¬ c.imm (c.blk b) := hS.sep b _ hM rfl rfl
    have hs : Stp B c w c { w with heap := w.heap.setIfInBounds (c.blk b) (.map (mEntL bl 0 (l ++ [(q, n)])).toArray (l ++ [(q, n)]).length) } :=
     Stp.of_block hni (hS.blkB b ⟨_, hM, rfl⟩) rfl rfl rfl (by simp) fun k hk => by simp [Ne.symm hk]
    have he : Ext c M c (M.set b (.map bl (l ++ [(q, n)]))) := Ext.set hM rfl (Nat.le_refl _) fun _ => rfl
    refine ⟨_, ?_, hS.put hM he hs (fun k hk => by simp [Ne.symm hk]) ?_ rfl rfl, he, hs⟩
    ·simp [Instr.mapUpdate, run_underlying ht, MapKept.run_getObj_map hb, hc, hf, Result.andThen, MapKept.run_setObj_map _ hb, hp]
    ·show ({ w with heap := _ } : World).heap[c.blk b]? = _
     simp [hlt]
   ·cases h
  ·cases h
 ·cases h
def aRangeM (P : Program) (M : Mem) (t : TypeId) (x : AV) : Option (AV × Mem) :=
 match P.underlying t, x with
 | some (.map _ _), .mp b => match M[b]? with | some (.map _ l) => some (.it M.length, M ++ [.mit b l.length []]) | _ => none
 | _, _ => none
theorem aRangeM_ok {t : TypeId} {x y : AV} {v : Value} {M' : Mem} (hS : Sim B I0 c M w) (hx : ARep c M w v x) (h : aRangeM P M t x = some (y, M')) : Out P B I0 c M w (Instr.range t v) y M' := by
 unfold aRangeM at h
 split at h
 ·rename_i k e b hu
  split at h
  ·rename_i bl l hM
   cases h
   have hb : w.heap[c.blk b]? = some (.map (mEntL bl 0 l).toArray l.length) := hS.obj b _ hM
   have hlt := (List.getElem?_eq_some_iff.1 hM).1
   cases hx with
   | mp _ ho =>
   have hbl : (c.push M w.heap.size 0).blk b = c.blk b := upd_ne _ _ (by omega)
   have hS' := hS.push (.mapIter (some (c.blk b)) l.length #[] l.length) 0 (.mit b l.length []) (by
    refine ⟨?_, (Ext.push c M w.heap.size 0 _).obj b ho⟩
    show (w.alloc _).heap[upd c.blk M.length w.heap.size M.length]? = _
    rw [upd_self, hbl]; exact World.alloc_heap_new _ _)
   have hs : Stp B c w (c.push M w.heap.size 0) (w.alloc (.mapIter (some (c.blk b)) l.length #[] l.length)) := Stp.alloc hS.hB hS.immlt _ _ _
   refine ⟨.pointer (some ⟨w.heap.size, 0, none⟩), _, _, ?_, ?_, hS', Ext.push c M _ _ _, hs⟩
   ·simp [Instr.range, run_underlying hu, MapKept.run_getObj_map hb, Result.andThen]
   ·have : ARep (c.push M w.heap.size 0) (M ++ [.mit b l.length []]) (w.alloc (.mapIter (some (c.blk b)) l.length #[] l.length)) (.pointer (some ⟨(c.push M w.heap.size 0).blk M.length, 0, none⟩)) (.it M.length) := .it _ ⟨.mit b l.length [], by simp, rfl⟩
    have e : (c.push M w.heap.size 0).blk M.length = w.heap.size := upd_self _ _ _
    rwa [e] at this
  ·cases h
 ·cases h
theorem mEnt_get (bl : Bool) : ∀ (l : List (Int × Int)) (n j : Nat), (mEntL bl n l)[j]? = (l[j]?).map fun p => { key := .int .i64 p.1, val := mvV bl p.2, born := n + j }
 | [], n, j => by simp [mEntL]
 | p :: l, n, 0 => by simp [mEntL]
 | p :: l, n, j + 1 => by
  rw [mEntL, List.getElem?_cons_succ, List.getElem?_cons_succ, mEnt_get bl l (n + 1) j, show n + 1 + j = n + (j + 1) from by omega]
theorem mEnt_find (bl : Bool) : ∀ (l : List (Int × Int)) (n j : Nat), (mEntL bl n l).find? (fun e => e.born == n + j) = (l[j]?).map fun p => { key := .int .i64 p.1, val := mvV bl p.2, born := n + j }
 | [], n, j => by simp [mEntL]
 | p :: l, n, 0 => by simp [mEntL]
 | p :: l, n, j + 1 => by
  rw [mEntL, List.find?_cons]
  have : (n == n + (j + 1)) = false := by simp
  simp only [this]
  have := mEnt_find bl l (n + 1) j
  rw [show n + 1 + j = n + (j + 1) from by omega] at this
  rw [this, List.getElem?_cons_succ]
def aEntry (M : Mem) (x : AV) : Option AV :=
 match x with
 | .it i =>
  match M[i]? with
  | some (.mit b n seen) =>
   match M[b]?, seen.getLast? with
   | some (.map bl l), some j => if l.length = n then (match l[j]? with | some p => some (.tup [.pd (.int .i64 p.1), mvA bl p.2]) | none => none) else none
   | _, _ => none
  | _ => none
 | _ => none
theorem aEntry_ok {x y : AV} {v : Value} (hS : Sim B I0 c M w) (hx : ARep c M w v x) (h : aEntry M x = some y) : Out P B I0 c M w (Instr.entry v) y M := by
 unfold aEntry at h
 split at h
 ·rename_i i
  cases hx with
  | it _ hi =>
  split at h
  ·rename_i b n seen hI
   split at h
   ·rename_i bl l j hM hj
    split at h
    ·rename_i hn
     split at h
     ·rename_i p hp
      cases h
      have hb : w.heap[c.blk b]? = some (.map (mEntL bl 0 l).toArray l.length) := hS.obj b _ hM
      have hio : w.heap[c.blk i]? = some (.mapIter (some (c.blk b)) n seen.toArray n) := (hS.obj i _ hI).1
      have hf := mEnt_find bl l 0 j
      rw [hp] at hf
      simp only [Nat.zero_add, Option.map_some] at hf
      refine ⟨.tuple #[.int .i64 p.1, mvV bl p.2], w, c, ?_, ?_, hS, Ext.refl _ _, Stp.refl _ _ _⟩
      ·have hg : (getObj (c.blk i)).run P w = .ok (.mapIter (some (c.blk b)) n seen.toArray n) w := by simp [getObj, Sem.run, hio]
       have hbk : seen.toArray.back? = some j := by simp [hj]
       simp [Instr.entry, hg, hbk, MapKept.run_getObj_map hb, Result.andThen, hn, hf]
      ·refine .tup _ _ (by simp) fun i v x h1 h2 => ?_
       match i with
       | 0 => simp at h1 h2; subst h1 h2; exact .pd _ _ (.int _ _)
       | 1 => simp at h1 h2; subst h1 h2; exact mvA_ok _ _
       | i + 2 => simp at h2
     ·cases h
    ·cases h
   ·cases h
  ·cases h
 ·cases h
def aop (P : Program) (ρ : Operand → AV) (M : Mem) (o : Op) : Option (AV × Mem) :=
 match o with
 | .move x => some (ρ x, M)
 | .assign x => some (ρ x, M)
 | .pick k a b => match ρ k with | .pd (.bool t) => some (if t then ρ a else ρ b, M) | _ => none
 | .alloc t => (zeroOf P t).bind (aBox M)
 | .box _ x => aBox M (ρ x)
 | .build t parts => (aBuild P M t (parts.toList.map fun p => (p.1, ρ p.2))).map (·, M)
 | .buildSlice t n parts => (aBuildSlice P M t n (parts.toList.map fun p => (p.1, ρ p.2))).map (·, M)
 | .load t a => (aLoad P M t (ρ a)).map (·, M)
 | .store t a x => (aStore P M t (ρ a) (ρ x)).map (AV.junk, ·)
 | .nilCheck x => (aNil M (ρ x)).map (·, M)
 | .binOp op t x y _ => (bif isNilK y then (aBin P op t (ρ x) (ρ y)).or (aNilQ P M op t (ρ x) y) else aBin P op t (ρ x) (ρ y)).map (·, M)
 | .unOp op _ x => (aUn op (ρ x)).map (·, M)
 | .convert s d x => (aConv P M s d (ρ x)).map (·, M)
 | .makeFunc (.func f) first caps => some (.fn (.func f) (first.toList.map ρ) (caps.toList.map ρ), M)
 | .makeSlice t l k => aMake P M t (ρ l) (ρ k)
 | .slice t x lo hi mx => (aSlice P M t (ρ x) (lo.map ρ) (hi.map ρ) (mx.map ρ)).map (·, M)
 | .fieldAddr s x f => (aFieldAddr P M s (ρ x) f).map (·, M)
 | .field t x f => (aField P t (ρ x) f).map (·, M)
 | .indexAddr t x i => (aIndexAddr P M t (ρ x) (ρ i)).map (·, M)
 | .index t x i => (aIndex P t (ρ x) (ρ i)).map (·, M)
 | .range t x => (aRange P M t (ρ x)).or (aRangeM P M t (ρ x))
 | .next it isS => aNext M (ρ it) isS
 | .extract x i => (aExtract (ρ x) i).map (·, M)
 | .lookup t x y ok => ((aLookup P t (ρ x) (ρ y) ok).or (aLookM P M t (ρ x) (ρ y) ok)).map (·, M)
 | .call { callee := .builtin b, args, argTypes } => aBuiltin P M b argTypes (args.toList.map ρ)
 | .makeMap t none => aMkM P M t
 | .mapUpdate t x y z => (aIns P M t (ρ x) (ρ y) (ρ z)).map (AV.junk, ·)
 | .entry it => (aEntry M (ρ it)).map (·, M)
 | _ => none
def OutO (P : Program) (B : Nat) (I0 : Nat → Prop) (c : Ctx) (M : Mem) (w : World) (ρ : Operand → Value) (o : Oper) (x : AV) (M' : Mem) : Prop :=
 ∃ n v' w' c', (execOp ρ o).run P w = .ok n w' ∧ (n = .value v' ∨ (n = .skip ∧ v' = undef)) ∧ ARep c' M' w' v' x ∧ Sim B I0 c' M' w' ∧ Ext c M c' M' ∧ Stp B c w c' w'
theorem OutO.val {ρ : Operand → Value} {o : Oper} {s : Sem Value} {x : AV} {M' : Mem} (h : Out P B I0 c M w s x M') (he : ∀ v' w', s.run P w = .ok v' w' → (execOp ρ o).run P w = .ok (.value v') w') : OutO P B I0 c M w ρ o x M' := by
 obtain ⟨v', w', c', h1, h2, h3, h4, h5⟩ := h
 exact ⟨_, v', w', c', he _ _ h1, .inl rfl, h2, h3, h4, h5⟩
theorem parts_rep {ρr : Operand → Value} {ρ : Operand → AV} (hρ : ∀ x, ARep c M w (ρr x) (ρ x)) : ∀ (ps : List (Nat × Operand)), PartsRep c M w (ps.map fun p => (p.1, ρr p.2)) (ps.map fun p => (p.1, ρ p.2))
 | [] => trivial
 | (_, x) :: ps => ⟨rfl, hρ x, parts_rep hρ ps⟩
theorem opt_rep {ρr : Operand → Value} {ρ : Operand → AV} (hρ : ∀ x, ARep c M w (ρr x) (ρ x)) (x : Option Operand) : OptRep c M w (x.map ρr) (x.map ρ) := by
 cases x with
 | none => trivial
 | some x => exact hρ x
theorem list_rep {ρr : Operand → Value} {ρ : Operand → AV} (hρ : ∀ x, ARep c M w (ρr x) (ρ x)) (xs : Array Operand) : (xs.map ρr).size = (xs.toList.map ρ).length ∧ ∀ (i : Nat) (v : Value) (x : AV), (xs.map ρr)[i]? = some v → (xs.toList.map ρ)[i]? = some x → ARep c M w v x := by
 refine ⟨by simp, fun i v x h1 h2 => ?_⟩
 simp only [Array.getElem?_map, List.getElem?_map, Option.map_eq_some_iff, Array.getElem?_toList] at h1 h2
 obtain ⟨a, h1, rfl⟩ := h1
 obtain ⟨b, h2, rfl⟩ := h2
 rw [h1] at h2; cases h2
 exact hρ a
theorem tolist {α : Type} {a : Array α} {l : List α} (h : a.toList = l) : a = l.toArray := by rw [← h]
theorem arr1 {α : Type} (a : Array α) (h : a.size = 1) : ∃ x, a = #[x] := by
 obtain ⟨l⟩ := a
 match l with
 | [x] => exact ⟨x, rfl⟩
 | [] => simp at h
 | _ :: _ :: _ => simp at h
theorem arr2 {α : Type} (a : Array α) (h : a.size = 2) : ∃ x y, a = #[x, y] := by
 obtain ⟨l⟩ := a
 match l with
 | [x, y] => exact ⟨x, y, rfl⟩
 | [] => simp at h
 | [_] => simp at h
 | _ :: _ :: _ :: _ => simp at h
theorem aop_ok {ρr : Operand → Value} {ρ : Operand → AV} {o : Oper} {x : AV} {M' : Mem} (hS : Sim B I0 c M w) (hρ : ∀ x, ARep c M w (ρr x) (ρ x)) (hk : ∀ v, ρr (.const v) = v) (h : aop P ρ M o.op = some (x, M')) : OutO P B I0 c M w ρr o x M' := by
 have same : ∀ {α : Option AV}, α.map (·, M) = some (x, M') → α = some x ∧ M' = M := by
  intro α h
  rw [Option.map_eq_some_iff] at h
  obtain ⟨a, h1, h2⟩ := h
  cases h2; exact ⟨h1, rfl⟩
 unfold aop at h
 split at h
 case h_1 a ho => cases h; exact ⟨_, _, w, c, by simp [execOp, ho], .inl rfl, hρ _, hS, Ext.refl _ _, Stp.refl _ _ _⟩
 case h_2 a ho => cases h; exact ⟨_, _, w, c, by simp [execOp, ho], .inl rfl, hρ _, hS, Ext.refl _ _, Stp.refl _ _ _⟩
 case h_3 k a b ho =>
  split at h
  ·rename_i t hk
   cases h
   have hk' := hρ k
   rw [hk] at hk'
   generalize hkv : ρr k = kv at hk'
   cases hk' with
   | pd v p hp =>
    cases hp
    cases t
    ·exact ⟨_, _, w, c, by simp [execOp, ho, hkv, asBool], .inl rfl, hρ b, hS, Ext.refl _ _, Stp.refl _ _ _⟩
    ·exact ⟨_, _, w, c, by simp [execOp, ho, hkv, asBool], .inl rfl, hρ a, hS, Ext.refl _ _, Stp.refl _ _ _⟩
  ·cases h
 case h_4 t ho =>
  rw [Option.bind_eq_some_iff] at h
  obtain ⟨z, hz, h⟩ := h
  exact .val (aAlloc_ok hS hz h) fun v' w' hr => by simp [execOp, ho, hr]
 case h_5 t a ho => exact .val (aBox_ok (t := t) hS (hρ a) h) fun v' w' hr => by simp [execOp, ho, hr]
 case h_6 t parts ho =>
  obtain ⟨hh, rfl⟩ := same h
  refine .val (aBuild_ok (ps := parts.map fun (i, x) => (i, ρr x)) hS ?_ hh) fun v' w' hr => by simp [execOp, ho, hr]
  have := parts_rep hρ parts.toList
  simpa using this
 case h_7 t n parts ho =>
  obtain ⟨hh, rfl⟩ := same h
  refine .val (aBuildSlice_ok (ps := parts.map fun (i, x) => (i, ρr x)) hS ?_ hh) fun v' w' hr => by simp [execOp, ho, hr]
  have := parts_rep hρ parts.toList
  simpa using this
 case h_8 t a ho => obtain ⟨hh, rfl⟩ := same h; exact .val (aLoad_ok hS (hρ a) hh) fun v' w' hr => by simp [execOp, ho, hr]
 case h_9 t a b ho =>
  rw [Option.map_eq_some_iff] at h
  obtain ⟨M'', h, h2⟩ := h
  cases h2
  obtain ⟨w', c', h1, h2, h3, h4⟩ := aStore_ok hS (hρ a) (hρ b) h
  exact ⟨.skip, undef, w', c', by simp [execOp, ho, h1], .inr ⟨rfl, rfl⟩, .junk _, h2, h3, h4⟩
 case h_10 a ho =>
  obtain ⟨hh, rfl⟩ := same h
  have ha := hρ a
  unfold aNil at hh
  split at hh
  ·rename_i b off ver hb
   split at hh
   ·rename_i hv
    cases hh
    rw [hb] at ha
    generalize hva : ρr a = va at ha
    cases ha with
    | ptr v b off ver h1 h2 h3 =>
     have h3' := h3 hv
     subst h3'
     exact ⟨_, _, w, c, by simp [execOp, ho, hva], .inl rfl, .ptr _ _ _ _ h1 h2 h3, hS, Ext.refl _ _, Stp.refl _ _ _⟩
   ·cases hh
  ·rename_i l hb
   cases hh
   rw [hb] at ha
   generalize hva : ρr a = va at ha
   cases ha with
   | rd a' l f h1 h2 h3 h4 => exact ⟨_, _, w, c, by simp [execOp, ho, hva], .inl rfl, .rd _ _ f h1 h2 h3 h4, hS, Ext.refl _ _, Stp.refl _ _ _⟩
  ·rename_i f l1 l2 hb
   cases hh
   rw [hb] at ha
   generalize hva : ρr a = va at ha
   cases ha with
   | fn f v1 v2 l1 l2 h1 h2 r1 r2 => exact ⟨_, _, w, c, by simp [execOp, ho, hva], .inl rfl, .fn _ _ _ _ _ h1 h2 r1 r2, hS, Ext.refl _ _, Stp.refl _ _ _⟩
  ·cases hh
 case h_11 op t a b t2 ho =>
  obtain ⟨hh, rfl⟩ := same h
  have hh : aBin P op t (ρ a) (ρ b) = some x ∨ aNilQ P M' op t (ρ a) b = some x := by
   cases hn : isNilK b with
   | false => rw [hn] at hh; exact .inl hh
   | true => rw [hn] at hh; exact (Option.or_eq_some_iff.1 hh).imp id (·.2)
  rcases hh with hh | hh
  ·exact .val (aBin_ok (ox := a) (oy := b) hS (hρ a) (hρ b) hh) fun v' w' hr => by simp only [execOp, ho]; rw [Sem.run_bind, hr]; rfl
  ·exact .val (aNilQ_ok (ox := a) (oy := b) hS hk (hρ a) hh) fun v' w' hr => by simp only [execOp, ho]; rw [Sem.run_bind, hr]; rfl
 case h_12 op t a ho => obtain ⟨hh, rfl⟩ := same h; exact .val (aUn_ok hS (hρ a) hh) fun v' w' hr => by simp [execOp, ho, hr]
 case h_13 s d a ho => obtain ⟨hh, rfl⟩ := same h; exact .val (aConv_ok hS (hρ a) hh) fun v' w' hr => by simp [execOp, ho, hr]
 case h_14 f first caps ho =>
  cases h
  obtain ⟨a1, a2⟩ := list_rep hρ first
  obtain ⟨b1, b2⟩ := list_rep hρ caps
  exact ⟨_, _, w, c, by simp [execOp, ho, Instr.makeFunc], .inl rfl, .fn _ _ _ _ _ a1 b1 a2 b2, hS, Ext.refl _ _, Stp.refl _ _ _⟩
 case h_15 t l k ho => exact .val (aMake_ok hS (hρ l) (hρ k) h) fun v' w' hr => by simp [execOp, ho, hr]
 case h_16 t a lo hi mx ho => obtain ⟨hh, rfl⟩ := same h; exact .val (aSlice_ok hS (hρ a) (opt_rep hρ lo) (opt_rep hρ hi) (opt_rep hρ mx) hh) fun v' w' hr => by simp [execOp, ho, hr]
 case h_17 s a f ho => obtain ⟨hh, rfl⟩ := same h; exact .val (aFieldAddr_ok hS (hρ a) hh) fun v' w' hr => by simp [execOp, ho, hr]
 case h_18 t a f ho => obtain ⟨hh, rfl⟩ := same h; exact .val (aField_ok hS (hρ a) hh) fun v' w' hr => by simp [execOp, ho, hr]
 case h_19 t a i ho => obtain ⟨hh, rfl⟩ := same h; exact .val (aIndexAddr_ok hS (hρ a) (hρ i) hh) fun v' w' hr => by simp [execOp, ho, hr]
 case h_20 t a i ho => obtain ⟨hh, rfl⟩ := same h; exact .val (aIndex_ok hS (hρ a) (hρ i) hh) fun v' w' hr => by simp [execOp, ho, hr]
 case h_21 t a ho =>
  rcases Option.or_eq_some_iff.1 h with h | ⟨_, h⟩
  ·exact .val (aRange_ok hS (hρ a) h) fun v' w' hr => by simp [execOp, ho, hr]
  ·exact .val (aRangeM_ok hS (hρ a) h) fun v' w' hr => by simp [execOp, ho, hr]
 case h_22 it isS ho => exact .val (aNext_ok (ty := o.type) hS (hρ it) h) fun v' w' hr => by simp [execOp, ho, hr]
 case h_23 a i ho => obtain ⟨hh, rfl⟩ := same h; exact .val (aExtract_ok hS (hρ a) hh) fun v' w' hr => by simp [execOp, ho, hr]
 case h_24 tt a i ok ho =>
  obtain ⟨hh, rfl⟩ := same h
  rcases Option.or_eq_some_iff.1 hh with hh | ⟨_, hh⟩
  ·exact .val (aLookup_ok hS (hρ a) (hρ i) hh) fun v' w' hr => by simp [execOp, ho, hr]
  ·exact .val (aLookM_ok hS (hρ a) (hρ i) hh) fun v' w' hr => by simp [execOp, ho, hr]
 case h_25 b args ts ho =>
  have sz : ∀ (l : List AV), args.toList.map ρ = l → args.size = l.length := fun l hl => by rw [← hl]; simp
  unfold aBuiltin at h
  split at h
  ·rename_i t x' hts hl
   obtain rfl := tolist hts
   obtain ⟨hh, rfl⟩ := same h
   have h1 := sz _ hl
   obtain ⟨a, rfl⟩ := arr1 args h1
   simp at hl; subst hl
   exact .val (aLen_ok (ty := o.type) hS (hρ a) hh) fun v' w' hr => by simp [execOp, ho, resolve, invoke, builtin, hr]
  ·rename_i sT xT s' x' hts hl
   obtain rfl := tolist hts
   have h1 := sz _ hl
   obtain ⟨a, b, rfl⟩ := arr2 args h1
   simp at hl; obtain ⟨rfl, rfl⟩ := hl
   exact .val (aAppend_ok (ty := o.type) hS (hρ a) (hρ b) h) fun v' w' hr => by simp [execOp, ho, resolve, invoke, builtin, hr]
  ·rename_i dT xT d' x' hts hl
   obtain rfl := tolist hts
   have h1 := sz _ hl
   obtain ⟨a, b, rfl⟩ := arr2 args h1
   simp at hl; obtain ⟨rfl, rfl⟩ := hl
   exact .val (aCopy_ok (xT := xT) (ty := o.type) hS (hρ a) (hρ b) h) fun v' w' hr => by simp [execOp, ho, resolve, invoke, builtin, hr]
  ·rename_i x' y' hl
   obtain ⟨hh, rfl⟩ := same h
   have h1 := sz _ hl
   obtain ⟨a, b, rfl⟩ := arr2 args h1
   simp at hl; obtain ⟨rfl, rfl⟩ := hl
   exact .val (aMin_ok (ts := ts) (t := o.type) hS (hρ a) (hρ b) hh) fun v' w' hr => by simp [execOp, ho, resolve, invoke, builtin, hr]
  ·rename_i x' y' hl
   obtain ⟨hh, rfl⟩ := same h
   have h1 := sz _ hl
   obtain ⟨a, b, rfl⟩ := arr2 args h1
   simp at hl; obtain ⟨rfl, rfl⟩ := hl
   exact .val (aMax_ok (ts := ts) (t := o.type) hS (hρ a) (hρ b) hh) fun v' w' hr => by simp [execOp, ho, resolve, invoke, builtin, hr]
  ·cases h
 case h_26 t ho => exact .val (aMkM_ok hS h) fun v' w' hr => by simp [execOp, ho, hr]
 case h_27 t a b d ho =>
  rw [Option.map_eq_some_iff] at h
  obtain ⟨M'', h, h2⟩ := h
  cases h2
  obtain ⟨w', h1, h2, h3, h4⟩ := aIns_ok hS (hρ a) (hρ b) (hρ d) h
  exact ⟨.skip, undef, w', c, by simp [execOp, ho, h1], .inr ⟨rfl, rfl⟩, .junk _, h2, h3, h4⟩
 case h_28 it ho => obtain ⟨hh, rfl⟩ := same h; exact .val (aEntry_ok hS (hρ it) hh) fun v' w' hr => by simp [execOp, ho, hr]
 case h_29 => cases h
end Go.Abs
end

section
namespace Go.Abs
open Go.RowKit
structure S where
 T : List AV
 M : Mem
 D : List Nat
def TRep (c : Ctx) (M : Mem) (w : World) (tmps : Array Value) (T : List AV) : Prop := T.length ≤ tmps.size ∧ ∀ (i : Nat) (x : AV), T[i]? = some x → ARep c M w (tmps.getD i undef) x
abbrev Tabs := Nat → Option (List PD)
def GRep (GT : Tabs) (c : Ctx) (w : World) : Prop := ∀ g l, GT g = some l → ARep c [] w (.pointer (some ⟨g, 0, none⟩)) (.rd l) ∧ c.imm g ∧ ∃ cs e z, w.heap[g]? = some (.cells cs e z) ∧ cs.size = l.length
def mark (c : Ctx) (d : Nat) : Deferred := { target := .collected (c.blk d), args := #[] }
def DRep (c : Ctx) (M : Mem) (ds : List Deferred) (D : List Nat) : Prop := ds = D.map (mark c) ∧ D.Nodup ∧ ∀ d, d ∈ D → M[d]? = some (.defers false)
structure Rel (GT : Tabs) (B : Nat) (I0 : Nat → Prop) (c : Ctx) (s : S) (a : Act) (w : World) : Prop where
 sim : Sim B I0 c s.M w
 glob : GRep GT c w
 tmps : TRep c s.M w a.tmps s.T
 dfs : DRep c s.M a.defers s.D
def fen (c : Ctx) (ro : Option Nat) : Fence := match ro with | none => Fence.wide | some l => Fence.wide.inRound (c.blk l)
theorem fen_fn (c : Ctx) (ro : Option Nat) (f : FuncId) : (fen c ro).fn f := by cases ro <;> exact trivial
theorem fen_depth (c : Ctx) (ro : Option Nat) : (fen c ro).depth.isSome = true → ∀ {p : Prop}, p := by intro h; cases ro <;> simp [fen, Fence.wide, Fence.inRound] at h
theorem fen_ext {c c' : Ctx} {M M' : Mem} {ro : Option Nat} (he : Ext c M c' M') (h : ∀ l, ro = some l → obj M l) : fen c' ro = fen c ro := by
 cases ro with
 | none => rfl
 | some l => simp only [fen, he.blk (h l rfl)]
theorem ARep.rdM {c : Ctx} {M M' : Mem} {w : World} {v : Value} {l : List PD} (h : ARep c M w v (.rd l)) : ARep c M' w v (.rd l) := by
 cases h with
 | rd a l f h1 h2 h3 h4 => exact .rd a l f h1 h2 h3 h4
theorem GRep.mono {GT : Tabs} {B : Nat} {c c' : Ctx} {w w' : World} (h : GRep GT c w) (hs : Stp B c w c' w') : GRep GT c' w' := by
 intro g l hg
 have he : Ext c ([] : Mem) c' [] := ⟨⟨Nat.le_refl _, fun _ h => absurd h (by simp), fun _ h => absurd h (by simp), fun _ h => h⟩, fun _ _ h => h⟩
 obtain ⟨h1, h2, cs, e, z, h3, h4⟩ := h g l hg
 exact ⟨h1.mono he hs, hs.imm _ h2, cs, e, z, by rw [hs.kept _ h2]; exact h3, h4⟩
def Aft (GT : Tabs) (B : Nat) (I0 : Nat → Prop) (c : Ctx) (M : Mem) (w : World) (Q : Exit → S → Prop) : Exit → Act → World → Prop :=
 fun e a' w' => ∃ s' c', Q e s' ∧ Rel GT B I0 c' s' a' w' ∧ Ext c M c' s'.M ∧ Stp B c w c' w'
def AW (P : Program) (GT : Tabs) (ro : Option Nat) (code : Code) (s : S) (Q : Exit → S → Prop) : Prop :=
 ∀ B I0 c a w n, Rel GT B I0 c s a w → (∀ l, ro = some l → obj s.M l) → code.wpIn (fen c ro) n P (Aft GT B I0 c s.M w Q) a w
variable {P : Program} {GT : Tabs} {ro : Option Nat} {Q : Exit → S → Prop} {s : S}
theorem Aft.from {B : Nat} {I0 : Nat → Prop} {c c' : Ctx} {M M' : Mem} {w w' : World} (he : Ext c M c' M') (hs : Stp B c w c' w') {e : Exit} {a : Act} {u : World} (h : Aft GT B I0 c' M' w' Q e a u) : Aft GT B I0 c M w Q e a u := by
 obtain ⟨s', c'', q, r, e1, s1⟩ := h
 exact ⟨s', c'', q, r, he.trans e1, hs.trans s1⟩
theorem AW.mono {code : Code} {Q' : Exit → S → Prop} (h : AW P GT ro code s Q) (hq : ∀ e s', Q e s' → Q' e s') : AW P GT ro code s Q' :=
 fun B I0 c a w n hr ho => wpIn_mono (h B I0 c a w n hr ho) fun _ _ _ ⟨s', c', q, r⟩ => ⟨s', c', hq _ _ q, r⟩
theorem AW_skip (h : Q .normal s) : AW P GT ro .skip s Q := fun _ _ c _ _ _ hr _ => wpIn_skip ⟨s, c, h, hr, Ext.refl _ _, Stp.refl _ _ _⟩
theorem AW_label {l : Nat} (h : Q .normal s) : AW P GT ro (.label l) s Q := fun _ _ c _ _ _ hr _ => wpIn_label ⟨s, c, h, hr, Ext.refl _ _, Stp.refl _ _ _⟩
theorem AW_exit {id : Nat} (h : Q (.exit id) s) : AW P GT ro (.exit id) s Q := fun _ _ c _ _ _ hr _ => wpIn_exit ⟨s, c, h, hr, Ext.refl _ _, Stp.refl _ _ _⟩
theorem AW_ret (h : Q .ret s) : AW P GT ro .ret s Q := fun _ _ c _ _ _ hr _ => wpIn_ret ⟨s, c, h, hr, Ext.refl _ _, Stp.refl _ _ _⟩
def thn (K : S → Prop) (Q : Exit → S → Prop) : Exit → S → Prop
 | .normal, s => K s
 | e, s => Q e s
theorem AW_seq {x y : Code} (h : AW P GT ro x s (thn (fun s' => AW P GT ro y s' Q) Q)) : AW P GT ro (.seq x y) s Q := by
 intro B I0 c a w n hr ho
 refine wpIn_seq (wpIn_mono (h B I0 c a w n hr ho) ?_)
 rintro e a' w' ⟨s', c', q, r, he, hs⟩
 cases e with
 | normal =>
  have := q B I0 c' a' w' n r (fun l hl => he.obj l (ho l hl))
  rw [fen_ext he ho] at this
  exact wpIn_mono this fun e u v h => Aft.from he hs h
 | _ => exact ⟨s', c', q, r, he, hs⟩
def inB (id : Nat) (Q : Exit → S → Prop) : Exit → S → Prop
 | .exit id', s => if id' = id then Q .normal s else Q (.exit id') s
 | e, s => Q e s
theorem AW_block {id : Nat} {x : Code} (h : AW P GT ro x s (inB id Q)) : AW P GT ro (.block id x) s Q := by
 intro B I0 c a w n hr ho
 refine wpIn_block (wpIn_mono (h B I0 c a w n hr ho) ?_)
 rintro e a' w' ⟨s', c', q, r, he, hs⟩
 cases e with
 | exit id' =>
  simp only [Exit.inBlock]
  simp only [inB] at q
  split
  ·rename_i hid; rw [if_pos hid] at q; exact ⟨s', c', q, r, he, hs⟩
  ·rename_i hid; rw [if_neg hid] at q; exact ⟨s', c', q, r, he, hs⟩
 | _ => exact ⟨s', c', q, r, he, hs⟩
theorem wpIn_scope {F : Fence} {n : Nat} {P : Program} {c : Code} {Q : Exit → Act → World → Prop} {a : Act} {w : World} (h : c.wpIn F n P (Exit.noGoto Q) a w) : (Code.scope c).wpIn F n P Q a w := by
 intro b k cs hro hb hr
 have h0 : (lone (b.atR a (.code (.scope c) :: k)) cs w).fenced P F := fenced_calm hb hr rfl
 have st1 : step P (lone (b.atR a (.code (.scope c) :: k)) cs w) = .next (lone (b.atR a (.code c :: .inScope c :: k)) cs w) := step_lone_go (by simp [stepG, stepG.exec, Frame.atR])
 have st2 : ∀ (a : Act) (w : World), step P (lone (b.atR a (.inScope c :: k)) cs w) = .next (lone (b.atR a k) cs w) := fun a w => step_lone_go (by simp [stepG, stepG.exec, Frame.atR])
 obtain ⟨e, a₁, w₁, hq, harr⟩ := h b (.inScope c :: k) cs hro hb hr
 cases e with
 | normal => exact ⟨.normal, a₁, w₁, hq, .head h0 st1 (StepsIn.trans harr (.one (fenced_calm hb hr rfl) (st2 _ _)))⟩
 | exit id' =>
  have hx : exitTo id' (.inScope c :: k) = exitTo id' k := by simp [exitTo]
  exact ⟨.exit id', a₁, w₁, hq, fun k' hk => .head h0 st1 (harr.1 k' (by rw [hx]; exact hk)),
   fun hr' hk => let ⟨k₁, h1, h2⟩ := harr.2 hr' (by rw [hx]; exact hk); ⟨k₁, h1, .head h0 st1 h2⟩⟩
 | goto l => exact hq.elim
 | ret => exact ⟨_, a₁, w₁, hq, .of_steps (.one h0 st1) harr⟩
 | panic ch => exact ⟨_, a₁, w₁, hq, .of_steps (.one h0 st1) harr⟩
 | outgrown => exact ⟨_, a₁, w₁, hq, .of_steps (.one h0 st1) harr⟩
def noJump (Q : Exit → S → Prop) : Exit → S → Prop
 | .goto _, _ => False
 | e, s => Q e s
theorem AW_scope {x : Code} (h : AW P GT ro x s (noJump Q)) : AW P GT ro (.scope x) s Q := by
 intro B I0 c a w n hr ho
 refine wpIn_scope (wpIn_mono (h B I0 c a w n hr ho) ?_)
 rintro e a' w' ⟨s', c', q, r, he, hs⟩
 cases e with
 | goto l => exact q.elim
 | _ => exact ⟨s', c', q, r, he, hs⟩
theorem Rel.ev {B : Nat} {I0 : Nat → Prop} {c : Ctx} {a : Act} {w : World} (h : Rel GT B I0 c s a w) (x : Operand) : ARep c s.M w (a.eval x) (aev GT s.T x) := by
 cases x with
 | tmp t =>
  simp only [Act.eval, aev]
  rw [List.getD_eq_getElem?_getD]
  cases hT : s.T[t]? with
  | none => exact .junk _
  | some y => exact h.tmps.2 t y hT
 | const v =>
  simp only [Act.eval, aev]
  cases hz : zAV v with
  | none => exact .junk _
  | some y => exact (zAV_ok hz).1
 | global g =>
  simp only [Act.eval, aev]
  cases hg : GT g with
  | none => exact .junk _
  | some l => exact (h.glob g l hg).1.rdM
 | func f =>
  simp only [Act.eval, aev]
  exact .fn _ #[] #[] [] [] rfl rfl (by simp) (by simp)
theorem AW_cond {k : Operand} {x y : Code} {t : Bool} (hk : aev GT s.T k = .pd (.bool t)) (h : AW P GT ro (if t then x else y) s Q) : AW P GT ro (.cond k x y) s Q := by
 intro B I0 c a w n hr ho
 have he := hr.ev k
 rw [hk] at he
 generalize hv : a.eval k = v at he
 cases he with
 | pd v p hp => cases hp; exact wpIn_cond hv (h B I0 c a w n hr ho)
def Less (T T' : List AV) : Prop := T'.length ≤ T.length ∧ ∀ (i : Nat) (x : AV), T'[i]? = some x → x = .junk ∨ T[i]? = some x
theorem TRep.less {c : Ctx} {M : Mem} {w : World} {tmps : Array Value} {T T' : List AV} (h : TRep c M w tmps T) (hl : Less T T') : TRep c M w tmps T' :=
 ⟨Nat.le_trans hl.1 h.1, fun i x hx => by
  rcases hl.2 i x hx with rfl | h'
  ·exact .junk _
  ·exact h.2 i x h'⟩
theorem AW.less {code : Code} {T : List AV} {M : Mem} {D : List Nat} (T' : List AV) (h : AW P GT ro code ⟨T', M, D⟩ Q) (hl : Less T T') : AW P GT ro code ⟨T, M, D⟩ Q :=
 fun B I0 c a w n hr ho => h B I0 c a w n ⟨hr.sim, hr.glob, hr.tmps.less hl, hr.dfs⟩ ho
end Go.Abs
end

section
namespace Go.Abs
open Go.RowKit Go.Proofs
variable {P : Program} {GT : Tabs} {ro : Option Nat} {Q : Exit → S → Prop} {s : S}
theorem lets_mono {Q Q' : Exit → Act → World → Prop} (h : ∀ e a w, Q e a w → Q' e a w) (hl : LetsOut Q) : LetsOut Q' := let ⟨a, w, q⟩ := hl; ⟨a, w, h _ _ _ q⟩
theorem wpIn_mono2 {F : Fence} {n : Nat} {o : Oper} {a : Act} {w : World} {K K' : Act → World → Prop} {Q Q' : Exit → Act → World → Prop} (h : ∀ a w, K a w → K' a w) (hq : ∀ e a w, Q e a w → Q' e a w)
  (hh : o.wpIn F n P a w K Q) : o.wpIn F n P a w K' Q' := by
 unfold Oper.wpIn at *
 refine ⟨hh.1, ?_⟩
 have hh := hh.2
 generalize (o.semAt F.round a.eval).run P w = r at *
 cases r with
 | ok x w' =>
  cases x <;> simp only [Oper.uponIn] at hh ⊢ <;>
   first
    | exact h _ _ hh
    | exact ⟨hh.1, CallsIn.mono hh.2 (fun e w'' he => by cases e <;> first | exact h _ _ he | exact hq _ _ _ he | exact lets_mono hq he)⟩
    | exact ⟨hh.1, RowsIn.mono hh.2 (fun _ _ he => h _ _ he)⟩
    | exact ⟨hh.1, RoundIn.mono hh.2 (fun e w'' he => by cases e <;> first | exact h _ _ he | exact hq _ _ _ he | exact lets_mono hq he)⟩
 | halt x w' => cases x <;> simp only [Oper.uponIn] at hh ⊢ <;> first | exact hh | exact hq _ _ _ hh
theorem wpListIn_mono2 {F : Fence} {n : Nat} {ops : Array Oper} {Q Q' : Exit → Act → World → Prop} (hq : ∀ e a w, Q e a w → Q' e a w) : ∀ (l : List Oper) (a : Act) (w : World), wpListIn F n P ops Q l a w → wpListIn F n P ops Q' l a w
 | [], a, w, h => hq _ _ _ h
 | o :: l, a, w, h => by
  unfold wpListIn at h ⊢
  split
  ·rename_i hw
   rw [if_pos hw] at h
   exact wpIn_mono2 (wpListIn_mono2 hq l) hq h
  ·rename_i hw
   rw [if_neg hw] at h
   exact ⟨h.1, wpListIn_mono2 hq l _ _ h.2⟩
def AL (P : Program) (GT : Tabs) (ro : Option Nat) (ops : Array Oper) (rest : List Oper) (s : S) (Q : Exit → S → Prop) : Prop :=
 ∀ B I0 c a w n, Rel GT B I0 c s a w → (∀ l, ro = some l → obj s.M l) → wpListIn (fen c ro) n P ops (Aft GT B I0 c s.M w Q) rest a w
theorem AW_region {id : Nat} {ops : Array Oper} (h : AL P GT ro ops ops.toList s Q) : AW P GT ro (.region id ops false) s Q :=
 fun B I0 c a w n hr ho => wpIn_region_list (h B I0 c a w n hr ho)
theorem AL_nil {ops : Array Oper} (h : Q .normal s) : AL P GT ro ops [] s Q := fun _ _ c _ _ _ hr _ => ⟨s, c, h, hr, Ext.refl _ _, Stp.refl _ _ _⟩
def aGuard (ops : Array Oper) (T : List AV) (o : Oper) : Option Bool :=
 match o.guard with
 | none => some true
 | some (j, want) =>
  match (ops[j]?).bind (·.dst) with
  | some d => match T[d]? with
   | some (.pd (.bool b)) => some (b == want)
   | some (.tup _) => some false
   | _ => none
  | none => none
theorem aGuard_ok {ops : Array Oper} {o : Oper} {t : Bool} {c : Ctx} {M : Mem} {w : World} {tmps : Array Value} {T : List AV} (hT : TRep c M w tmps T) (h : aGuard ops T o = some t) : Region.wanted o (yielded ops tmps) = t := by
 unfold aGuard at h
 cases hg : o.guard with
 | none => rw [hg] at h; cases h; simp [Region.wanted, hg]
 | some p =>
  obtain ⟨j, want⟩ := p
  rw [hg] at h
  simp only at h
  cases hd : (ops[j]?).bind (·.dst) with
  | none => rw [hd] at h; cases h
  | some d =>
   rw [hd] at h
   simp only at h
   cases hTd : T[d]? with
   | none => rw [hTd] at h; cases h
   | some x =>
    have hx := hT.2 d x hTd
    have hlt : d < tmps.size := Nat.lt_of_lt_of_le (List.getElem?_eq_some_iff.1 hTd).1 hT.1
    have hget : tmps.getD d undef = tmps[d] := by simp [Array.getD, hlt]
    rw [hget] at hx
    have hy : yielded ops tmps j = match tmps[d] with | .bool b => some b | _ => none := by
     simp only [yielded, hd, Option.bind_some, Array.getElem?_eq_getElem hlt]
     generalize tmps[d] = v
     cases v <;> rfl
    rw [hTd] at h
    generalize tmps[d] = v at hx hy
    cases x with
    | pd p =>
     cases p with
     | bool b =>
      cases h
      cases hx with
      | pd v p hp =>
       cases hp
       simp [Region.wanted, hg, hy]
     | _ => cases h
    | tup l =>
     cases h
     cases hx with
     | tup vs l hs hr => simp [Region.wanted, hg, hy]
    | _ => cases h
def aput (T : List AV) (dst : Option Tmp) (x : AV) : List AV := match dst with | some d => T.set d x | none => T
theorem TRep.put {c : Ctx} {M : Mem} {w : World} {a : Act} {T : List AV} (h : TRep c M w a.tmps T) (dst : Option Tmp) {v : Value} {x : AV} (hx : ARep c M w v x) : TRep c M w (a.put dst v).tmps (aput T dst x) := by
 cases dst with
 | none => exact h
 | some d =>
  refine ⟨by simpa [aput, Act.put] using h.1, fun i y hy => ?_⟩
  simp only [aput, Act.put] at hy ⊢
  by_cases e : d = i
  ·subst e
   have hd : d < T.length := by have := (List.getElem?_eq_some_iff.1 hy).1; simpa using this
   rw [List.getElem?_set_self hd] at hy; cases hy
   have : d < a.tmps.size := Nat.lt_of_lt_of_le hd h.1
   simp [Array.getD, this]; exact hx
  ·rw [List.getElem?_set_ne e] at hy
   have := h.2 i y hy
   have e2 : (a.tmps.setIfInBounds d v).getD i undef = a.tmps.getD i undef := by
    simp only [Array.getD_eq_getD_getElem?, Array.getElem?_setIfInBounds_ne e]
   rw [e2]; exact this
theorem TRep.mono {B : Nat} {c c' : Ctx} {M M' : Mem} {w w' : World} {tmps : Array Value} {T : List AV} (h : TRep c M w tmps T) (he : Ext c M c' M') (hs : Stp B c w c' w') : TRep c' M' w' tmps T :=
 ⟨h.1, fun i x hx => (h.2 i x hx).mono he hs⟩
theorem DRep.mono {c c' : Ctx} {M M' : Mem} {ds : List Deferred} {D : List Nat} (h : DRep c M ds D) (he : Ext c M c' M') : DRep c' M' ds D := by
 obtain ⟨h1, h2, h3⟩ := h
 refine ⟨?_, h2, fun d hd => he.keep d false (h3 d hd)⟩
 rw [h1]
 apply List.map_congr_left
 intro d hd
 simp only [mark]
 rw [he.blk ⟨_, h3 d hd, rfl⟩]
theorem put_defers (a : Act) (dst : Option Tmp) (v : Value) : (a.put dst v).defers = a.defers := by cases dst <;> rfl
theorem Rel.step {B : Nat} {I0 : Nat → Prop} {c c' : Ctx} {a : Act} {w w' : World} {M' : Mem} {v : Value} {x : AV} (h : Rel GT B I0 c s a w) (hS : Sim B I0 c' M' w') (he : Ext c s.M c' M') (hs : Stp B c w c' w') (dst : Option Tmp) (hx : ARep c' M' w' v x) :
  Rel GT B I0 c' ⟨aput s.T dst x, M', s.D⟩ (a.put dst v) w' :=
 ⟨hS, h.glob.mono hs, (h.tmps.mono he hs).put dst hx, by rw [put_defers]; exact h.dfs.mono he⟩
theorem undef_rep {c : Ctx} {M : Mem} {w : World} : ARep c M w undef (.tup []) := .tup _ _ rfl (by simp)
def ArgsRep (c : Ctx) (M : Mem) (w : World) (vs : Array Value) (xs : List AV) : Prop := vs.size = xs.length ∧ ∀ (i : Nat) (v : Value) (x : AV), vs[i]? = some v → xs[i]? = some x → ARep c M w v x
theorem ArgsRep.append {c : Ctx} {M : Mem} {w : World} {vs us : Array Value} {xs ys : List AV} (h : ArgsRep c M w vs xs) (k : ArgsRep c M w us ys) : ArgsRep c M w (vs ++ us) (xs ++ ys) := by
 refine ⟨by simp [h.1, k.1], fun i v x h1 h2 => ?_⟩
 by_cases hi : i < xs.length
 ·rw [List.getElem?_append_left hi] at h2
  rw [Array.getElem?_append_left (by rw [h.1]; exact hi)] at h1
  exact h.2 i v x h1 h2
 ·rw [List.getElem?_append_right (by omega)] at h2
  rw [Array.getElem?_append_right (by rw [h.1]; omega), h.1] at h1
  exact k.2 _ v x h1 h2
def ACall (P : Program) (GT : Tabs) (f : FuncId) (args : List AV) (M : Mem) (R : AV → Mem → Prop) : Prop :=
 ∀ B I0 c w vs n, Sim B I0 c M w → GRep GT c w → ArgsRep c M w vs args →
  CallsIn Fence.wide n P f vs w fun e w' => ∃ v r M' c', e = .returned v ∧ R r M' ∧ ARep c' M' w' v r ∧ Sim B I0 c' M' w' ∧ Ext c M c' M' ∧ Stp B c w c' w'
theorem ACall.mono {f : FuncId} {args : List AV} {M : Mem} {R R' : AV → Mem → Prop} (h : ACall P GT f args M R) (hr : ∀ r M', R r M' → R' r M') : ACall P GT f args M R' :=
 fun B I0 c w vs n h1 h2 h3 => (h B I0 c w vs n h1 h2 h3).mono fun _ _ ⟨v, r, M', c', a, b, q⟩ => ⟨v, r, M', c', a, hr _ _ b, q⟩
theorem callsIn_fen {c : Ctx} {n : Nat} {f : FuncId} {vs : Array Value} {w : World} {R : Ending → World → Prop} (h : CallsIn Fence.wide n P f vs w R) : CallsIn (fen c ro) n P f vs w R := by
 cases ro with
 | none => exact h
 | some l => exact CallsIn.inRound _ h
theorem ARep.fnInv {c : Ctx} {M : Mem} {w : World} {v : Value} {g : Fn} {l1 l2 : List AV} (h : ARep c M w v (.fn g l1 l2)) : ∃ v1 v2, v = .func g v1 v2 ∧ ArgsRep c M w v1 l1 ∧ ArgsRep c M w v2 l2 := by
 cases h with
 | fn f v1 v2 l1 l2 h1 h2 r1 r2 => exact ⟨v1, v2, rfl, ⟨h1, r1⟩, ⟨h2, r2⟩⟩
theorem AL_call {ops : Array Oper} {o : Oper} {rest : List Oper} {f : Operand} {args : Array Operand} {ts : Array TypeId} {g : FuncId} {l1 l2 : List AV} {R : AV → Mem → Prop} (hg : aGuard ops s.T o = some true)
  (ho : o.op = .call { callee := .value f, args := args, argTypes := ts }) (hf : aev GT s.T f = .fn (.func g) l1 l2) (he : Enters P g)
  (hc : ACall P GT g (l1 ++ args.toList.map (aev GT s.T) ++ l2) s.M R) (hr : ∀ r M', R r M' → AL P GT ro ops rest ⟨aput s.T o.dst r, M', s.D⟩ Q) : AL P GT ro ops (o :: rest) s Q := by
 intro B I0 c a w n hR hob
 have hw := aGuard_ok hR.tmps hg
 have hfv := hR.ev f
 rw [hf] at hfv
 obtain ⟨v1, v2, hv, q1, q2⟩ := hfv.fnInv
 have hargs : ArgsRep c s.M w (args.map a.eval) (args.toList.map (aev GT s.T)) := list_rep (fun x => hR.ev x) args
 unfold wpListIn
 rw [if_pos hw]
 refine ⟨fun _ _ => fen_fn _ _ _, ?_⟩
 have hrun : (o.semAt (fen c ro).round a.eval).run P w = .ok (.enter g (v1 ++ args.map a.eval ++ v2)) w := by
  rw [Oper.semAt_eq _ _ _ (by intro k e; rw [e] at ho; cases ho)]
  simp only [execOp, ho, resolve, hv, Deferred.ofValue, invoke]
  simp only [Sem.run_bind, Sem.run_pure, Result.andThen_ok]
  exact he _ _
 rw [hrun]
 refine ⟨fun h => fen_depth _ _ h, ?_⟩
 refine callsIn_fen ((hc B I0 c w _ (n - 1) hR.sim hR.glob ((q1.append hargs).append q2)).mono ?_)
 rintro e w' ⟨v, r, M', c', rfl, hRr, hv', hS', hE, hs⟩
 have := hr r M' hRr B I0 c' (a.put o.dst v) w' n (hR.step hS' hE hs o.dst hv') (fun l hl => hE.obj l (hob l hl))
 rw [fen_ext hE hob] at this
 exact wpListIn_mono2 (fun e a u h => Aft.from hE hs h) _ _ _ this
end Go.Abs
end
