/- Part of a proof, in few files: Abs11. -/
import Derived.Test.YtdbfgnpobfbfmaaGreatDoorMPaK7
import Derived.Lib.LazyBuf
import Derived.MapKept

section
namespace Go.Abs
open Go.RowKit
variable {P : Program} {B : Nat} {I0 : Nat → Prop} {c : Ctx} {M : Mem} {w : World}
def aev (GT : Nat → Option (List PD)) (T : List AV) : Operand → AV
  | .tmp t => T.getD t .junk
  | .const v => (zAV v).getD .junk
  | .global g => match GT g with | some l => .rd l | none => .junk
  | .func f => .fn (.func f) [] []
def aNil (M : Mem) (x : AV) : Option AV :=
  match x with
  | .ptr b off ver => if verOf M b = ver then some (.ptr b off ver) else none
  | .rd l => some (.rd l)
  | .fn (.func f) a b => some (.fn (.func f) a b)
  | _ => none
def aBuiltin (P : Program) (M : Mem) (b : Builtin) (ts : Array TypeId) (args : List AV) : Option (AV × Mem) :=
  match b, ts.toList, args with
  | .len, [t], [x] => (aLen P M t x).map (·, M)
  | .append, [sT, xT], [s, x] => aAppend P M sT xT s x
  | .copy, [dT, _], [d, x] => aCopy P M dT d x
  | .min, _, [x, y] => (aMin x y).map (·, M)
  | .max, _, [x, y] => (aMax x y).map (·, M)
  | _, _, _ => none
def isNilK : Operand → Bool
  | .const (.slice none 0 0) => true
  | .const .nilIface => true
  | _ => false
def nonNil (M : Mem) : AV → Option Bool
  | .pd (.sl (_ :: _)) => some true
  | .fixed (_ :: _) => some true
  | .own b _ ver =>
    match M[b]? with
    | some (.cells _ _ ver' _) => if ver' = ver then some true else none
    | some (.vrow _ ver') => if ver' = ver then some false else none
    | _ => none
  | _ => none
def aErrQ (P : Program) (op : BinOp) (t : TypeId) (x : AV) : Option AV :=
  match x with
  | .pd (.err b) =>
    match P.underlying t, op with
    | some (.interface _), .eql => some (.pd (.bool (!b)))
    | some (.interface _), .neq => some (.pd (.bool b))
    | _, _ => none
  | _ => none
def aNilQ (P : Program) (M : Mem) (op : BinOp) (t : TypeId) (x : AV) (y : Operand) : Option AV :=
  match y with
  | .const (.slice none 0 0) =>
    match P.underlying t, op with
    | some (.slice _), .eql => (nonNil M x).map fun b => .pd (.bool (!b))
    | some (.slice _), .neq => (nonNil M x).map fun b => .pd (.bool b)
    | _, _ => none
  | .const .nilIface => aErrQ P op t x
  | _ => none
theorem nonNil_ok {x : AV} {v : Value} {b : Bool} (hx : ARep c M w v x) (h : nonNil M x = some b) : ∃ a n k, v = .slice a n k ∧ b = !a.isNone := by
  unfold nonNil at h
  split at h
  · cases h
    cases hx with
    | pd v x hx =>
    cases hx with
    | sl a n cap sz l f => exact ⟨_, _, _, rfl, rfl⟩
  · cases h
    cases hx with
    | fixed a n l hn hx =>
    cases hx with
    | sl a n cap sz l f => exact ⟨_, _, _, rfl, rfl⟩
  · rename_i bb len ver
    cases hx with
    | own v b len ver hb hv hx =>
    split at h
    · rename_i l sz ver' z hM
      split at h
      · rename_i e
        cases h
        subst e
        rcases hx (by simp [verOf, hM, Ob.ver]) with ⟨cap, l, sz, z, _, rfl, _⟩ | ⟨sz, hM2, _⟩
        · exact ⟨_, _, _, rfl, rfl⟩
        · rw [hM] at hM2; cases hM2
      · cases h
    · rename_i sz ver' hM
      split at h
      · rename_i e
        cases h
        subst e
        rcases hx (by simp [verOf, hM, Ob.ver]) with ⟨cap, l, sz, z, hM2, _⟩ | ⟨sz, hM2, rfl, _⟩
        · rw [hM] at hM2; cases hM2
        · exact ⟨_, _, _, rfl, rfl⟩
      · cases h
    · cases h
  · cases h
theorem aNilQ_ok {ρr : Operand → Value} {op : BinOp} {t : TypeId} {ox oy : Operand} {x z : AV} (hS : Sim B I0 c M w) (hk : ∀ v, ρr (.const v) = v) (hx : ARep c M w (ρr ox) x) (h : aNilQ P M op t x oy = some z) :
    Out P B I0 c M w (do eqGuard op t ox oy (ρr ox) (ρr oy); binOp op t (ρr ox) (ρr oy)) z M := by
  unfold aNilQ at h
  split at h
  · rw [hk]
    split at h
    · rename_i el hu
      rw [Option.map_eq_some_iff] at h
      obtain ⟨b, hb, rfl⟩ := h
      obtain ⟨a, n, k, e, rfl⟩ := nonNil_ok hx hb
      rw [e]
      refine Out.val hS ?_ (by rw [Bool.not_not]; exact .pd _ _ (.bool _))
      have := Go.run_eql_slice_nil w t el a n k hu
      simp [eqGuard, this]
    · rename_i el hu
      rw [Option.map_eq_some_iff] at h
      obtain ⟨b, hb, rfl⟩ := h
      obtain ⟨a, n, k, e, rfl⟩ := nonNil_ok hx hb
      rw [e]
      refine Out.val hS ?_ (.pd _ _ (.bool _))
      have := Go.run_neq_slice_nil w t el a n k hu
      simp [eqGuard, this]
    · cases h
  · rw [hk]
    unfold aErrQ at h
    split at h
    · rename_i b
      have hu' : ∀ ms, P.underlying t = some (.interface ms) → P.underlying t = some (.interface (P.methodsAt t)) := fun ms hu => by
        rw [hu]; simp [Program.methodsAt, hu]
      generalize hρ : ρr ox = vx at hx
      cases hx with
      | pd v x hx =>
      split at h
      · rename_i ms hu
        cases h
        cases hx with
        | errN => exact Out.val hS (by simp [eqGuard, run_eql_nil_nil w t (hu' _ hu)]) (.pd _ _ (.bool _))
        | errS u x => exact Out.val hS (by simp [eqGuard, run_eql_held_nil w t u x (hu' _ hu)]) (.pd _ _ (.bool _))
      · rename_i ms hu
        cases h
        cases hx with
        | errN => exact Out.val hS (by simp [eqGuard, run_neq_nil_nil w t (hu' _ hu)]) (.pd _ _ (.bool _))
        | errS u x => exact Out.val hS (by simp [eqGuard, run_neq_held_nil w t u x (hu' _ hu)]) (.pd _ _ (.bool _))
      · cases h
    · cases h
  · cases h
def mpGet (l : List (List UInt8 × Int)) (s : List UInt8) : Int × Bool := match l.find? (fun p => p.1 == s) with | some p => (p.2, true) | none => (0, false)
def aLookup (P : Program) (t : TypeId) (x y : AV) (ok : Bool) : Option AV :=
  match P.underlying t, x, y, ok with
  | some (.map k e), .pd (.mp l), .pd (.str s), true =>
    match P.underlying k, (P.info? e).bind (·.zero) with
    | some .string, some (.int .i64 (Int.ofNat 0)) => some (.tup [.pd (.int .i64 (mpGet l s).1), .pd (.bool (mpGet l s).2)])
    | _, _ => none
  | _, _, _, _ => none
theorem strV_eq {a b : List UInt8} : ((⟨a.toArray⟩ : ByteArray) == ⟨b.toArray⟩) = (a == b) := by
  have inj : (⟨a.toArray⟩ : ByteArray) = ⟨b.toArray⟩ → a = b := fun h => by
    have := congrArg (fun x : ByteArray => x.data.toList) h
    simpa using this
  have hb : ∀ x y : ByteArray, (x == y) = true ↔ x = y := MapKept.bytes_beq
  by_cases h : a = b
  · subst h
    rw [(hb _ _).2 rfl]; simp
  · have h1 : ¬ ((⟨a.toArray⟩ : ByteArray) == ⟨b.toArray⟩) = true := fun e => h (inj ((hb _ _).1 e))
    have h2 : ¬ (a == b) = true := by simpa using h
    rw [Bool.not_eq_true] at h1 h2
    rw [h1, h2]
theorem find_mp (s : List UInt8) : ∀ (l : List (List UInt8 × Int)) (n i : Nat), ∃ j, Instr.findNow .string (strV s) (mpEntL n l) i = some (match l.find? (fun p => p.1 == s) with | some p => some (j, .int .i64 p.2) | none => none)
  | [], n, i => ⟨0, rfl⟩
  | p :: l, n, i => by
    obtain ⟨j, hj⟩ := find_mp s l (n + 1) (i + 1)
    rw [mpEntL, Instr.findNow]
    have e : Instr.sameNow .string (strV s) (strV p.1) = some (s == p.1) := by
      unfold strV; simp only [Instr.sameNow]; rw [strV_eq]
    rw [e]
    by_cases h : p.1 = s
    · have h1 : (s == p.1) = true := by simp [h]
      have h2 : (p.1 == s) = true := by simp [h]
      rw [h1, List.find?_cons, h2]
      exact ⟨i, rfl⟩
    · have h1 : (s == p.1) = false := by simp; exact fun e => h e.symm
      have h2 : (p.1 == s) = false := by simpa using h
      rw [h1, List.find?_cons, h2]
      exact ⟨j, hj⟩
theorem aLookup_ok {t : TypeId} {x y z : AV} {v u : Value} {ok : Bool} (hS : Sim B I0 c M w) (hx : ARep c M w v x) (hy : ARep c M w u y) (h : aLookup P t x y ok = some z) : Out P B I0 c M w (Instr.lookup t v u ok) z M := by
  unfold aLookup at h
  split at h
  · rename_i k e l s ht
    split at h
    · rename_i hk he
      cases h
      rw [Option.bind_eq_some_iff] at he
      obtain ⟨ti, he1, he2⟩ := he
      cases hx with
      | pd _ _ hx =>
      cases hx with
      | mp r _ hI hb =>
      cases hy with
      | pd _ _ hy =>
      cases hy with
      | str =>
      obtain ⟨j, hj⟩ := find_mp s l 0 0
      have hf : (Instr.findKey k (strV s) (mpEnt l).toList).run P w = .ok (match l.find? (fun p => p.1 == s) with | some p => some (j, .int .i64 p.2) | none => none) w := MapKept.run_findKey hk (by simpa [mpEnt] using hj)
      have hc : ∀ em, (Instr.checkKey em 10000 k (strV s)).run P w = .ok () w := fun em => MapKept.run_checkKey (n := 9999) hk (by simp [strV, MapKept.IsKey]) em
      refine ⟨.tuple #[.int .i64 (mpGet l s).1, .bool (mpGet l s).2], w, c, ?_, ?_, hS, Ext.refl _ _, Stp.refl _ _ _⟩
      · unfold mpGet
        cases hq : l.find? (fun p => p.1 == s) with
        | some p =>
          rw [hq] at hf
          simp [Instr.lookup, run_underlying ht, MapKept.run_getObj_map hb, hc, hf, Result.andThen]
        | none =>
          rw [hq] at hf
          simp [Instr.lookup, run_underlying ht, MapKept.run_getObj_map hb, hc, hf, Result.andThen, zeroValue, typeInfo, he1, he2]
      · refine .tup _ _ (by simp) fun i v x h1 h2 => ?_
        match i with
        | 0 => simp at h1 h2; subst h1 h2; exact .pd _ _ (.int _ _)
        | 1 => simp at h1 h2; subst h1 h2; exact .pd _ _ (.bool _)
        | i + 2 => simp at h2
    · cases h
  · cases h
def aop (P : Program) (ρ : Operand → AV) (M : Mem) (o : Op) : Option (AV × Mem) :=
  match o with
  | .move x => some (ρ x, M)
  | .assign x => some (ρ x, M)
  | .pick k a b => match ρ k with | .pd (.bool t) => some (if t then ρ a else ρ b, M) | _ => none
  | .alloc t => (zeroOf P t).bind (aBox M)
  | .box _ x => aBox M (ρ x)
  | .build t parts => (aBuild P M t (parts.toList.map fun p => (p.1, ρ p.2))).map (·, M)
  | .buildSlice t n parts => (aBuildSlice P M t n (parts.toList.map fun p => (p.1, ρ p.2))).map (·, M)
  | .load t a => (aLoad P M t (ρ a)).map (·, M)
  | .store t a x => (aStore P M t (ρ a) (ρ x)).map (AV.junk, ·)
  | .nilCheck x => (aNil M (ρ x)).map (·, M)
  | .binOp op t x y _ => (bif isNilK y then (aBin P op t (ρ x) (ρ y)).or (aNilQ P M op t (ρ x) y) else aBin P op t (ρ x) (ρ y)).map (·, M)
  | .unOp op _ x => (aUn op (ρ x)).map (·, M)
  | .convert s d x => (aConv P M s d (ρ x)).map (·, M)
  | .makeFunc (.func f) first caps => some (.fn (.func f) (first.toList.map ρ) (caps.toList.map ρ), M)
  | .makeSlice t l k => aMake P M t (ρ l) (ρ k)
  | .slice t x lo hi mx => (aSlice P M t (ρ x) (lo.map ρ) (hi.map ρ) (mx.map ρ)).map (·, M)
  | .fieldAddr s x f => (aFieldAddr P M s (ρ x) f).map (·, M)
  | .field t x f => (aField P t (ρ x) f).map (·, M)
  | .indexAddr t x i => (aIndexAddr P M t (ρ x) (ρ i)).map (·, M)
  | .index t x i => (aIndex P t (ρ x) (ρ i)).map (·, M)
  | .range t x => aRange P M t (ρ x)
  | .next it isS => aNext M (ρ it) isS
  | .extract x i => (aExtract (ρ x) i).map (·, M)
  | .lookup t x y ok => (aLookup P t (ρ x) (ρ y) ok).map (·, M)
  | .call { callee := .builtin b, args, argTypes } => aBuiltin P M b argTypes (args.toList.map ρ)
  | _ => none
def OutO (P : Program) (B : Nat) (I0 : Nat → Prop) (c : Ctx) (M : Mem) (w : World) (ρ : Operand → Value) (o : Oper) (x : AV) (M' : Mem) : Prop :=
  ∃ n v' w' c', (execOp ρ o).run P w = .ok n w' ∧ (n = .value v' ∨ (n = .skip ∧ v' = undef)) ∧ ARep c' M' w' v' x ∧ Sim B I0 c' M' w' ∧ Ext c M c' M' ∧ Stp B c w c' w'
theorem OutO.val {ρ : Operand → Value} {o : Oper} {s : Sem Value} {x : AV} {M' : Mem} (h : Out P B I0 c M w s x M') (he : ∀ v' w', s.run P w = .ok v' w' → (execOp ρ o).run P w = .ok (.value v') w') : OutO P B I0 c M w ρ o x M' := by
  obtain ⟨v', w', c', h1, h2, h3, h4, h5⟩ := h
  exact ⟨_, v', w', c', he _ _ h1, .inl rfl, h2, h3, h4, h5⟩
theorem parts_rep {ρr : Operand → Value} {ρ : Operand → AV} (hρ : ∀ x, ARep c M w (ρr x) (ρ x)) : ∀ (ps : List (Nat × Operand)), PartsRep c M w (ps.map fun p => (p.1, ρr p.2)) (ps.map fun p => (p.1, ρ p.2))
  | [] => trivial
  | (_, x) :: ps => ⟨rfl, hρ x, parts_rep hρ ps⟩
theorem opt_rep {ρr : Operand → Value} {ρ : Operand → AV} (hρ : ∀ x, ARep c M w (ρr x) (ρ x)) (x : Option Operand) : OptRep c M w (x.map ρr) (x.map ρ) := by
  cases x with
  | none => trivial
  | some x => exact hρ x
theorem list_rep {ρr : Operand → Value} {ρ : Operand → AV} (hρ : ∀ x, ARep c M w (ρr x) (ρ x)) (xs : Array Operand) : (xs.map ρr).size = (xs.toList.map ρ).length ∧ ∀ (i : Nat) (v : Value) (x : AV), (xs.map ρr)[i]? = some v → (xs.toList.map ρ)[i]? = some x → ARep c M w v x := by
  refine ⟨by simp, fun i v x h1 h2 => ?_⟩
  simp only [Array.getElem?_map, List.getElem?_map, Option.map_eq_some_iff, Array.getElem?_toList] at h1 h2
  obtain ⟨a, h1, rfl⟩ := h1
  obtain ⟨b, h2, rfl⟩ := h2
  rw [h1] at h2; cases h2
  exact hρ a
theorem tolist {α : Type} {a : Array α} {l : List α} (h : a.toList = l) : a = l.toArray := by rw [← h]
theorem arr1 {α : Type} (a : Array α) (h : a.size = 1) : ∃ x, a = #[x] := by
  obtain ⟨l⟩ := a
  match l with
  | [x] => exact ⟨x, rfl⟩
  | [] => simp at h
  | _ :: _ :: _ => simp at h
theorem arr2 {α : Type} (a : Array α) (h : a.size = 2) : ∃ x y, a = #[x, y] := by
  obtain ⟨l⟩ := a
  match l with
  | [x, y] => exact ⟨x, y, rfl⟩
  | [] => simp at h
  | [_] => simp at h
  | _ :: _ :: _ :: _ => simp at h
theorem aop_ok {ρr : Operand → Value} {ρ : Operand → AV} {o : Oper} {x : AV} {M' : Mem} (hS : Sim B I0 c M w) (hρ : ∀ x, ARep c M w (ρr x) (ρ x)) (hk : ∀ v, ρr (.const v) = v) (h : aop P ρ M o.op = some (x, M')) : OutO P B I0 c M w ρr o x M' := by
  have same : ∀ {α : Option AV}, α.map (·, M) = some (x, M') → α = some x ∧ M' = M := by
    intro α h
    rw [Option.map_eq_some_iff] at h
    obtain ⟨a, h1, h2⟩ := h
    cases h2; exact ⟨h1, rfl⟩
  unfold aop at h
  split at h
  case h_1 a ho => cases h; exact ⟨_, _, w, c, by simp [execOp, ho], .inl rfl, hρ _, hS, Ext.refl _ _, Stp.refl _ _ _⟩
  case h_2 a ho => cases h; exact ⟨_, _, w, c, by simp [execOp, ho], .inl rfl, hρ _, hS, Ext.refl _ _, Stp.refl _ _ _⟩
  case h_3 k a b ho =>
    split at h
    · rename_i t hk
      cases h
      have hk' := hρ k
      rw [hk] at hk'
      generalize hkv : ρr k = kv at hk'
      cases hk' with
      | pd v p hp =>
        cases hp
        cases t
        · exact ⟨_, _, w, c, by simp [execOp, ho, hkv, asBool], .inl rfl, hρ b, hS, Ext.refl _ _, Stp.refl _ _ _⟩
        · exact ⟨_, _, w, c, by simp [execOp, ho, hkv, asBool], .inl rfl, hρ a, hS, Ext.refl _ _, Stp.refl _ _ _⟩
    · cases h
  case h_4 t ho =>
    rw [Option.bind_eq_some_iff] at h
    obtain ⟨z, hz, h⟩ := h
    exact .val (aAlloc_ok hS hz h) fun v' w' hr => by simp [execOp, ho, hr]
  case h_5 t a ho => exact .val (aBox_ok (t := t) hS (hρ a) h) fun v' w' hr => by simp [execOp, ho, hr]
  case h_6 t parts ho =>
    obtain ⟨hh, rfl⟩ := same h
    refine .val (aBuild_ok (ps := parts.map fun (i, x) => (i, ρr x)) hS ?_ hh) fun v' w' hr => by simp [execOp, ho, hr]
    have := parts_rep hρ parts.toList
    simpa using this
  case h_7 t n parts ho =>
    obtain ⟨hh, rfl⟩ := same h
    refine .val (aBuildSlice_ok (ps := parts.map fun (i, x) => (i, ρr x)) hS ?_ hh) fun v' w' hr => by simp [execOp, ho, hr]
    have := parts_rep hρ parts.toList
    simpa using this
  case h_8 t a ho => obtain ⟨hh, rfl⟩ := same h; exact .val (aLoad_ok hS (hρ a) hh) fun v' w' hr => by simp [execOp, ho, hr]
  case h_9 t a b ho =>
    rw [Option.map_eq_some_iff] at h
    obtain ⟨M'', h, h2⟩ := h
    cases h2
    obtain ⟨w', c', h1, h2, h3, h4⟩ := aStore_ok hS (hρ a) (hρ b) h
    exact ⟨.skip, undef, w', c', by simp [execOp, ho, h1], .inr ⟨rfl, rfl⟩, .junk _, h2, h3, h4⟩
  case h_10 a ho =>
    obtain ⟨hh, rfl⟩ := same h
    have ha := hρ a
    unfold aNil at hh
    split at hh
    · rename_i b off ver hb
      split at hh
      · rename_i hv
        cases hh
        rw [hb] at ha
        generalize hva : ρr a = va at ha
        cases ha with
        | ptr v b off ver h1 h2 h3 =>
          have h3' := h3 hv
          subst h3'
          exact ⟨_, _, w, c, by simp [execOp, ho, hva], .inl rfl, .ptr _ _ _ _ h1 h2 h3, hS, Ext.refl _ _, Stp.refl _ _ _⟩
      · cases hh
    · rename_i l hb
      cases hh
      rw [hb] at ha
      generalize hva : ρr a = va at ha
      cases ha with
      | rd a' l f h1 h2 h3 h4 => exact ⟨_, _, w, c, by simp [execOp, ho, hva], .inl rfl, .rd _ _ f h1 h2 h3 h4, hS, Ext.refl _ _, Stp.refl _ _ _⟩
    · rename_i f l1 l2 hb
      cases hh
      rw [hb] at ha
      generalize hva : ρr a = va at ha
      cases ha with
      | fn f v1 v2 l1 l2 h1 h2 r1 r2 => exact ⟨_, _, w, c, by simp [execOp, ho, hva], .inl rfl, .fn _ _ _ _ _ h1 h2 r1 r2, hS, Ext.refl _ _, Stp.refl _ _ _⟩
    · cases hh
  case h_11 op t a b t2 ho =>
    obtain ⟨hh, rfl⟩ := same h
    have hh : aBin P op t (ρ a) (ρ b) = some x ∨ aNilQ P M' op t (ρ a) b = some x := by
      cases hn : isNilK b with
      | false => rw [hn] at hh; exact .inl hh
      | true => rw [hn] at hh; exact (Option.or_eq_some_iff.1 hh).imp id (·.2)
    rcases hh with hh | hh
    · exact .val (aBin_ok (ox := a) (oy := b) hS (hρ a) (hρ b) hh) fun v' w' hr => by simp only [execOp, ho]; rw [Sem.run_bind, hr]; rfl
    · exact .val (aNilQ_ok (ox := a) (oy := b) hS hk (hρ a) hh) fun v' w' hr => by simp only [execOp, ho]; rw [Sem.run_bind, hr]; rfl
  case h_12 op t a ho => obtain ⟨hh, rfl⟩ := same h; exact .val (aUn_ok hS (hρ a) hh) fun v' w' hr => by simp [execOp, ho, hr]
  case h_13 s d a ho => obtain ⟨hh, rfl⟩ := same h; exact .val (aConv_ok hS (hρ a) hh) fun v' w' hr => by simp [execOp, ho, hr]
  case h_14 f first caps ho =>
    cases h
    obtain ⟨a1, a2⟩ := list_rep hρ first
    obtain ⟨b1, b2⟩ := list_rep hρ caps
    exact ⟨_, _, w, c, by simp [execOp, ho, Instr.makeFunc], .inl rfl, .fn _ _ _ _ _ a1 b1 a2 b2, hS, Ext.refl _ _, Stp.refl _ _ _⟩
  case h_15 t l k ho => exact .val (aMake_ok hS (hρ l) (hρ k) h) fun v' w' hr => by simp [execOp, ho, hr]
  case h_16 t a lo hi mx ho => obtain ⟨hh, rfl⟩ := same h; exact .val (aSlice_ok hS (hρ a) (opt_rep hρ lo) (opt_rep hρ hi) (opt_rep hρ mx) hh) fun v' w' hr => by simp [execOp, ho, hr]
  case h_17 s a f ho => obtain ⟨hh, rfl⟩ := same h; exact .val (aFieldAddr_ok hS (hρ a) hh) fun v' w' hr => by simp [execOp, ho, hr]
  case h_18 t a f ho => obtain ⟨hh, rfl⟩ := same h; exact .val (aField_ok hS (hρ a) hh) fun v' w' hr => by simp [execOp, ho, hr]
  case h_19 t a i ho => obtain ⟨hh, rfl⟩ := same h; exact .val (aIndexAddr_ok hS (hρ a) (hρ i) hh) fun v' w' hr => by simp [execOp, ho, hr]
  case h_20 t a i ho => obtain ⟨hh, rfl⟩ := same h; exact .val (aIndex_ok hS (hρ a) (hρ i) hh) fun v' w' hr => by simp [execOp, ho, hr]
  case h_21 t a ho => exact .val (aRange_ok hS (hρ a) h) fun v' w' hr => by simp [execOp, ho, hr]
  case h_22 it isS ho => exact .val (aNext_ok (ty := o.type) hS (hρ it) h) fun v' w' hr => by simp [execOp, ho, hr]
  case h_23 a i ho => obtain ⟨hh, rfl⟩ := same h; exact .val (aExtract_ok hS (hρ a) hh) fun v' w' hr => by simp [execOp, ho, hr]
  case h_24 tt a i ok ho => obtain ⟨hh, rfl⟩ := same h; exact .val (aLookup_ok hS (hρ a) (hρ i) hh) fun v' w' hr => by simp [execOp, ho, hr]
  case h_25 b args ts ho =>
    have sz : ∀ (l : List AV), args.toList.map ρ = l → args.size = l.length := fun l hl => by rw [← hl]; simp
    unfold aBuiltin at h
    split at h
    · rename_i t x' hts hl
      obtain rfl := tolist hts
      obtain ⟨hh, rfl⟩ := same h
      have h1 := sz _ hl
      obtain ⟨a, rfl⟩ := arr1 args h1
      simp at hl; subst hl
      exact .val (aLen_ok (ty := o.type) hS (hρ a) hh) fun v' w' hr => by simp [execOp, ho, resolve, invoke, builtin, hr]
    · rename_i sT xT s' x' hts hl
      obtain rfl := tolist hts
      have h1 := sz _ hl
      obtain ⟨a, b, rfl⟩ := arr2 args h1
      simp at hl; obtain ⟨rfl, rfl⟩ := hl
      exact .val (aAppend_ok (ty := o.type) hS (hρ a) (hρ b) h) fun v' w' hr => by simp [execOp, ho, resolve, invoke, builtin, hr]
    · rename_i dT xT d' x' hts hl
      obtain rfl := tolist hts
      have h1 := sz _ hl
      obtain ⟨a, b, rfl⟩ := arr2 args h1
      simp at hl; obtain ⟨rfl, rfl⟩ := hl
      exact .val (aCopy_ok (xT := xT) (ty := o.type) hS (hρ a) (hρ b) h) fun v' w' hr => by simp [execOp, ho, resolve, invoke, builtin, hr]
    · rename_i x' y' hl
      obtain ⟨hh, rfl⟩ := same h
      have h1 := sz _ hl
      obtain ⟨a, b, rfl⟩ := arr2 args h1
      simp at hl; obtain ⟨rfl, rfl⟩ := hl
      exact .val (aMin_ok (ts := ts) (t := o.type) hS (hρ a) (hρ b) hh) fun v' w' hr => by simp [execOp, ho, resolve, invoke, builtin, hr]
    · rename_i x' y' hl
      obtain ⟨hh, rfl⟩ := same h
      have h1 := sz _ hl
      obtain ⟨a, b, rfl⟩ := arr2 args h1
      simp at hl; obtain ⟨rfl, rfl⟩ := hl
      exact .val (aMax_ok (ts := ts) (t := o.type) hS (hρ a) (hρ b) hh) fun v' w' hr => by simp [execOp, ho, resolve, invoke, builtin, hr]
    · cases h
  case h_26 => cases h
end Go.Abs
end
