/- Part of a proof, in few files: Abs28 Abs29 GT. -/
import Derived.Test.YthkcibhfbcfhlaaGreatDoorDChK13
import Derived.Lib.LaidTab
import Derived.Lib.Fields
import Derived.Lib.Join
import Derived.Lib.IndexMore
import Derived.Lib.Bytealg
import Derived.Deep.Draws

set_option linter.unusedVariables false
set_option linter.unusedSimpArgs false
set_option linter.unnecessarySimpa false
section
namespace Go.Abs
open Go.RowKit Go.Proofs
variable {P : Program} {GT : Tabs} {M : Mem} {t et : TypeId} {k : IntKind} {α : Type}
def LVok (lv : α → List PD) (s : Nat) : Prop := ∀ x, (lv x).length = s ∧ (lv x).all (fun p => match p with | .agg _ => false | _ => true) = true
def ELok (el : α → PD) (lv : α → List PD) : Prop := ∀ x, (el x).leaves = lv x
theorem ask_idx {el : α → PD} {lv : α → List PD} {s : Nat} (h1 : LVok lv s) (h2 : ELok el lv) (hu : P.underlying t = some (.slice et)) (hz : szOf P et = some s) {e : List α} {z : Int} {x : α} (h : Idx e z x) :
  (aIndexAddr P M t (.pd (.sl (e.map el))) (.pd (.int k z))).map (·, M) = some (.rd (lv x), M) := by
 obtain ⟨h0, hx⟩ := h
 have hlt := (List.getElem?_eq_some_iff.1 hx).1
 have hi : idx z (e.map el).length = some z.toNat := by simp [idx]; omega
 simp [aIndexAddr, hu, hz] at *
 simp [hi, hx, h2 x, (h1 x).1]
theorem ask_len {el : α → PD} (hu : P.underlying t = some (.slice et)) {e : List α} : (aLen P M t (.pd (.sl (e.map el)))).map (·, M) = some (.pd (.int .i64 (e.length : Int)), M) := by
 simp [aLen, lenN, hu, lenSl]
theorem ask_quoK {a b : Int} (hb : b ≠ 0) : (aBin P .quo t (.pd (.int k a)) (.pd (.int k b))).map (·, M) = some (.pd (.int k (k.wrap (a.tdiv b))), M) := by
 simp [aBin, arithI, isShift, hb]
theorem ask_remK {a b : Int} (hb : b ≠ 0) : (aBin P .rem t (.pd (.int k a)) (.pd (.int k b))).map (·, M) = some (.pd (.int k (a.tmod b)), M) := by
 simp [aBin, arithI, isShift, hb]
theorem ask_shl {k2 : IntKind} {a b : Int} (hb : 0 ≤ b) : (aBin P .shl t (.pd (.int k a)) (.pd (.int k2 b))).map (·, M) = some (.pd (.int k (k.wrap (a * 2 ^ (min b.toNat k.bits)))), M) := by
 have : ¬ b < 0 := by omega
 simp [aBin, shiftI, isShift, this]
theorem ask_shr {k2 : IntKind} {a b : Int} (hb : 0 ≤ b) : (aBin P .shr t (.pd (.int k a)) (.pd (.int k2 b))).map (·, M) = some (.pd (.int k (a.fdiv (2 ^ (min b.toNat k.bits)))), M) := by
 have : ¬ b < 0 := by omega
 simp [aBin, shiftI, isShift, this]
theorem ask_sidx (hu : P.underlying t = some .string) {s : List UInt8} {z : Int} {b : UInt8} (h : Idx s z b) : (aIndex P t (.pd (.str s)) (.pd (.int k z))).map (·, M) = some (.pd (.int .u8 ((b.toNat : Nat) : Int)), M) := by
 obtain ⟨h0, hx⟩ := h
 have hlt := (List.getElem?_eq_some_iff.1 hx).1
 have hi : idx z s.length = some z.toNat := by simp [idx]; omega
 simp [aIndex, hu, AV.int?, aIndexS, hi, hx]
theorem ask_next {b pos : Nat} {s : List UInt8} (hM : M[b]? = some (.iter s pos)) (h : decide (pos < s.length) = true) :
  aNext M (.it b) true = some (.tup [.pd (.bool true), .pd (.int .i64 ((pos : Nat) : Int)), .pd (.int .i32 (runeAt s pos))], M.set b (.iter s (pos + runeLen s pos))) := by
 have h' : pos < s.length := of_decide_eq_true h
 simp [aNext, hM, h', runeAt, runeLen]
theorem ask_next0 {b pos : Nat} {s : List UInt8} (hM : M[b]? = some (.iter s pos)) (h : decide (pos < s.length) = false) : aNext M (.it b) true = some (.tup [.pd (.bool false)], M) := by
 have h' : ¬ pos < s.length := of_decide_eq_false h
 simp [aNext, hM, h']
theorem nat_some {z : Int} (h : 0 ≤ z) : AV.nat? (.pd (.int k z)) = some z.toNat := by simp [AV.nat?, AV.int?, h]
def loOf (z : Option Int) : Int := z.getD 0
def hiOf (n : Nat) (z : Option Int) : Int := z.getD n
theorem optNat_some {z : Option Int} (h : ∀ x, z = some x → 0 ≤ x) : optNat (z.map fun z => AV.pd (.int k z)) = some (z.map Int.toNat) := by
 cases z with
 | none => rfl
 | some x => simp [optNat, nat_some (h x rfl)]
theorem ask_sub {el : α → PD} {lv : α → List PD} {s : Nat} (h1 : LVok lv s) (h2 : ELok el lv) (hu : P.underlying t = some (.slice et)) (hz : szOf P et = some s) {e : List α} {lo hi : Option Int} (h : SubOk e (loOf lo) (hiOf e.length hi)) :
  (aSlice P M t (.pd (.sl (e.map el))) (lo.map fun z => .pd (.int .i64 z)) (hi.map fun z => .pd (.int .i64 z)) none).map (·, M) = some (.pd (.sl ((sub e (loOf lo) (hiOf e.length hi)).map el)), M) := by
 obtain ⟨a1, a2, a3⟩ := h
 have l1 : optNat (lo.map fun z => AV.pd (.int .i64 z)) = some (lo.map Int.toNat) := optNat_some (by rintro x rfl; exact a1)
 have l2 : optNat (hi.map fun z => AV.pd (.int .i64 z)) = some (hi.map Int.toNat) := optNat_some (by rintro x rfl; simp [hiOf] at *; omega)
 have e1 : (lo.map Int.toNat).getD 0 = (loOf lo).toNat := by cases lo <;> rfl
 have e2 : (hi.map Int.toNat).getD (e.map el).length = (hiOf e.length hi).toNat := by cases hi <;> simp [hiOf]
 have hun : uni s (e.map el) = true := by simp [uni, h2 _, (h1 _).1]
 unfold aSlice
 rw [l1, l2]
 simp only [optNat, hu, e1, e2, hz, Option.any_some, hun]
 rw [if_pos ⟨by omega, by simp; omega, trivial⟩]
 simp [sub, List.map_take, List.map_drop]
def rowC (lv : α → List PD) (e : List α) : List AV := e.flatMap fun x => (lv x).map .pd
theorem rowC_cons (lv : α → List PD) (x : α) (e : List α) : rowC lv (x :: e) = (lv x).map .pd ++ rowC lv e := by simp [rowC]
theorem rowC_append (lv : α → List PD) (a b : List α) : rowC lv (a ++ b) = rowC lv a ++ rowC lv b := by simp [rowC]
theorem rowC_length {lv : α → List PD} {s : Nat} (h : LVok lv s) (e : List α) : (rowC lv e).length = e.length * s := by
 induction e with
 | nil => simp [rowC]
 | cons x e ih => rw [rowC_cons, List.length_append, ih, List.length_map, (h x).1, List.length_cons, Nat.add_mul, Nat.one_mul, Nat.add_comm]
theorem rowC_take {lv : α → List PD} {s : Nat} (h : LVok lv s) (e : List α) (n : Nat) : (rowC lv e).take (n * s) = rowC lv (e.take n) := by
 induction e generalizing n with
 | nil => simp [rowC]
 | cons x e ih =>
  cases n with
  | zero => simp [rowC]
  | succ n =>
   have hl : ((lv x).map AV.pd).length = s := by simp [(h x).1]
   rw [rowC_cons, List.take_succ_cons, rowC_cons, ← ih, List.take_append, hl, List.take_of_length_le (by rw [hl, Nat.add_mul]; omega)]
   congr 2; rw [Nat.add_mul]; omega
theorem rowC_drop {lv : α → List PD} {s : Nat} (h : LVok lv s) (e : List α) (n : Nat) : (rowC lv e).drop (n * s) = rowC lv (e.drop n) := by
 induction e generalizing n with
 | nil => simp [rowC]
 | cons x e ih =>
  cases n with
  | zero => simp [rowC]
  | succ n =>
   have hl : ((lv x).map AV.pd).length = s := by simp [(h x).1]
   rw [rowC_cons, List.drop_succ_cons, ← ih, List.drop_append, hl, List.drop_of_length_le (by rw [hl, Nat.add_mul]; omega), List.nil_append]
   congr 1; rw [Nat.add_mul]; omega
theorem rowC_at {lv : α → List PD} {s : Nat} (h : LVok lv s) {e : List α} {i : Nat} {x : α} (hx : e[i]? = some x) : ((rowC lv e).drop (i * s)).take s = (lv x).map .pd := by
 have hlt := (List.getElem?_eq_some_iff.1 hx).1
 rw [rowC_drop h, List.drop_eq_getElem_cons hlt, rowC_cons]
 have : e[i] = x := (List.getElem?_eq_some_iff.1 hx).2
 rw [this, List.take_append_of_le_length (by simp [(h x).1]), List.take_of_length_le (by simp [(h x).1])]
theorem rowC_get {lv : α → List PD} {s : Nat} (h : LVok lv s) {e : List α} {i j : Nat} {x : α} (hx : e[i]? = some x) (hj : j < s) : (rowC lv e)[i * s + j]? = ((lv x).map AV.pd)[j]? := by
 have := rowC_at h hx
 rw [← this, List.getElem?_take, if_pos hj, List.getElem?_drop]
theorem rowC_set {lv : α → List PD} {s : Nat} (h : LVok lv s) {e : List α} {i : Nat} {x y : α} (hx : e[i]? = some x) : (rowC lv e).take (i * s) ++ (lv y).map .pd ++ (rowC lv e).drop (i * s + s) = rowC lv (e.set i y) := by
 have hlt := (List.getElem?_eq_some_iff.1 hx).1
 have e1 : i * s + s = (i + 1) * s := by rw [Nat.add_mul, Nat.one_mul]
 rw [e1, rowC_take h, rowC_drop h, List.set_eq_take_append_cons_drop, if_pos hlt, rowC_append, rowC_cons, List.append_assoc]
theorem ok_all {lv : α → List PD} {s : Nat} (h : LVok lv s) (x : α) : ((lv x).map AV.pd).all (·.okCell M) = true := by
 rw [List.all_map, List.all_eq_true]
 intro p hp
 have := List.all_eq_true.1 (h x).2 p hp
 cases p <;> first | rfl | cases this
theorem ok_row {lv : α → List PD} {s : Nat} (h : LVok lv s) (e : List α) : (rowC lv e).all (·.okCell M) = true := by
 rw [List.all_eq_true]
 intro p hp
 simp only [rowC, List.mem_flatMap] at hp
 obtain ⟨x, _, hx⟩ := hp
 exact List.all_eq_true.1 (ok_all h x) p hx
theorem bel_row {lv : α → List PD} (n : Nat) (e : List α) : (rowC lv e).all (bel2 n) = true := by
 rw [List.all_eq_true]
 intro p hp
 simp only [rowC, List.mem_flatMap, List.mem_map] at hp
 obtain ⟨x, _, y, _, rfl⟩ := hp
 rfl
def RowIs (o : Ob) (lv : α → List PD) (s : Nat) (e : List α) (ver : Nat) (z : Bool) : Prop := o = .cells (rowC lv e) s ver z ∨ (e = [] ∧ o = .vrow s ver ∧ z = false)
def rowV (lv : α → List PD) (s : Nat) (e : List α) (ver : Nat) (z : Bool) : Ob := match e with | [] => .vrow s ver | x :: e => .cells (rowC lv (x :: e)) s ver z
theorem rowIs_c {lv : α → List PD} {s : Nat} {e : List α} {ver : Nat} {z : Bool} : RowIs (.cells (rowC lv e) s ver z) lv s e ver z := .inl rfl
theorem rowIs_v {lv : α → List PD} {s : Nat} {e : List α} {ver : Nat} : RowIs (rowV lv s e ver false) lv s e ver false := by
 cases e with
 | nil => exact .inr ⟨rfl, rfl, rfl⟩
 | cons x e => exact .inl rfl
theorem bel_rowV {lv : α → List PD} {s : Nat} {e : List α} {ver : Nat} (n : Nat) : belO n (rowV lv s e ver false) = true := by
 cases e with
 | nil => rfl
 | cons x e => exact bel_row n (x :: e)
theorem bel_rowO {lv : α → List PD} {s : Nat} {e : List α} {ver : Nat} {z : Bool} (n : Nat) : belO n (.cells (rowC lv e) s ver z) = true := bel_row n e
theorem RowIs.some {o : Ob} {lv : α → List PD} {s : Nat} {e : List α} {ver : Nat} {z : Bool} (h : RowIs o lv s e ver z) {i : Nat} {x : α} (hx : e[i]? = some x) : o = .cells (rowC lv e) s ver z := by
 rcases h with h | ⟨rfl, _⟩
 ·exact h
 ·simp at hx
theorem RowIs.ver {o : Ob} {lv : α → List PD} {s : Nat} {e : List α} {ver : Nat} {z : Bool} (h : RowIs o lv s e ver z) : o.ver = ver := by
 rcases h with rfl | ⟨_, rfl, _⟩ <;> rfl
section own
variable {lv : α → List PD} {s : Nat} {b ver : Nat} {z : Bool} {e : List α} {o : Ob}
theorem ask_olen (hu : P.underlying t = some (.slice et)) (hM : M[b]? = some o) (hr : RowIs o lv s e ver z) {n : Nat} (hn : n = e.length) : (aLen P M t (.own b n ver)).map (·, M) = some (.pd (.int .i64 (e.length : Int)), M) := by
 subst hn
 have : verOf M b = ver := by rw [verOf_some hM, hr.ver]
 simp [aLen, lenN, hu, lenSl, this]
theorem ask_oidx (hu : P.underlying t = some (.slice et)) (hz : szOf P et = some s) (hM : M[b]? = some o) (hr : RowIs o lv s e ver z) {n : Nat} (hn : n = e.length) {i : Int} {x : α} (h : Idx e i x) :
  (aIndexAddr P M t (.own b n ver) (.pd (.int k i))).map (·, M) = some (.ptr b (i.toNat * s) ver, M) := by
 subst hn
 obtain ⟨h0, hx⟩ := h
 have hlt := (List.getElem?_eq_some_iff.1 hx).1
 have ho := hr.some hx
 subst ho
 have hi : idx i e.length = some i.toNat := by simp [idx]; omega
 simp [aIndexAddr, hu, hz, hM, hi]
theorem ask_oload {i : Int} {x : α} {y : PD} (h1 : LVok lv 1) (ha : aggT P t = some false) (hz : szOf P t = some 1) (hM : M[b]? = some o) (hr : RowIs o lv 1 e ver z) (h : Idx e i x) (hy : lv x = [y]) :
  (aLoad P M t (.ptr b (i.toNat * 1) ver)).map (·, M) = some (.pd y, M) := by
 have ho := hr.some h.2
 subst ho
 have := rowC_get h1 h.2 (j := 0) (by omega)
 simp [hy] at this
 simp [aLoad, ha, hz, hM, this]
theorem ask_oloadA {i : Int} {x : α} (h1 : LVok lv s) (ha : aggT P t = some true) (hz : szOf P t = some s) (hM : M[b]? = some o) (hr : RowIs o lv s e ver z) (h : Idx e i x) :
  (aLoad P M t (.ptr b (i.toNat * s) ver)).map (·, M) = some (.agg ((lv x).map .pd), M) := by
 have ho := hr.some h.2
 subst ho
 have hlt := (List.getElem?_eq_some_iff.1 h.2).1
 have hle : i.toNat * s + s ≤ (rowC lv e).length := by
  rw [rowC_length h1]
  have : (i.toNat + 1) * s ≤ e.length * s := Nat.mul_le_mul_right _ hlt
  rw [Nat.add_mul] at this; omega
 simp [aLoad, ha, hz, hM, hle, rowC_at h1 h.2]
theorem ask_ostore {i : Int} {x y : α} {X : AV} (h1 : LVok lv s) (hz : szOf P t = some s) (hM : M[b]? = some o) (hr : RowIs o lv s e ver false) (h : Idx e i x) (hX : X.cells = some ((lv y).map .pd)) :
  (aStore P M t (.ptr b (i.toNat * s) ver) X).map (AV.junk, ·) = some (.junk, M.set b (.cells (rowC lv (e.set i.toNat y)) s ver false)) := by
 have ho := hr.some h.2
 subst ho
 have hlt := (List.getElem?_eq_some_iff.1 h.2).1
 have hle : i.toNat * s + s ≤ (rowC lv e).length := by
  rw [rowC_length h1]
  have : (i.toNat + 1) * s ≤ e.length * s := Nat.mul_le_mul_right _ hlt
  rw [Nat.add_mul] at this; omega
 unfold aStore
 simp only [hz, hX, hM]
 rw [if_pos ⟨trivial, by simp [(h1 y).1], hle, ok_all h1 y⟩, rowC_set h1 h.2]
 rfl
theorem list_part {α : Type} (l : List α) (a s off m : Nat) (xs : List α) (h1 : off + m ≤ s) (h2 : a + s ≤ l.length) :
  l.take (a + off) ++ xs ++ l.drop (a + off + m) = l.take a ++ (((l.drop a).take s).take off ++ xs ++ ((l.drop a).take s).drop (off + m)) ++ l.drop (a + s) := by
 have e1 : l.take (a + off) = l.take a ++ ((l.drop a).take s).take off := by rw [List.take_add, List.take_take, Nat.min_eq_left (by omega)]
 have e2 : l.drop (a + off + m) = ((l.drop a).take s).drop (off + m) ++ l.drop (a + s) := by
  have e3 : l.drop (a + off + m) = (l.drop a).drop (off + m) := by rw [List.drop_drop]; congr 1; omega
  have e4 : l.drop (a + s) = (l.drop a).drop s := by rw [List.drop_drop]
  rw [e3, e4]
  conv => lhs; rw [← List.take_append_drop s (l.drop a)]
  rw [List.drop_append_of_le_length (by rw [List.length_take, List.length_drop]; omega)]
 rw [e1, e2]
 simp only [List.append_assoc]
theorem ask_ostoreF {i : Int} {x y : α} {X : AV} {xs : List AV} {off m : Nat} (h1 : LVok lv s) (hz : szOf P t = some m) (hM : M[b]? = some o) (hr : RowIs o lv s e ver false) (h : Idx e i x) (hX : X.cells = some xs) (hxl : Nat.beq xs.length m = true) (hm : Nat.ble (off + m) s = true) (hok : xs.all (·.okCell M) = true) (hy : (lv y).map AV.pd = ((lv x).map AV.pd).take off ++ xs ++ ((lv x).map AV.pd).drop (off + m)) :
  (aStore P M t (.ptr b (i.toNat * s + off) ver) X).map (AV.junk, ·) = some (.junk, M.set b (.cells (rowC lv (e.set i.toNat y)) s ver false)) := by
 have hxl := Nat.eq_of_beq_eq_true hxl
 have hm := Nat.le_of_ble_eq_true hm
 have ho := hr.some h.2
 subst ho
 have hlt := (List.getElem?_eq_some_iff.1 h.2).1
 have hle : i.toNat * s + s ≤ (rowC lv e).length := by
  rw [rowC_length h1]
  have : (i.toNat + 1) * s ≤ e.length * s := Nat.mul_le_mul_right _ hlt
  rw [Nat.add_mul] at this; omega
 unfold aStore
 simp only [hz, hX, hM]
 rw [if_pos ⟨trivial, hxl, by omega, hok⟩, list_part _ _ s off m xs hm hle, rowC_at h1 h.2, ← hy, rowC_set h1 h.2]
 rfl
theorem ask_ostoreFV {i : Int} {x y : α} {X : AV} {xs : List AV} {off m : Nat} (h1 : LVok lv s) (hz : szOf P t = some m) (hM : M[b]? = some o) (hr : RowIs o lv s e ver false) (h : Idx e i x) (hX : X.cells = some xs) (hxl : Nat.beq xs.length m = true) (hm : Nat.ble (off + m) s = true) (hok : xs.all (·.okCell M) = true) (hy : (lv y).map AV.pd = ((lv x).map AV.pd).take off ++ xs ++ ((lv x).map AV.pd).drop (off + m)) :
  (aStore P M t (.ptr b (i.toNat * s + off) ver) X).map (AV.junk, ·) = some (.junk, M.set b (rowV lv s (e.set i.toNat y) ver false)) := by
 rw [ask_ostoreF h1 hz hM hr h hX hxl hm hok hy]
 have hlt := (List.getElem?_eq_some_iff.1 h.2).1
 cases hs : e.set i.toNat y with
 | nil => have := congrArg List.length hs; simp at this; subst this; simp at hlt
 | cons a l => rfl
theorem ask_ostoreV {i : Int} {x y : α} {X : AV} (h1 : LVok lv s) (hz : szOf P t = some s) (hM : M[b]? = some o) (hr : RowIs o lv s e ver false) (h : Idx e i x) (hX : X.cells = some ((lv y).map .pd)) :
  (aStore P M t (.ptr b (i.toNat * s) ver) X).map (AV.junk, ·) = some (.junk, M.set b (rowV lv s (e.set i.toNat y) ver false)) := by
 rw [ask_ostore h1 hz hM hr h hX]
 have hlt := (List.getElem?_eq_some_iff.1 h.2).1
 cases hs : e.set i.toNat y with
 | nil => have := congrArg List.length hs; simp at this; subst this; simp at hlt
 | cons a l => rfl
theorem ls_set {n : Nat} {e : List α} {i : Nat} {x : α} (h : n = e.length) : n = (e.set i x).length := by rw [List.length_set]; exact h
def Src (M : Mem) (s : Nat) (x : AV) (lv : α → List PD) (e : List α) : Prop := srcCells M s x = some (rowC lv e, e.length)
theorem flat_map {el : α → PD} {lv : α → List PD} (h2 : ELok el lv) (e : List α) : (flat (e.map el)).map AV.pd = rowC lv e := by
 induction e with
 | nil => rfl
 | cons x e ih => rw [rowC_cons, List.map_cons, flat, List.flatMap_cons, List.map_append, h2 x]; congr 1
theorem src_pd {el : α → PD} {lv : α → List PD} {s : Nat} (h1 : LVok lv s) (h2 : ELok el lv) {e : List α} : Src M s (.pd (.sl (e.map el))) lv e := by
 have hun : uni s (e.map el) = true := by simp [uni, h2 _, (h1 _).1]
 simp [Src, srcCells, hun, flat_map h2]
theorem src_fixed {el : α → PD} {lv : α → List PD} {s : Nat} (h1 : LVok lv s) (h2 : ELok el lv) {e : List α} : Src M s (.fixed (e.map el)) lv e := by
 have hun : uni s (e.map el) = true := by simp [uni, h2 _, (h1 _).1]
 simp [Src, srcCells, hun, flat_map h2]
def RowInfoOk (P : Program) (sT xT : TypeId) (s by_ : Nat) : Bool :=
 match elemT P sT with
 | some e => match rowInfo P e with | some (s', b', z) => Nat.beq s' s && Nat.beq b' by_ && Nat.beq z.cells.size s && Nat.blt 0 by_ && noInt P xT | none => false
 | none => false
theorem rowInfo_ok {P : Program} {sT xT : TypeId} {s by_ : Nat} (h : RowInfoOk P sT xT s by_ = true) : ∃ e z, elemT P sT = some e ∧ rowInfo P e = some (s, by_, z) ∧ z.cells.size = s ∧ 0 < by_ ∧ noInt P xT = true := by
 unfold RowInfoOk at h
 split at h
 ·rename_i e he
  split at h
  ·rename_i s' b' z hz
   simp only [Bool.and_eq_true, Nat.blt_eq] at h
   obtain ⟨⟨⟨⟨q1, q2⟩, h3⟩, h4⟩, h5⟩ := h
   obtain rfl := Nat.eq_of_beq_eq_true q1
   obtain rfl := Nat.eq_of_beq_eq_true q2
   exact ⟨e, z, he, hz, Nat.eq_of_beq_eq_true h3, h4, h5⟩
  ·cases h
 ·cases h
def vnext (e e2 : List α) (v : Nat) : Nat := match e, e2 with | [], [] => v | _, _ => v + 1
theorem ask_app {sT xT : TypeId} {by_ : Nat} {x : AV} {e2 : List α} (h1 : LVok lv s) (hi : RowInfoOk P sT xT s by_ = true) (hs : Src M s x lv e2) (hM : M[b]? = some (.cells (rowC lv e) s ver false)) {n : Nat} (hn : n = e.length) (hf : Fits (e.length + e2.length) by_) :
  aAppend P M sT xT (.own b n ver) x = some (.own b (e ++ e2).length (ver + 1), M.set b (.cells (rowC lv (e ++ e2)) s (ver + 1) false)) := by
 subst hn
 obtain ⟨et, z, a1, a2, a3, a4, a5⟩ := rowInfo_ok hi
 unfold aAppend
 simp only [a1, a2]
 rw [hs]
 simp only [a5, a3, a4, ok_row h1 e2, hM, and_self, if_true]
 have hf' : (e.length + e2.length) * by_ ≤ maxB := hf
 rw [if_pos ⟨trivial, trivial, hf'⟩, rowC_take h1, List.take_length, List.length_append, rowC_append]
theorem ask_appV {sT xT : TypeId} {by_ : Nat} {x : AV} {e2 : List α} (h1 : LVok lv s) (hi : RowInfoOk P sT xT s by_ = true) (hs : Src M s x lv e2) (hM : M[b]? = some (rowV lv s e ver false)) {n : Nat} (hn : n = e.length) (hf : Fits (e.length + e2.length) by_) :
  aAppend P M sT xT (.own b n ver) x = some (.own b (e ++ e2).length (vnext e e2 ver), M.set b (rowV lv s (e ++ e2) (vnext e e2 ver) false)) := by
 subst hn
 cases e with
 | cons y e =>
  have hM' : M[b]? = some (.cells (rowC lv (y :: e)) s ver false) := hM
  rw [ask_app h1 hi hs hM' rfl hf]; rfl
 | nil =>
  obtain ⟨et, z, a1, a2, a3, a4, a5⟩ := rowInfo_ok hi
  have hM' : M[b]? = some (.vrow s ver) := hM
  unfold aAppend
  simp only [a1, a2]
  rw [hs]
  simp only [a5, a3, a4, ok_row h1 e2, hM', and_self, if_true]
  have hf' : e2.length * by_ ≤ maxB := by have h' : (0 + e2.length) * by_ ≤ maxB := hf; rwa [Nat.zero_add] at h'
  rw [if_pos ⟨trivial, trivial, hf'⟩]
  cases e2 with
  | nil =>
   simp only [List.length_nil, if_true, List.append_nil, vnext]
   have : M.set b (rowV lv s ([] : List α) ver false) = M := by
    apply List.ext_getElem?
    intro j
    rw [List.getElem?_set]
    split
    ·rename_i hj; subst hj
     rw [if_pos (List.getElem?_eq_some_iff.1 hM').1, hM']; rfl
    ·rfl
   rw [this]
  | cons y e2 => rfl
theorem ask_appF {sT xT : TypeId} {by_ : Nat} {x : AV} {el : α → PD} {e2 : List α} (h1 : LVok lv s) (h2 : ELok el lv) (hi : RowInfoOk P sT xT s by_ = true) (hs : Src M s x lv e2) (hn : e2.length ≠ 0) (hf : Fits (e.length + e2.length) by_) :
  aAppend P M sT xT (.fixed (e.map el)) x = some (.own M.length (e ++ e2).length 0, M ++ [.cells (rowC lv (e ++ e2)) s 0 false]) := by
 obtain ⟨et, z, a1, a2, a3, a4, a5⟩ := rowInfo_ok hi
 have hun : uni s (e.map el) = true := by simp [uni, h2 _, (h1 _).1]
 unfold aAppend
 simp only [a1, a2]
 rw [hs]
 simp only [a5, a3, a4, ok_row h1 e2, and_self, if_true]
 have hf' : ((e.map el).length + e2.length) * by_ ≤ maxB := by rw [List.length_map]; exact hf
 rw [if_neg hn, if_pos ⟨hun, hf'⟩, flat_map h2, rowC_append, List.length_append, List.length_map]
theorem ask_app0 {sT xT : TypeId} {by_ : Nat} {x : AV} {el : α → PD} {e2 : List α} (h1 : LVok lv s) (_ : ELok el lv) (hi : RowInfoOk P sT xT s by_ = true) (hs : Src M s x lv e2) (hn : e2.isEmpty = true) :
  aAppend P M sT xT (.fixed (e.map el)) x = some (.fixed (e.map el), M) := by
 obtain ⟨et, z, a1, a2, a3, a4, a5⟩ := rowInfo_ok hi
 obtain rfl : e2 = [] := by simpa using hn
 unfold aAppend
 simp only [a1, a2]
 rw [hs]
 simp only [a5, a3, a4, ok_row h1 ([] : List α), and_self, if_true, List.length_nil]
theorem ne_of_isEmpty {e2 : List α} (h : e2.isEmpty = false) : e2.length ≠ 0 := by
 cases e2 with
 | nil => cases h
 | cons x l => simp
def ZeroOk (P : Program) (t : TypeId) (s by_ : Nat) (zs : List AV) : Prop := ∃ e z, elemT P t = some e ∧ rowInfo P e = some (s, by_, z) ∧ z.cells.size = s ∧ ((zAV z).bind AV.cells).map (·.map nilPd) = some zs ∧ 0 < s ∧ zs.length = s
theorem repCells_row {lv : α → List PD} {s : Nat} (h : LVok lv s) (z : α) (n : Nat) : repCells ((lv z).map .pd) n = rowC lv (List.replicate n z) := by
 apply List.ext_getElem?
 intro i
 have hl := rowC_length h (List.replicate n z)
 have hz : ((lv z).map AV.pd).length = s := by simp [(h z).1]
 by_cases hi : i < n * s
 ·have hs : 0 < s := by rcases Nat.eq_zero_or_pos s with h0 | h0; · subst h0; simp at hi
                        ·exact h0
  have e1 : i = i / s * s + i % s := by rw [Nat.mul_comm]; exact (Nat.div_add_mod i s).symm
  have hd : i / s < n := Nat.div_lt_of_lt_mul (by rw [Nat.mul_comm]; exact hi)
  have hm := Nat.mod_lt i hs
  have g := rowC_get h (e := List.replicate n z) (i := i / s) (j := i % s) (x := z) (by simp [hd]) hm
  rw [← e1] at g
  rw [g, repCells, hz, List.getElem?_map, List.getElem?_range hi]
  simp only [Option.map_some]
  rw [List.getD_eq_getElem?_getD]
  have : i % s < ((lv z).map AV.pd).length := by rw [hz]; exact hm
  rw [List.getElem?_eq_getElem this]; rfl
 ·rw [List.getElem?_eq_none (l := rowC lv (List.replicate n z)) (by rw [hl]; simpa using hi), List.getElem?_eq_none (by rw [repCells, List.length_map, List.length_range, hz]; omega)]
theorem ask_make {lv : α → List PD} {by_ : Nat} {n : Int} {z : α} (h1 : LVok lv s) (hz : ZeroOk P t s by_ ((lv z).map .pd)) (h0 : 0 ≤ n) (hf : Fits n.toNat by_) (hf1 : Fits n.toNat 1) :
  aMake P M t (.pd (.int k n)) (.pd (.int k n)) = some (.own M.length (List.replicate n.toNat z).length 0, M ++ [.cells (rowC lv (List.replicate n.toNat z)) s 0 false]) := by
 obtain ⟨e, v, a1, a2, a3, a4, a5, a6⟩ := hz
 have hf' : by_ * n.toNat ≤ maxB := by rw [Nat.mul_comm]; exact hf
 have hf1' : n.toNat ≤ maxB := by have h' : n.toNat * 1 ≤ maxB := hf1; omega
 rw [Option.map_eq_some_iff] at a4
 obtain ⟨zs0, a4, a7⟩ := a4
 have a8 : zs0.length = s := by have := congrArg List.length a7; rw [List.length_map] at this; omega
 have a9 : zs0.all (·.okCell M) = true := by
  rw [List.all_eq_true]
  intro y hy
  have hy2 : nilPd y ∈ (lv z).map AV.pd := a7 ▸ List.mem_map_of_mem hy
  cases y with
  | fixed l => rfl
  | pd p => exact List.all_eq_true.1 (ok_all h1 z) _ hy2
  | _ => simp [nilPd] at hy2
 unfold aMake
 rw [a1, nat_some h0]
 simp only [a2, a4]
 rw [if_pos ⟨trivial, a5, a3, a8, hf', a9, hf1'⟩, a7, repCells_row h1, List.length_replicate]
theorem pdCell_row {lv : α → List PD} {s : Nat} (h1 : LVok lv s) (e : List α) : (rowC lv e).mapM AV.pdCell = some (e.flatMap lv) := by
 have key : ∀ (l : List PD), l.all (fun p => match p with | .agg _ => false | _ => true) = true → (l.map AV.pd).mapM AV.pdCell = some l := by
  intro l
  induction l with
  | nil => intro _; rfl
  | cons p l ih =>
   intro h
   rw [List.all_cons, Bool.and_eq_true] at h
   rw [List.map_cons, List.mapM_cons, ih h.2]
   cases p <;> first | rfl | cases h.1
 have : rowC lv e = (e.flatMap lv).map .pd := by simp [rowC, List.map_flatMap]
 rw [this]
 refine key _ ?_
 rw [List.all_eq_true]
 intro p hp
 rw [List.mem_flatMap] at hp
 obtain ⟨x, _, hx⟩ := hp
 exact List.all_eq_true.1 (h1 x).2 p hx
theorem group_row {el : α → PD} {lv : α → List PD} {s : Nat} (h1 : LVok lv s) (hs : 0 < s) (hg : ∀ x, el x = if (s != 1) = true then .agg (lv x) else (lv x).getD 0 default) (e : List α) : group (s != 1) s e.length (e.flatMap lv) = e.map el := by
 apply List.ext_getElem?
 intro i
 by_cases hi : i < e.length
 ·have key : ∀ (e : List α) (i : Nat) (x : α), e[i]? = some x → ((e.flatMap lv).drop (i * s)).take s = lv x := by
   intro e
   induction e with
   | nil => intro i x h; simp at h
   | cons y e ih =>
    intro i x h
    have hy := (h1 y).1
    cases i with
    | zero => simp at h; subst h; rw [Nat.zero_mul, List.drop_zero, List.flatMap_cons, List.take_append_of_le_length (by omega), List.take_of_length_le (by omega)]
    | succ i =>
     simp at h
     rw [List.flatMap_cons, List.drop_append, List.drop_of_length_le (by rw [hy, Nat.add_mul]; omega), List.nil_append, hy]
     have : (i + 1) * s - s = i * s := by rw [Nat.add_mul]; omega
     rw [this]; exact ih i x h
  have hx : e[i]? = some e[i] := List.getElem?_eq_getElem hi
  have k := key e i _ hx
  simp only [group, List.getElem?_map, List.getElem?_range hi, hx, Option.map_some, hg]
  congr 1
  by_cases h : (s != 1) = true
  ·rw [if_pos h, if_pos h, k]
  ·rw [if_neg h, if_neg h]
   have hs1 : s = 1 := by simpa using h
   rw [← k, List.getD_eq_getElem?_getD, List.getD_eq_getElem?_getD, List.getElem?_take, if_pos hs, List.getElem?_drop, hs1]
   simp
 ·rw [List.getElem?_eq_none (by simpa [group] using hi), List.getElem?_eq_none (by simpa using hi)]
def ELg (el : α → PD) (lv : α → List PD) (s : Nat) : Prop := ∀ x, el x = if (s != 1) = true then .agg (lv x) else (lv x).getD 0 default
theorem own_pd {el : α → PD} (h1 : LVok lv s) (hs : 0 < s) (hg : ELg el lv s) (hM : M[b]? = some o) (hr : RowIs o lv s e ver z) {n : Nat} (hn : n = e.length) : ownPD M b n ver = some (.sl (e.map el)) := by
 subst hn
 rcases hr with rfl | ⟨rfl, rfl, _⟩
 ·simp only [ownPD, hM]
  rw [if_pos ⟨trivial, hs⟩, rowC_take h1, List.take_length, pdCell_row h1]
  simp only [Option.map_some]
  rw [group_row h1 hs hg]
 ·simp [ownPD, hM]
theorem pure1_own {el : α → PD} (h1 : LVok lv s) (hs : 0 < s) (hg : ELg el lv s) (hM : M[b]? = some o) (hr : RowIs o lv s e ver z) {n : Nat} (hn : n = e.length) : pure1 M (.own b n ver) = some (.pd (.sl (e.map el))) := by
 simp [pure1, own_pd h1 hs hg hM hr hn]
end own
theorem pure_1to2 {x y : AV} (h : pure1 M x = some y) (hx : (match x with | .agg _ => false | _ => true) = true) : pure2 M x = some y := by
 cases x <;> first | exact h | cases hx
theorem pure_2to3 {x y : AV} (h : pure2 M x = some y) (hx : (match x with | .tup _ => false | _ => true) = true) : pure3 M x = some y := by
 cases x <;> first | exact h | cases hx
theorem pl_nil {f : AV → Option AV} : List.mapM f [] = some [] := rfl
theorem pl_cons {f : AV → Option AV} {x y : AV} {xs ys : List AV} (h : f x = some y) (k : xs.mapM f = some ys) : (x :: xs).mapM f = some (y :: ys) := by
 rw [List.mapM_cons, h, k]; rfl
theorem pure_agg {l l' : List AV} (h : l.mapM (pure1 M) = some l') : pure2 M (.agg l) = some (.agg l') := by simp [pure2, h]
theorem pure_tup {l l' : List AV} (h : l.mapM (pure2 M) = some l') : pure3 M (.tup l) = some (.tup l') := by simp [pure3, h]
theorem H_endX {w : W} {fn : Func} {R : AV → Prop} (e : Exit) (rv r : AV) (M : Mem) (hv : w.view = .done e) (he : endOk e = true) (hr : resOf P fn w.stS.T (shut w.stS.M w.stS.D) = some rv) (hM : shut w.stS.M w.stS.D = M) (hp : pure3 M rv = some r) (h : R r) : w.holds P GT (EndQ P fn R) := by
 refine H_end e r hv he ?_ h
 unfold endVal
 rw [hr, hM]; exact hp
theorem H_askK {w : W} {Q : Exit → S → Prop} (x : AV) (M : Mem) (hv : w.view = .ask (some (x, M))) (h : (w.back x M).holds P GT Q) : w.holds P GT Q := H_ask x M hv rfl h
theorem frz_c {b : Nat} {l : List AV} {s ver : Nat} {z : Bool} (h : M[b]? = some (.cells l s ver z)) : frz M b = M.set b (.cells l s ver true) := by simp [frz, h]
theorem frz_v {lv : α → List PD} {b s : Nat} {e : List α} {ver : Nat} {z : Bool} (h : M[b]? = some (rowV lv s e ver z)) : frz M b = M.set b (rowV lv s e ver true) := by
 cases e with
 | nil =>
  have h' : M[b]? = some (.vrow s ver) := h
  have : M.set b (rowV lv s ([] : List α) ver true) = M := by
   apply List.ext_getElem?
   intro j
   rw [List.getElem?_set]
   split
   ·rename_i hj; subst hj
    rw [if_pos (List.getElem?_eq_some_iff.1 h').1, h']; rfl
   ·rfl
  rw [this]; simp [frz, h']
 | cons x e => exact frz_c h
theorem rowIs_v' {lv : α → List PD} {s : Nat} {e : List α} {ver : Nat} {z : Bool} : RowIs (rowV lv s e ver z) lv s e ver (z && !e.isEmpty) := by
 cases e with
 | nil => exact .inr ⟨rfl, rfl, by simp⟩
 | cons x e => left; simp [rowV]
theorem all_n {β : Type} {f : β → Bool} : List.all [] f = true := rfl
theorem all_c {β : Type} {f : β → Bool} {x : β} {l : List β} (h : f x = true) (k : l.all f = true) : (x :: l).all f = true := by rw [List.all_cons, h, k]; rfl
theorem ask_lookup {P : Program} {M : Mem} {t k e : TypeId} {l : List (List UInt8 × Int)} {s : List UInt8} {n : Int} {b : Bool} (hu : P.underlying t = some (.map k e)) (hk : P.underlying k = some .string) (hz : (P.info? e).bind (·.zero) = some (.int .i64 0)) (hx : mpGet l s = (n, b)) :
  ((aLookup P t (.pd (.mp l)) (.pd (.str s)) true).or (aLookM P M t (.pd (.mp l)) (.pd (.str s)) true)).map (·, M) = some (.tup [.pd (.int .i64 n), .pd (.bool b)], M) := by
 unfold aLookup
 rw [hu]
 simp only
 rw [hk, hz]
 show some _ = _
 rw [hx]
def askG (L : List Nat) (v : Bool) : Op → Bool
 | .indexAddr .. | .index .. | .slice .. | .makeSlice .. | .load .. | .store .. | .next .. | .fieldAddr .. | .nilCheck .. | .build .. | .box .. | .lookup .. | .mapUpdate .. | .entry .. => true
 | .binOp op t _ y _ => match op with | .shl | .shr | .quo | .rem => true | .add => L.any (Nat.beq t) | .eql | .neq => isNilK y | _ => false
 | .convert _ d _ => L.any (Nat.beq d)
 | .assign (.const (.slice none 0 0)) => v
 | .call { callee := .builtin b, .. } => match b with | .append | .copy | .len => true | _ => false
 | _ => false
end Go.Abs
end

section
namespace Go.Abs
open Go.RowKit Go.Proofs
variable {P : Program} {GT : Tabs}
theorem ASpec.of_calls {f : FuncId} {args : List AV} (r : AV) (hp : r.pure = true) (h : ∀ (c : Ctx) (w : World) (vs : Array Value), ArgsRep c [] w vs args → GRep GT c w → (∀ b, c.imm b → b < w.heap.size) →
  Calls P f vs w fun e w' => ∃ v, e = .returned v ∧ Below w.heap.size w w' ∧ ARep (c.grown w w') [] w' v r) : ASpec P GT f args (· = r) := by
 intro B I0 c w vs n hS hG hA
 rw [callsIn_wide]
 refine (h c w vs hA hG hS.immlt).mono ?_
 rintro e w' ⟨v, rfl, hb, hv⟩
 exact ⟨v, r, [], c.grown w w', rfl, ⟨rfl, hp, rfl⟩, hv, hS.grown hb, Ext.nil _ _, Stp.grown hS.hB hS.immlt hb⟩
theorem args_at {c : Ctx} {M : Mem} {w : World} {vs : Array Value} {xs : List AV} (h : ArgsRep c M w vs xs) (i : Nat) {x : AV} (hx : xs[i]? = some x) : ∃ v, vs[i]? = some v ∧ ARep c M w v x := by
 have hlt := (List.getElem?_eq_some_iff.1 hx).1
 have hlt' : i < vs.size := by rw [h.1]; exact hlt
 exact ⟨vs[i], Array.getElem?_eq_getElem hlt', h.2 i _ x (Array.getElem?_eq_getElem hlt') hx⟩
theorem vs1 {vs : Array Value} {a : Value} (hs : vs.size = 1) (h0 : vs[0]? = some a) : vs = #[a] := by
 apply Array.ext_getElem?
 intro i
 match i with
 | 0 => simpa using h0
 | i + 1 => rw [Array.getElem?_eq_none (by omega)]; simp
theorem vs2 {vs : Array Value} {a b : Value} (hs : vs.size = 2) (h0 : vs[0]? = some a) (h1 : vs[1]? = some b) : vs = #[a, b] := by
 apply Array.ext_getElem?
 intro i
 match i with
 | 0 => simpa using h0
 | 1 => simpa using h1
 | i + 2 => rw [Array.getElem?_eq_none (by omega)]; simp
theorem str_inv {c : Ctx} {M : Mem} {w : World} {v : Value} {s : List UInt8} (h : ARep c M w v (.pd (.str s))) : v = .string ⟨s.toArray⟩ := by
 cases h with
 | pd v x h => cases h; rfl
theorem strs_rep {I : Nat → Prop} {w : World} {b n : Nat} {l : List Bz} {e : TypeId} {z : Nat × Nat} (hb : w.heap[b]? = some (.cells (l.map fun s => Value.string ⟨s.toArray⟩).toArray e z)) (hI : I b) (hn : n = l.length) : PRep I w (.slice (some ⟨b, 0, none⟩) n n) (.sl (l.map PD.str)) := by
 refine .sl ⟨b, 0, none⟩ n n 1 _ (fun i _ => .string ⟨(l.getD i []).toArray⟩) (fun _ => rfl) (by simpa using hn) (Nat.le_refl _) (fun _ => hI) (fun i x hx => ?_) (fun i j hi hj => ?_) fun i j x y hx hy => ?_
 ·simp only [List.getElem?_map, Option.map_eq_some_iff] at hx
  obtain ⟨s, _, rfl⟩ := hx; rfl
 ·have hj0 : j = 0 := by omega
  subst hj0
  simp [World.cell?, hb, List.getD_eq_getElem?_getD, show i < l.length by omega]
 ·simp only [List.getElem?_map, Option.map_eq_some_iff] at hx
  obtain ⟨s, hs, rfl⟩ := hx
  cases j with
  | zero => simp [PD.leaves] at hy; subst hy; simp only [List.getD_eq_getElem?_getD, hs]; exact .str _
  | succ j => simp [PD.leaves] at hy
theorem glob_tab {c : Ctx} {w : World} {name : String} {k : IntKind} {zs : List Int} {g : Nat} (h : GRep GT c w) (hg : GT g = some (zs.map (PD.int k))) (hn : P.globalNamed name = some g) : Lib.TabIs P w name k zs := by
 obtain ⟨h1, h2, cs, e, z, h3, h4⟩ := h g _ hg
 unfold Lib.TabIs World.var?
 rw [hn]
 simp only [Option.bind_some, h3]
 congr 1
 generalize hv : Value.pointer (some ⟨g, 0, none⟩) = v at h1
 cases h1 with
 | rd a l f hsp hI hc hr =>
  cases hv
  apply Array.ext_getElem?
  intro i
  by_cases hi : i < zs.length
  ·have := hc i (by simpa using hi)
   have hy := hr i (.int k zs[i]) (by simp [hi])
   simp [World.cell?, h3] at this
   rw [this]
   generalize f i = u at hy
   cases hy
   simp [hi]
  ·rw [Array.getElem?_eq_none (by rw [h4]; simpa using hi), Array.getElem?_eq_none (by simpa using hi)]
theorem glob_int {c : Ctx} {w : World} {k : IntKind} {m : Int} {g : Nat} (h : GRep GT c w) (hg : GT g = some [PD.int k m]) : w.cell? ⟨g, 0, none⟩ = some (.int k m) := by
 obtain ⟨h1, _⟩ := h g _ hg
 generalize hv : Value.pointer (some ⟨g, 0, none⟩) = v at h1
 cases h1 with
 | rd a l f hsp hI hc hr =>
  cases hv
  have h2 := hc 0 (by simp)
  have hy := hr 0 (.int k m) rfl
  generalize f 0 = u at h2 hy
  cases hy; exact h2
theorem below_alloc {w : World} (o : Obj) : Below w.heap.size w (w.alloc o) := (Below.refl _ _).alloc (Nat.le_refl _) _
theorem below_drewN {w : World} (n : Nat) : Below w.heap.size w (w.drewN n) := ⟨rfl, rfl, rfl, Nat.le_refl _, fun _ _ => rfl⟩
theorem strs_spec {f : FuncId} {args : List AV} {l : List Bz} (h : ∀ (c : Ctx) (w : World) (vs : Array Value), ArgsRep c [] w vs args → GRep GT c w → ∃ e, Calls P f vs w fun en w' => en = .returned (.slice (some ⟨w.heap.size, 0, none⟩) l.length l.length) ∧ w' = w.alloc (.cells (l.map fun s => Value.string ⟨s.toArray⟩).toArray e)) :
  ASpec P GT f args (· = .pd (.sl (l.map PD.str))) := by
 refine ASpec.of_calls _ (by simp [AV.pure]) fun c w vs hA hG hlt => ?_
 obtain ⟨e, hc⟩ := h c w vs hA hG
 refine hc.mono ?_
 rintro en w' ⟨rfl, rfl⟩
 refine ⟨_, rfl, below_alloc _, .pd _ _ (strs_rep (e := e) (z := (0, 0)) ?_ (.inr ⟨Nat.le_refl _, by simp⟩) rfl)⟩
 exact World.alloc_heap_new _ _
theorem str_spec {f : FuncId} {args : List AV} {s : List UInt8} (h : ∀ (c : Ctx) (w : World) (vs : Array Value), ArgsRep c [] w vs args → GRep GT c w → (∀ b, c.imm b → b < w.heap.size) → Calls P f vs w fun en w' => en = .returned (.string ⟨s.toArray⟩) ∧ Below w.heap.size w w') :
  ASpec P GT f args (· = .pd (.str s)) := by
 refine ASpec.of_calls _ (by simp [AV.pure]) fun c w vs hA hG hlt => (h c w vs hA hG hlt).mono ?_
 rintro en w' ⟨rfl, hb⟩
 exact ⟨_, rfl, hb, .pd _ _ (.str s)⟩
theorem strs_inv {I : Nat → Prop} {w : World} {v : Value} {l : List Bz} (h : PRep I w v (.sl (l.map PD.str))) : (v = .slice none 0 0 ∧ l = []) ∨
  ∃ a cap, v = .slice (some a) l.length cap ∧ l.length ≤ cap ∧ (0 < l.length → a.spot = none ∧ I a.block) ∧ ∀ (j : Nat) (s : List UInt8), l[j]? = some s → w.cell? ⟨a.block, a.off + j, none⟩ = some (.string ⟨s.toArray⟩) := by
 generalize hx : PD.sl (l.map PD.str) = x at h
 cases h with
 | nil => simp at hx; exact .inl ⟨rfl, hx⟩
 | sl a n cap sz l' f hsp hn hcap hI hsz hc hr =>
  cases hx
  right
  have hn' : n = l.length := by simpa using hn
  subst hn'
  refine ⟨a, cap, rfl, hcap, fun h => ⟨hsp h, hI h⟩, fun j s hs => ?_⟩
  have hlt := (List.getElem?_eq_some_iff.1 hs).1
  have h1 : (l.map PD.str)[j]? = some (.str s) := by simp [hs]
  have hz := hsz j _ h1
  simp [PD.leaves] at hz
  have h2 := hc j 0 hlt (by omega)
  have h3 := hr j 0 _ (.str s) h1 rfl
  rw [← hz] at h2
  simp at h2
  rw [h2]
  generalize f j 0 = u at h3
  cases h3; rfl
 | _ => cases hx
end Go.Abs
end

section
namespace Go.Abs
abbrev Tp := Int × Unit
def gtT (m : Tp) : Tabs := fun g => match g with
 | 0 => some (Lib.asciiSpaceTab.map (PD.int .u8))
 | 2 => some [PD.int .i64 m.1]
 | _ => none
end Go.Abs
end
