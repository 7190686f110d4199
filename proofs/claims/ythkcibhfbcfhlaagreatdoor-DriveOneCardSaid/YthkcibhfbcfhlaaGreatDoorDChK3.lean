/- Part of a proof, in few files: Abs6. -/
import Derived.Test.YthkcibhfbcfhlaaGreatDoorDChK2
import Derived.Laws.CopyRow
import Derived.Laws.BytesArg

set_option linter.unusedVariables false
set_option linter.unusedSimpArgs false
set_option linter.unnecessarySimpa false
section
namespace Go.Abs
open Go.RowKit
variable {P : Program} {B : Nat} {I0 : Nat → Prop} {c : Ctx} {M : Mem} {w : World}
def maxB : Nat := 140737488355328
def aAppend (P : Program) (M : Mem) (sT xT : TypeId) (d x : AV) : Option (AV × Mem) :=
 match elemT P sT with
 | none => none
 | some e =>
  match rowInfo P e with
  | none => none
  | some (s, by_, z) =>
   match srcCells M s x with
   | none => none
   | some (xs, n) =>
    if noInt P xT ∧ 0 < by_ ∧ z.cells.size = s ∧ xs.all (·.okCell M) = true then
     match d with
     | .fixed l =>
      if n = 0 then some (.fixed l, M)
      else if uni s l = true ∧ (l.length + n) * by_ ≤ maxB then some (.own M.length (l.length + n) 0, M ++ [.cells ((flat l).map .pd ++ xs) s 0 false]) else none
     | .own b len ver =>
      match M[b]? with
      | some (.cells l sz ver' false) =>
       if ver' = ver ∧ sz = s ∧ (len + n) * by_ ≤ maxB then some (.own b (len + n) (ver + 1), M.set b (.cells (l.take (len * s) ++ xs) s (ver + 1) false)) else none
      | some (.vrow sz ver') =>
       if ver' = ver ∧ sz = s ∧ n * by_ ≤ maxB then
        if n = 0 then some (.own b 0 ver, M) else some (.own b n (ver + 1), M.set b (.cells xs s (ver + 1) false))
       else none
      | _ => none
     | _ => none
    else none
theorem mul_split {a b c : Nat} (s : Nat) (h : a + b ≤ c) : a * s + b * s + (c - (a + b)) * s = c * s := by
 rw [← Nat.add_mul, ← Nat.add_mul]; congr 1; omega
theorem newRow2_ok (hS : Sim B I0 c M w) (e : TypeId) (us vs : List Value) (tail : Array Value) (xs ys : List AV) (s len cap : Nat)
  (hu : us.length = xs.length) (hv : vs.length = ys.length)
  (r1 : ∀ (j : Nat) (u : Value) (y : AV), us[j]? = some u → xs[j]? = some y → ARep c M w u y) (r2 : ∀ (j : Nat) (u : Value) (y : AV), vs[j]? = some u → ys[j]? = some y → ARep c M w u y)
  (hcap : len ≤ cap) (hsz : cap * s ≤ (us.toArray ++ vs.toArray ++ tail).size) (hl : len * s ≤ (xs ++ ys).length) :
  ∃ c', ARep c' (M ++ [.cells (xs ++ ys) s 0 false]) (w.alloc (.cells (us.toArray ++ vs.toArray ++ tail) e)) (.slice (some ⟨w.heap.size, 0, none⟩) len cap) (.own M.length len 0) ∧
   Sim B I0 c' (M ++ [.cells (xs ++ ys) s 0 false]) (w.alloc (.cells (us.toArray ++ vs.toArray ++ tail) e)) ∧ Ext c M c' (M ++ [.cells (xs ++ ys) s 0 false]) ∧ Stp B c w c' (w.alloc (.cells (us.toArray ++ vs.toArray ++ tail) e)) := by
 obtain ⟨g1, g2, g3, g4, g5, g6⟩ := newRow_ok hS e (us.toArray ++ vs.toArray ++ tail) (xs ++ ys) s (by simp; omega) (by
  intro j x hj
  by_cases hjl : j < xs.length
  ·rw [List.getElem?_append_left hjl] at hj
   have hju : j < us.length := by omega
   refine ⟨us[j], ?_, r1 j _ x (List.getElem?_eq_getElem hju) hj⟩
   rw [Array.append_assoc, Array.getElem?_append_left (by simpa using hju)]; simp [hju]
  ·rw [List.getElem?_append_right (by omega)] at hj
   have hjy := (List.getElem?_eq_some_iff.1 hj).1
   have hjv : j - xs.length < vs.length := by omega
   refine ⟨vs[j - xs.length], ?_, r2 _ _ x (List.getElem?_eq_getElem hjv) hj⟩
   rw [Array.getElem?_append_left (by simp; omega), Array.getElem?_append_right (by simp; omega)]; simp [hu, hjv])
 refine ⟨_, .own _ _ _ _ (by simp) (Nat.zero_le _) fun _ => .inl ⟨cap, xs ++ ys, s, false, g6, ?_, hcap, ?_, hl⟩, g1, g2, g3⟩
 ·rw [g4]
 ·rw [g5]; exact hsz
theorem aAppend_ok {sT xT ty : TypeId} {d x y : AV} {v u : Value} {M' : Mem} (hS : Sim B I0 c M w) (hd : ARep c M w v d) (hx : ARep c M w u x) (h : aAppend P M sT xT d x = some (y, M')) :
  Out P B I0 c M w (Builtin.append_ #[sT, xT] ty #[v, u]) y M' := by
 unfold aAppend at h
 cases he : elemT P sT with
 | none => simp [he] at h
 | some e =>
  cases hri : rowInfo P e with
  | none => simp [he, hri] at h
  | some r =>
   obtain ⟨s, by_, z⟩ := r
   cases hsrc : srcCells M s x with
   | none => simp [he, hri, hsrc] at h
   | some r =>
    obtain ⟨xs, n⟩ := r
    simp only [he, hri, hsrc] at h
    have ht := elemT_some he
    have hL := srcCells_ok (P := P) hS hx hsrc
    obtain ⟨vs, q1, q2, q3⟩ := hL.cells
    have hlen := hL.len
    split at h
    ·rename_i hcond
     obtain ⟨hxT, hb1, hzs, hok⟩ := hcond
     have hfull : vs.take (n * s) = vs := List.take_of_length_le (by omega)
     have hf : (Builtin.firstCells s n u).run P w = .ok vs.toArray w := by rw [q2 w rfl n (Nat.le_refl _), hfull]
     have hfd : (Builtin.firstCells s n u).run P w.drew = .ok vs.toArray w.drew := by rw [q2 w.drew rfl n (Nat.le_refl _), hfull]
     have hone : ∀ y ∈ vs, y.oneCell' = true := by
      intro y hy
      obtain ⟨j, hj⟩ := List.mem_iff_getElem?.1 hy
      have hjl : j < xs.length := by have := (List.getElem?_eq_some_iff.1 hj).1; omega
      exact (q3 j y xs[j] hj (List.getElem?_eq_getElem hjl)).oneCell (List.all_eq_true.1 hok _ (List.getElem_mem hjl))
     have hSd := (hS.same (w' := w.drew) rfl rfl rfl rfl)
     have rd : ∀ (j : Nat) (u : Value) (y : AV), vs[j]? = some u → xs[j]? = some y → ARep c M w.drew u y := fun j u y a b => (q3 j u y a b).mono (Ext.refl _ _).toExt0 hSd.2
     cases hd with
     | fixed a m l hn hp =>
      simp only at h
      split at h
      ·rename_i hn0
       subst hn0
       cases h
       have hvs : vs = [] := List.eq_nil_of_length_eq_zero (by simpa using q1)
       subst hvs
       refine Out.val hS (v' := .slice a m m) ?_ (.fixed a m l hn hp)
       have := run_append_in (P := P) (ty := ty) (base := a) (sLen := m) (sCap := m) ht hxT hri (hL.lenOf w) hf (by omega) (w' := w) (fun a' _ => by simp [storeCells]) (fun _ => rfl)
       simpa using this
      ·rename_i hn0
       split at h
       ·rename_i hc2
        obtain ⟨hu, hmax⟩ := hc2
        cases h
        have hSrc : srcCells M s (.fixed l) = some ((Abs.flat l).map .pd, l.length) := by simp [srcCells, hu]
        have hL2 := srcCells_ok (P := P) hS (ARep.fixed a m l hn hp) hSrc
        obtain ⟨us, p1, p2, p3⟩ := hL2.cells
        have hfo : (Builtin.firstCells s m (.slice a m m)).run P w.drew = .ok us.toArray w.drew := by
         have := p2 w.drew rfl l.length (Nat.le_refl _)
         rw [List.take_of_length_le (by omega), ← hn] at this; exact this
        obtain ⟨cap, tail, hrun, hcap, htail⟩ := run_append_new (P := P) (ty := ty) (base := a) (sLen := m) (sCap := m) ht hxT hri (hL.lenOf w) hfd hfo (by omega) (by rw [hn]; exact hmax) hb1
        obtain ⟨c', k1, k2, k3, k4⟩ := newRow2_ok hSd.1 e us vs tail ((Abs.flat l).map .pd) xs s (l.length + n) cap (by rw [p1, hL2.len]) (by rw [q1, hlen])
         (fun j u y a b => (p3 j u y a b).mono (Ext.refl _ _).toExt0 hSd.2) rd (by omega) (by
          have := mul_split s hcap
          simp only [Array.size_append, List.size_toArray, p1, q1, htail, hzs]
          rw [hn] at this ⊢; omega) (by
          have := hL2.len
          simp only [List.length_append, this, hlen, Nat.add_mul]; omega)
        refine ⟨_, _, c', hrun, ?_, k2, k3, hSd.2.trans k4⟩
        rw [hn]; exact k1
       ·cases h
     | own v b len ver hb hv hp =>
      simp only at h
      split at h
      ·rename_i l sz ver' hM
       split at h
       ·rename_i hc2
        obtain ⟨rfl, rfl, hmax⟩ := hc2
        cases h
        rcases hp (verOf_some hM) with ⟨cap, l2, sz2, z2, hM2, rfl, h5, h6, h7⟩ | ⟨sz2, hM2, _⟩
        ·rw [hM] at hM2; cases hM2
         obtain ⟨cs, e0, g1, g2, g3, g4⟩ := hS.row hM
         by_cases hroom : len + n ≤ cap
         ·-- in place
          have hmul : (len + n) * sz ≤ cap * sz := Nat.mul_le_mul_right _ hroom
          rw [Nat.add_mul] at hmul
          have hst := run_storeCells_at P (c.blk b) (len * sz) e0 vs 0 cs w g1 (by rw [q1]; omega) hone
          simp only [Nat.add_zero] at hst
          obtain ⟨hS', hE, hs⟩ := hS.setRow hM g1 (cs.toList.take (len * sz) ++ vs ++ cs.toList.drop (len * sz + vs.length)).toArray (by simp; omega)
           (l' := l.take (len * sz) ++ xs) (ver' := ver' + 1) (by omega) (fun e => by omega) (by simp; omega) (by
            intro j y hj
            by_cases c1 : j < len * sz
            ·rw [List.getElem?_append_left (by simp; omega), List.getElem?_take, if_pos c1] at hj
             obtain ⟨v', r1, r2⟩ := g4 j y hj
             refine ⟨v', ?_, r2⟩
             rw [List.getElem?_toArray, List.append_assoc, List.getElem?_append_left (by simp; omega), List.getElem?_take, if_pos c1]
             simpa using r1
            ·have e1 : (l.take (len * sz)).length = len * sz := by simp; omega
             rw [List.getElem?_append_right (by omega), e1] at hj
             have hjx := (List.getElem?_eq_some_iff.1 hj).1
             have hjl : j - len * sz < vs.length := by omega
             refine ⟨vs[j - len * sz], ?_, q3 _ _ y (List.getElem?_eq_getElem hjl) hj⟩
             have e2 : (cs.toList.take (len * sz)).length = len * sz := by simp; omega
             rw [List.getElem?_toArray, List.append_assoc, List.getElem?_append_right (by omega), e2, List.getElem?_append_left hjl, List.getElem?_eq_getElem hjl])
          refine ⟨_, _, c, run_append_in (P := P) (ty := ty) (base := some ⟨c.blk b, 0, none⟩) (sLen := len) (sCap := cap) ht hxT hri (hL.lenOf w) hf hroom (fun a' ha => ?_) (by simp), ?_, hS', hE, hs⟩
          ·cases ha
           rw [addr_add _ _ rfl, Nat.zero_add]; exact hst
          ·have hM' : (M.set b (.cells (l.take (len * sz) ++ xs) sz (ver' + 1) false))[b]? = some (.cells (l.take (len * sz) ++ xs) sz (ver' + 1) false) := List.getElem?_set_self hb
           refine .own _ _ _ _ (by simpa using hb) (by rw [verOf_some hM']; exact Nat.le_refl _) fun _ => .inl ⟨cap, _, _, _, hM', rfl, hroom, h6, ?_⟩
           simp only [List.length_append, List.length_take, Nat.add_mul]; omega
         ·-- a new row
          have hSrc : srcCells M sz (.own b len ver') = some (l.take (len * sz), len) := by simp [srcCells, hM]
          have hL2 := srcCells_ok (P := P) hS (ARep.own _ b len ver' hb hv hp) hSrc
          obtain ⟨us, p1, p2, p3⟩ := hL2.cells
          have hfo : (Builtin.firstCells sz len (.slice (some ⟨c.blk b, 0, none⟩) len cap)).run P w.drew = .ok us.toArray w.drew := by
           have := p2 w.drew rfl len (Nat.le_refl _)
           rw [List.take_of_length_le (by omega)] at this; exact this
          obtain ⟨cap', tail, hrun, hcap, htail⟩ := run_append_new (P := P) (ty := ty) (base := some ⟨c.blk b, 0, none⟩) (sLen := len) (sCap := cap) ht hxT hri (hL.lenOf w) hfd hfo (by omega) hmax hb1
          have hl2 := hL2.len
          have hszz : (us.toArray ++ vs.toArray ++ tail).size = cap' * sz := by
           have := mul_split sz hcap
           simp only [Array.size_append, List.size_toArray, p1, q1, htail, hzs]; omega
          have hM' : (M.set b (.cells (l.take (len * sz) ++ xs) sz (ver' + 1) false))[b]? = some (.cells (l.take (len * sz) ++ xs) sz (ver' + 1) false) := List.getElem?_set_self hb
          have hE : Ext c M (c.move b w.drew.heap.size (us.toArray ++ vs.toArray ++ tail).size) (M.set b (.cells (l.take (len * sz) ++ xs) sz (ver' + 1) false)) := Ext.move (o' := .cells (l.take (len * sz) ++ xs) sz (ver' + 1) false) hM rfl (by simp [Ob.ver]) _ _
          have hs : Stp B c w.drew (c.move b w.drew.heap.size (us.toArray ++ vs.toArray ++ tail).size) (w.drew.alloc (.cells (us.toArray ++ vs.toArray ++ tail) e)) := Stp.alloc hSd.1.hB hSd.1.immlt _ _ _
          have hS' := hSd.1.move hM (o' := .cells (l.take (len * sz) ++ xs) sz (ver' + 1) false) rfl (by simp [Ob.ver]) (.cells (us.toArray ++ vs.toArray ++ tail) e) (us.toArray ++ vs.toArray ++ tail).size (by
           refine ⟨_, e, ?_, (upd_self _ _ _).symm, by rw [hszz, List.length_append, hl2, hlen, ← Nat.add_mul]; exact Nat.mul_le_mul_right _ hcap, ?_⟩
           ·show (w.drew.alloc _).heap[upd c.blk b w.drew.heap.size b]? = _
            rw [upd_self]; exact World.alloc_heap_new _ _
           ·intro j x hj
            by_cases hjl : j < (l.take (len * sz)).length
            ·rw [List.getElem?_append_left hjl] at hj
             have hju : j < us.length := by omega
             refine ⟨us[j], ?_, ((p3 j _ x (List.getElem?_eq_getElem hju) hj).mono (Ext.refl _ _).toExt0 hSd.2).mono hE hs⟩
             rw [Array.append_assoc, Array.getElem?_append_left (by simpa using hju)]; simp [hju]
            ·rw [List.getElem?_append_right (by omega)] at hj
             have hjy := (List.getElem?_eq_some_iff.1 hj).1
             have hjv : j - (l.take (len * sz)).length < vs.length := by omega
             refine ⟨vs[j - (l.take (len * sz)).length], ?_, (rd _ _ x (List.getElem?_eq_getElem hjv) hj).mono hE hs⟩
             rw [Array.getElem?_append_left (by simp at hjv ⊢; omega), Array.getElem?_append_right (by simp at hjl ⊢; omega)]
             have : us.length = (l.take (len * sz)).length := by omega
             simp only [List.size_toArray, this]; simp [hjv])
          refine ⟨_, _, _, hrun, ?_, hS', hE, hSd.2.trans hs⟩
          refine .own _ _ _ _ (by simpa using hb) (by rw [verOf_some hM']; exact Nat.le_refl _) fun _ => .inl ⟨cap', _, _, _, hM', ?_, hcap, ?_, ?_⟩
          ·show _ = Value.slice (some ⟨upd c.blk b w.drew.heap.size b, 0, none⟩) _ _
           rw [upd_self]; rfl
          ·show _ ≤ upd c.rsz b _ b
           rw [upd_self, hszz]; exact Nat.le_refl _
          ·simp only [List.length_append, hl2, hlen, Nat.add_mul]; exact Nat.le_refl _
        ·rw [hM] at hM2; cases hM2
       ·cases h
      ·rename_i sz ver' hM
       split at h
       ·rename_i hc2
        obtain ⟨rfl, rfl, hmax⟩ := hc2
        rcases hp (verOf_some hM) with ⟨cap, l2, sz2, z2, hM2, _⟩ | ⟨sz2, hM2, rfl, rfl⟩
        ·rw [hM] at hM2; cases hM2
        split at h
        ·rename_i hn0
         subst hn0
         cases h
         have hvs : vs = [] := List.eq_nil_of_length_eq_zero (by simpa using q1)
         subst hvs
         refine Out.val hS (v' := .slice none 0 0) ?_ (.own _ _ _ _ hb hv hp)
         have := run_append_in (P := P) (ty := ty) (base := none) (sLen := 0) (sCap := 0) ht hxT hri (hL.lenOf w) hf (by omega) (w' := w) (fun a' ha => by cases ha) (fun _ => rfl)
         simpa using this
        ·rename_i hn0
         cases h
         have hfo : (Builtin.firstCells sz 0 (.slice none 0 0)).run P w.drew = .ok (([] : List Value)).toArray w.drew := by simp [Builtin.firstCells]
         obtain ⟨cap', tail, hrun, hcap, htail⟩ := run_append_new (P := P) (ty := ty) (base := none) (sLen := 0) (sCap := 0) ht hxT hri (hL.lenOf w) hfd hfo (by omega) (by rw [Nat.zero_add]; exact hmax) hb1
         have hszz : ((([] : List Value)).toArray ++ vs.toArray ++ tail).size = cap' * sz := by
          have := mul_split sz hcap
          simp only [Array.size_append, List.size_toArray, q1, htail, hzs, List.length_nil]; omega
         have hM' : (M.set b (.cells xs sz (ver' + 1) false))[b]? = some (.cells xs sz (ver' + 1) false) := List.getElem?_set_self hb
         have hE : Ext c M (c.move b w.drew.heap.size ((([] : List Value)).toArray ++ vs.toArray ++ tail).size) (M.set b (.cells xs sz (ver' + 1) false)) := Ext.move (o' := .cells xs sz (ver' + 1) false) hM rfl (by simp [Ob.ver]) _ _
         have hs : Stp B c w.drew (c.move b w.drew.heap.size ((([] : List Value)).toArray ++ vs.toArray ++ tail).size) (w.drew.alloc (.cells ((([] : List Value)).toArray ++ vs.toArray ++ tail) e)) := Stp.alloc hSd.1.hB hSd.1.immlt _ _ _
         have hS' := hSd.1.move hM (o' := .cells xs sz (ver' + 1) false) rfl (by simp [Ob.ver]) (.cells ((([] : List Value)).toArray ++ vs.toArray ++ tail) e) ((([] : List Value)).toArray ++ vs.toArray ++ tail).size (by
          refine ⟨_, e, ?_, (upd_self _ _ _).symm, by rw [hszz, hlen]; exact Nat.mul_le_mul_right _ (by omega), ?_⟩
          ·show (w.drew.alloc _).heap[upd c.blk b w.drew.heap.size b]? = _
           rw [upd_self]; exact World.alloc_heap_new _ _
          ·intro j x hj
           have hjy := (List.getElem?_eq_some_iff.1 hj).1
           have hjv : j < vs.length := by omega
           refine ⟨vs[j], ?_, (rd _ _ x (List.getElem?_eq_getElem hjv) hj).mono hE hs⟩
           rw [Array.getElem?_append_left (by simpa using hjv)]; simp [hjv])
         refine ⟨_, _, _, hrun, ?_, hS', hE, hSd.2.trans hs⟩
         rw [Nat.zero_add]
         refine .own _ _ _ _ (by simpa using hb) (by rw [verOf_some hM']; exact Nat.le_refl _) fun _ => .inl ⟨cap', _, _, _, hM', ?_, by omega, ?_, by omega⟩
         ·show _ = Value.slice (some ⟨upd c.blk b w.drew.heap.size b, 0, none⟩) _ _
          rw [upd_self]; rfl
         ·show _ ≤ upd c.rsz b _ b
          rw [upd_self, hszz]; exact Nat.le_refl _
       ·cases h
      ·cases h
     | _ => simp at h
    ·cases h
end Go.Abs
namespace Go.Abs
open Go.RowKit
variable {P : Program} {B : Nat} {I0 : Nat → Prop} {c : Ctx} {M : Mem} {w : World}
def aCopy (P : Program) (M : Mem) (dT : TypeId) (d x : AV) : Option (AV × Mem) :=
 match (elemT P dT).bind (szOf P), d with
 | some s, .own b len ver =>
  match M[b]?, srcCells M s x with
  | some (.cells l sz ver' false), some (xs, n) =>
   if ver' = ver ∧ sz = s ∧ xs.all (·.okCell M) = true then
    some (.pd (.int .i64 (Nat.min n len : Nat)), M.set b (.cells (xs.take (Nat.min n len * s) ++ l.drop (Nat.min n len * s)) s ver false)) else none
  | some (.vrow _ ver'), some _ => if ver' = ver ∧ len = 0 then some (.pd (.int .i64 0), M) else none
  | _, _ => none
 | some s, .owx b off len ver =>
  match M[b]?, srcCells M s x with
  | some (.cells l sz ver' false), some (xs, n) =>
   if ver' = ver ∧ sz = s ∧ xs.all (·.okCell M) = true then
    some (.pd (.int .i64 (Nat.min n len : Nat)), M.set b (.cells (l.take (off * s) ++ xs.take (Nat.min n len * s) ++ l.drop (off * s + Nat.min n len * s)) s ver false)) else none
  | _, _ => none
 | _, _ => none
theorem aCopy_ok {dT xT ty : TypeId} {d x y : AV} {v u : Value} {M' : Mem} (hS : Sim B I0 c M w) (hd : ARep c M w v d) (hx : ARep c M w u x) (h : aCopy P M dT d x = some (y, M')) :
  Out P B I0 c M w (Builtin.copy_ #[dT, xT] ty #[v, u]) y M' := by
 unfold aCopy at h
 cases he : (elemT P dT).bind (szOf P) with
 | none => simp [he] at h
 | some s =>
  rw [Option.bind_eq_some_iff] at he
  obtain ⟨e, he, hs⟩ := he
  have ht := elemT_some he
  simp only [he, Option.bind_some, hs] at h
  cases hd with
  | own v b len ver hb hv hp =>
   simp only at h
   split at h
   ·rename_i l sz ver' xs n hM hsrc
    split at h
    ·rename_i hc
     obtain ⟨rfl, rfl, hok⟩ := hc
     cases h
     have hL := srcCells_ok (P := P) hS hx hsrc
     obtain ⟨vs, q1, q2, q3⟩ := hL.cells
     have hlen := hL.len
     rcases hp (verOf_some hM) with ⟨cap, l2, sz2, z2, hM2, rfl, h5, h6, h7⟩ | ⟨sz2, hM2, _⟩
     ·rw [hM] at hM2; cases hM2
      obtain ⟨cs, e0, g1, g2, g3, g4⟩ := hS.row hM
      generalize hm : Nat.min n len = m at *
      have hmn : m ≤ n := by rw [← hm]; exact Nat.min_le_left _ _
      have hml : m ≤ len := by rw [← hm]; exact Nat.min_le_right _ _
      have k1 : m * sz ≤ n * sz := Nat.mul_le_mul_right _ hmn
      have k2 : m * sz ≤ len * sz := Nat.mul_le_mul_right _ hml
      have k3 : len * sz ≤ cap * sz := Nat.mul_le_mul_right _ h5
      have hone : ∀ y ∈ vs.take (m * sz), y.oneCell' = true := by
       intro y hy
       obtain ⟨j, hj⟩ := List.mem_iff_getElem?.1 (List.mem_of_mem_take hy)
       have hjl : j < xs.length := by have := (List.getElem?_eq_some_iff.1 hj).1; omega
       exact (q3 j y xs[j] hj (List.getElem?_eq_getElem hjl)).oneCell (List.all_eq_true.1 hok _ (List.getElem_mem hjl))
      have hst := run_storeCells_at P (c.blk b) 0 e0 (vs.take (m * sz)) 0 cs w g1 (by simp; omega) hone
      simp only [Nat.add_zero, Nat.zero_add, List.take_zero, List.nil_append, List.length_take] at hst
      have hmm : min (m * sz) vs.length = m * sz := by omega
      rw [hmm] at hst
      obtain ⟨hS', hE, hs'⟩ := hS.setRow hM g1 (vs.take (m * sz) ++ cs.toList.drop (m * sz)).toArray (by simp; omega)
       (l' := xs.take (m * sz) ++ l.drop (m * sz)) (ver' := ver') (Nat.le_refl _) (fun _ => by simp; omega) (by simp; omega) (by
        intro j y hj
        by_cases c1 : j < m * sz
        ·rw [List.getElem?_append_left (by simp; omega), List.getElem?_take, if_pos c1] at hj
         have hjv : j < vs.length := by omega
         refine ⟨vs[j], ?_, q3 j _ y (List.getElem?_eq_getElem hjv) hj⟩
         rw [List.getElem?_toArray, List.getElem?_append_left (by simp; omega), List.getElem?_take, if_pos c1, List.getElem?_eq_getElem hjv]
        ·have e1 : (xs.take (m * sz)).length = m * sz := by simp; omega
         rw [List.getElem?_append_right (by omega), e1, List.getElem?_drop, show m * sz + (j - m * sz) = j from by omega] at hj
         obtain ⟨v', r1, r2⟩ := g4 j y hj
         refine ⟨v', ?_, r2⟩
         have e2 : (vs.take (m * sz)).length = m * sz := by simp; omega
         rw [List.getElem?_toArray, List.getElem?_append_right (by omega), e2, List.getElem?_drop, show m * sz + (j - m * sz) = j from by omega]
         simpa using r1)
      refine ⟨goInt m, _, c, ?_, .pd _ _ (.int _ _), hS', hE, hs'⟩
      have hfc := q2 w rfl m hmn
      simp [Builtin.copy_, run_underlying ht, hL.lenOf w, hm, run_sizeOf hs, hfc, hst]
     ·rw [hM] at hM2; cases hM2
    ·cases h
   ·rename_i sz' ver' z hM hsrc
    obtain ⟨xs, n⟩ := z
    split at h
    ·rename_i hc
     obtain ⟨rfl, rfl⟩ := hc
     cases h
     have hL := srcCells_ok (P := P) hS hx hsrc
     obtain ⟨vs, q1, q2, q3⟩ := hL.cells
     rcases hp (verOf_some hM) with ⟨cap, l2, sz2, z2, hM2, rfl, h5, h6, h7⟩ | ⟨sz2, hM2, rfl, _⟩
     ·rw [hM] at hM2; cases hM2
     ·have hfc := q2 w rfl 0 (Nat.zero_le _)
      refine ⟨goInt 0, w, c, ?_, .pd _ _ (.int _ _), hS, Ext.refl _ _, Stp.refl _ _ _⟩
      simp [Builtin.copy_, run_underlying ht, hL.lenOf w, run_sizeOf hs, hfc]
    ·cases h
   ·cases h
  | owx v b off len ver hb hv hp =>
   simp only at h
   split at h
   ·rename_i l sz ver' xs n hM hsrc
    split at h
    ·rename_i hc
     obtain ⟨rfl, rfl, hok⟩ := hc
     cases h
     have hL := srcCells_ok (P := P) hS hx hsrc
     obtain ⟨vs, q1, q2, q3⟩ := hL.cells
     have hlen := hL.len
     obtain ⟨a, cap, l2, sz2, z2, hM2, rfl, ha, h5, h6, h7⟩ := hp (verOf_some hM)
     rw [hM] at hM2; cases hM2
     obtain ⟨cs, e0, g1, g2, g3, g4⟩ := hS.row hM
     generalize hm : Nat.min n len = m at *
     have hmn : m ≤ n := by rw [← hm]; exact Nat.min_le_left _ _
     have hml : m ≤ len := by rw [← hm]; exact Nat.min_le_right _ _
     have k1 : m * sz ≤ n * sz := Nat.mul_le_mul_right _ hmn
     have k2 : m * sz ≤ len * sz := Nat.mul_le_mul_right _ hml
     have k3 : len * sz ≤ cap * sz := Nat.mul_le_mul_right _ h5
     have k4 : (off + cap) * sz = off * sz + cap * sz := Nat.add_mul ..
     have k5 : (off + len) * sz = off * sz + len * sz := Nat.add_mul ..
     have hone : ∀ y ∈ vs.take (m * sz), y.oneCell' = true := by
      intro y hy
      obtain ⟨j, hj⟩ := List.mem_iff_getElem?.1 (List.mem_of_mem_take hy)
      have hjl : j < xs.length := by have := (List.getElem?_eq_some_iff.1 hj).1; omega
      exact (q3 j y xs[j] hj (List.getElem?_eq_getElem hjl)).oneCell (List.all_eq_true.1 hok _ (List.getElem_mem hjl))
     have hst0 := run_storeCells_at P (c.blk b) (off * sz) e0 (vs.take (m * sz)) 0 cs w g1 (by simp; omega) hone
     simp only [Nat.add_zero, List.length_take] at hst0
     have hmm : min (m * sz) vs.length = m * sz := by omega
     rw [hmm] at hst0
     have hst : (storeCells a (vs.take (m * sz))).run P w = .ok () (w.setRow (c.blk b) (cs.toList.take (off * sz) ++ vs.take (m * sz) ++ cs.toList.drop (off * sz + m * sz)).toArray) := by
      by_cases hcap : 0 < cap
      ·rw [ha hcap]; exact hst0
      ·have hm0 : m = 0 := by omega
       subst hm0
       simp only [Nat.zero_mul, List.take_zero, List.append_nil, Nat.add_zero, List.take_append_drop, Array.toArray_toList] at hst0 ⊢
       exact hst0
     obtain ⟨hS', hE, hs'⟩ := hS.setRow hM g1 (cs.toList.take (off * sz) ++ vs.take (m * sz) ++ cs.toList.drop (off * sz + m * sz)).toArray (by simp; omega)
      (l' := l.take (off * sz) ++ xs.take (m * sz) ++ l.drop (off * sz + m * sz)) (ver' := ver') (Nat.le_refl _) (fun _ => by simp; omega) (by simp; omega) (by
       intro j y hj
       have n1 : (l.take (off * sz)).length = off * sz := by simp; omega
       have n2 : (xs.take (m * sz)).length = m * sz := by simp; omega
       have n3 : (cs.toList.take (off * sz)).length = off * sz := by simp; omega
       have n4 : (vs.take (m * sz)).length = m * sz := by simp; omega
       by_cases c0 : j < off * sz
       ·rw [List.append_assoc, List.getElem?_append_left (by omega), List.getElem?_take, if_pos c0] at hj
        obtain ⟨v', r1, r2⟩ := g4 j y hj
        refine ⟨v', ?_, r2⟩
        rw [List.getElem?_toArray, List.append_assoc, List.getElem?_append_left (by omega), List.getElem?_take, if_pos c0]
        simpa using r1
       by_cases c1 : j < off * sz + m * sz
       ·rw [List.getElem?_append_left (by simp; omega), List.getElem?_append_right (by omega), n1, List.getElem?_take, if_pos (by omega)] at hj
        have hjv : j - off * sz < vs.length := by omega
        refine ⟨vs[j - off * sz], ?_, q3 (j - off * sz) _ y (List.getElem?_eq_getElem hjv) hj⟩
        rw [List.getElem?_toArray, List.getElem?_append_left (by simp; omega), List.getElem?_append_right (by omega), n3, List.getElem?_take, if_pos (by omega), List.getElem?_eq_getElem hjv]
       ·have e1 : (l.take (off * sz) ++ xs.take (m * sz)).length = off * sz + m * sz := by rw [List.length_append, n1, n2]
        rw [List.getElem?_append_right (by omega), e1, List.getElem?_drop, show off * sz + m * sz + (j - (off * sz + m * sz)) = j from by omega] at hj
        obtain ⟨v', r1, r2⟩ := g4 j y hj
        refine ⟨v', ?_, r2⟩
        have e2 : (cs.toList.take (off * sz) ++ vs.take (m * sz)).length = off * sz + m * sz := by rw [List.length_append, n3, n4]
        rw [List.getElem?_toArray, List.getElem?_append_right (by omega), e2, List.getElem?_drop, show off * sz + m * sz + (j - (off * sz + m * sz)) = j from by omega]
        simpa using r1)
     refine ⟨goInt m, _, c, ?_, .pd _ _ (.int _ _), hS', hE, hs'⟩
     have hfc := q2 w rfl m hmn
     simp [Builtin.copy_, run_underlying ht, hL.lenOf w, hm, run_sizeOf hs, hfc, hst]
    ·cases h
   ·cases h
  | _ => simp at h
def AV.nat? (x : AV) : Option Nat := x.int?.bind fun i => if 0 ≤ i then some i.toNat else none
theorem AV.nat_some {x : AV} {n : Nat} (h : x.nat? = some n) : x.int? = some (n : Int) := by
 unfold AV.nat? at h
 rw [Option.bind_eq_some_iff] at h
 obtain ⟨i, hi, h⟩ := h
 split at h
 ·cases h; rw [hi]; congr 1; omega
 ·cases h
def repCells (z : List AV) (n : Nat) : List AV := (List.range (n * z.length)).map fun i => z.getD (i % z.length) .junk
def nilPd : AV → AV | .fixed l => .pd (.sl l) | x => x
theorem nilPd_rep {c : Ctx} {M : Mem} {w : World} {v : Value} {x : AV} (h : ARep c M w v x) : ARep c M w v (nilPd x) := by
 cases h with
 | fixed a n l hn h => exact .pd _ _ h
 | pd v x h => exact .pd _ _ h
 | agg vs l hs h => exact .agg vs l hs h
 | tup vs l hs h => exact .tup vs l hs h
 | ptr v b off ver hb hv h => exact .ptr v b off ver hb hv h
 | nilp => exact .nilp
 | rd a l f h1 h2 h3 h4 => exact .rd a l f h1 h2 h3 h4
 | own v b len ver hb hv h => exact .own v b len ver hb hv h
 | owx v b off len ver hb hv h => exact .owx v b off len ver hb hv h
 | fn f v1 v2 l1 l2 h1 h2 r1 r2 => exact .fn f v1 v2 l1 l2 h1 h2 r1 r2
 | yld b hb => exact .yld b hb
 | nilf => exact .nilf
 | mp b hb => exact .mp b hb
 | it b hb => exact .it b hb
 | junk v => exact .junk v
def aMake (P : Program) (M : Mem) (t : TypeId) (l cp : AV) : Option (AV × Mem) :=
 match elemT P t, l.nat?, cp.nat? with
 | some e, some l, some k =>
  match rowInfo P e with
  | some (s, by_, z) =>
   match (zAV z).bind AV.cells with
   | some zs => if l = k ∧ 0 < s ∧ z.cells.size = s ∧ zs.length = s ∧ by_ * k ≤ maxB ∧ zs.all (·.okCell M) = true ∧ k ≤ maxB then some (.own M.length l 0, M ++ [.cells (repCells (zs.map nilPd) k) s 0 false]) else none
   | none => none
  | none => none
 | _, _, _ => none
theorem wrap_nat {n : Nat} (h : n ≤ maxB) : IntKind.i64.wrap (n : Int) = n := by
 have : (n : Int) ≤ 140737488355328 := by simp only [maxB] at h; omega
 simp [IntKind.wrap, IntKind.bits, IntKind.signed]
 omega
theorem aMake_ok {t : TypeId} {x k y : AV} {v u : Value} {M' : Mem} (hS : Sim B I0 c M w) (hx : ARep c M w v x) (hk : ARep c M w u k) (h : aMake P M t x k = some (y, M')) :
  Out P B I0 c M w (Instr.makeSlice t v u) y M' := by
 unfold aMake at h
 split at h
 ·rename_i e l k' he hl hk'
  split at h
  ·rename_i s by_ z hri
   split at h
   ·rename_i zs hzs
    split at h
    case isFalse => cases h
    rename_i hc
    obtain ⟨rfl, hs0, hz1, hz2, hby, hok, hmx⟩ := hc
    cases h
    have ht := elemT_some he
    obtain ⟨i, h1, h2, rfl, rfl⟩ := rowInfo_some hri
    obtain ⟨_, rfl, _⟩ := hx.int (AV.nat_some hl)
    obtain ⟨_, rfl, _⟩ := hk.int (AV.nat_some hk')
    rw [Option.bind_eq_some_iff] at hzs
    obtain ⟨za, hz3, hzc⟩ := hzs
    obtain ⟨r1, xs, r2, r3, r4⟩ := zAV_ok (c := c) (M := M) (w := w) hz3
    rw [hzc] at r2; cases r2
    have r5 := (r1.cells hzc hok).2
    have hcs : ((Array.range (l * i.size)).map (z.cells[· % z.cells.size]!)).size = l * i.size := by simp
    have hlen : (repCells (zs.map nilPd) l).length = l * i.size := by simp [repCells, hz2]
    obtain ⟨g1, g2, g3, g4, g5, g6⟩ := newRow_ok hS e ((Array.range (l * i.size)).map (z.cells[· % z.cells.size]!)) (repCells (zs.map nilPd) l) i.size (by omega) (by
     intro j y hj
     simp only [repCells, List.getElem?_map, Option.map_eq_some_iff, List.length_map] at hj
     obtain ⟨j', hj, rfl⟩ := hj
     have hlt := (List.getElem?_eq_some_iff.1 hj).1
     obtain rfl : j' = j := by have := (List.getElem?_eq_some_iff.1 hj).2; simpa using this.symm
     simp at hlt
     have hpos : 0 < zs.length := by rcases Nat.eq_zero_or_pos zs.length with h | h; · rw [h] at hlt; simp at hlt
                                     ·exact h
     have hm : j' % zs.length < zs.length := Nat.mod_lt _ hpos
     have hm2 : j' % z.cells.size < z.cells.size := by rw [r4]; exact hm
     refine ⟨z.cells[j' % z.cells.size], ?_, ?_⟩
     ·rw [Array.getElem?_map, Array.getElem?_range]
      rw [if_pos (by rw [← hz2]; exact hlt)]
      simp [getElem!_pos, hm2]
     ·have e0 : (zs.map nilPd).getD (j' % zs.length) .junk = nilPd (zs.getD (j' % zs.length) .junk) := by
       rw [List.getD_eq_getElem?_getD, List.getD_eq_getElem?_getD, List.getElem?_map, List.getElem?_eq_getElem hm]; rfl
      rw [e0]
      refine nilPd_rep (r5 (j' % zs.length) _ _ ?_ ?_)
      ·rw [Array.getElem?_eq_getElem (by rw [r4]; exact hm)]; simp [r4]
      ·rw [List.getD_eq_getElem?_getD, List.getElem?_eq_getElem hm]; rfl)
    refine ⟨_, _, _, ?_, .own (.slice (some ⟨w.heap.size, 0, none⟩) l l) _ _ _ (by simp) (Nat.zero_le _) fun _ => .inl ⟨l, _, _, _, g6, by rw [g4], Nat.le_refl _, by rw [g5, hcs]; exact Nat.le_refl _, by rw [hlen]; exact Nat.le_refl _⟩, g1, g2, g3⟩
    have w1 := wrap_nat hmx
    have hby' : ¬ ((281474976710656 : Int) < (i.bytes : Int) * (l : Int)) := by
     have : i.bytes * l ≤ 140737488355328 := hby
     have e1 : ((i.bytes * l : Nat) : Int) = (i.bytes : Int) * (l : Int) := by simp
     rw [← e1]; omega
    by_cases hn : l * i.size = 0
    ·have hemp : (Array.range (l * i.size)).map (z.cells[· % z.cells.size]!) = #[] := by simp [hn]
     rw [hemp]
     have hr0 : (Array.range 0 : Array Nat) = #[] := rfl
     rcases Nat.mul_eq_zero.1 hn with h0 | h0
     ·subst h0
      have w0 : IntKind.i64.wrap 0 = 0 := w1
      simp [Instr.makeSlice, run_underlying ht, asInt, asIntOf, typeInfo, h1, w0, sizeOf, newRow, hr0]
     ·omega
    ·have hl0 : ¬ ((l : Int) < 0) := by omega
     simp [Instr.makeSlice, run_underlying ht, asInt, asIntOf, typeInfo, h1, w1, hby', sizeOf, newRow, zeroValue, h2, hl0]
     intro h; exact absurd h hn
   ·cases h
  ·cases h
 ·cases h
def optNat (x : Option AV) : Option (Option Nat) :=
 match x with
 | none => some none
 | some x => x.nat?.map some
def owxOk (P : Program) (M : Mem) (b : Nat) (e : TypeId) : Bool := match M[b]?, szOf P e with | some (.cells _ sz _ _), some s => sz == s | _, _ => false
def aSlice (P : Program) (M : Mem) (t : TypeId) (x : AV) (lo hi mx : Option AV) : Option AV :=
 match optNat lo, optNat hi, optNat mx with
 | some lo, some hi, some mx =>
  match P.underlying t, x with
  | some .string, .pd (.str s) =>
   if mx = none ∧ lo.getD 0 ≤ hi.getD s.length ∧ hi.getD s.length ≤ s.length then some (.pd (.str ((s.drop (lo.getD 0)).take (hi.getD s.length - lo.getD 0)))) else none
  | some (.slice e), .pd (.sl l) =>
   if lo.getD 0 ≤ hi.getD l.length ∧ hi.getD l.length ≤ l.length ∧ (szOf P e).any (uni · l) = true then
    match mx with
    | none => some (.pd (.sl ((l.drop (lo.getD 0)).take (hi.getD l.length - lo.getD 0))))
    | some m => if hi = some m then some (.fixed ((l.drop (lo.getD 0)).take (m - lo.getD 0))) else none
   else none
  | some (.slice e), .fixed l =>
   if lo.getD 0 ≤ hi.getD l.length ∧ hi.getD l.length ≤ l.length ∧ (szOf P e).any (uni · l) = true then
    match mx with
    | none => if hi = none then some (.fixed (l.drop (lo.getD 0))) else some (.pd (.sl ((l.drop (lo.getD 0)).take (hi.getD l.length - lo.getD 0))))
    | some m => if hi = some m then some (.fixed ((l.drop (lo.getD 0)).take (m - lo.getD 0))) else none
   else none
  | some (.slice e), .own b len ver =>
   if verOf M b = ver ∧ lo.getD 0 = 0 ∧ hi.getD len ≤ len ∧ (szOf P e).isSome = true then
    match mx with
    | none => some (.own b (hi.getD len) ver)
    | some m => if hi = some m ∧ m = 0 then some (.fixed []) else none
   else if verOf M b = ver ∧ mx = none ∧ hi = none ∧ lo.getD 0 ≤ len ∧ owxOk P M b e = true then some (.owx b (lo.getD 0) (len - lo.getD 0) ver)
   else none
  | _, _ => none
 | _, _, _ => none
theorem run_bounds {isSlice : Bool} {len cap : Nat} {lo hi mx : Option Value} {l' h' m' : Option Nat}
  (hl : ∀ n, l' = some n → ∃ k, lo = some (.int k (n : Int))) (hl0 : l' = none → lo = none) (hh : ∀ n, h' = some n → ∃ k, hi = some (.int k (n : Int))) (hh0 : h' = none → hi = none)
  (hm : ∀ n, m' = some n → ∃ k, mx = some (.int k (n : Int))) (hm0 : m' = none → mx = none)
  (h1 : l'.getD 0 ≤ h'.getD len) (h2 : h'.getD len ≤ m'.getD cap) (h3 : m'.getD cap ≤ cap) (h4 : m'.isSome = true → h'.isSome = true) (w : World) :
  (Instr.sliceBounds isSlice len cap lo hi mx).run P w = .ok (l'.getD 0, h'.getD len, m'.getD cap) w := by
 have sb : ∀ (k : IntKind) (n y : Nat) (code : BoundsCode), n ≤ y → (Instr.sliceBound (.int k (n : Int)) y code).run P w = .ok n w := by
  intro k n y code h
  simp [Instr.sliceBound, asIntOf]; omega
 cases m' with
 | none =>
  rw [hm0 rfl]
  cases h' with
  | none =>
   rw [hh0 rfl]
   cases l' with
   | none => rw [hl0 rfl]; simp [Instr.sliceBounds]
   | some n => obtain ⟨k, rfl⟩ := hl n rfl; simp at h1; simp [Instr.sliceBounds, sb _ _ _ _ h1]
  | some m =>
   obtain ⟨k, rfl⟩ := hh m rfl
   simp at h2
   cases l' with
   | none => rw [hl0 rfl]; simp [Instr.sliceBounds, sb _ _ _ _ h2]
   | some n => obtain ⟨k', rfl⟩ := hl n rfl; simp at h1; simp [Instr.sliceBounds, sb _ _ _ _ h2, sb _ _ _ _ h1]
 | some q =>
  obtain ⟨k, rfl⟩ := hm q rfl
  simp at h3
  cases h' with
  | none => simp at h4
  | some m =>
   obtain ⟨k', rfl⟩ := hh m rfl
   simp at h2
   cases l' with
   | none => rw [hl0 rfl]; simp [Instr.sliceBounds, sb _ _ _ _ h2, sb _ _ _ _ h3]
   | some n => obtain ⟨k'', rfl⟩ := hl n rfl; simp at h1; simp [Instr.sliceBounds, sb _ _ _ _ h2, sb _ _ _ _ h1, sb _ _ _ _ h3]
def OptRep (c : Ctx) (M : Mem) (w : World) : Option Value → Option AV → Prop
 | none, none => True
 | some v, some x => ARep c M w v x
 | _, _ => False
theorem OptRep.get {v : Option Value} {x : Option AV} {n : Option Nat} (h : OptRep c M w v x) (hx : optNat x = some n) : (∀ m, n = some m → ∃ k, v = some (.int k (m : Int))) ∧ (n = none → v = none) := by
 cases x with
 | none =>
  cases v with
  | none => simp [optNat] at hx; subst hx; simp
  | some v => exact h.elim
 | some x =>
  cases v with
  | none => exact h.elim
  | some v =>
   simp only [optNat, Option.map_eq_some_iff] at hx
   obtain ⟨m, hm, rfl⟩ := hx
   obtain ⟨k, rfl, _⟩ := ARep.int h (AV.nat_some hm)
   exact ⟨fun m' e => by cases e; exact ⟨k, rfl⟩, by simp⟩
theorem PRep.slice {I : Nat → Prop} {a : Option Addr} {n cap s lo hi m : Nat} {l : List PD} (h : PRep I w (.slice a n cap) (.sl l)) (hu : uni s l = true) (h1 : lo ≤ hi) (h2 : hi ≤ l.length) (h3 : hi ≤ m) (h4 : m ≤ cap) :
  PRep I w (.slice (if m = lo then a else a.map (·.add (lo * s))) (hi - lo) (m - lo)) (.sl ((l.drop lo).take (hi - lo))) := by
 cases h with
 | nil =>
  have e1 : m = 0 := by omega
  have e2 : hi = 0 := by omega
  have e3 : lo = 0 := by omega
  subst e1; subst e2; subst e3
  simp; exact .nil
 | sl a n cap sz l f hsp hn hcap hI hsz hc hr =>
  have hlen : hi - lo = ((l.drop lo).take (hi - lo)).length := by simp; omega
  by_cases hm : m = lo
  ·subst hm
   have : hi - m = 0 := by omega
   rw [if_pos rfl, this]
   simp
   exact .sl a 0 0 sz [] f (by simp) rfl (Nat.le_refl _) (by simp) (by simp) (by simp) (by simp)
  ·rw [if_neg hm]
   simp only [Option.map_some]
   by_cases hn0 : l.length = 0
   ·have e1 : lo = 0 := by omega
    have e2 : hi = 0 := by omega
    subst e1; subst e2
    simp only [Nat.zero_mul, Addr.add, if_true, Nat.sub_zero, List.take_zero]
    exact .sl a 0 _ sz [] f (by simp) rfl (Nat.zero_le _) (by simp) (by simp) (by simp) (by simp)
   rw [addr_add _ _ (hsp (by omega))]
   have get : ∀ (i : Nat) (x : PD), ((l.drop lo).take (hi - lo))[i]? = some x → l[lo + i]? = some x ∧ i < hi - lo := by
    intro i x hx
    rw [List.getElem?_take] at hx
    split at hx
    ·rw [List.getElem?_drop] at hx; exact ⟨hx, by assumption⟩
    ·cases hx
   refine .sl _ _ _ s _ (fun i j => f (lo + i) j) (fun _ => rfl) hlen (by omega) (fun h => hI (by omega)) (fun i x hx => uni_at hu (get i x hx).1) (fun i j hi' hj => ?_) (fun i j x y hx hy => hr _ _ x y (get i x hx).1 hy)
   have hlt : lo + i < l.length := by omega
   have e1 := hsz (lo + i) l[lo + i] (List.getElem?_eq_getElem hlt)
   have e2 := uni_at hu (List.getElem?_eq_getElem hlt)
   have e3 : s = sz := by omega
   have := hc (lo + i) j (by omega) (by omega)
   rw [← this, e3]
   congr 2
   show a.off + lo * sz + i * sz + j = a.off + (lo + i) * sz + j
   rw [Nat.add_mul]; omega
theorem extract_str (s : List UInt8) (l h : Nat) : Value.string ((ByteArray.mk s.toArray).extract l h) = strV ((s.drop l).take (h - l)) := by
 have : ((ByteArray.mk s.toArray).extract l h) = ⟨((s.drop l).take (h - l)).toArray⟩ := by
  apply ByteArray.ext
  rw [ByteArray.data_extract]; simp [List.take_drop]
 rw [this]; rfl
theorem run_slice_of {t e : TypeId} (ht : P.underlying t = some (.slice e)) {s : Nat} (hs : szOf P e = some s) {a : Option Addr} {len cap : Nat} {lo hi mx : Option Value} {l' h' m' : Nat}
  (hb : (Instr.sliceBounds true len cap lo hi mx).run P w = .ok (l', h', m') w) :
  (Instr.sliceAt t (.slice a len cap) lo hi mx).run P w = .ok (.slice (if m' = l' then a else a.map (·.add (l' * s))) (h' - l') (m' - l')) w := by
 simp [Instr.sliceAt, run_underlying ht, Instr.slice, hb, run_sizeOf hs]
theorem PRep.lens {I : Nat → Prop} {v : Value} {l : List PD} (h : PRep I w v (.sl l)) : ∃ a cap, v = .slice a l.length cap ∧ l.length ≤ cap := by
 generalize hx : PD.sl l = x at h
 cases h with
 | nil => cases hx; exact ⟨none, 0, rfl, Nat.le_refl _⟩
 | sl a n cap sz l' f hsp hn hcap hI hsz hc hr => cases hx; subst hn; exact ⟨some a, cap, rfl, hcap⟩
 | _ => cases hx
theorem aSlice_ok {t : TypeId} {x y : AV} {lo hi mx : Option AV} {v : Value} {vl vh vm : Option Value} (hS : Sim B I0 c M w) (hx : ARep c M w v x) (h1 : OptRep c M w vl lo) (h2 : OptRep c M w vh hi) (h3 : OptRep c M w vm mx)
  (h : aSlice P M t x lo hi mx = some y) : Out P B I0 c M w (Instr.sliceAt t v vl vh vm) y M := by
 unfold aSlice at h
 split at h
 case h_2 => cases h
 rename_i lo' hi' mx' e1 e2 e3
 obtain ⟨a1, a2⟩ := h1.get e1
 obtain ⟨b1, b2⟩ := h2.get e2
 obtain ⟨c1, c2⟩ := h3.get e3
 split at h
 ·rename_i s ht
  split at h
  ·rename_i hc
   obtain ⟨rfl, q1, q2⟩ := hc
   cases h
   cases hx with
   | pd v x hx =>
   cases hx
   have hb := run_bounds (P := P) (isSlice := false) (len := s.length) (cap := s.length) (m' := none) (mx := none) a1 a2 b1 b2 (by simp) (by simp) q1 (by simpa using q2) (by simp) (by simp) w
   rw [c2 rfl]
   refine Out.val hS (v' := strV ((s.drop (lo'.getD 0)).take (hi'.getD s.length - lo'.getD 0))) ?_ (.pd _ _ (.str _))
   simp only [Option.getD_none] at hb
   simp [Instr.sliceAt, run_underlying ht, Instr.slice, strV, size_mk, hb]
   have := extract_str s (lo'.getD 0) (hi'.getD s.length)
   simp only [strV, Value.string.injEq] at this
   simpa using this
  ·cases h
 ·rename_i e l ht
  split at h
  ·rename_i hc
   obtain ⟨q1, q2, q3⟩ := hc
   cases hs : szOf P e with
   | none => simp [hs] at q3
   | some s =>
    simp [hs] at q3
    cases hx with
    | pd v x hx =>
    obtain ⟨a, cap, rfl, hcap⟩ := hx.lens
    split at h
    ·cases h
     have hb := run_bounds (P := P) (isSlice := true) (len := l.length) (cap := cap) (m' := none) a1 a2 b1 b2 c1 c2 q1 (by simp; omega) (by simp) (by simp) w
     simp only [Option.getD_none] at hb
     exact Out.val hS (run_slice_of ht hs hb) (.pd _ _ (hx.slice q3 q1 q2 (by omega) (Nat.le_refl _)))
    ·rename_i m
     split at h
     ·rename_i hhi
      subst hhi
      cases h
      simp only [Option.getD_some] at q1 q2
      have hb := run_bounds (P := P) (isSlice := true) (len := l.length) (cap := cap) (m' := some m) a1 a2 b1 b2 c1 c2 q1 (by simp) (by simp; omega) (by simp) w
      simp only [Option.getD_some] at hb
      exact Out.val hS (run_slice_of ht hs hb) (.fixed _ _ _ (by simp; omega) (hx.slice q3 q1 q2 (Nat.le_refl _) (by omega)))
     ·cases h
  ·cases h
 ·rename_i e l ht
  split at h
  ·rename_i hc
   obtain ⟨q1, q2, q3⟩ := hc
   cases hs : szOf P e with
   | none => simp [hs] at q3
   | some s =>
    simp [hs] at q3
    cases hx with
    | fixed a n l hn hx =>
    subst hn
    split at h
    ·have hb := run_bounds (P := P) (isSlice := true) (len := l.length) (cap := l.length) (m' := none) a1 a2 b1 b2 c1 c2 q1 (by simp; omega) (by simp) (by simp) w
     simp only [Option.getD_none] at hb
     split at h
     ·rename_i hn
      subst hn
      cases h
      simp only [Option.getD_none] at hb q1
      refine Out.val hS (run_slice_of ht hs hb) (.fixed _ _ _ (by simp) ?_)
      have := hx.slice q3 q1 (Nat.le_refl _) (Nat.le_refl _) (Nat.le_refl _)
      rwa [List.take_of_length_le (by simp)] at this
     ·cases h
      exact Out.val hS (run_slice_of ht hs hb) (.pd _ _ (hx.slice q3 q1 q2 (by omega) (Nat.le_refl _)))
    ·rename_i m
     split at h
     ·rename_i hhi
      subst hhi
      cases h
      simp only [Option.getD_some] at q1 q2
      have hb := run_bounds (P := P) (isSlice := true) (len := l.length) (cap := l.length) (m' := some m) a1 a2 b1 b2 c1 c2 q1 (by simp) (by simp; omega) (by simp) w
      simp only [Option.getD_some] at hb
      exact Out.val hS (run_slice_of ht hs hb) (.fixed _ _ _ (by simp; omega) (hx.slice q3 q1 q2 (Nat.le_refl _) (by omega)))
     ·cases h
  ·cases h
 ·rename_i e b len ver ht
  split at h
  ·rename_i hc
   obtain ⟨rfl, q1, q2, q3⟩ := hc
   cases hs : szOf P e with
   | none => simp [hs] at q3
   | some s =>
    cases hx with
    | own v b len ver hb hv hp =>
    split at h
    ·cases h
     rcases hp rfl with ⟨cap, l2, sz2, z2, hM2, rfl, h5, h6, h7⟩ | ⟨sz2, hM2, rfl, rfl⟩
     ·have hb' := run_bounds (P := P) (isSlice := true) (len := len) (cap := cap) (m' := none) a1 a2 b1 b2 c1 c2 (by omega) (by simp; omega) (by simp) (by simp) w
      simp only [Option.getD_none, q1] at hb'
      refine Out.val hS (run_slice_of ht hs hb') ?_
      simp only [Nat.zero_mul, Nat.sub_zero]
      have ea : (if cap = 0 then some (⟨c.blk b, 0, none⟩ : Addr) else Option.map (fun x : Addr => x.add 0) (some ⟨c.blk b, 0, none⟩)) = some ⟨c.blk b, 0, none⟩ := by
       split
       ·rfl
       ·simp [Addr.add]
      rw [ea]
      refine .own _ _ _ _ hb hv fun _ => .inl ⟨cap, l2, sz2, z2, hM2, rfl, by omega, h6, ?_⟩
      exact Nat.le_trans (Nat.mul_le_mul_right _ q2) h7
     ·have hh : hi'.getD 0 = 0 := by omega
      have hb' := run_bounds (P := P) (isSlice := true) (len := 0) (cap := 0) (m' := none) a1 a2 b1 b2 c1 c2 (by omega) (by simp; omega) (by simp) (by simp) w
      simp only [Option.getD_none, q1, hh] at hb'
      refine Out.val hS (run_slice_of ht hs hb') ?_
      rw [hh]
      simp only [if_true, Nat.sub_zero]
      exact .own _ _ _ _ hb hv fun _ => .inr ⟨sz2, hM2, rfl, rfl⟩
    ·rename_i m
     split at h
     ·rename_i hhi
      obtain ⟨rfl, rfl⟩ := hhi
      cases h
      rcases hp rfl with ⟨cap, l2, sz2, z2, hM2, rfl, h5, h6, h7⟩ | ⟨sz2, hM2, rfl, rfl⟩
      ·have hb' := run_bounds (P := P) (isSlice := true) (len := len) (cap := cap) (m' := some 0) a1 a2 b1 b2 c1 c2 (by simp; omega) (by simp) (by simp) (by simp) w
       simp only [Option.getD_some, q1] at hb'
       refine Out.val hS (run_slice_of ht hs hb') ?_
       simp only [if_true, Nat.sub_self]
       exact .fixed _ _ _ rfl (.sl _ 0 0 1 [] (fun _ _ => undef) (by simp) rfl (Nat.le_refl _) (by simp) (by simp) (by simp) (by simp))
      ·have hb' := run_bounds (P := P) (isSlice := true) (len := 0) (cap := 0) (m' := some 0) a1 a2 b1 b2 c1 c2 (by simp; omega) (by simp) (by simp) (by simp) w
       simp only [Option.getD_some, q1] at hb'
       refine Out.val hS (run_slice_of ht hs hb') ?_
       simp only [if_true, Nat.sub_self]
       exact .fixed _ _ _ rfl .nil
     ·cases h
  ·split at h
   ·rename_i hc
    obtain ⟨rfl, rfl, rfl, q1, q2⟩ := hc
    cases h
    unfold owxOk at q2
    split at q2
    ·rename_i l sz ver' z s hM hs
     obtain rfl : sz = s := by simpa using q2
     cases hx with
     | own v b len ver hb hv hp =>
     rcases hp rfl with ⟨cap, l2, sz2, z2, hM2, rfl, h5, h6, h7⟩ | ⟨sz2, hM2, rfl, rfl⟩
     ·rw [hM] at hM2; cases hM2
      have hb' := run_bounds (P := P) (isSlice := true) (len := len) (cap := cap) (m' := none) a1 a2 b1 b2 c1 c2 (by simpa using q1) (by simp; omega) (by simp) (by simp) w
      simp only [Option.getD_none] at hb'
      refine Out.val hS (run_slice_of ht hs hb') ?_
      have e1 : (lo'.getD 0 + (cap - lo'.getD 0)) = cap := by omega
      have e2 : (lo'.getD 0 + (len - lo'.getD 0)) = len := by omega
      by_cases hcl : cap = lo'.getD 0
      ·rw [if_pos hcl]
       exact .owx _ _ _ _ _ hb hv fun _ => ⟨_, _, l, sz, z, hM, rfl, fun h => by omega, by omega, by rw [e1]; exact h6, by rw [e2]; exact h7⟩
      ·rw [if_neg hcl]
       exact .owx _ _ _ _ _ hb hv fun _ => ⟨_, _, l, sz, z, hM, rfl, fun _ => by (simp [Addr.add]; try (intro h; omega)), by omega, by rw [e1]; exact h6, by rw [e2]; exact h7⟩
     ·rw [hM] at hM2; cases hM2
    ·cases q2
   ·cases h
 ·cases h
end Go.Abs
end
