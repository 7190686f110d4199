/- append, copy, make, slice expressions: the abstract side. -/
import Derived.Test.YtibeobmcanaedaaDoorAbs5
namespace Go.Abs
set_option linter.unusedVariables false
set_option linter.unusedSimpArgs false
open Go.RowKit
variable {P : Program} {B : Nat} {I0 : Nat → Prop} {c : Ctx} {M : Mem} {w : World}

def maxB : Nat := 140737488355328

def aAppend (P : Program) (M : Mem) (sT xT : TypeId) (d x : AV) : Option (AV × Mem) :=
  match elemT P sT with
  | none => none
  | some e =>
    match rowInfo P e with
    | none => none
    | some (s, by_, z) =>
      match srcCells M s x with
      | none => none
      | some (xs, n) =>
        if noInt P xT ∧ 0 < by_ ∧ z.cells.size = s ∧ xs.all (·.okCell M) = true then
          match d with
          | .fixed l =>
            if n = 0 then some (.fixed l, M)
            else if uni s l = true ∧ (l.length + n) * by_ ≤ maxB then some (.own M.length (l.length + n) 0, M ++ [.cells ((flat l).map .pd ++ xs) s 0 false]) else none
          | .own b len ver =>
            match M[b]? with
            | some (.cells l sz ver' false) =>
              if ver' = ver ∧ sz = s ∧ (len + n) * by_ ≤ maxB then some (.own b (len + n) (ver + 1), M.set b (.cells (l.take (len * s) ++ xs) s (ver + 1) false)) else none
            | some (.vrow sz ver') =>
              if ver' = ver ∧ sz = s ∧ n * by_ ≤ maxB then
                if n = 0 then some (.own b 0 ver, M) else some (.own b n (ver + 1), M.set b (.cells xs s (ver + 1) false))
              else none
            | _ => none
          | _ => none
        else none


theorem mul_split {a b c : Nat} (s : Nat) (h : a + b ≤ c) : a * s + b * s + (c - (a + b)) * s = c * s := by
  rw [← Nat.add_mul, ← Nat.add_mul]; congr 1; omega

theorem lenOf_slice (a : Option Addr) (n cap : Nat) (w : World) : (Builtin.lenOf (.slice a n cap)).run P w = .ok n w := by simp [Builtin.lenOf]

/-- A new row that holds the cells of two. -/
theorem newRow2_ok (hS : Sim B I0 c M w) (e : TypeId) (us vs : List Value) (tail : Array Value) (xs ys : List AV) (s len cap : Nat)
    (hu : us.length = xs.length) (hv : vs.length = ys.length)
    (r1 : ∀ (j : Nat) (u : Value) (y : AV), us[j]? = some u → xs[j]? = some y → ARep c M w u y) (r2 : ∀ (j : Nat) (u : Value) (y : AV), vs[j]? = some u → ys[j]? = some y → ARep c M w u y)
    (hcap : len ≤ cap) (hsz : cap * s ≤ (us.toArray ++ vs.toArray ++ tail).size) (hl : len * s ≤ (xs ++ ys).length) :
    ∃ c', ARep c' (M ++ [.cells (xs ++ ys) s 0 false]) (w.alloc (.cells (us.toArray ++ vs.toArray ++ tail) e)) (.slice (some ⟨w.heap.size, 0, none⟩) len cap) (.own M.length len 0) ∧
      Sim B I0 c' (M ++ [.cells (xs ++ ys) s 0 false]) (w.alloc (.cells (us.toArray ++ vs.toArray ++ tail) e)) ∧ Ext c M c' (M ++ [.cells (xs ++ ys) s 0 false]) ∧ Stp B c w c' (w.alloc (.cells (us.toArray ++ vs.toArray ++ tail) e)) := by
  obtain ⟨g1, g2, g3, g4, g5, g6⟩ := newRow_ok hS e (us.toArray ++ vs.toArray ++ tail) (xs ++ ys) s (by simp; omega) (by
    intro j x hj
    by_cases hjl : j < xs.length
    · rw [List.getElem?_append_left hjl] at hj
      have hju : j < us.length := by omega
      refine ⟨us[j], ?_, r1 j _ x (List.getElem?_eq_getElem hju) hj⟩
      rw [Array.append_assoc, Array.getElem?_append_left (by simpa using hju)]; simp [hju]
    · rw [List.getElem?_append_right (by omega)] at hj
      have hjy := (List.getElem?_eq_some_iff.1 hj).1
      have hjv : j - xs.length < vs.length := by omega
      refine ⟨vs[j - xs.length], ?_, r2 _ _ x (List.getElem?_eq_getElem hjv) hj⟩
      rw [Array.getElem?_append_left (by simp; omega), Array.getElem?_append_right (by simp; omega)]; simp [hu, hjv])
  refine ⟨_, .own _ _ _ _ (by simp) (Nat.zero_le _) fun _ => .inl ⟨cap, xs ++ ys, s, false, g6, ?_, hcap, ?_, hl⟩, g1, g2, g3⟩
  · rw [g4]
  · rw [g5]; exact hsz

theorem aAppend_ok {sT xT ty : TypeId} {d x y : AV} {v u : Value} {M' : Mem} (hS : Sim B I0 c M w) (hd : ARep c M w v d) (hx : ARep c M w u x) (h : aAppend P M sT xT d x = some (y, M')) :
    Out P B I0 c M w (Builtin.append_ #[sT, xT] ty #[v, u]) y M' := by
  unfold aAppend at h
  cases he : elemT P sT with
  | none => simp [he] at h
  | some e =>
    cases hri : rowInfo P e with
    | none => simp [he, hri] at h
    | some r =>
      obtain ⟨s, by_, z⟩ := r
      cases hsrc : srcCells M s x with
      | none => simp [he, hri, hsrc] at h
      | some r =>
        obtain ⟨xs, n⟩ := r
        simp only [he, hri, hsrc] at h
        have ht := elemT_some he
        have hL := srcCells_ok (P := P) hS hx hsrc
        obtain ⟨vs, q1, q2, q3⟩ := hL.cells
        have hlen := hL.len
        split at h
        · rename_i hcond
          obtain ⟨hxT, hb1, hzs, hok⟩ := hcond
          have hfull : vs.take (n * s) = vs := List.take_of_length_le (by omega)
          have hf : (Builtin.firstCells s n u).run P w = .ok vs.toArray w := by rw [q2 w rfl n (Nat.le_refl _), hfull]
          have hfd : (Builtin.firstCells s n u).run P w.drew = .ok vs.toArray w.drew := by rw [q2 w.drew rfl n (Nat.le_refl _), hfull]
          have hone : ∀ y ∈ vs, y.oneCell' = true := by
            intro y hy
            obtain ⟨j, hj⟩ := List.mem_iff_getElem?.1 hy
            have hjl : j < xs.length := by have := (List.getElem?_eq_some_iff.1 hj).1; omega
            exact (q3 j y xs[j] hj (List.getElem?_eq_getElem hjl)).oneCell (List.all_eq_true.1 hok _ (List.getElem_mem hjl))
          have hSd := (hS.same (w' := w.drew) rfl rfl rfl rfl)
          have rd : ∀ (j : Nat) (u : Value) (y : AV), vs[j]? = some u → xs[j]? = some y → ARep c M w.drew u y := fun j u y a b => (q3 j u y a b).mono (Ext.refl _ _).toExt0 hSd.2
          cases hd with
          | fixed a m l hn hp =>
            simp only at h
            split at h
            · rename_i hn0
              subst hn0
              cases h
              have hvs : vs = [] := List.eq_nil_of_length_eq_zero (by simpa using q1)
              subst hvs
              refine Out.val hS (v' := .slice a m m) ?_ (.fixed a m l hn hp)
              have := run_append_in (P := P) (ty := ty) (base := a) (sLen := m) (sCap := m) ht hxT hri (hL.lenOf w) hf (by omega) (w' := w) (fun a' _ => by simp [storeCells]) (fun _ => rfl)
              simpa using this
            · rename_i hn0
              split at h
              · rename_i hc2
                obtain ⟨hu, hmax⟩ := hc2
                cases h
                have hSrc : srcCells M s (.fixed l) = some ((Abs.flat l).map .pd, l.length) := by simp [srcCells, hu]
                have hL2 := srcCells_ok (P := P) hS (ARep.fixed a m l hn hp) hSrc
                obtain ⟨us, p1, p2, p3⟩ := hL2.cells
                have hfo : (Builtin.firstCells s m (.slice a m m)).run P w.drew = .ok us.toArray w.drew := by
                  have := p2 w.drew rfl l.length (Nat.le_refl _)
                  rw [List.take_of_length_le (by omega), ← hn] at this; exact this
                obtain ⟨cap, tail, hrun, hcap, htail⟩ := run_append_new (P := P) (ty := ty) (base := a) (sLen := m) (sCap := m) ht hxT hri (hL.lenOf w) hfd hfo (by omega) (by rw [hn]; exact hmax) hb1
                obtain ⟨c', k1, k2, k3, k4⟩ := newRow2_ok hSd.1 e us vs tail ((Abs.flat l).map .pd) xs s (l.length + n) cap (by rw [p1, hL2.len]) (by rw [q1, hlen])
                  (fun j u y a b => (p3 j u y a b).mono (Ext.refl _ _).toExt0 hSd.2) rd (by omega) (by
                    have := mul_split s hcap
                    simp only [Array.size_append, List.size_toArray, p1, q1, htail, hzs]
                    rw [hn] at this ⊢; omega) (by
                    have := hL2.len
                    simp only [List.length_append, this, hlen, Nat.add_mul]; omega)
                refine ⟨_, _, c', hrun, ?_, k2, k3, hSd.2.trans k4⟩
                rw [hn]; exact k1
              · cases h
          | own v b len ver hb hv hp =>
            simp only at h
            split at h
            · rename_i l sz ver' hM
              split at h
              · rename_i hc2
                obtain ⟨rfl, rfl, hmax⟩ := hc2
                cases h
                rcases hp (verOf_some hM) with ⟨cap, l2, sz2, z2, hM2, rfl, h5, h6, h7⟩ | ⟨sz2, hM2, _⟩
                · rw [hM] at hM2; cases hM2
                  obtain ⟨cs, e0, g1, g2, g3, g4⟩ := hS.row hM
                  by_cases hroom : len + n ≤ cap
                  · -- in place
                    have hmul : (len + n) * sz ≤ cap * sz := Nat.mul_le_mul_right _ hroom
                    rw [Nat.add_mul] at hmul
                    have hst := run_storeCells_at P (c.blk b) (len * sz) e0 vs 0 cs w g1 (by rw [q1]; omega) hone
                    simp only [Nat.add_zero] at hst
                    obtain ⟨hS', hE, hs⟩ := hS.setRow hM g1 (cs.toList.take (len * sz) ++ vs ++ cs.toList.drop (len * sz + vs.length)).toArray (by simp; omega)
                      (l' := l.take (len * sz) ++ xs) (ver' := ver' + 1) (by omega) (fun e => by omega) (by simp; omega) (by
                        intro j y hj
                        by_cases c1 : j < len * sz
                        · rw [List.getElem?_append_left (by simp; omega), List.getElem?_take, if_pos c1] at hj
                          obtain ⟨v', r1, r2⟩ := g4 j y hj
                          refine ⟨v', ?_, r2⟩
                          rw [List.getElem?_toArray, List.append_assoc, List.getElem?_append_left (by simp; omega), List.getElem?_take, if_pos c1]
                          simpa using r1
                        · have e1 : (l.take (len * sz)).length = len * sz := by simp; omega
                          rw [List.getElem?_append_right (by omega), e1] at hj
                          have hjx := (List.getElem?_eq_some_iff.1 hj).1
                          have hjl : j - len * sz < vs.length := by omega
                          refine ⟨vs[j - len * sz], ?_, q3 _ _ y (List.getElem?_eq_getElem hjl) hj⟩
                          have e2 : (cs.toList.take (len * sz)).length = len * sz := by simp; omega
                          rw [List.getElem?_toArray, List.append_assoc, List.getElem?_append_right (by omega), e2, List.getElem?_append_left hjl, List.getElem?_eq_getElem hjl])
                    refine ⟨_, _, c, run_append_in (P := P) (ty := ty) (base := some ⟨c.blk b, 0, none⟩) (sLen := len) (sCap := cap) ht hxT hri (hL.lenOf w) hf hroom (fun a' ha => ?_) (by simp), ?_, hS', hE, hs⟩
                    · cases ha
                      rw [addr_add _ _ rfl, Nat.zero_add]; exact hst
                    · have hM' : (M.set b (.cells (l.take (len * sz) ++ xs) sz (ver' + 1) false))[b]? = some (.cells (l.take (len * sz) ++ xs) sz (ver' + 1) false) := List.getElem?_set_self hb
                      refine .own _ _ _ _ (by simpa using hb) (by rw [verOf_some hM']; exact Nat.le_refl _) fun _ => .inl ⟨cap, _, _, _, hM', rfl, hroom, h6, ?_⟩
                      simp only [List.length_append, List.length_take, Nat.add_mul]; omega
                  · -- a new row
                    have hSrc : srcCells M sz (.own b len ver') = some (l.take (len * sz), len) := by simp [srcCells, hM]
                    have hL2 := srcCells_ok (P := P) hS (ARep.own _ b len ver' hb hv hp) hSrc
                    obtain ⟨us, p1, p2, p3⟩ := hL2.cells
                    have hfo : (Builtin.firstCells sz len (.slice (some ⟨c.blk b, 0, none⟩) len cap)).run P w.drew = .ok us.toArray w.drew := by
                      have := p2 w.drew rfl len (Nat.le_refl _)
                      rw [List.take_of_length_le (by omega)] at this; exact this
                    obtain ⟨cap', tail, hrun, hcap, htail⟩ := run_append_new (P := P) (ty := ty) (base := some ⟨c.blk b, 0, none⟩) (sLen := len) (sCap := cap) ht hxT hri (hL.lenOf w) hfd hfo (by omega) hmax hb1
                    have hl2 := hL2.len
                    have hszz : (us.toArray ++ vs.toArray ++ tail).size = cap' * sz := by
                      have := mul_split sz hcap
                      simp only [Array.size_append, List.size_toArray, p1, q1, htail, hzs]; omega
                    have hM' : (M.set b (.cells (l.take (len * sz) ++ xs) sz (ver' + 1) false))[b]? = some (.cells (l.take (len * sz) ++ xs) sz (ver' + 1) false) := List.getElem?_set_self hb
                    have hE : Ext c M (c.move b w.drew.heap.size (us.toArray ++ vs.toArray ++ tail).size) (M.set b (.cells (l.take (len * sz) ++ xs) sz (ver' + 1) false)) := Ext.move (o' := .cells (l.take (len * sz) ++ xs) sz (ver' + 1) false) hM rfl (by simp [Ob.ver]) _ _
                    have hs : Stp B c w.drew (c.move b w.drew.heap.size (us.toArray ++ vs.toArray ++ tail).size) (w.drew.alloc (.cells (us.toArray ++ vs.toArray ++ tail) e)) := Stp.alloc hSd.1.hB hSd.1.immlt _ _ _
                    have hS' := hSd.1.move hM (o' := .cells (l.take (len * sz) ++ xs) sz (ver' + 1) false) rfl (by simp [Ob.ver]) (.cells (us.toArray ++ vs.toArray ++ tail) e) (us.toArray ++ vs.toArray ++ tail).size (by
                      refine ⟨_, e, ?_, (upd_self _ _ _).symm, by rw [hszz, List.length_append, hl2, hlen, ← Nat.add_mul]; exact Nat.mul_le_mul_right _ hcap, ?_⟩
                      · show (w.drew.alloc _).heap[upd c.blk b w.drew.heap.size b]? = _
                        rw [upd_self]; exact World.alloc_heap_new _ _
                      · intro j x hj
                        by_cases hjl : j < (l.take (len * sz)).length
                        · rw [List.getElem?_append_left hjl] at hj
                          have hju : j < us.length := by omega
                          refine ⟨us[j], ?_, ((p3 j _ x (List.getElem?_eq_getElem hju) hj).mono (Ext.refl _ _).toExt0 hSd.2).mono hE hs⟩
                          rw [Array.append_assoc, Array.getElem?_append_left (by simpa using hju)]; simp [hju]
                        · rw [List.getElem?_append_right (by omega)] at hj
                          have hjy := (List.getElem?_eq_some_iff.1 hj).1
                          have hjv : j - (l.take (len * sz)).length < vs.length := by omega
                          refine ⟨vs[j - (l.take (len * sz)).length], ?_, (rd _ _ x (List.getElem?_eq_getElem hjv) hj).mono hE hs⟩
                          rw [Array.getElem?_append_left (by simp at hjv ⊢; omega), Array.getElem?_append_right (by simp at hjl ⊢; omega)]
                          have : us.length = (l.take (len * sz)).length := by omega
                          simp only [List.size_toArray, this]; simp [hjv])
                    refine ⟨_, _, _, hrun, ?_, hS', hE, hSd.2.trans hs⟩
                    refine .own _ _ _ _ (by simpa using hb) (by rw [verOf_some hM']; exact Nat.le_refl _) fun _ => .inl ⟨cap', _, _, _, hM', ?_, hcap, ?_, ?_⟩
                    · show _ = Value.slice (some ⟨upd c.blk b w.drew.heap.size b, 0, none⟩) _ _
                      rw [upd_self]; rfl
                    · show _ ≤ upd c.rsz b _ b
                      rw [upd_self, hszz]; exact Nat.le_refl _
                    · simp only [List.length_append, hl2, hlen, Nat.add_mul]; exact Nat.le_refl _
                · rw [hM] at hM2; cases hM2
              · cases h
            · rename_i sz ver' hM
              split at h
              · rename_i hc2
                obtain ⟨rfl, rfl, hmax⟩ := hc2
                rcases hp (verOf_some hM) with ⟨cap, l2, sz2, z2, hM2, _⟩ | ⟨sz2, hM2, rfl, rfl⟩
                · rw [hM] at hM2; cases hM2
                split at h
                · rename_i hn0
                  subst hn0
                  cases h
                  have hvs : vs = [] := List.eq_nil_of_length_eq_zero (by simpa using q1)
                  subst hvs
                  refine Out.val hS (v' := .slice none 0 0) ?_ (.own _ _ _ _ hb hv hp)
                  have := run_append_in (P := P) (ty := ty) (base := none) (sLen := 0) (sCap := 0) ht hxT hri (hL.lenOf w) hf (by omega) (w' := w) (fun a' ha => by cases ha) (fun _ => rfl)
                  simpa using this
                · rename_i hn0
                  cases h
                  have hfo : (Builtin.firstCells sz 0 (.slice none 0 0)).run P w.drew = .ok (([] : List Value)).toArray w.drew := by simp [Builtin.firstCells]
                  obtain ⟨cap', tail, hrun, hcap, htail⟩ := run_append_new (P := P) (ty := ty) (base := none) (sLen := 0) (sCap := 0) ht hxT hri (hL.lenOf w) hfd hfo (by omega) (by rw [Nat.zero_add]; exact hmax) hb1
                  have hszz : ((([] : List Value)).toArray ++ vs.toArray ++ tail).size = cap' * sz := by
                    have := mul_split sz hcap
                    simp only [Array.size_append, List.size_toArray, q1, htail, hzs, List.length_nil]; omega
                  have hM' : (M.set b (.cells xs sz (ver' + 1) false))[b]? = some (.cells xs sz (ver' + 1) false) := List.getElem?_set_self hb
                  have hE : Ext c M (c.move b w.drew.heap.size ((([] : List Value)).toArray ++ vs.toArray ++ tail).size) (M.set b (.cells xs sz (ver' + 1) false)) := Ext.move (o' := .cells xs sz (ver' + 1) false) hM rfl (by simp [Ob.ver]) _ _
                  have hs : Stp B c w.drew (c.move b w.drew.heap.size ((([] : List Value)).toArray ++ vs.toArray ++ tail).size) (w.drew.alloc (.cells ((([] : List Value)).toArray ++ vs.toArray ++ tail) e)) := Stp.alloc hSd.1.hB hSd.1.immlt _ _ _
                  have hS' := hSd.1.move hM (o' := .cells xs sz (ver' + 1) false) rfl (by simp [Ob.ver]) (.cells ((([] : List Value)).toArray ++ vs.toArray ++ tail) e) ((([] : List Value)).toArray ++ vs.toArray ++ tail).size (by
                    refine ⟨_, e, ?_, (upd_self _ _ _).symm, by rw [hszz, hlen]; exact Nat.mul_le_mul_right _ (by omega), ?_⟩
                    · show (w.drew.alloc _).heap[upd c.blk b w.drew.heap.size b]? = _
                      rw [upd_self]; exact World.alloc_heap_new _ _
                    · intro j x hj
                      have hjy := (List.getElem?_eq_some_iff.1 hj).1
                      have hjv : j < vs.length := by omega
                      refine ⟨vs[j], ?_, (rd _ _ x (List.getElem?_eq_getElem hjv) hj).mono hE hs⟩
                      rw [Array.getElem?_append_left (by simpa using hjv)]; simp [hjv])
                  refine ⟨_, _, _, hrun, ?_, hS', hE, hSd.2.trans hs⟩
                  rw [Nat.zero_add]
                  refine .own _ _ _ _ (by simpa using hb) (by rw [verOf_some hM']; exact Nat.le_refl _) fun _ => .inl ⟨cap', _, _, _, hM', ?_, by omega, ?_, by omega⟩
                  · show _ = Value.slice (some ⟨upd c.blk b w.drew.heap.size b, 0, none⟩) _ _
                    rw [upd_self]; rfl
                  · show _ ≤ upd c.rsz b _ b
                    rw [upd_self, hszz]; exact Nat.le_refl _
              · cases h
            · cases h
          | _ => simp at h
        · cases h

end Go.Abs
