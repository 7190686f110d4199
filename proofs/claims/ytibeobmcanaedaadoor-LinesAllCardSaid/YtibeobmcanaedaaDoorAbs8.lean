/- Literals, lengths, conversions, arithmetic. -/
import Derived.Test.YtibeobmcanaedaaDoorAbs7
namespace Go.Abs
open Go.RowKit
variable {P : Program} {B : Nat} {I0 : Nat → Prop} {c : Ctx} {M : Mem} {w : World}

/-! ### literals -/
def setAt (l : List AV) (off : Nat) : List AV → List AV
  | [] => l
  | x :: xs => setAt (l.set off x) (off + 1) xs

def afill (M : Mem) (place : Nat → Option (Nat × Nat)) (cells : List AV) : List (Nat × AV) → Option (List AV)
  | [] => some cells
  | (i, x) :: rest =>
    match place i, x.cells with
    | some (off, s), some xs => if xs.length = s ∧ off + s ≤ cells.length ∧ xs.all (·.okCell M) = true then afill M place (setAt cells off xs) rest else none
    | _, _ => none

def Cells (c : Ctx) (M : Mem) (w : World) (cs : Array Value) (l : List AV) : Prop :=
  cs.size = l.length ∧ ∀ (i : Nat) (v : Value) (x : AV), cs[i]? = some v → l[i]? = some x → ARep c M w v x

theorem setAt_length : ∀ (xs l : List AV) (off : Nat), (setAt l off xs).length = l.length
  | [], l, off => rfl
  | x :: xs, l, off => by rw [setAt, setAt_length xs]; simp

theorem Cells.set {cs : Array Value} {l : List AV} {v : Value} {x : AV} {k : Nat} (h : Cells c M w cs l) (hx : ARep c M w v x) : Cells c M w (cs.setIfInBounds k v) (l.set k x) := by
  refine ⟨by simp [h.1], fun i u y h1 h2 => ?_⟩
  by_cases e : k = i
  · subst e
    have hl : k < l.length := by have := (List.getElem?_eq_some_iff.1 h2).1; simpa using this
    have hk := h.1
    rw [List.getElem?_set_self hl] at h2
    rw [Array.getElem?_setIfInBounds_self_of_lt (by omega)] at h1
    cases h1; cases h2; exact hx
  · rw [List.getElem?_set_ne e] at h2
    rw [Array.getElem?_setIfInBounds_ne e] at h1
    exact h.2 i u y h1 h2

theorem Cells.setAt : ∀ (vs : List Value) (xs : List AV) (cs : Array Value) (l : List AV) (off j : Nat), Cells c M w cs l → vs.length = xs.length →
    (∀ (i : Nat) (v : Value) (x : AV), vs[i]? = some v → xs[i]? = some x → ARep c M w v x) →
    Cells c M w ((vs.zipIdx j).foldl (fun cs (v, i) => cs.setIfInBounds (off + i) v) cs) (Abs.setAt l (off + j) xs)
  | [], [], cs, l, off, j, h, _, _ => h
  | v :: vs, x :: xs, cs, l, off, j, h, hl, hr => by
    simp only [List.zipIdx_cons, List.foldl_cons, Abs.setAt]
    have := Cells.setAt vs xs (cs.setIfInBounds (off + j) v) (l.set (off + j) x) off (j + 1) (h.set (hr 0 v x rfl rfl)) (by simpa using hl) fun i u y h1 h2 => hr (i + 1) u y (by simpa using h1) (by simpa using h2)
    rw [Nat.add_assoc]
    exact this
  | [], _ :: _, _, _, _, _, _, hl, _ => by simp at hl
  | _ :: _, [], _, _, _, _, _, hl, _ => by simp at hl

/-- The parts of a literal. -/
def PartsRep (c : Ctx) (M : Mem) (w : World) : List (Nat × Value) → List (Nat × AV) → Prop
  | [], [] => True
  | (i, v) :: vs, (j, x) :: xs => i = j ∧ ARep c M w v x ∧ PartsRep c M w vs xs
  | _, _ => False

theorem afill_ok {place : Nat → Option (Nat × Nat)} : ∀ {ps : List (Nat × Value)} {xs : List (Nat × AV)} {cs : Array Value} {l l' : List AV}, PartsRep c M w ps xs → Cells c M w cs l → afill M place l xs = some l' →
    ∃ cs', Instr.fill place cs ps = some cs' ∧ Cells c M w cs' l'
  | [], [], cs, l, l', _, hc, h => by simp [afill] at h; subst h; exact ⟨cs, rfl, hc⟩
  | (i, v) :: ps, (j, x) :: xs, cs, l, l', hp, hc, h => by
    obtain ⟨rfl, hx, hp⟩ := hp
    simp only [afill] at h
    split at h
    · rename_i off s ys hpl hys
      split at h
      · rename_i hcond
        obtain ⟨h1, h2, h3⟩ := hcond
        obtain ⟨k1, k2⟩ := hx.cells hys h3
        have hc' := Cells.setAt v.cells.toList ys cs l off 0 hc (by simpa using k1) fun i u y q1 q2 => k2 i u y (by simpa using q1) q2
        obtain ⟨cs', g1, g2⟩ := afill_ok (place := place) hp hc' h
        refine ⟨cs', ?_, g2⟩
        rw [Instr.fill, hpl]
        have e1 : v.cells.size = s := by omega
        have e2 : ¬ (cs.size < off + s) := by have := hc.1; omega
        have e3 : Array.foldl (fun cs x => match x with | (v, i) => cs.setIfInBounds (off + i) v) cs (v.cells.zipIdx) = (v.cells.toList.zipIdx 0).foldl (fun cs (v, i) => cs.setIfInBounds (off + i) v) cs := by
          rw [← Array.foldl_toList]; simp
        simp only [e1, ne_eq, not_true_eq_false, gt_iff_lt, e2]
        rw [e3]; exact g1
      · cases h
    · cases h
  | [], _ :: _, _, _, _, hp, _, _ => hp.elim
  | _ :: _, [], _, _, _, hp, _, _ => hp.elim

def placesOf (P : Program) (fs : Array Field) : Option (List (Nat × Nat)) := fs.toList.mapM fun f => (szOf P f.type).map fun s => (f.offset, s)

theorem zeroVal {t : TypeId} {v : Value} (h : (zeroValue t).run P w = .ok v w) : ∃ i, P.info? t = some i ∧ i.zero = some v := by
  cases hi : P.info? t with
  | none => simp [zeroValue, typeInfo, hi] at h
  | some i =>
    cases hz : i.zero with
    | none => simp [zeroValue, typeInfo, hi, hz] at h
    | some z => simp [zeroValue, typeInfo, hi, hz] at h; exact ⟨i, rfl, by rw [hz, h]⟩

def aBuild (P : Program) (M : Mem) (t : TypeId) (parts : List (Nat × AV)) : Option AV :=
  match (zeroOf P t).bind AV.cells, P.underlying t with
  | some zs, some (.struct fs) => if zs.all (·.okCell M) = true then (placesOf P fs).bind fun pl => (afill M (pl.toArray[·]?) zs parts).map .agg else none
  | some zs, some (.array _ e) => if zs.all (·.okCell M) = true then (szOf P e).bind fun s => (afill M (fun i => some (i * s, s)) zs parts).map .agg else none
  | _, _ => none

theorem aBuild_ok {t : TypeId} {ps : Array (Nat × Value)} {xs : List (Nat × AV)} {y : AV} (hS : Sim B I0 c M w) (hp : PartsRep c M w ps.toList xs) (h : aBuild P M t xs = some y) : Out P B I0 c M w (Instr.build t ps) y M := by
  unfold aBuild at h
  cases hz : zeroOf P t with
  | none => simp [hz] at h
  | some z =>
    cases hzs : z.cells with
    | none => simp [hz, hzs] at h
    | some zs =>
      simp only [hz, Option.bind_some, hzs] at h
      obtain ⟨v, h1, h2⟩ := zeroOf_ok hz w
      have h3 := (zAV_ok (c := c) (M := M) (w := w) h2).1
      cases hu : P.underlying t with
      | none => simp [hu] at h
      | some d =>
        rw [hu] at h
        cases d with
        | struct fs =>
          simp only at h
          split at h
          · rename_i hok
            rw [Option.bind_eq_some_iff] at h
            obtain ⟨pl, hpl, h⟩ := h
            rw [Option.map_eq_some_iff] at h
            obtain ⟨l', hl', rfl⟩ := h
            obtain ⟨cs', g1, g2⟩ := afill_ok (place := (pl.toArray[·]?)) hp (h3.cells hzs hok) hl'
            refine Out.val hS (v' := .agg cs') (run_build w t ps cs' ?_) (.agg _ _ g2.1 g2.2)
            obtain ⟨i, hi, hiz⟩ := zeroVal h1
            have hpl' : fs.toList.mapM (fun f => (P.info? f.type).map fun i => (f.offset, i.size)) = some pl := by
              rw [← hpl]; unfold placesOf; congr 1; funext f; simp only [szOf, Option.map_map]; rfl
            simp only [Program.built, hi, hu, hiz, hpl', g1]
          · cases h
        | array n e =>
          simp only at h
          split at h
          · rename_i hok
            rw [Option.bind_eq_some_iff] at h
            obtain ⟨s, hs, h⟩ := h
            rw [Option.map_eq_some_iff] at h
            obtain ⟨l', hl', rfl⟩ := h
            obtain ⟨cs', g1, g2⟩ := afill_ok (place := fun i => some (i * s, s)) hp (h3.cells hzs hok) hl'
            refine Out.val hS (v' := .agg cs') (run_build w t ps cs' ?_) (.agg _ _ g2.1 g2.2)
            obtain ⟨i, hi, hiz⟩ := zeroVal h1
            unfold szOf at hs
            rw [Option.map_eq_some_iff] at hs
            obtain ⟨ie, hie, rfl⟩ := hs
            simp only [Program.built, hi, hu, hiz, hie, g1]
          · cases h
        | _ => simp at h

/-- A cell that is plain data. -/
def AV.pdCell : AV → Option PD
  | .pd (.agg _) => none
  | .pd x => some x
  | .fixed l => some (.sl l)
  | _ => none

theorem ARep.pdCell {v : Value} {x : AV} {y : PD} (h : ARep c M w v x) (hx : x.pdCell = some y) : PRep c.imm w v y ∧ y.leaves = [y] := by
  cases h with
  | pd v z h => cases z <;> simp [AV.pdCell] at hx <;> subst hx <;> exact ⟨h, rfl⟩
  | fixed a n l hn h => simp [AV.pdCell] at hx; subst hx; exact ⟨h, rfl⟩
  | _ => simp [AV.pdCell] at hx

/-- Cells grouped into elements. -/
def group (ag : Bool) (s n : Nat) (l : List PD) : List PD := (List.range n).map fun i => if ag then .agg ((l.drop (i * s)).take s) else l.getD i default

def aBuildSlice (P : Program) (M : Mem) (t : TypeId) (n : Nat) (parts : List (Nat × AV)) : Option AV :=
  match elemT P t with
  | some e =>
    match szOf P e, aggT P e, (zeroOf P e).bind AV.cells with
    | some s, some ag, some zs =>
      if n * s ≤ 16777216 ∧ zs.length = s ∧ 0 < s ∧ (ag = true ∨ s = 1) ∧ zs.all (·.okCell M) = true then
        (afill M (fun i => some (i * s, s)) (repCells zs n) parts).bind fun l => (l.mapM AV.pdCell).map fun l => .fixed (group ag s n l)
      else none
    | _, _, _ => none
  | none => none

theorem Cells.rep {z : Value} {zs : List AV} (n : Nat) (h : Cells c M w z.cells zs) (hs : 0 < zs.length) : Cells c M w ((Array.range (n * zs.length)).map (z.cells[· % z.cells.size]!)) (repCells zs n) := by
  refine ⟨by simp [repCells], fun i v x h1 h2 => ?_⟩
  simp only [repCells, List.getElem?_map, Option.map_eq_some_iff] at h2
  obtain ⟨j, hj, rfl⟩ := h2
  have hlt := (List.getElem?_eq_some_iff.1 hj).1
  obtain rfl : j = i := by have := (List.getElem?_eq_some_iff.1 hj).2; simpa using this.symm
  simp at hlt
  have hm : j % zs.length < zs.length := Nat.mod_lt _ hs
  have hz := h.1
  have hm2 : j % z.cells.size < z.cells.size := by rw [hz]; exact hm
  rw [Array.getElem?_map, Array.getElem?_range, if_pos hlt] at h1
  simp [getElem!_pos, hm2] at h1
  subst h1
  refine h.2 (j % zs.length) _ _ ?_ ?_
  · rw [Array.getElem?_eq_getElem (by rw [hz]; exact hm)]; simp [hz]
  · rw [List.getD_eq_getElem?_getD, List.getElem?_eq_getElem hm]; rfl

theorem aBuildSlice_ok {t : TypeId} {n : Nat} {ps : Array (Nat × Value)} {xs : List (Nat × AV)} {y : AV} (hS : Sim B I0 c M w) (hp : PartsRep c M w ps.toList xs) (h : aBuildSlice P M t n xs = some y) :
    Out P B I0 c M w (Instr.buildSlice t n ps) y M := by
  unfold aBuildSlice at h
  split at h
  case h_2 => cases h
  rename_i e he
  split at h
  case h_2 => cases h
  rename_i s ag zs hs hag hzs
  split at h
  case isFalse => cases h
  rename_i hcond
  obtain ⟨q1, q2, q3, q4, q5⟩ := hcond
  rw [Option.bind_eq_some_iff] at h hzs
  obtain ⟨l, hl, h⟩ := h
  rw [Option.map_eq_some_iff] at h
  obtain ⟨ds, hds, rfl⟩ := h
  obtain ⟨z, hz, hzc⟩ := hzs
  obtain ⟨v, h1, h2⟩ := zeroOf_ok hz w
  have h3 := (zAV_ok (c := c) (M := M) (w := w) h2).1
  have hc0 : Cells c M w v.cells zs := h3.cells hzc q5
  have hc1 := hc0.rep n (by omega)
  rw [q2] at hc1
  obtain ⟨cs', g1, g2⟩ := afill_ok (place := fun i => some (i * s, s)) hp hc1 hl
  have ht := elemT_some he
  obtain ⟨m1, m2⟩ := mapM_some hds
  have hlen : l.length = n * s := by
    have : ∀ (xs : List (Nat × AV)) (a b : List AV), afill M (fun i => some (i * s, s)) a xs = some b → b.length = a.length := by
      intro xs
      induction xs with
      | nil => intro a b h; simp [afill] at h; rw [h]
      | cons p xs ih =>
        intro a b h
        simp only [afill] at h
        split at h
        · split at h
          · rw [ih _ _ h, setAt_length]
          · cases h
        · cases h
    rw [this _ _ _ hl]; simp [repCells, q2]
  have hcs : cs'.size = n * s := by rw [g2.1, hlen]
  -- the new block
  have hrun : (Instr.buildSlice t n ps).run P w = .ok (.slice (some ⟨w.heap.size, 0, none⟩) n n) (w.alloc (.cells cs' e)) := by
    by_cases hn : n * s = 0
    · have hn0 : n = 0 := by rcases Nat.mul_eq_zero.1 hn with h | h <;> omega
      subst hn0
      have hg1 : Instr.fill (fun i => some (i * s, s)) #[] ps.toList = some cs' := by
        have : (Array.range (0 * s)).map (v.cells[· % v.cells.size]!) = #[] := by simp
        rw [← this]; exact g1
      have hr0 : (Array.range 0 : Array Nat) = #[] := rfl
      simp [Instr.buildSlice, run_underlying ht, run_sizeOf hs, hr0, hg1, newRow]
    · have hle : ¬ (16777216 < n * s) := by omega
      simp [Instr.buildSlice, run_underlying ht, run_sizeOf hs, hle, h1, g1, newRow]
      intro h; exact absurd h hn
  have hb : Below w.heap.size w (w.alloc (.cells cs' e)) := (Below.refl _ _).alloc (Nat.le_refl _) _
  have hst : Stp B c w (c.grown w (w.alloc (.cells cs' e))) (w.alloc (.cells cs' e)) := Stp.grown hS.hB hS.immlt hb
  refine ⟨_, _, c.grown w (w.alloc (.cells cs' e)), hrun, ?_, hS.grown hb, Ext.grown _ _ _, hst⟩
  have hgl : (group ag s n ds).length = n := by simp [group]
  refine .fixed _ _ _ hgl.symm ?_
  have cell : ∀ k, k < n * s → ∃ d, ds[k]? = some d ∧ PRep c.imm w (cs'.getD k undef) d ∧ d.leaves = [d] := by
    intro k hk
    obtain ⟨d, d1, d2⟩ := m2 k l[k] (List.getElem?_eq_getElem (by omega))
    have := (g2.2 k cs'[k] l[k] (Array.getElem?_eq_getElem (by omega)) (List.getElem?_eq_getElem (by omega))).pdCell d2
    refine ⟨d, d1, ?_, this.2⟩
    have e1 : cs'.getD k undef = cs'[k]'(by omega) := by simp [Array.getD, show k < cs'.size by omega]
    rw [e1]; exact this.1
  have elemAt : ∀ i x, (group ag s n ds)[i]? = some x → i < n ∧ x.leaves.length = s ∧ ∀ j y, x.leaves[j]? = some y → j < s ∧ ds[i * s + j]? = some y := by
    intro i x hx
    simp only [group, List.getElem?_map, Option.map_eq_some_iff] at hx
    obtain ⟨i', hi, rfl⟩ := hx
    have hlt := (List.getElem?_eq_some_iff.1 hi).1
    obtain rfl : i' = i := by have := (List.getElem?_eq_some_iff.1 hi).2; simpa using this.symm
    simp at hlt
    have hmul : (i' + 1) * s ≤ n * s := Nat.mul_le_mul_right _ hlt
    rw [Nat.add_mul, Nat.one_mul] at hmul
    refine ⟨hlt, ?_⟩
    cases ag with
    | true =>
      simp only [if_true, PD.leaves]
      refine ⟨by simp; omega, fun j y hy => ?_⟩
      rw [List.getElem?_take] at hy
      split at hy
      · rw [List.getElem?_drop] at hy; exact ⟨by assumption, hy⟩
      · cases hy
    | false =>
      have hs1 : s = 1 := by simpa using q4
      subst hs1
      obtain ⟨d, d1, d2, d3⟩ := cell i' (by omega)
      have e1 : ds.getD i' default = d := by simp [List.getD_eq_getElem?_getD, d1]
      simp only [Bool.false_eq_true, if_false, e1, d3]
      refine ⟨rfl, fun j y hy => ?_⟩
      cases j with
      | zero => simp at hy; subst hy; exact ⟨by omega, by simpa using d1⟩
      | succ j => simp at hy
  refine .sl _ n n s _ (fun i j => cs'.getD (i * s + j) undef) (fun _ => rfl) hgl.symm (Nat.le_refl _) (fun hn => .inr ⟨Nat.le_refl _, by simp⟩) (fun i x hx => (elemAt i x hx).2.1) (fun i j hi hj => ?_) fun i j x y hx hy => ?_
  · have hmul : (i + 1) * s ≤ n * s := Nat.mul_le_mul_right _ hi
    rw [Nat.add_mul, Nat.one_mul] at hmul
    have := World.cell?_alloc_new w cs' e (i * s + j)
    simp only [Nat.zero_add]
    rw [this]
    simp [Array.getD, show i * s + j < cs'.size by omega]
  · obtain ⟨k1, k2, k3⟩ := elemAt i x hx
    obtain ⟨k4, k5⟩ := k3 j y hy
    have hmul : (i + 1) * s ≤ n * s := Nat.mul_le_mul_right _ k1
    rw [Nat.add_mul, Nat.one_mul] at hmul
    obtain ⟨d, d1, d2, d3⟩ := cell (i * s + j) (by omega)
    rw [k5] at d1; cases d1
    exact d2.mono hst.imm hst.kept

end Go.Abs
