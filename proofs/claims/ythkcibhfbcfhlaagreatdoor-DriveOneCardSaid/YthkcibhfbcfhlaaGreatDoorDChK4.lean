/- Part of a proof, in few files: Abs8 Abs10. -/
import Derived.Test.YthkcibhfbcfhlaaGreatDoorDChK3
import Derived.Laws.Sem
import Derived.Laws.StructEq
import Derived.Laws.BytesString

set_option linter.unusedVariables false
set_option linter.unusedSimpArgs false
set_option linter.unnecessarySimpa false
section
namespace Go.Abs
open Go.RowKit
variable {P : Program} {B : Nat} {I0 : Nat → Prop} {c : Ctx} {M : Mem} {w : World}
def setAt (l : List AV) (off : Nat) : List AV → List AV
 | [] => l
 | x :: xs => setAt (l.set off x) (off + 1) xs
def afill (M : Mem) (place : Nat → Option (Nat × Nat)) (cells : List AV) : List (Nat × AV) → Option (List AV)
 | [] => some cells
 | (i, x) :: rest =>
  match place i, x.cells with
  | some (off, s), some xs => if xs.length = s ∧ off + s ≤ cells.length ∧ xs.all (·.okCell M) = true then afill M place (setAt cells off xs) rest else none
  | _, _ => none
def Cells (c : Ctx) (M : Mem) (w : World) (cs : Array Value) (l : List AV) : Prop :=
 cs.size = l.length ∧ ∀ (i : Nat) (v : Value) (x : AV), cs[i]? = some v → l[i]? = some x → ARep c M w v x
theorem setAt_length : ∀ (xs l : List AV) (off : Nat), (setAt l off xs).length = l.length
 | [], l, off => rfl
 | x :: xs, l, off => by rw [setAt, setAt_length xs]; simp
theorem Cells.set {cs : Array Value} {l : List AV} {v : Value} {x : AV} {k : Nat} (h : Cells c M w cs l) (hx : ARep c M w v x) : Cells c M w (cs.setIfInBounds k v) (l.set k x) := by
 refine ⟨by simp [h.1], fun i u y h1 h2 => ?_⟩
 by_cases e : k = i
 ·subst e
  have hl : k < l.length := by have := (List.getElem?_eq_some_iff.1 h2).1; simpa using this
  have hk := h.1
  rw [List.getElem?_set_self hl] at h2
  rw [Array.getElem?_setIfInBounds_self_of_lt (by omega)] at h1
  cases h1; cases h2; exact hx
 ·rw [List.getElem?_set_ne e] at h2
  rw [Array.getElem?_setIfInBounds_ne e] at h1
  exact h.2 i u y h1 h2
theorem Cells.setAt : ∀ (vs : List Value) (xs : List AV) (cs : Array Value) (l : List AV) (off j : Nat), Cells c M w cs l → vs.length = xs.length →
  (∀ (i : Nat) (v : Value) (x : AV), vs[i]? = some v → xs[i]? = some x → ARep c M w v x) →
  Cells c M w ((vs.zipIdx j).foldl (fun cs (v, i) => cs.setIfInBounds (off + i) v) cs) (Abs.setAt l (off + j) xs)
 | [], [], cs, l, off, j, h, _, _ => h
 | v :: vs, x :: xs, cs, l, off, j, h, hl, hr => by
  simp only [List.zipIdx_cons, List.foldl_cons, Abs.setAt]
  have := Cells.setAt vs xs (cs.setIfInBounds (off + j) v) (l.set (off + j) x) off (j + 1) (h.set (hr 0 v x rfl rfl)) (by simpa using hl) fun i u y h1 h2 => hr (i + 1) u y (by simpa using h1) (by simpa using h2)
  rw [Nat.add_assoc]
  exact this
 | [], _ :: _, _, _, _, _, _, hl, _ => by simp at hl
 | _ :: _, [], _, _, _, _, _, hl, _ => by simp at hl
def PartsRep (c : Ctx) (M : Mem) (w : World) : List (Nat × Value) → List (Nat × AV) → Prop
 | [], [] => True
 | (i, v) :: vs, (j, x) :: xs => i = j ∧ ARep c M w v x ∧ PartsRep c M w vs xs
 | _, _ => False
theorem afill_ok {place : Nat → Option (Nat × Nat)} : ∀ {ps : List (Nat × Value)} {xs : List (Nat × AV)} {cs : Array Value} {l l' : List AV}, PartsRep c M w ps xs → Cells c M w cs l → afill M place l xs = some l' →
  ∃ cs', Instr.fill place cs ps = some cs' ∧ Cells c M w cs' l'
 | [], [], cs, l, l', _, hc, h => by simp [afill] at h; subst h; exact ⟨cs, rfl, hc⟩
 | (i, v) :: ps, (j, x) :: xs, cs, l, l', hp, hc, h => by
  obtain ⟨rfl, hx, hp⟩ := hp
  simp only [afill] at h
  split at h
  ·rename_i off s ys hpl hys
   split at h
   ·rename_i hcond
    obtain ⟨h1, h2, h3⟩ := hcond
    obtain ⟨k1, k2⟩ := hx.cells hys h3
    have hc' := Cells.setAt v.cells.toList ys cs l off 0 hc (by simpa using k1) fun i u y q1 q2 => k2 i u y (by simpa using q1) q2
    obtain ⟨cs', g1, g2⟩ := afill_ok (place := place) hp hc' h
    refine ⟨cs', ?_, g2⟩
    rw [Instr.fill, hpl]
    have e1 : v.cells.size = s := by omega
    have e2 : ¬ (cs.size < off + s) := by have := hc.1; omega
    have e3 : Array.foldl (fun cs x => match x with | (v, i) => cs.setIfInBounds (off + i) v) cs (v.cells.zipIdx) = (v.cells.toList.zipIdx 0).foldl (fun cs (v, i) => cs.setIfInBounds (off + i) v) cs := by
     rw [← Array.foldl_toList]; simp
    simp only [e1, ne_eq, not_true_eq_false, gt_iff_lt, e2]
    rw [e3]; exact g1
   ·cases h
  ·cases h
 | [], _ :: _, _, _, _, hp, _, _ => hp.elim
 | _ :: _, [], _, _, _, hp, _, _ => hp.elim
def placesOf (P : Program) (fs : Array Field) : Option (List (Nat × Nat)) := fs.toList.mapM fun f => (szOf P f.type).map fun s => (f.offset, s)
theorem zeroVal {t : TypeId} {v : Value} (h : (zeroValue t).run P w = .ok v w) : ∃ i, P.info? t = some i ∧ i.zero = some v := by
 cases hi : P.info? t with
 | none => simp [zeroValue, typeInfo, hi] at h
 | some i =>
  cases hz : i.zero with
  | none => simp [zeroValue, typeInfo, hi, hz] at h
  | some z => simp [zeroValue, typeInfo, hi, hz] at h; exact ⟨i, rfl, by rw [hz, h]⟩
def aBuild (P : Program) (M : Mem) (t : TypeId) (parts : List (Nat × AV)) : Option AV :=
 match (zeroOf P t).bind AV.cells, P.underlying t with
 | some zs, some (.struct fs) => if zs.all (·.okCell M) = true then (placesOf P fs).bind fun pl => (afill M (pl.toArray[·]?) zs parts).map .agg else none
 | some zs, some (.array _ e) => if zs.all (·.okCell M) = true then (szOf P e).bind fun s => (afill M (fun i => some (i * s, s)) zs parts).map .agg else none
 | _, _ => none
theorem aBuild_ok {t : TypeId} {ps : Array (Nat × Value)} {xs : List (Nat × AV)} {y : AV} (hS : Sim B I0 c M w) (hp : PartsRep c M w ps.toList xs) (h : aBuild P M t xs = some y) : Out P B I0 c M w (Instr.build t ps) y M := by
 unfold aBuild at h
 cases hz : zeroOf P t with
 | none => simp [hz] at h
 | some z =>
  cases hzs : z.cells with
  | none => simp [hz, hzs] at h
  | some zs =>
   simp only [hz, Option.bind_some, hzs] at h
   obtain ⟨v, h1, h2⟩ := zeroOf_ok hz w
   have h3 := (zAV_ok (c := c) (M := M) (w := w) h2).1
   cases hu : P.underlying t with
   | none => simp [hu] at h
   | some d =>
    rw [hu] at h
    cases d with
    | struct fs =>
     simp only at h
     split at h
     ·rename_i hok
      rw [Option.bind_eq_some_iff] at h
      obtain ⟨pl, hpl, h⟩ := h
      rw [Option.map_eq_some_iff] at h
      obtain ⟨l', hl', rfl⟩ := h
      obtain ⟨cs', g1, g2⟩ := afill_ok (place := (pl.toArray[·]?)) hp (h3.cells hzs hok) hl'
      refine Out.val hS (v' := .agg cs') (run_build w t ps cs' ?_) (.agg _ _ g2.1 g2.2)
      obtain ⟨i, hi, hiz⟩ := zeroVal h1
      have hpl' : fs.toList.mapM (fun f => (P.info? f.type).map fun i => (f.offset, i.size)) = some pl := by
       rw [← hpl]; unfold placesOf; congr 1; funext f; simp only [szOf, Option.map_map]; rfl
      simp only [Program.built, hi, hu, hiz, hpl', g1]
     ·cases h
    | array n e =>
     simp only at h
     split at h
     ·rename_i hok
      rw [Option.bind_eq_some_iff] at h
      obtain ⟨s, hs, h⟩ := h
      rw [Option.map_eq_some_iff] at h
      obtain ⟨l', hl', rfl⟩ := h
      obtain ⟨cs', g1, g2⟩ := afill_ok (place := fun i => some (i * s, s)) hp (h3.cells hzs hok) hl'
      refine Out.val hS (v' := .agg cs') (run_build w t ps cs' ?_) (.agg _ _ g2.1 g2.2)
      obtain ⟨i, hi, hiz⟩ := zeroVal h1
      unfold szOf at hs
      rw [Option.map_eq_some_iff] at hs
      obtain ⟨ie, hie, rfl⟩ := hs
      simp only [Program.built, hi, hu, hiz, hie, g1]
     ·cases h
    | _ => simp at h
def AV.pdCell : AV → Option PD
 | .pd (.agg _) => none
 | .pd x => some x
 | .fixed l => some (.sl l)
 | _ => none
theorem ARep.pdCell {v : Value} {x : AV} {y : PD} (h : ARep c M w v x) (hx : x.pdCell = some y) : PRep c.imm w v y ∧ y.leaves = [y] := by
 cases h with
 | pd v z h => cases z <;> simp [AV.pdCell] at hx <;> subst hx <;> exact ⟨h, rfl⟩
 | fixed a n l hn h => simp [AV.pdCell] at hx; subst hx; exact ⟨h, rfl⟩
 | _ => simp [AV.pdCell] at hx
def group (ag : Bool) (s n : Nat) (l : List PD) : List PD := (List.range n).map fun i => if ag then .agg ((l.drop (i * s)).take s) else l.getD i default
def aBuildSlice (P : Program) (M : Mem) (t : TypeId) (n : Nat) (parts : List (Nat × AV)) : Option AV :=
 match elemT P t with
 | some e =>
  match szOf P e, aggT P e, (zeroOf P e).bind AV.cells with
  | some s, some ag, some zs =>
   if n * s ≤ 16777216 ∧ zs.length = s ∧ 0 < s ∧ (ag = true ∨ s = 1) ∧ zs.all (·.okCell M) = true then
    (afill M (fun i => some (i * s, s)) (repCells zs n) parts).bind fun l => (l.mapM AV.pdCell).map fun l => .fixed (group ag s n l)
   else none
  | _, _, _ => none
 | none => none
theorem Cells.rep {z : Value} {zs : List AV} (n : Nat) (h : Cells c M w z.cells zs) (hs : 0 < zs.length) : Cells c M w ((Array.range (n * zs.length)).map (z.cells[· % z.cells.size]!)) (repCells zs n) := by
 refine ⟨by simp [repCells], fun i v x h1 h2 => ?_⟩
 simp only [repCells, List.getElem?_map, Option.map_eq_some_iff] at h2
 obtain ⟨j, hj, rfl⟩ := h2
 have hlt := (List.getElem?_eq_some_iff.1 hj).1
 obtain rfl : j = i := by have := (List.getElem?_eq_some_iff.1 hj).2; simpa using this.symm
 simp at hlt
 have hm : j % zs.length < zs.length := Nat.mod_lt _ hs
 have hz := h.1
 have hm2 : j % z.cells.size < z.cells.size := by rw [hz]; exact hm
 rw [Array.getElem?_map, Array.getElem?_range, if_pos hlt] at h1
 simp [getElem!_pos, hm2] at h1
 subst h1
 refine h.2 (j % zs.length) _ _ ?_ ?_
 ·rw [Array.getElem?_eq_getElem (by rw [hz]; exact hm)]; simp [hz]
 ·rw [List.getD_eq_getElem?_getD, List.getElem?_eq_getElem hm]; rfl
theorem aBuildSlice_ok {t : TypeId} {n : Nat} {ps : Array (Nat × Value)} {xs : List (Nat × AV)} {y : AV} (hS : Sim B I0 c M w) (hp : PartsRep c M w ps.toList xs) (h : aBuildSlice P M t n xs = some y) :
  Out P B I0 c M w (Instr.buildSlice t n ps) y M := by
 unfold aBuildSlice at h
 split at h
 case h_2 => cases h
 rename_i e he
 split at h
 case h_2 => cases h
 rename_i s ag zs hs hag hzs
 split at h
 case isFalse => cases h
 rename_i hcond
 obtain ⟨q1, q2, q3, q4, q5⟩ := hcond
 rw [Option.bind_eq_some_iff] at h hzs
 obtain ⟨l, hl, h⟩ := h
 rw [Option.map_eq_some_iff] at h
 obtain ⟨ds, hds, rfl⟩ := h
 obtain ⟨z, hz, hzc⟩ := hzs
 obtain ⟨v, h1, h2⟩ := zeroOf_ok hz w
 have h3 := (zAV_ok (c := c) (M := M) (w := w) h2).1
 have hc0 : Cells c M w v.cells zs := h3.cells hzc q5
 have hc1 := hc0.rep n (by omega)
 rw [q2] at hc1
 obtain ⟨cs', g1, g2⟩ := afill_ok (place := fun i => some (i * s, s)) hp hc1 hl
 have ht := elemT_some he
 obtain ⟨m1, m2⟩ := mapM_some hds
 have hlen : l.length = n * s := by
  have : ∀ (xs : List (Nat × AV)) (a b : List AV), afill M (fun i => some (i * s, s)) a xs = some b → b.length = a.length := by
   intro xs
   induction xs with
   | nil => intro a b h; simp [afill] at h; rw [h]
   | cons p xs ih =>
    intro a b h
    simp only [afill] at h
    split at h
    ·split at h
     ·rw [ih _ _ h, setAt_length]
     ·cases h
    ·cases h
  rw [this _ _ _ hl]; simp [repCells, q2]
 have hcs : cs'.size = n * s := by rw [g2.1, hlen]
 -- the new block
 have hrun : (Instr.buildSlice t n ps).run P w = .ok (.slice (some ⟨w.heap.size, 0, none⟩) n n) (w.alloc (.cells cs' e)) := by
  by_cases hn : n * s = 0
  ·have hn0 : n = 0 := by rcases Nat.mul_eq_zero.1 hn with h | h <;> omega
   subst hn0
   have hg1 : Instr.fill (fun i => some (i * s, s)) #[] ps.toList = some cs' := by
    have : (Array.range (0 * s)).map (v.cells[· % v.cells.size]!) = #[] := by simp
    rw [← this]; exact g1
   have hr0 : (Array.range 0 : Array Nat) = #[] := rfl
   simp [Instr.buildSlice, run_underlying ht, run_sizeOf hs, hr0, hg1, newRow]
  ·have hle : ¬ (16777216 < n * s) := by omega
   simp [Instr.buildSlice, run_underlying ht, run_sizeOf hs, hle, h1, g1, newRow]
   intro h; exact absurd h hn
 have hb : Below w.heap.size w (w.alloc (.cells cs' e)) := (Below.refl _ _).alloc (Nat.le_refl _) _
 have hst : Stp B c w (c.grown w (w.alloc (.cells cs' e))) (w.alloc (.cells cs' e)) := Stp.grown hS.hB hS.immlt hb
 refine ⟨_, _, c.grown w (w.alloc (.cells cs' e)), hrun, ?_, hS.grown hb, Ext.grown _ _ _, hst⟩
 have hgl : (group ag s n ds).length = n := by simp [group]
 refine .fixed _ _ _ hgl.symm ?_
 have cell : ∀ k, k < n * s → ∃ d, ds[k]? = some d ∧ PRep c.imm w (cs'.getD k undef) d ∧ d.leaves = [d] := by
  intro k hk
  obtain ⟨d, d1, d2⟩ := m2 k l[k] (List.getElem?_eq_getElem (by omega))
  have := (g2.2 k cs'[k] l[k] (Array.getElem?_eq_getElem (by omega)) (List.getElem?_eq_getElem (by omega))).pdCell d2
  refine ⟨d, d1, ?_, this.2⟩
  have e1 : cs'.getD k undef = cs'[k]'(by omega) := by simp [Array.getD, show k < cs'.size by omega]
  rw [e1]; exact this.1
 have elemAt : ∀ i x, (group ag s n ds)[i]? = some x → i < n ∧ x.leaves.length = s ∧ ∀ j y, x.leaves[j]? = some y → j < s ∧ ds[i * s + j]? = some y := by
  intro i x hx
  simp only [group, List.getElem?_map, Option.map_eq_some_iff] at hx
  obtain ⟨i', hi, rfl⟩ := hx
  have hlt := (List.getElem?_eq_some_iff.1 hi).1
  obtain rfl : i' = i := by have := (List.getElem?_eq_some_iff.1 hi).2; simpa using this.symm
  simp at hlt
  have hmul : (i' + 1) * s ≤ n * s := Nat.mul_le_mul_right _ hlt
  rw [Nat.add_mul, Nat.one_mul] at hmul
  refine ⟨hlt, ?_⟩
  cases ag with
  | true =>
   simp only [if_true, PD.leaves]
   refine ⟨by simp; omega, fun j y hy => ?_⟩
   rw [List.getElem?_take] at hy
   split at hy
   ·rw [List.getElem?_drop] at hy; exact ⟨by assumption, hy⟩
   ·cases hy
  | false =>
   have hs1 : s = 1 := by simpa using q4
   subst hs1
   obtain ⟨d, d1, d2, d3⟩ := cell i' (by omega)
   have e1 : ds.getD i' default = d := by simp [List.getD_eq_getElem?_getD, d1]
   simp only [Bool.false_eq_true, if_false, e1, d3]
   refine ⟨rfl, fun j y hy => ?_⟩
   cases j with
   | zero => simp at hy; subst hy; exact ⟨by omega, by simpa using d1⟩
   | succ j => simp at hy
 refine .sl _ n n s _ (fun i j => cs'.getD (i * s + j) undef) (fun _ => rfl) hgl.symm (Nat.le_refl _) (fun hn => .inr ⟨Nat.le_refl _, by simp⟩) (fun i x hx => (elemAt i x hx).2.1) (fun i j hi hj => ?_) fun i j x y hx hy => ?_
 ·have hmul : (i + 1) * s ≤ n * s := Nat.mul_le_mul_right _ hi
  rw [Nat.add_mul, Nat.one_mul] at hmul
  have := World.cell?_alloc_new w cs' e (i * s + j)
  simp only [Nat.zero_add]
  rw [this]
  simp [Array.getD, show i * s + j < cs'.size by omega]
 ·obtain ⟨k1, k2, k3⟩ := elemAt i x hx
  obtain ⟨k4, k5⟩ := k3 j y hy
  have hmul : (i + 1) * s ≤ n * s := Nat.mul_le_mul_right _ k1
  rw [Nat.add_mul, Nat.one_mul] at hmul
  obtain ⟨d, d1, d2, d3⟩ := cell (i * s + j) (by omega)
  rw [k5] at d1; cases d1
  exact d2.mono hst.imm hst.kept
end Go.Abs
namespace Go.Abs
open Go.RowKit
variable {P : Program} {B : Nat} {I0 : Nat → Prop} {c : Ctx} {M : Mem} {w : World}
def lenStr : AV → Option Nat
 | .pd (.str s) => some s.length
 | _ => none
def lenSl (M : Mem) : AV → Option Nat
 | .pd (.sl l) => some l.length
 | .fixed l => some l.length
 | .own b n ver => if verOf M b = ver then some n else none
 | _ => none
def lenN (P : Program) (M : Mem) (t : TypeId) (x : AV) : Option Nat :=
 match P.underlying t with
 | some .string => lenStr x
 | some (.slice _) => lenSl M x
 | some (.array n _) => some n
 | some (.pointer a) => match P.underlying a with | some (.array n _) => some n | _ => none
 | _ => none
def aLen (P : Program) (M : Mem) (t : TypeId) (x : AV) : Option AV := (lenN P M t x).map fun (n : Nat) => .pd (.int .i64 n)
theorem own_len {v : Value} {b n ver : Nat} (h : ARep c M w v (.own b n ver)) (hv : verOf M b = ver) : ∃ a cap, v = .slice a n cap := by
 cases h with
 | own v b n ver hb hv' hp =>
  rcases hp hv with ⟨cap, l2, sz2, z2, hM2, rfl, _⟩ | ⟨sz2, hM2, rfl, rfl⟩
  ·exact ⟨_, _, rfl⟩
  ·exact ⟨_, _, rfl⟩
theorem lenSl_ok {x : AV} {v : Value} {n : Nat} (hx : ARep c M w v x) (h : lenSl M x = some n) : ∃ a cap, v = .slice a n cap := by
 unfold lenSl at h
 split at h
 ·cases h
  cases hx with
  | pd v x hx => obtain ⟨a, cap, rfl, _⟩ := hx.lens; exact ⟨a, cap, rfl⟩
 ·cases h
  cases hx with
  | fixed a n l hn hp => subst hn; exact ⟨a, _, rfl⟩
 ·split at h
  ·rename_i hv; cases h; exact own_len hx hv
  ·cases h
 ·cases h
theorem aLen_ok {t ty : TypeId} {x y : AV} {v : Value} (hS : Sim B I0 c M w) (hx : ARep c M w v x) (h : aLen P M t x = some y) : Out P B I0 c M w (Builtin.len_ #[t] ty #[v]) y M := by
 unfold aLen at h
 rw [Option.map_eq_some_iff] at h
 obtain ⟨n, h, rfl⟩ := h
 refine Out.val hS (v' := goInt n) ?_ (.pd _ _ (.int _ _))
 unfold lenN at h
 split at h
 ·rename_i hu
  unfold lenStr at h
  split at h
  ·cases h
   cases hx with
   | pd v x hx => cases hx; simp [Builtin.len_, run_underlying hu, strV, size_mk]
  ·cases h
 ·rename_i hu
  obtain ⟨a, cap, rfl⟩ := lenSl_ok hx h
  simp [Builtin.len_, run_underlying hu]
 ·rename_i hu
  cases h
  simp [Builtin.len_, run_underlying hu]
 ·rename_i hu
  split at h
  ·rename_i hu2; cases h
   simp [Builtin.len_, run_underlying hu, run_underlying hu2]
  ·cases h
 ·cases h
def cmpI (op : BinOp) (a b : Int) : Option Bool :=
 match op with
 | .eql => some (a == b)
 | .neq => some (a != b)
 | .lss => some (decide (a < b))
 | .leq => some (decide (a ≤ b))
 | .gtr => some (decide (a > b))
 | .geq => some (decide (a ≥ b))
 | _ => none
def bitsI (op : BinOp) (k : IntKind) (a b : Int) : Option Int :=
 match op with
 | .and => some (k.wrap ((BitVec.ofInt k.bits a &&& BitVec.ofInt k.bits b).toNat))
 | .or => some (k.wrap ((BitVec.ofInt k.bits a ||| BitVec.ofInt k.bits b).toNat))
 | .xor => some (k.wrap ((BitVec.ofInt k.bits a ^^^ BitVec.ofInt k.bits b).toNat))
 | .andNot => some (k.wrap ((BitVec.ofInt k.bits a &&& ~~~ BitVec.ofInt k.bits b).toNat))
 | _ => none
def arithI (op : BinOp) (k : IntKind) (a b : Int) : Option AV :=
 match op with
 | .add => some (.pd (.int k (k.wrap (a + b))))
 | .sub => some (.pd (.int k (k.wrap (a - b))))
 | .mul => some (.pd (.int k (k.wrap (a * b))))
 | .quo => if b = 0 then none else some (.pd (.int k (k.wrap (a.tdiv b))))
 | .rem => if b = 0 then none else some (.pd (.int k (a.tmod b)))
 | op =>
  match bitsI op k a b with
  | some n => some (.pd (.int k n))
  | none => (cmpI op a b).map fun t => .pd (.bool t)
def shiftI (op : BinOp) (k : IntKind) (a b : Int) : Option AV :=
 match op with
 | .shl => if b < 0 then none else some (.pd (.int k (k.wrap (a * 2 ^ (min b.toNat k.bits)))))
 | .shr => if b < 0 then none else some (.pd (.int k (a.fdiv (2 ^ (min b.toNat k.bits)))))
 | _ => none
def strI (op : BinOp) (a b : List UInt8) : Option AV :=
 match op with
 | .add => if a.length + b.length ≤ maxB then some (.pd (.str (a ++ b))) else none
 | .eql => some (.pd (.bool (a == b)))
 | .neq => some (.pd (.bool (!(a == b))))
 | .lss => some (.pd (.bool (Op.bytesLess a b)))
 | .leq => some (.pd (.bool (Op.bytesLess a b || a == b)))
 | .gtr => some (.pd (.bool (!(Op.bytesLess a b || a == b))))
 | .geq => some (.pd (.bool (!Op.bytesLess a b)))
 | _ => none
def isShift (op : BinOp) : Bool := match op with | .shl | .shr => true | _ => false
def twoStr (P : Program) (t : TypeId) : Bool :=
 match P.underlying t, (P.fieldsOf t).toList with
 | some (.struct _), [f, g] =>
  f.name != "_" && g.name != "_" && f.offset == 0 && g.offset == 1 && (match P.underlying f.type, P.underlying g.type with | some .string, some .string => true | _, _ => false) && (match aggT P f.type, aggT P g.type with | some false, some false => true | _, _ => false) && !P.stoodInHeld t && !P.eqGuardType P.depth t
 | _, _ => false
theorem eq_two {t : TypeId} {ox oy : Operand} {xs ys : Array Value} {a b a' b' : List UInt8} (h : twoStr P t = true) (hx : xs = #[strV a, strV b]) (hy : ys = #[strV a', strV b']) :
  (eqGuard .eql t ox oy (.agg xs) (.agg ys)).run P w = .ok () w ∧ (binOp .eql t (.agg xs) (.agg ys)).run P w = .ok (.bool (a == a' && b == b')) w := by
 unfold twoStr at h
 split at h
 ·rename_i fs f g hu hf
  simp only [Bool.and_eq_true, Bool.not_eq_true', bne_iff_ne, beq_iff_eq, ne_eq] at h
  obtain ⟨⟨⟨⟨⟨⟨⟨hn1, hn2⟩, ho1⟩, ho2⟩, hs⟩, hag⟩, hst⟩, hg⟩ := h
  refine ⟨run_eqGuard_agg w _ _ _ _ _ _ hg, ?_⟩
  have hfo : P.fieldsOf t = fs := by simp [Program.fieldsOf, hu]
  split at hs
  ·rename_i hs1 hs2
   split at hag
   ·rename_i ha1 ha2
    rw [run_eql_struct, run_equalIn_agg w 9999 t _ _ (by rw [hfo]; exact hu) hst, hf]
    subst hx hy
    have p1 : ∀ (zs : Array Value) (v : Value), zs[0]? = some v → (part f.type zs f.offset).run P w = .ok v w := fun zs v hv => by
     have hlt := (Array.getElem?_eq_some_iff.1 hv).1
     have := (Array.getElem?_eq_some_iff.1 hv).2
     simp [part, run_isAgg ha1, ho1, hlt, this]
    have p2 : ∀ (zs : Array Value) (v : Value), zs[1]? = some v → (part g.type zs g.offset).run P w = .ok v w := fun zs v hv => by
     have hlt := (Array.getElem?_eq_some_iff.1 hv).1
     have := (Array.getElem?_eq_some_iff.1 hv).2
     simp [part, run_isAgg ha2, ho2, hlt, this]
    have e1 : ∀ (d : Nat) (tt : TypeId) (x y : List UInt8), P.underlying tt = some .string → (Op.equalIn (d + 1) tt (strV x) (strV y)).run P w = .ok (x == y) w := fun d tt x y ht => by
     unfold strV
     rw [run_equalIn_string w d tt _ _ ht, ByteArray.toList_eq, ByteArray.toList_eq]
    simp only [Op.eqFields, ne_eq, hn1, hn2, not_false_eq_true, if_true, Sem.run_bind]
    rw [p1 #[strV a, strV b] (strV a) rfl]
    simp only [Result.andThen_ok]
    rw [p1 #[strV a', strV b'] (strV a') rfl]
    simp only [Result.andThen_ok]
    rw [e1 9998 _ _ _ hs1]
    simp only [Result.andThen_ok]
    cases hab : (a == a') with
    | false => simp [Result.andThen]
    | true =>
     simp only [Bool.not_true, Bool.false_eq_true, if_false, Sem.run_bind]
     rw [p2 #[strV a, strV b] (strV b) rfl]
     simp only [Result.andThen_ok]
     rw [p2 #[strV a', strV b'] (strV b') rfl]
     simp only [Result.andThen_ok]
     rw [e1 9998 _ _ _ hs2]
     cases hbb : (b == b') <;> simp [Result.andThen]
   ·cases hag
  ·cases hs
 ·cases h
def aBin (P : Program) (op : BinOp) (t : TypeId) (x y : AV) : Option AV :=
 match x, y with
 | .pd (.int k a), .pd (.int k' b) => if isShift op then shiftI op k a b else if k = k' then arithI op k a b else none
 | .pd (.str a), .pd (.str b) => strI op a b
 | .pd (.bool a), .pd (.bool b) =>
  match P.underlying t, op with
  | some .bool, .eql => some (.pd (.bool (a == b)))
  | some .bool, .neq => some (.pd (.bool (!(a == b))))
  | _, _ => none
 | .agg [.pd (.str a), .pd (.str b)], .agg [.pd (.str a'), .pd (.str b')] =>
  match op, twoStr P t with
  | .eql, true => some (.pd (.bool (a == a' && b == b')))
  | _, _ => none
 | _, _ => none
theorem guard_no {op : BinOp} {t : TypeId} {x y : Operand} {a b : Value} (ha : a.oneCell' = true) (hn : a ≠ .nilIface) : (eqGuard op t x y a b).run P w = .ok () w := by
 cases op <;> simp [eqGuard] <;> (cases a <;> simp_all [Value.oneCell'])
theorem append_mk (a b : List UInt8) : (ByteArray.mk a.toArray ++ ByteArray.mk b.toArray) = ByteArray.mk (a ++ b).toArray := by
 apply ByteArray.ext; simp [ByteArray.data_append]
theorem aBin_ok {op : BinOp} {t : TypeId} {ox oy : Operand} {x y z : AV} {v u : Value} (hS : Sim B I0 c M w) (hx : ARep c M w v x) (hy : ARep c M w u y) (h : aBin P op t x y = some z) :
  Out P B I0 c M w (do eqGuard op t ox oy v u; binOp op t v u) z M := by
 have fin : ∀ (r : Value), v.oneCell' = true → v ≠ .nilIface → (binOp op t v u).run P w = .ok r w → ARep c M w r z → Out P B I0 c M w (do eqGuard op t ox oy v u; binOp op t v u) z M := by
  intro r h1 h2 h3 h4
  exact Out.val hS (by simp [guard_no h1 h2, h3]) h4
 unfold aBin at h
 split at h
 ·rename_i k a k' b
  cases hx with
  | pd v x hx =>
  cases hx
  cases hy with
  | pd u y hy =>
  cases hy
  split at h
  ·rename_i hs
   cases op <;> simp [isShift] at hs <;> simp [shiftI] at h
   all_goals obtain ⟨h0, rfl⟩ := h
   all_goals refine fin _ rfl (by simp) ?_ (.pd _ _ (.int _ _))
   all_goals simp [binOp, Op.shift, show ¬ (b < 0) by omega]
  ·rename_i hs
   split at h
   ·rename_i hk
    subst hk
    cases op <;> simp [isShift] at hs <;> simp [arithI, bitsI, cmpI] at h
    case quo => obtain ⟨h0, rfl⟩ := h; refine fin _ rfl (by simp) ?_ (.pd _ _ (.int _ _)); simp [binOp, Op.intDiv, h0]
    case rem => obtain ⟨h0, rfl⟩ := h; refine fin _ rfl (by simp) ?_ (.pd _ _ (.int _ _)); simp [binOp, Op.intDiv, h0]
    all_goals subst h
    all_goals first
     | (refine fin _ rfl (by simp) ?_ (.pd _ _ (.int _ _)); simp [binOp, Op.intArith, Op.intBits]; done)
     | (refine fin _ rfl (by simp) ?_ (.pd _ _ (.bool _)); simp [binOp, Op.intCmp]; done)
   ·cases h
 ·rename_i a b
  cases hx with
  | pd v x hx =>
  cases hx
  cases hy with
  | pd u y hy =>
  cases hy
  cases op <;> simp [strI] at h
  case add =>
   obtain ⟨h0, rfl⟩ := h
   refine fin _ rfl (by simp [strV]) ?_ (.pd _ _ (.str _))
   have : ¬ (9223372036854775807 < (a.length : Int) + (b.length : Int)) := by simp only [maxB] at h0; omega
   simp only [strV, binOp, Op.stringOp, size_mk]
   simp [IntKind.max, IntKind.signed, IntKind.bits, this, append_mk]
  all_goals subst h
  all_goals refine fin _ rfl (by simp [strV]) ?_ (.pd _ _ (.bool _))
  all_goals simp [strV, binOp, Op.stringOp]
 ·rename_i a b
  cases hx with
  | pd v x hx =>
  cases hx
  cases hy with
  | pd u y hy =>
  cases hy
  split at h
  ·rename_i hu; cases h
   exact fin _ rfl (by simp) (run_eql_bool _ _ _ _ hu) (.pd _ _ (.bool _))
  ·rename_i hu; cases h
   exact fin _ rfl (by simp) (run_neq_bool _ _ _ _ hu) (.pd _ _ (.bool _))
  ·cases h
 ·rename_i a b a' b'
  split at h
  ·rename_i ht
   cases h
   cases hx with
   | agg xs l hs hx =>
   cases hy with
   | agg ys l' hs' hy =>
   have two : ∀ (zs : Array Value) (p q : List UInt8), zs.size = 2 → (∀ (i : Nat) (v : Value) (x : AV), zs[i]? = some v → [AV.pd (.str p), AV.pd (.str q)][i]? = some x → ARep c M w v x) → zs = #[strV p, strV q] := fun zs p q hz hr => by
    have h0 := hr 0 zs[0] _ (Array.getElem?_eq_getElem (by omega)) rfl
    have h1 := hr 1 zs[1] _ (Array.getElem?_eq_getElem (by omega)) rfl
    have g0 : zs[0] = strV p := by generalize zs[0] = z at h0; cases h0 with | pd v x h => cases h; rfl
    have g1 : zs[1] = strV q := by generalize zs[1] = z at h1; cases h1 with | pd v x h => cases h; rfl
    apply Array.ext
    ·simpa using hz
    ·intro i hi1 hi2
     have : i = 0 ∨ i = 1 := by omega
     rcases this with rfl | rfl
     ·simpa using g0
     ·simpa using g1
   have := eq_two (w := w) (ox := ox) (oy := oy) ht (two xs a b hs hx) (two ys a' b' hs' hy)
   exact Out.val hS (by simp [this.1, this.2]) (.pd _ _ (.bool _))
  ·cases h
 ·cases h
def aUn (op : UnOp) (x : AV) : Option AV :=
 match op, x with
 | .neg, .pd (.int k n) => some (.pd (.int k (k.wrap (0 - n))))
 | .xor, .pd (.int k n) => some (.pd (.int k (k.wrap ((BitVec.ofInt k.bits (if k.signed then -1 else k.max) ^^^ BitVec.ofInt k.bits n).toNat))))
 | .not, .pd (.bool b) => some (.pd (.bool !b))
 | _, _ => none
theorem aUn_ok {op : UnOp} {x z : AV} {v : Value} (hS : Sim B I0 c M w) (hx : ARep c M w v x) (h : aUn op x = some z) : Out P B I0 c M w (Op.unary op v) z M := by
 unfold aUn at h
 split at h
 ·cases h
  cases hx with
  | pd v x hx => cases hx; exact Out.val hS (by simp [Op.unary, Op.intArith]) (.pd _ _ (.int _ _))
 ·cases h
  cases hx with
  | pd v x hx => cases hx; exact Out.val hS (by simp [Op.unary, Op.intBits]) (.pd _ _ (.int _ _))
 ·cases h
  cases hx with
  | pd v x hx => cases hx; exact Out.val hS (by simp [Op.unary]) (.pd _ _ (.bool _))
 ·cases h
end Go.Abs
end

section
namespace Go.Abs
open Go.RowKit
variable {P : Program} {B : Nat} {I0 : Nat → Prop} {c : Ctx} {M : Mem} {w : World}
def byteOf? : AV → Option UInt8
 | .pd (.int .u8 n) => some (UInt8.ofNat n.toNat)
 | _ => none
def aConv (P : Program) (M : Mem) (src dst : TypeId) (x : AV) : Option AV :=
 match P.underlying src, P.underlying dst with
 | some _, some (.int k) => match x with | .pd (.int _ n) => some (.pd (.int k (k.wrap n))) | _ => none
 | some .string, some .string => match x with | .pd (.str s) => some (.pd (.str s)) | _ => none
 | some (.int _), some .string => match x with | .pd (.int _ n) => some (.pd (.str (Utf8.encode n).data.toList)) | _ => none
 | some (.slice e), some .string =>
  match P.underlying e, srcCells M 1 x, lenSl M x with
  | some (.int .u8), some (xs, _), some _ => (xs.mapM byteOf?).map fun l => .pd (.str l)
  | _, _, _ => none
 | _, _ => none
theorem foldl_push (ns : List Int) : ∀ (r : ByteArray), ns.foldl (fun r n => r.push (UInt8.ofNat n.toNat)) r = ⟨r.data ++ (ns.map fun n => UInt8.ofNat n.toNat).toArray⟩ := by
 induction ns with
 | nil => intro r; simp
 | cons n ns ih =>
  intro r
  rw [List.foldl_cons, ih]
  congr 1
  simp only [List.map_cons]
  apply Array.ext'
  simp [ByteArray.push]
theorem byte_of {v : Value} {x : AV} {b : UInt8} (h : ARep c M w v x) (hb : byteOf? x = some b) : ∃ n, v = .int .u8 n ∧ b = UInt8.ofNat n.toNat := by
 unfold byteOf? at hb
 split at hb
 ·cases hb
  cases h with
  | pd v p hp => cases hp; exact ⟨_, rfl, rfl⟩
 ·cases hb
theorem bytes_of : ∀ (vs : List Value) (xs : List AV) (l : List UInt8), vs.length = xs.length → (∀ (j : Nat) (u : Value) (y : AV), vs[j]? = some u → xs[j]? = some y → ARep c M w u y) → xs.mapM byteOf? = some l →
  ∃ ns : List Int, vs = ns.map (Value.int .u8) ∧ l = ns.map fun n => UInt8.ofNat n.toNat
 | [], [], l, _, _, h => by simp at h; subst h; exact ⟨[], rfl, rfl⟩
 | v :: vs, x :: xs, l, hl, hr, h => by
  rw [List.mapM_cons] at h
  have h : ((byteOf? x).bind fun b => (xs.mapM byteOf?).bind fun r' => some (b :: r')) = some l := h
  rw [Option.bind_eq_some_iff] at h
  obtain ⟨b, hb, h⟩ := h
  rw [Option.bind_eq_some_iff] at h
  obtain ⟨r', hr', h⟩ := h
  cases h
  obtain ⟨n, rfl, rfl⟩ := byte_of (hr 0 v x rfl rfl) hb
  obtain ⟨ns, rfl, rfl⟩ := bytes_of vs xs r' (by simpa using hl) (fun j u y h1 h2 => hr (j + 1) u y (by simpa using h1) (by simpa using h2)) hr'
  exact ⟨n :: ns, rfl, rfl⟩
 | [], _ :: _, _, hl, _, _ => by simp at hl
 | _ :: _, [], _, hl, _, _ => by simp at hl
theorem aConv_ok {src dst : TypeId} {x y : AV} {v : Value} (hS : Sim B I0 c M w) (hx : ARep c M w v x) (h : aConv P M src dst x = some y) : Out P B I0 c M w (convert src dst v) y M := by
 unfold aConv at h
 split at h
 ·rename_i d k hs hd
  split at h
  ·cases h
   cases hx with
   | pd v x hx => cases hx; exact Out.val hS (by simp [convert, run_underlying hs, run_underlying hd, Conv.intToInt]) (.pd _ _ (.int _ _))
  ·cases h
 ·rename_i hs hd
  split at h
  ·cases h
   cases hx with
   | pd v x hx => cases hx; exact Out.val hS (by simp [convert, strV, run_underlying hs, run_underlying hd]) (.pd _ _ (.str _))
  ·cases h
 ·rename_i k hs hd
  split at h
  ·cases h
   cases hx with
   | pd v x hx => cases hx; exact Out.val hS (by simp [convert, Conv.intToString, strV, run_underlying hs, run_underlying hd]) (.pd _ _ (.str _))
  ·cases h
 ·rename_i e hs hd
  split at h
  ·rename_i xs n m he hsrc hm
   rw [Option.map_eq_some_iff] at h
   obtain ⟨l, hl, rfl⟩ := h
   obtain ⟨a, cap, rfl⟩ := lenSl_ok hx hm
   have hL := srcCells_ok (P := P) hS hx hsrc
   obtain ⟨vs, q1, q2, q3⟩ := hL.cells
   obtain ⟨m1, m2⟩ := mapM_some hl
   have hmn : m = n := by have := hL.lenOf w; simp [Builtin.lenOf] at this; exact this
   subst hmn
   have hb := bytes_of vs xs l (by rw [q1, hL.len]) q3 hl
   obtain ⟨ns, rfl, rfl⟩ := hb
   refine Out.val hS (v' := strV (ns.map fun n => UInt8.ofNat n.toNat)) ?_ (.pd _ _ (.str _))
   have hf := q2 w rfl m (Nat.le_refl _)
   rw [List.take_of_length_le (by rw [q1]; exact Nat.le_refl _)] at hf
   have hconv : (convert src dst (.slice a m cap)).run P w = (Conv.bytesToString (.slice a m cap)).run P w := by
    cases a <;> simp [convert, run_underlying hs, run_underlying hd, run_underlying he]
   rw [hconv]
   cases a with
   | none =>
    simp [Builtin.firstCells] at hf
    subst hf
    simp [Conv.bytesToString, strV]
    try rfl
   | some ad =>
    have hf' : (loadCells ad m).run P w = .ok (ns.map (Value.int .u8)).toArray w := by simpa [Builtin.firstCells] using hf
    rw [run_bytesToString w ad m cap ns hf', foldl_push]
    simp [strV]
  ·cases h
 ·cases h
def aMin (x y : AV) : Option AV := match x, y with | .pd (.int k a), .pd (.int _ b) => some (.pd (.int k (if b < a then b else a))) | _, _ => none
def aMax (x y : AV) : Option AV := match x, y with | .pd (.int k a), .pd (.int _ b) => some (.pd (.int k (if b > a then b else a))) | _, _ => none
theorem aMin_ok {ts : Array TypeId} {t : TypeId} {x y z : AV} {v u : Value} (hS : Sim B I0 c M w) (hx : ARep c M w v x) (hy : ARep c M w u y) (h : aMin x y = some z) : Out P B I0 c M w (Builtin.min_ ts t #[v, u]) z M := by
 unfold aMin at h
 split at h
 ·cases h
  cases hx with
  | pd v x hx => cases hx; cases hy with
   | pd u y hy => cases hy; exact Out.val hS (run_min_int2 _ _ _ _ _ _ _) (.pd _ _ (.int _ _))
 ·cases h
theorem aMax_ok {ts : Array TypeId} {t : TypeId} {x y z : AV} {v u : Value} (hS : Sim B I0 c M w) (hx : ARep c M w v x) (hy : ARep c M w u y) (h : aMax x y = some z) : Out P B I0 c M w (Builtin.max_ ts t #[v, u]) z M := by
 unfold aMax at h
 split at h
 ·cases h
  cases hx with
  | pd v x hx => cases hx; cases hy with
   | pd u y hy => cases hy; exact Out.val hS (run_max_int2 _ _ _ _ _ _ _) (.pd _ _ (.int _ _))
 ·cases h
def aExtract (x : AV) (i : Nat) : Option AV := match x with | .tup l => l[i]? | _ => none
theorem aExtract_ok {x y : AV} {i : Nat} {v : Value} (hS : Sim B I0 c M w) (hx : ARep c M w v x) (h : aExtract x i = some y) : Out P B I0 c M w (Instr.extract v i) y M := by
 unfold aExtract at h
 split at h
 ·cases hx with
  | tup vs l hs hr =>
   have hl := (List.getElem?_eq_some_iff.1 h).1
   have hv : i < vs.size := by omega
   refine Out.val hS (v' := vs[i]) ?_ (hr i _ y (Array.getElem?_eq_getElem hv) h)
   simp [Instr.extract, hv]
 ·cases h
def aRange (P : Program) (M : Mem) (t : TypeId) (x : AV) : Option (AV × Mem) :=
 match P.underlying t, x with
 | some .string, .pd (.str s) => some (.it M.length, M ++ [.iter s 0])
 | _, _ => none
theorem aRange_ok {t : TypeId} {x y : AV} {v : Value} {M' : Mem} (hS : Sim B I0 c M w) (hx : ARep c M w v x) (h : aRange P M t x = some (y, M')) : Out P B I0 c M w (Instr.range t v) y M' := by
 unfold aRange at h
 split at h
 ·rename_i s hu
  cases h
  cases hx with
  | pd v x hx =>
  cases hx
  have hS' := hS.push (.stringIter ⟨s.toArray⟩ 0) 0 (.iter s 0) (by
   show (w.alloc _).heap[upd c.blk M.length w.heap.size M.length]? = _
   rw [upd_self]; exact World.alloc_heap_new _ _)
  have hs : Stp B c w (c.push M w.heap.size 0) (w.alloc (.stringIter ⟨s.toArray⟩ 0)) := Stp.alloc hS.hB hS.immlt _ _ _
  refine ⟨.pointer (some ⟨w.heap.size, 0, none⟩), _, _, ?_, ?_, hS', Ext.push c M _ _ _, hs⟩
  ·simp [Instr.range, run_underlying hu, strV]
  ·have : ARep (c.push M w.heap.size 0) (M ++ [.iter s 0]) (w.alloc (.stringIter ⟨s.toArray⟩ 0)) (.pointer (some ⟨(c.push M w.heap.size 0).blk M.length, 0, none⟩)) (.it M.length) := .it _ ⟨.iter s 0, by simp, rfl⟩
   have e : (c.push M w.heap.size 0).blk M.length = w.heap.size := upd_self _ _ _
   rwa [e] at this
 ·cases h
def aNext (M : Mem) (x : AV) (isS : Bool) : Option (AV × Mem) :=
 match x, isS with
 | .it b, true =>
  match M[b]? with
  | some (.iter s pos) =>
   if pos < s.length then
    some (.tup [.pd (.bool true), .pd (.int .i64 pos), .pd (.int .i32 (Utf8.decode ⟨s.toArray⟩ pos).1)], M.set b (.iter s (pos + (Utf8.decode ⟨s.toArray⟩ pos).2)))
   else some (.tup [.pd (.bool false)], M)
  | _ => none
 | _, _ => none
theorem tup3 {a1 a2 a3 : Value} {b1 b2 b3 : AV} (h1 : ARep c M w a1 b1) (h2 : ARep c M w a2 b2) (h3 : ARep c M w a3 b3) : ARep c M w (.tuple #[a1, a2, a3]) (.tup [b1, b2, b3]) := by
 refine .tup _ _ rfl fun i v x hv hx => ?_
 match i with
 | 0 => simp at hv hx; subst hv; subst hx; exact h1
 | 1 => simp at hv hx; subst hv; subst hx; exact h2
 | 2 => simp at hv hx; subst hv; subst hx; exact h3
 | i + 3 => simp at hx
theorem tup1 {a1 : Value} {b1 : AV} (h1 : ARep c M w a1 b1) : ARep c M w (.tuple #[a1]) (.tup [b1]) := by
 refine .tup _ _ rfl fun i v x hv hx => ?_
 match i with
 | 0 => simp at hv hx; subst hv; subst hx; exact h1
 | i + 1 => simp at hx
theorem aNext_ok {x y : AV} {isS : Bool} {ty : TypeId} {v : Value} {M' : Mem} (hS : Sim B I0 c M w) (hx : ARep c M w v x) (h : aNext M x isS = some (y, M')) : Out P B I0 c M w (Instr.next v isS ty) y M' := by
 unfold aNext at h
 split at h
 ·rename_i b
  cases hx with
  | it b hb =>
  split at h
  ·rename_i s pos hM
   have hO : w.heap[c.blk b]? = some (.stringIter ⟨s.toArray⟩ pos) := hS.obj b _ hM
   have hlt := (List.getElem?_eq_some_iff.1 hM).1
   split at h
   ·rename_i hp
    cases h
    have hni : ¬ c.imm (c.blk b) := hS.sep b _ hM rfl rfl
    have hs : Stp B c w c (w.putObj (c.blk b) (.stringIter ⟨s.toArray⟩ (pos + (Utf8.decode ⟨s.toArray⟩ pos).2))) :=
     Stp.of_block hni (hS.blkB b ⟨_, hM, rfl⟩) rfl rfl rfl (by simp) fun k hk => World.putObj_heap_other hk
    have he : Ext c M c (M.set b (.iter s (pos + (Utf8.decode ⟨s.toArray⟩ pos).2))) := Ext.set hM rfl (Nat.le_refl _) fun _ => rfl
    refine ⟨.tuple #[.bool true, goInt pos, .int .i32 (Utf8.decode ⟨s.toArray⟩ pos).1], _, c, ?_, ?_, hS.put hM he hs (fun k hk => World.putObj_heap_other hk) ?_ rfl rfl, he, hs⟩
    ·simp [Instr.next, getObj, setObj, Sem.run, hO, size_mk, hp, World.putObj]
    ·exact tup3 (.pd _ _ (.bool _)) (.pd _ _ (.int _ _)) (.pd _ _ (.int _ _))
    ·exact World.putObj_heap_same (Array.getElem?_eq_some_iff.1 hO).1
   ·rename_i hp
    cases h
    refine Out.val hS (v' := .tuple #[.bool false]) ?_ (tup1 (.pd _ _ (.bool _)))
    simp [Instr.next, getObj, Sem.run, hO, size_mk, hp]
  ·cases h
 ·cases h
end Go.Abs
end
