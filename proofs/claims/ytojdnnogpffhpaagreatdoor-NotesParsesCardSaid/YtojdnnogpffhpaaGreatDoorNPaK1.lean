/- Part of a proof, in few files: Abs1. -/
import Derived.RangeFuncNested
import Derived.RangeFuncCalls
import Derived.RangeFuncLeaves
import Derived.OrdersIn
import Derived.Below
import Derived.KernelRfl

section
namespace Go.Abs
open Go.RowKit
inductive PD where
  | int (k : IntKind) (n : Int)
  | bool (b : Bool)
  | str (s : List UInt8)
  | flt (k : FloatKind) (bits : Nat)
  | err (is : Bool)
  | agg (l : List PD)
  | sl (l : List PD)
  | mp (l : List (List UInt8 × Int))
  deriving Inhabited
def PD.leaves : PD → List PD
  | .agg l => l
  | x => [x]
def strV (s : List UInt8) : Value := .string ⟨s.toArray⟩
def mpEntL (n : Nat) : List (List UInt8 × Int) → List MapEntry
  | [] => []
  | p :: r => { key := strV p.1, val := .int .i64 p.2, born := n } :: mpEntL (n + 1) r
def mpEnt (l : List (List UInt8 × Int)) : Array MapEntry := (mpEntL 0 l).toArray
inductive PRep (I : Nat → Prop) (w : World) : Value → PD → Prop
  | int (k : IntKind) (n : Int) : PRep I w (.int k n) (.int k n)
  | bool (b : Bool) : PRep I w (.bool b) (.bool b)
  | str (s : List UInt8) : PRep I w (strV s) (.str s)
  | flt (k : FloatKind) (b : Nat) : PRep I w (.float k b) (.flt k b)
  | errN : PRep I w .nilIface (.err false)
  | errS (t : TypeId) (v : Value) : PRep I w (.iface t v) (.err true)
  | agg (vs : Array Value) (l : List PD) (hs : vs.size = l.length)
      (h : ∀ (i : Nat) (v : Value) (x : PD), vs[i]? = some v → l[i]? = some x → PRep I w v x) : PRep I w (.agg vs) (.agg l)
  | nil : PRep I w (.slice none 0 0) (.sl [])
  | sl (a : Addr) (n cap sz : Nat) (l : List PD) (f : Nat → Nat → Value) (hsp : 0 < n → a.spot = none) (hn : n = l.length) (hcap : n ≤ cap) (hI : 0 < n → I a.block)
      (hsz : ∀ (i : Nat) (x : PD), l[i]? = some x → x.leaves.length = sz)
      (hc : ∀ (i j : Nat), i < n → j < sz → w.cell? ⟨a.block, a.off + i * sz + j, none⟩ = some (f i j))
      (hr : ∀ (i j : Nat) (x y : PD), l[i]? = some x → x.leaves[j]? = some y → PRep I w (f i j) y) : PRep I w (.slice (some a) n cap) (.sl l)
  | mp (r : Nat) (l : List (List UInt8 × Int)) (hI : I r) (h : w.heap[r]? = some (.map (mpEnt l) l.length)) : PRep I w (.map (some r)) (.mp l)
def Kept (I : Nat → Prop) (w w' : World) : Prop := ∀ b, I b → w'.heap[b]? = w.heap[b]?
theorem Kept.refl (I : Nat → Prop) (w : World) : Kept I w w := fun _ _ => rfl
theorem Kept.trans {I I' : Nat → Prop} {w w' w'' : World} (h : Kept I w w') (k : Kept I' w' w'') (hI : ∀ b, I b → I' b) : Kept I w w'' := fun b hb => (k b (hI b hb)).trans (h b hb)
theorem PRep.mono {I I' : Nat → Prop} {w w' : World} {v : Value} {x : PD} (h : PRep I w v x) (hI : ∀ b, I b → I' b) (hk : Kept I w w') : PRep I' w' v x := by
  induction h with
  | int k n => exact .int k n
  | bool b => exact .bool b
  | str s => exact .str s
  | flt k b => exact .flt k b
  | errN => exact .errN
  | errS t v => exact .errS t v
  | agg vs l hs h ih => exact .agg vs l hs fun i v x h1 h2 => ih i v x h1 h2
  | nil => exact .nil
  | sl a n cap sz l f hsp hn hcap hI' hsz hc hr ih =>
    refine .sl a n cap sz l f hsp hn hcap (fun h => hI _ (hI' h)) hsz (fun i j hi hj => ?_) fun i j x y h1 h2 => ih i j x y h1 h2
    have hb : w'.heap[(⟨a.block, a.off + i * sz + j, none⟩ : Addr).block]? = w.heap[(⟨a.block, a.off + i * sz + j, none⟩ : Addr).block]? := hk _ (hI' (by omega))
    rw [World.cell?_of_block (w := w) (w' := w') hb]
    exact hc i j hi hj
  | mp r l hI' h => exact .mp r l (hI _ hI') (by rw [hk _ hI']; exact h)
theorem PRep.notTuple {I : Nat → Prop} {w : World} {v : Value} {x : PD} (h : PRep I w v x) (hx : ∀ l, x ≠ .agg l) : v.oneCell' = true := by
  cases h <;> first | rfl | exact absurd rfl (hx _)
inductive AV where
  | pd (x : PD)
  | agg (l : List AV)
  | tup (l : List AV)
  | ptr (b off ver : Nat)
  | nilp
  | rd (l : List PD)
  | own (b len ver : Nat)
  | owx (b off len ver : Nat)
  | fixed (l : List PD)
  | fn (f : Fn) (first caps : List AV)
  | yld (b : Nat)
  | nilf
  | mp (b : Nat)
  | it (b : Nat)
  | junk
  deriving Inhabited
inductive Ob where
  | cells (l : List AV) (sz ver : Nat) (frz : Bool)
  | iter (s : List UInt8) (pos : Nat)
  | loop (state : LoopState) (pending : Option Code) (tmps : List AV) (params : Array Tmp) (assign body : Code) (defers : Nat)
  | defers (taken : Bool)
  | vrow (sz ver : Nat)
  | map (bl : Bool) (l : List (Int × Int))
  | mit (b n : Nat) (seen : List Nat)
  deriving Inhabited
def mvV (bl : Bool) (v : Int) : Value := match bl with | true => .bool (v != 0) | false => .int .i64 v
def mEntL (bl : Bool) (n : Nat) : List (Int × Int) → List MapEntry
  | [] => []
  | p :: r => { key := .int .i64 p.1, val := mvV bl p.2, born := n } :: mEntL bl (n + 1) r
def Ob.ver : Ob → Nat | .cells _ _ v _ => v | .vrow _ v => v | _ => 0
def Ob.frz : Ob → Bool | .cells _ _ _ f => f | _ => false
def Ob.shape : Ob → Option (Nat × Nat × Bool) | .cells l sz _ _ => some (l.length, sz, false) | .vrow sz _ => some (0, sz, true) | _ => none
def Ob.virt : Ob → Bool | .vrow .. => true | _ => false
def Ob.isRow : Ob → Bool | .cells .. => true | .vrow .. => true | _ => false
abbrev Mem := List Ob
def Ob.isDef : Ob → Bool | .defers _ => true | _ => false
def obj (M : Mem) (b : Nat) : Prop := ∃ o, M[b]? = some o ∧ o.isRow = false
def verOf (M : Mem) (b : Nat) : Nat := ((M[b]?).map Ob.ver).getD 0
structure Ctx where
  blk : Nat → Nat
  rsz : Nat → Nat
  imm : Nat → Prop
inductive ARep (c : Ctx) (M : Mem) (w : World) : Value → AV → Prop
  | pd (v : Value) (x : PD) (h : PRep c.imm w v x) : ARep c M w v (.pd x)
  | agg (vs : Array Value) (l : List AV) (hs : vs.size = l.length)
      (h : ∀ (i : Nat) (v : Value) (x : AV), vs[i]? = some v → l[i]? = some x → ARep c M w v x) : ARep c M w (.agg vs) (.agg l)
  | tup (vs : Array Value) (l : List AV) (hs : vs.size = l.length)
      (h : ∀ (i : Nat) (v : Value) (x : AV), vs[i]? = some v → l[i]? = some x → ARep c M w v x) : ARep c M w (.tuple vs) (.tup l)
  | ptr (v : Value) (b off ver : Nat) (hb : b < M.length) (hv : ver ≤ verOf M b)
      (h : verOf M b = ver → v = .pointer (some ⟨c.blk b, off, none⟩)) : ARep c M w v (.ptr b off ver)
  | nilp : ARep c M w (.pointer none) .nilp
  | rd (a : Addr) (l : List PD) (f : Nat → Value) (hsp : a.spot = none) (hI : 0 < l.length → c.imm a.block)
      (hc : ∀ (j : Nat), j < l.length → w.cell? ⟨a.block, a.off + j, none⟩ = some (f j))
      (hr : ∀ (j : Nat) (y : PD), l[j]? = some y → PRep c.imm w (f j) y) : ARep c M w (.pointer (some a)) (.rd l)
  | own (v : Value) (b len ver : Nat) (hb : b < M.length) (hv : ver ≤ verOf M b)
      (h : verOf M b = ver → (∃ cap l sz z, M[b]? = some (.cells l sz ver z) ∧ v = .slice (some ⟨c.blk b, 0, none⟩) len cap ∧ len ≤ cap ∧ cap * sz ≤ c.rsz b ∧ len * sz ≤ l.length) ∨
        (∃ sz, M[b]? = some (.vrow sz ver) ∧ v = .slice none 0 0 ∧ len = 0)) : ARep c M w v (.own b len ver)
  | owx (v : Value) (b off len ver : Nat) (hb : b < M.length) (hv : ver ≤ verOf M b)
      (h : verOf M b = ver → ∃ a cap l sz z, M[b]? = some (.cells l sz ver z) ∧ v = .slice (some a) len cap ∧ (0 < cap → a = ⟨c.blk b, off * sz, none⟩) ∧ len ≤ cap ∧ (off + cap) * sz ≤ c.rsz b ∧ (off + len) * sz ≤ l.length) : ARep c M w v (.owx b off len ver)
  | fixed (a : Option Addr) (n : Nat) (l : List PD) (hn : n = l.length) (h : PRep c.imm w (.slice a n n) (.sl l)) : ARep c M w (.slice a n n) (.fixed l)
  | fn (f : Fn) (v1 v2 : Array Value) (l1 l2 : List AV) (h1 : v1.size = l1.length) (h2 : v2.size = l2.length)
      (r1 : ∀ (i : Nat) (v : Value) (x : AV), v1[i]? = some v → l1[i]? = some x → ARep c M w v x)
      (r2 : ∀ (i : Nat) (v : Value) (x : AV), v2[i]? = some v → l2[i]? = some x → ARep c M w v x) : ARep c M w (.func f v1 v2) (.fn f l1 l2)
  | yld (b : Nat) (hb : obj M b) : ARep c M w (.func (.yield (c.blk b)) #[] #[]) (.yld b)
  | nilf : ARep c M w .nilFunc .nilf
  | mp (b : Nat) (hb : obj M b) : ARep c M w (.map (some (c.blk b))) (.mp b)
  | it (b : Nat) (hb : obj M b) : ARep c M w (.pointer (some ⟨c.blk b, 0, none⟩)) (.it b)
  | junk (v : Value) : ARep c M w v .junk
structure Ext0 (c : Ctx) (M : Mem) (c' : Ctx) (M' : Mem) : Prop where
  len : M.length ≤ M'.length
  ver : ∀ (i : Nat), i < M.length → verOf M i ≤ verOf M' i
  same : ∀ (i : Nat), i < M.length → verOf M' i = verOf M i → c'.blk i = c.blk i ∧ c'.rsz i = c.rsz i ∧ (M'[i]?).bind Ob.shape = (M[i]?).bind Ob.shape
  obj : ∀ (i : Nat), obj M i → Abs.obj M' i
structure Ext (c : Ctx) (M : Mem) (c' : Ctx) (M' : Mem) : Prop extends Ext0 c M c' M' where
  keep : ∀ (i : Nat) (t : Bool), M[i]? = some (.defers t) → M'[i]? = some (.defers t)
instance {c : Ctx} {M : Mem} {c' : Ctx} {M' : Mem} : Coe (Ext c M c' M') (Ext0 c M c' M') := ⟨Ext.toExt0⟩
theorem Ext.refl (c : Ctx) (M : Mem) : Ext c M c M := ⟨⟨Nat.le_refl _, fun _ _ => Nat.le_refl _, fun _ _ _ => ⟨rfl, rfl, rfl⟩, fun _ h => h⟩, fun _ _ h => h⟩
theorem Ext.trans {c c' c'' : Ctx} {M M' M'' : Mem} (h : Ext c M c' M') (k : Ext c' M' c'' M'') : Ext c M c'' M'' := by
  refine ⟨⟨Nat.le_trans h.len k.len, fun i hi => Nat.le_trans (h.ver i hi) (k.ver i (Nat.lt_of_lt_of_le hi h.len)), fun i hi he => ?_, fun i hi => k.obj i (h.obj i hi)⟩, fun i t hi => k.keep i t (h.keep i t hi)⟩
  have h1 := h.ver i hi
  have h2 := k.ver i (Nat.lt_of_lt_of_le hi h.len)
  have e1 : verOf M' i = verOf M i := by omega
  have e2 : verOf M'' i = verOf M' i := by omega
  obtain ⟨a1, a2, a3⟩ := h.same i hi e1
  obtain ⟨b1, b2, b3⟩ := k.same i (Nat.lt_of_lt_of_le hi h.len) e2
  exact ⟨b1.trans a1, b2.trans a2, b3.trans a3⟩
structure Stp (B : Nat) (c : Ctx) (w : World) (c' : Ctx) (w' : World) : Prop where
  below : Below B w w'
  imm : ∀ b, c.imm b → c'.imm b
  kept : Kept c.imm w w'
theorem Stp.refl (B : Nat) (c : Ctx) (w : World) : Stp B c w c w := ⟨Below.refl _ _, fun _ h => h, Kept.refl _ _⟩
theorem Stp.trans {B : Nat} {c c' c'' : Ctx} {w w' w'' : World} (h : Stp B c w c' w') (k : Stp B c' w' c'' w'') : Stp B c w c'' w'' :=
  ⟨h.below.trans k.below, fun b hb => k.imm b (h.imm b hb), h.kept.trans k.kept h.imm⟩
theorem shape_cells {o : Ob} {n sz : Nat} (h : o.shape = some (n, sz, false)) : ∃ l ver z, o = .cells l sz ver z ∧ l.length = n := by
  cases o with
  | cells l s v z => simp [Ob.shape] at h; exact ⟨l, v, z, by rw [h.2], h.1⟩
  | _ => simp [Ob.shape] at h
theorem shape_vrow {o : Ob} {n sz : Nat} (h : o.shape = some (n, sz, true)) : ∃ ver, o = .vrow sz ver := by
  cases o with
  | vrow s v => simp [Ob.shape] at h; exact ⟨v, by rw [h.2]⟩
  | _ => simp [Ob.shape] at h
theorem obj.lt {M : Mem} {b : Nat} (h : obj M b) : b < M.length := by
  obtain ⟨o, h, _⟩ := h
  exact (List.getElem?_eq_some_iff.1 h).1
theorem obj.ver {M : Mem} {b : Nat} (h : obj M b) : verOf M b = 0 := by
  obtain ⟨o, h, ho⟩ := h
  cases o <;> simp_all [verOf, Ob.ver, Ob.isRow]
theorem Ext0.blk {c c' : Ctx} {M M' : Mem} (he : Ext0 c M c' M') {b : Nat} (h : Abs.obj M b) : c'.blk b = c.blk b :=
  (he.same b h.lt (by rw [h.ver, (he.obj b h).ver])).1
theorem ARep.mono {B : Nat} {c c' : Ctx} {M M' : Mem} {w w' : World} {v : Value} {x : AV} (h : ARep c M w v x) (he : Ext0 c M c' M') (hs : Stp B c w c' w') : ARep c' M' w' v x := by
  induction h with
  | pd v x h => exact .pd v x (h.mono hs.imm hs.kept)
  | agg vs l hs h ih => exact .agg vs l hs ih
  | tup vs l hs h ih => exact .tup vs l hs ih
  | ptr v b off ver hb hv h =>
    have h1 := he.ver b hb
    refine .ptr v b off ver (Nat.lt_of_lt_of_le hb he.len) (Nat.le_trans hv h1) fun e => ?_
    have e1 : verOf M b = ver := by omega
    rw [h e1, (he.same b hb (by omega)).1]
  | nilp => exact .nilp
  | rd a l f hsp hI hc hr =>
    refine .rd a l f hsp (fun h => hs.imm _ (hI h)) (fun j hj => ?_) fun j y hy => (hr j y hy).mono hs.imm hs.kept
    have hb : w'.heap[(⟨a.block, a.off + j, none⟩ : Addr).block]? = w.heap[(⟨a.block, a.off + j, none⟩ : Addr).block]? := hs.kept _ (hI (by omega))
    rw [World.cell?_of_block (w := w) (w' := w') hb]
    exact hc j hj
  | own v b len ver hb hv h =>
    have h1 := he.ver b hb
    refine .own v b len ver (Nat.lt_of_lt_of_le hb he.len) (Nat.le_trans hv h1) fun e => ?_
    have e1 : verOf M b = ver := by omega
    obtain ⟨a1, a2, a3⟩ := he.same b hb (by omega)
    rcases h e1 with ⟨cap, l, sz, z, hM, hv', h2, h3, h4⟩ | ⟨sz, hM, hv', h2⟩
    · rw [hM] at a3
      cases hM' : M'[b]? with
      | none => rw [hM'] at a3; simp [Ob.shape] at a3
      | some o =>
        rw [hM'] at a3
        obtain ⟨l', ver', z', rfl, hl'⟩ := shape_cells (o := o) (n := l.length) (sz := sz) (by simpa [Ob.shape] using a3)
        have : verOf M' b = ver' := by simp [verOf, hM', Ob.ver]
        obtain rfl : ver' = ver := by omega
        exact .inl ⟨cap, l', sz, z', rfl, by rw [hv', a1], h2, by rw [a2]; exact h3, by omega⟩
    · rw [hM] at a3
      cases hM' : M'[b]? with
      | none => rw [hM'] at a3; simp [Ob.shape] at a3
      | some o =>
        rw [hM'] at a3
        obtain ⟨ver', rfl⟩ := shape_vrow (o := o) (n := 0) (sz := sz) (by simpa [Ob.shape] using a3)
        have : verOf M' b = ver' := by simp [verOf, hM', Ob.ver]
        obtain rfl : ver' = ver := by omega
        exact .inr ⟨sz, rfl, hv', h2⟩
  | owx v b off len ver hb hv h =>
    have h1 := he.ver b hb
    refine .owx v b off len ver (Nat.lt_of_lt_of_le hb he.len) (Nat.le_trans hv h1) fun e => ?_
    have e1 : verOf M b = ver := by omega
    obtain ⟨a1, a2, a3⟩ := he.same b hb (by omega)
    obtain ⟨a, cap, l, sz, z, hM, hv', ha, h2, h3, h4⟩ := h e1
    rw [hM] at a3
    cases hM' : M'[b]? with
    | none => rw [hM'] at a3; simp [Ob.shape] at a3
    | some o =>
      rw [hM'] at a3
      obtain ⟨l', ver', z', rfl, hl'⟩ := shape_cells (o := o) (n := l.length) (sz := sz) (by simpa [Ob.shape] using a3)
      have : verOf M' b = ver' := by simp [verOf, hM', Ob.ver]
      obtain rfl : ver' = ver := by omega
      exact ⟨a, cap, l', sz, z', rfl, hv', fun h => by rw [ha h, a1], h2, by rw [a2]; exact h3, by omega⟩
  | fixed a n l hn h => exact .fixed a n l hn (h.mono hs.imm hs.kept)
  | fn f v1 v2 l1 l2 h1 h2 r1 r2 ih1 ih2 => exact .fn f v1 v2 l1 l2 h1 h2 ih1 ih2
  | yld b hb => rw [← he.blk hb]; exact .yld b (he.obj b hb)
  | nilf => exact .nilf
  | mp b hb => rw [← he.blk hb]; exact .mp b (he.obj b hb)
  | it b hb => rw [← he.blk hb]; exact .it b (he.obj b hb)
  | junk v => exact .junk v
def AV.pure : AV → Bool
  | .pd _ | .nilp | .fixed _ | .nilf => true
  | .agg l => l.attach.all fun ⟨x, _⟩ => x.pure
  | .tup l => l.attach.all fun ⟨x, _⟩ => x.pure
  | .fn _ l1 l2 => (l1.attach.all fun ⟨x, _⟩ => x.pure) && (l2.attach.all fun ⟨x, _⟩ => x.pure)
  | _ => false
theorem ARep.pure {c c' : Ctx} {M M' : Mem} {w w' : World} {v : Value} {x : AV} (h : ARep c M w v x) (hx : x.pure = true) (hI : ∀ b, c.imm b → c'.imm b) (hk : Kept c.imm w w') : ARep c' M' w' v x := by
  induction h with
  | pd v x h => exact .pd v x (h.mono hI hk)
  | agg vs l hs h ih =>
    refine .agg vs l hs fun i v x h1 h2 => ih i v x h1 h2 ?_
    simp only [AV.pure, List.all_eq_true] at hx
    exact hx ⟨x, List.mem_of_getElem? h2⟩ (List.mem_attach _ _)
  | tup vs l hs h ih =>
    refine .tup vs l hs fun i v x h1 h2 => ih i v x h1 h2 ?_
    simp only [AV.pure, List.all_eq_true] at hx
    exact hx ⟨x, List.mem_of_getElem? h2⟩ (List.mem_attach _ _)
  | nilp => exact .nilp
  | fixed a n l hn h => exact .fixed a n l hn (h.mono hI hk)
  | fn f v1 v2 l1 l2 h1 h2 r1 r2 ih1 ih2 =>
    simp only [AV.pure, Bool.and_eq_true, List.all_eq_true] at hx
    exact .fn f v1 v2 l1 l2 h1 h2 (fun i v x q1 q2 => ih1 i v x q1 q2 (hx.1 ⟨x, List.mem_of_getElem? q2⟩ (List.mem_attach _ _)))
      (fun i v x q1 q2 => ih2 i v x q1 q2 (hx.2 ⟨x, List.mem_of_getElem? q2⟩ (List.mem_attach _ _)))
  | nilf => exact .nilf
  | _ => simp [AV.pure] at hx
def ORep (c : Ctx) (M : Mem) (w : World) (i : Nat) : Ob → Prop
  | .cells l _ _ _ => ∃ cs e, w.heap[c.blk i]? = some (.cells cs e (0, 0)) ∧ cs.size = c.rsz i ∧ l.length ≤ cs.size ∧
      ∀ (j : Nat) (x : AV), l[j]? = some x → ∃ v, cs[j]? = some v ∧ ARep c M w v x
  | .iter s pos => w.heap[c.blk i]? = some (.stringIter ⟨s.toArray⟩ pos)
  | .loop st pe l ps as bo df => ∃ tmps fn, w.heap[c.blk i]? = some (.loop { state := st, pending := pe, fn := fn, tmps := tmps, params := ps, assign := as, body := bo, defers := c.blk df }) ∧ obj M df ∧
      l.length ≤ tmps.size ∧ ∀ (j : Nat) (x : AV), l[j]? = some x → ARep c M w (tmps.getD j undef) x
  | .defers t => w.heap[c.blk i]? = some (.deferred (if t then none else some []))
  | .vrow _ _ => True
  | .map bl l => w.heap[c.blk i]? = some (.map (mEntL bl 0 l).toArray l.length)
  | .mit b n seen => w.heap[c.blk i]? = some (.mapIter (some (c.blk b)) n seen.toArray n) ∧ obj M b
def real (M : Mem) (i : Nat) : Prop := ∃ o, M[i]? = some o ∧ o.virt = false
theorem real.lt {M : Mem} {i : Nat} (h : real M i) : i < M.length := by
  obtain ⟨o, h, _⟩ := h
  exact (List.getElem?_eq_some_iff.1 h).1
structure Sim (B : Nat) (I0 : Nat → Prop) (c : Ctx) (M : Mem) (w : World) : Prop where
  blkB : ∀ i, real M i → B ≤ c.blk i
  inj : ∀ i j, real M i → real M j → c.blk i = c.blk j → i = j
  imm0 : ∀ b, I0 b → c.imm b
  immB : ∀ b, c.imm b → b < B → I0 b
  immlt : ∀ b, c.imm b → b < w.heap.size
  sep : ∀ (i : Nat) (o : Ob), M[i]? = some o → o.frz = false → o.virt = false → ¬ c.imm (c.blk i)
  obj : ∀ (i : Nat) (o : Ob), M[i]? = some o → ORep c M w i o
  hB : B ≤ w.heap.size
theorem ORep.lt {c : Ctx} {M : Mem} {w : World} {i : Nat} {o : Ob} (h : ORep c M w i o) (hv : o.virt = false) : c.blk i < w.heap.size := by
  cases o with
  | cells l sz ver z => obtain ⟨cs, e, h, _⟩ := h; exact (Array.getElem?_eq_some_iff.1 h).1
  | iter s pos => exact (Array.getElem?_eq_some_iff.1 h).1
  | loop st pe l ps as bo df => obtain ⟨t, fn, h, _⟩ := h; exact (Array.getElem?_eq_some_iff.1 h).1
  | defers t => exact (Array.getElem?_eq_some_iff.1 h).1
  | vrow sz ver => cases hv
  | map bl l => exact (Array.getElem?_eq_some_iff.1 h).1
  | mit b n seen => exact (Array.getElem?_eq_some_iff.1 h.1).1
theorem ORep.mono {B : Nat} {c c' : Ctx} {M M' : Mem} {w w' : World} {i : Nat} {o : Ob} (h : ORep c M w i o) (he : Ext0 c M c' M') (hs : Stp B c w c' w')
    (hb : c'.blk i = c.blk i) (hr : c'.rsz i = c.rsz i) (hw0 : o.virt = false → w'.heap[c.blk i]? = w.heap[c.blk i]?) : ORep c' M' w' i o := by
  by_cases hv : o.virt = true
  · cases o <;> first | trivial | cases hv
  have hw := hw0 (by simpa using hv)
  cases o with
  | cells l sz ver z =>
    obtain ⟨cs, e, h1, h2, h4, h5⟩ := h
    refine ⟨cs, e, by rw [hb, hw, h1], by rw [hr, h2], h4, fun j x hj => ?_⟩
    obtain ⟨v, g1, g3⟩ := h5 j x hj
    exact ⟨v, g1, g3.mono he hs⟩
  | iter s pos => show w'.heap[c'.blk i]? = _; rw [hb, hw]; exact h
  | loop st pe l ps as bo df =>
    obtain ⟨t, fn, h1, h2, h3, h4⟩ := h
    exact ⟨t, fn, by rw [hb, hw, h1, he.blk h2], he.obj _ h2, h3, fun j x hj => (h4 j x hj).mono he hs⟩
  | defers t => show w'.heap[c'.blk i]? = _; rw [hb, hw]; exact h
  | vrow sz ver => trivial
  | map bl l => show w'.heap[c'.blk i]? = _; rw [hb, hw]; exact h
  | mit b n seen => exact ⟨by rw [hb, hw, h.1, he.blk h.2], he.obj _ h.2⟩
end Go.Abs
namespace Go.Abs
open Go.RowKit
theorem verOf_some {M : Mem} {b : Nat} {o : Ob} (h : M[b]? = some o) : verOf M b = o.ver := by simp [verOf, h]
theorem obj_set {M : Mem} {b i : Nat} {o o' : Ob} (h : M[b]? = some o) (hk : o'.isRow = o.isRow) (hi : obj M i) : obj (M.set b o') i := by
  obtain ⟨p, hp, hr⟩ := hi
  by_cases e : b = i
  · subst e
    refine ⟨o', ?_, ?_⟩
    · rw [List.getElem?_set_self (List.getElem?_eq_some_iff.1 h).1]
    · rw [h] at hp; cases hp; rw [hk, hr]
  · exact ⟨p, by rw [List.getElem?_set_ne e]; exact hp, hr⟩
theorem keep_set {M : Mem} {b i : Nat} {o o' : Ob} {t : Bool} (h : M[b]? = some o) (hd : o.isDef = false) (hi : M[i]? = some (.defers t)) : (M.set b o')[i]? = some (.defers t) := by
  by_cases e : b = i
  · subst e; rw [h] at hi; cases hi; cases hd
  · rw [List.getElem?_set_ne e]; exact hi
theorem Ext.set {c : Ctx} {M : Mem} {b : Nat} {o o' : Ob} (h : M[b]? = some o) (hk : o'.isRow = o.isRow) (hv : o.ver ≤ o'.ver) (hs : o'.ver = o.ver → o'.shape = o.shape) (hd : o.isDef = false := by rfl) : Ext c M c (M.set b o') := by
  have hb := (List.getElem?_eq_some_iff.1 h).1
  refine ⟨⟨by simp, fun i hi => ?_, fun i hi he => ⟨rfl, rfl, ?_⟩, fun i hi => obj_set h hk hi⟩, fun i t hi => keep_set h hd hi⟩
  · by_cases e : b = i
    · subst e; rw [verOf_some h, verOf_some (List.getElem?_set_self hb)]; exact hv
    · simp [verOf, List.getElem?_set_ne e]
  · by_cases e : b = i
    · subst e
      rw [verOf_some h, verOf_some (List.getElem?_set_self hb)] at he
      rw [h, List.getElem?_set_self hb]; simp [hs he]
    · rw [List.getElem?_set_ne e]
theorem Stp.of_block {B : Nat} {c : Ctx} {w w' : World} {k : Nat} (hk : ¬ c.imm k) (hB : B ≤ k) (ho : w'.os = w.os) (ht : w'.tape = w.tape) (hp : w'.output = w.output) (hz : w'.heap.size = w.heap.size)
    (h : ∀ b, b ≠ k → w'.heap[b]? = w.heap[b]?) : Stp B c w c w' :=
  ⟨⟨ho, ht, hp, by omega, fun b hb => h b (by omega)⟩, fun _ h => h, fun b hb => h b (fun e => hk (e ▸ hb))⟩
theorem real_set {M : Mem} {b i : Nat} {o o' : Ob} (h : M[b]? = some o) (hv : o.virt = false) (hr : real (M.set b o') i) : real M i := by
  obtain ⟨p, hp, hpv⟩ := hr
  by_cases e : b = i
  · subst e; exact ⟨o, h, hv⟩
  · exact ⟨p, by rw [List.getElem?_set_ne e] at hp; exact hp, hpv⟩
theorem Sim.lt {B : Nat} {I0 : Nat → Prop} {c : Ctx} {M : Mem} {w : World} (hS : Sim B I0 c M w) {i : Nat} (h : real M i) : c.blk i < w.heap.size := by
  obtain ⟨o, h, hv⟩ := h
  exact (hS.obj i o h).lt hv
theorem Sim.put {B : Nat} {I0 : Nat → Prop} {c : Ctx} {M : Mem} {w w' : World} (hS : Sim B I0 c M w) {b : Nat} {o o' : Ob} (hM : M[b]? = some o)
    (he : Ext c M c (M.set b o')) (hs : Stp B c w c w') (hw : ∀ k, k ≠ c.blk b → w'.heap[k]? = w.heap[k]?)
    (ho : ORep c (M.set b o') w' b o') (hz0 : o.frz = false) (hv0 : o.virt = false) : Sim B I0 c (M.set b o') w' := by
  have hb := (List.getElem?_eq_some_iff.1 hM).1
  refine ⟨fun i hi => hS.blkB i (real_set hM hv0 hi), fun i j hi hj => hS.inj i j (real_set hM hv0 hi) (real_set hM hv0 hj), hS.imm0, hS.immB, fun k hk => Nat.lt_of_lt_of_le (hS.immlt k hk) hs.below.size, ?_, ?_, Nat.le_trans hS.hB hs.below.size⟩
  · intro i p hp hpz hpv
    by_cases e : b = i
    · subst e
      exact hS.sep b o hM hz0 hv0
    · rw [List.getElem?_set_ne e] at hp
      exact hS.sep i p hp hpz hpv
  · intro i p hp
    by_cases e : b = i
    · subst e; rw [List.getElem?_set_self hb] at hp; cases hp; exact ho
    · rw [List.getElem?_set_ne e] at hp
      exact (hS.obj i p hp).mono he hs rfl rfl fun hv => hw _ fun q => e (hS.inj i b ⟨p, hp, hv⟩ ⟨o, hM, hv0⟩ q).symm
def upd {α : Type} (f : Nat → α) (b : Nat) (x : α) : Nat → α := fun i => if i = b then x else f i
@[simp] theorem upd_self {α : Type} (f : Nat → α) (b : Nat) (x : α) : upd f b x b = x := by simp [upd]
theorem upd_ne {α : Type} (f : Nat → α) {b i : Nat} (x : α) (h : i ≠ b) : upd f b x i = f i := by simp [upd, h]
def Ctx.push (c : Ctx) (M : Mem) (k z : Nat) : Ctx := { c with blk := upd c.blk M.length k, rsz := upd c.rsz M.length z }
theorem Ext.push (c : Ctx) (M : Mem) (k z : Nat) (o : Ob) : Ext c M (c.push M k z) (M ++ [o]) := by
  have g : ∀ i, i < M.length → (M ++ [o])[i]? = M[i]? := fun i hi => List.getElem?_append_left hi
  refine ⟨⟨by simp, fun i hi => ?_, fun i hi _ => ⟨upd_ne _ _ (by omega), upd_ne _ _ (by omega), by rw [g i hi]⟩, fun i hi => ?_⟩, fun i t hi => ?_⟩
  · simp [verOf, g i hi]
  · obtain ⟨p, hp, hr⟩ := hi
    exact ⟨p, by rw [g i (List.getElem?_eq_some_iff.1 hp).1]; exact hp, hr⟩
  · rw [g i (List.getElem?_eq_some_iff.1 hi).1]; exact hi
theorem Stp.alloc {B : Nat} {c : Ctx} {w : World} (hB : B ≤ w.heap.size) (hI : ∀ b, c.imm b → b < w.heap.size) (ob : Obj) (blk rsz : Nat → Nat) : Stp B c w ⟨blk, rsz, c.imm⟩ (w.alloc ob) :=
  ⟨(Below.refl _ _).alloc hB _, fun _ h => h, fun b hb => Below.heap_alloc _ _ _ (hI b hb)⟩
theorem real_push {M : Mem} {o : Ob} {i : Nat} (h : real (M ++ [o]) i) : real M i ∨ i = M.length := by
  obtain ⟨p, hp, hv⟩ := h
  by_cases e : i < M.length
  · rw [List.getElem?_append_left e] at hp; exact .inl ⟨p, hp, hv⟩
  · have := (List.getElem?_eq_some_iff.1 hp).1; simp at this; exact .inr (by omega)
theorem Sim.push {B : Nat} {I0 : Nat → Prop} {c : Ctx} {M : Mem} {w : World} (hS : Sim B I0 c M w) (ob : Obj) (z : Nat) (o : Ob)
    (ho : ORep (c.push M w.heap.size z) (M ++ [o]) (w.alloc ob) M.length o) : Sim B I0 (c.push M w.heap.size z) (M ++ [o]) (w.alloc ob) := by
  have he : Ext c M (c.push M w.heap.size z) (M ++ [o]) := Ext.push c M _ _ o
  have hs : Stp B c w (c.push M w.heap.size z) (w.alloc ob) := Stp.alloc hS.hB hS.immlt _ _ _
  have lt : ∀ i, real M i → c.blk i < w.heap.size := fun i hi => hS.lt hi
  have bl : ∀ i, i < M.length → (c.push M w.heap.size z).blk i = c.blk i := fun i hi => upd_ne _ _ (by omega)
  have bn : (c.push M w.heap.size z).blk M.length = w.heap.size := upd_self _ _ _
  refine ⟨?_, ?_, hS.imm0, hS.immB, fun k hk => by have := hS.immlt k hk; simp; omega, ?_, ?_, by have := hS.hB; simp; omega⟩
  · intro i hi
    rcases real_push hi with hi | rfl
    · rw [bl i hi.lt]; exact hS.blkB i hi
    · rw [bn]; exact hS.hB
  · intro i j hi hj q
    rcases real_push hi with hi | rfl <;> rcases real_push hj with hj | rfl
    · rw [bl i hi.lt, bl j hj.lt] at q; exact hS.inj i j hi hj q
    · rw [bn, bl i hi.lt] at q; have := lt i hi; omega
    · rw [bn, bl j hj.lt] at q; have := lt j hj; omega
    · rfl
  · intro i p hp hz hv
    by_cases e : i < M.length
    · rw [List.getElem?_append_left e] at hp
      rw [bl i e]; exact hS.sep i p hp hz hv
    · have : i = M.length := by have := (List.getElem?_eq_some_iff.1 hp).1; simp at this; omega
      subst this
      rw [bn]; intro q; have := hS.immlt _ q; omega
  · intro i p hp
    by_cases e : i < M.length
    · rw [List.getElem?_append_left e] at hp
      exact (hS.obj i p hp).mono he hs (bl i e) (upd_ne _ _ (by omega)) fun hv => Below.heap_alloc _ _ _ (lt i ⟨p, hp, hv⟩)
    · have : i = M.length := by have := (List.getElem?_eq_some_iff.1 hp).1; simp at this; omega
      subst this
      simp at hp; subst hp; exact ho
theorem Sim.pushV {B : Nat} {I0 : Nat → Prop} {c : Ctx} {M : Mem} {w : World} (hS : Sim B I0 c M w) (sz ver : Nat) : Sim B I0 c (M ++ [.vrow sz ver]) w ∧ Ext c M c (M ++ [.vrow sz ver]) := by
  have he : Ext c M c (M ++ [.vrow sz ver]) := by
    have g : ∀ i, i < M.length → (M ++ [.vrow sz ver])[i]? = M[i]? := fun i hi => List.getElem?_append_left hi
    refine ⟨⟨by simp, fun i hi => by simp [verOf, g i hi], fun i hi _ => ⟨rfl, rfl, by rw [g i hi]⟩, fun i hi => ?_⟩, fun i t hi => by rw [g i (List.getElem?_eq_some_iff.1 hi).1]; exact hi⟩
    obtain ⟨p, hp, hr⟩ := hi
    exact ⟨p, by rw [g i (List.getElem?_eq_some_iff.1 hp).1]; exact hp, hr⟩
  have hr : ∀ i, real (M ++ [.vrow sz ver]) i → real M i := fun i hi => by
    rcases real_push hi with h | rfl
    · exact h
    · obtain ⟨p, hp, hv⟩ := hi; simp at hp; subst hp; cases hv
  refine ⟨⟨fun i hi => hS.blkB i (hr i hi), fun i j hi hj => hS.inj i j (hr i hi) (hr j hj), hS.imm0, hS.immB, hS.immlt, ?_, ?_, hS.hB⟩, he⟩
  · intro i p hp hz hv
    by_cases e : i < M.length
    · rw [List.getElem?_append_left e] at hp; exact hS.sep i p hp hz hv
    · have : i = M.length := by have := (List.getElem?_eq_some_iff.1 hp).1; simp at this; omega
      subst this
      simp at hp; subst hp; cases hv
  · intro i p hp
    by_cases e : i < M.length
    · rw [List.getElem?_append_left e] at hp
      exact (hS.obj i p hp).mono he (Stp.refl B c w) rfl rfl fun _ => rfl
    · have : i = M.length := by have := (List.getElem?_eq_some_iff.1 hp).1; simp at this; omega
      subst this
      simp at hp; subst hp; trivial
def Ctx.move (c : Ctx) (b k z : Nat) : Ctx := { c with blk := upd c.blk b k, rsz := upd c.rsz b z }
theorem Ext.move {c : Ctx} {M : Mem} {b : Nat} {o o' : Ob} (h : M[b]? = some o) (hk : o'.isRow = o.isRow) (hv : o.ver < o'.ver) (k z : Nat) (hd : o.isDef = false := by rfl) : Ext c M (c.move b k z) (M.set b o') := by
  have hb := (List.getElem?_eq_some_iff.1 h).1
  refine ⟨⟨by simp, fun i hi => ?_, fun i hi he => ?_, fun i hi => obj_set h hk hi⟩, fun i t hi => keep_set h hd hi⟩
  · by_cases e : b = i
    · subst e; rw [verOf_some h, verOf_some (List.getElem?_set_self hb)]; omega
    · simp [verOf, List.getElem?_set_ne e]
  · by_cases e : b = i
    · subst e; rw [verOf_some h, verOf_some (List.getElem?_set_self hb)] at he; omega
    · exact ⟨upd_ne _ _ (Ne.symm e), upd_ne _ _ (Ne.symm e), by rw [List.getElem?_set_ne e]⟩
theorem real_set' {M : Mem} {b i : Nat} {o' : Ob} (hr : real (M.set b o') i) : real M i ∨ i = b := by
  obtain ⟨p, hp, hpv⟩ := hr
  by_cases e : b = i
  · exact .inr e.symm
  · exact .inl ⟨p, by rw [List.getElem?_set_ne e] at hp; exact hp, hpv⟩
theorem Sim.move {B : Nat} {I0 : Nat → Prop} {c : Ctx} {M : Mem} {w : World} (hS : Sim B I0 c M w) {b : Nat} {o o' : Ob} (hM : M[b]? = some o) (hk : o'.isRow = o.isRow) (hv : o.ver < o'.ver) (ob : Obj) (z : Nat)
    (ho : ORep (c.move b w.heap.size z) (M.set b o') (w.alloc ob) b o') (hd : o.isDef = false := by rfl) : Sim B I0 (c.move b w.heap.size z) (M.set b o') (w.alloc ob) := by
  have he : Ext c M (c.move b w.heap.size z) (M.set b o') := Ext.move hM hk hv _ _ hd
  have hs : Stp B c w (c.move b w.heap.size z) (w.alloc ob) := Stp.alloc hS.hB hS.immlt _ _ _
  have hb := (List.getElem?_eq_some_iff.1 hM).1
  have lt : ∀ i, real M i → c.blk i < w.heap.size := fun i hi => hS.lt hi
  have bl : ∀ i, i ≠ b → (c.move b w.heap.size z).blk i = c.blk i := fun i hi => upd_ne _ _ hi
  have bn : (c.move b w.heap.size z).blk b = w.heap.size := upd_self _ _ _
  refine ⟨?_, ?_, hS.imm0, hS.immB, fun k hk => by have := hS.immlt k hk; simp; omega, ?_, ?_, by have := hS.hB; simp; omega⟩
  · intro i hi
    by_cases e : i = b
    · subst e; rw [bn]; exact hS.hB
    · rw [bl i e]; exact hS.blkB i ((real_set' hi).resolve_right e)
  · intro i j hi hj q
    by_cases e : i = b
    · by_cases e' : j = b
      · omega
      · subst e; rw [bn, bl j e'] at q; have := lt j ((real_set' hj).resolve_right e'); omega
    · by_cases e' : j = b
      · subst e'; rw [bn, bl i e] at q; have := lt i ((real_set' hi).resolve_right e); omega
      · rw [bl i e, bl j e'] at q; exact hS.inj i j ((real_set' hi).resolve_right e) ((real_set' hj).resolve_right e') q
  · intro i p hp hz hvp
    by_cases e : b = i
    · subst e; rw [bn]; intro q; have := hS.immlt _ q; omega
    · rw [List.getElem?_set_ne e] at hp
      rw [bl i (Ne.symm e)]; exact hS.sep i p hp hz hvp
  · intro i p hp
    by_cases e : b = i
    · subst e; rw [List.getElem?_set_self hb] at hp; cases hp; exact ho
    · rw [List.getElem?_set_ne e] at hp
      exact (hS.obj i p hp).mono he hs (bl i (Ne.symm e)) (upd_ne _ _ (Ne.symm e)) fun hvp => Below.heap_alloc _ _ _ (lt i ⟨p, hp, hvp⟩)
def Ctx.grown (c : Ctx) (w w' : World) : Ctx := { c with imm := fun b => c.imm b ∨ (w.heap.size ≤ b ∧ b < w'.heap.size) }
theorem Ext.grown (c : Ctx) (M : Mem) (J : Nat → Prop) : Ext c M { c with imm := J } M := ⟨⟨Nat.le_refl _, fun _ _ => Nat.le_refl _, fun _ _ _ => ⟨rfl, rfl, rfl⟩, fun _ h => h⟩, fun _ _ h => h⟩
theorem Stp.grown {B : Nat} {c : Ctx} {w w' : World} (hB : B ≤ w.heap.size) (hI : ∀ b, c.imm b → b < w.heap.size) (h : Below w.heap.size w w') : Stp B c w (c.grown w w') w' :=
  ⟨h.mono hB, fun _ h => .inl h, fun b hb => h.block b (hI b hb)⟩
theorem Sim.grown {B : Nat} {I0 : Nat → Prop} {c : Ctx} {M : Mem} {w w' : World} (hS : Sim B I0 c M w) (h : Below w.heap.size w w') : Sim B I0 (c.grown w w') M w' := by
  have hs := Stp.grown hS.hB hS.immlt h
  refine ⟨hS.blkB, hS.inj, fun b hb => .inl (hS.imm0 b hb), ?_, ?_, ?_, fun i o hi => (hS.obj i o hi).mono (Ext.grown _ _ _).toExt0 hs rfl rfl fun hv => h.block _ (hS.lt ⟨o, hi, hv⟩), Nat.le_trans hS.hB h.size⟩
  · rintro b (hb | ⟨h1, h2⟩) hlt
    · exact hS.immB b hb hlt
    · have := hS.hB; omega
  · rintro b (hb | ⟨h1, h2⟩)
    · exact Nat.lt_of_lt_of_le (hS.immlt b hb) h.size
    · exact h2
  · rintro i o hi hz hv (q | ⟨q, _⟩)
    · exact hS.sep i o hi hz hv q
    · have := hS.lt ⟨o, hi, hv⟩; have q' : w.heap.size ≤ c.blk i := q; omega
theorem Stp.drew {B : Nat} {c : Ctx} {w w' : World} (h : Stp B c w c w') : Stp B c w c w'.drew := ⟨h.below.drew, h.imm, h.kept⟩
theorem Sim.same {B : Nat} {I0 : Nat → Prop} {c : Ctx} {M : Mem} {w w' : World} (hS : Sim B I0 c M w) (h : w'.heap = w.heap) (ho : w'.os = w.os) (ht : w'.tape = w.tape) (hp : w'.output = w.output) : Sim B I0 c M w' ∧ Stp B c w c w' := by
  have hs : Stp B c w c w' := ⟨⟨ho, ht, hp, by rw [h]; exact Nat.le_refl _, fun b _ => by rw [h]⟩, fun _ h => h, fun b _ => by rw [h]⟩
  refine ⟨⟨hS.blkB, hS.inj, hS.imm0, hS.immB, fun b hb => by rw [h]; exact hS.immlt b hb, hS.sep, fun i o hi => (hS.obj i o hi).mono (Ext.refl _ _).toExt0 hs rfl rfl (fun _ => by rw [h]), by rw [h]; exact hS.hB⟩, hs⟩
def Ctx.freeze (c : Ctx) (b : Nat) : Ctx := { c with imm := fun k => c.imm k ∨ k = c.blk b }
theorem Sim.freeze {B : Nat} {I0 : Nat → Prop} {c : Ctx} {M : Mem} {w : World} (hS : Sim B I0 c M w) {b : Nat} {l : List AV} {sz ver : Nat} {z : Bool} (hM : M[b]? = some (.cells l sz ver z)) :
    Sim B I0 (c.freeze b) (M.set b (.cells l sz ver true)) w ∧ Ext c M (c.freeze b) (M.set b (.cells l sz ver true)) ∧ Stp B c w (c.freeze b) w := by
  have he0 : Ext c M c (M.set b (.cells l sz ver true)) := Ext.set hM rfl (Nat.le_refl _) (fun _ => rfl)
  have he : Ext c M (c.freeze b) (M.set b (.cells l sz ver true)) := he0.trans (Ext.grown _ _ _)
  have hs : Stp B c w (c.freeze b) w := ⟨Below.refl _ _, fun _ h => .inl h, Kept.refl _ _⟩
  have hb := (List.getElem?_eq_some_iff.1 hM).1
  have rb : real M b := ⟨_, hM, rfl⟩
  have rs : ∀ i, real (M.set b (.cells l sz ver true)) i → real M i := fun i hi => real_set hM rfl hi
  refine ⟨⟨fun i hi => hS.blkB i (rs i hi), fun i j hi hj => hS.inj i j (rs i hi) (rs j hj), fun b hb => .inl (hS.imm0 b hb), ?_, ?_, ?_, ?_, hS.hB⟩, he, hs⟩
  · rintro k (hk | rfl) hlt
    · exact hS.immB k hk hlt
    · have := hS.blkB b rb; omega
  · rintro k (hk | rfl)
    · exact hS.immlt k hk
    · exact hS.lt rb
  · rintro i p hp hz hv (q | q)
    · by_cases e : b = i
      · subst e; rw [List.getElem?_set_self hb] at hp; cases hp; cases hz
      · rw [List.getElem?_set_ne e] at hp; exact hS.sep i p hp hz hv q
    · by_cases e : b = i
      · subst e; rw [List.getElem?_set_self hb] at hp; cases hp; cases hz
      · rw [List.getElem?_set_ne e] at hp
        exact e (hS.inj i b ⟨p, hp, hv⟩ rb q).symm
  · intro i p hp
    by_cases e : b = i
    · subst e
      rw [List.getElem?_set_self hb] at hp; cases hp
      have ho : ORep c M w b (.cells l sz ver z) := hS.obj b _ hM
      have ho : ORep c M w b (.cells l sz ver true) := ho
      exact ho.mono he hs rfl rfl fun _ => rfl
    · rw [List.getElem?_set_ne e] at hp
      exact (hS.obj i p hp).mono he hs rfl rfl fun _ => rfl
end Go.Abs
end
