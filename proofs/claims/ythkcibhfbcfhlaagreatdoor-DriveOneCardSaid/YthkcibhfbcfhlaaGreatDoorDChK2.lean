/- Part of a proof, in few files: Abs4 Abs5. -/
import Derived.Test.YthkcibhfbcfhlaaGreatDoorDChK1

set_option linter.unusedVariables false
set_option linter.unusedSimpArgs false
set_option linter.unnecessarySimpa false
section
namespace Go.Abs
open Go.RowKit
variable {P : Program} {B : Nat} {I0 : Nat → Prop} {c : Ctx} {M : Mem} {w : World}
def flat (l : List PD) : List PD := l.flatMap PD.leaves
def uni (s : Nat) (l : List PD) : Bool := l.all fun x => x.leaves.length == s
theorem uni_at {s : Nat} {l : List PD} (h : uni s l = true) {i : Nat} {x : PD} (hi : l[i]? = some x) : x.leaves.length = s := by
 have := List.all_eq_true.1 h x (List.mem_of_getElem? hi)
 simpa using this
theorem flat_length {s : Nat} : ∀ {l : List PD}, uni s l = true → (flat l).length = l.length * s
 | [], _ => by simp [flat]
 | x :: l, h => by
  simp [uni] at h
  have ih := flat_length (s := s) (l := l) (by simpa [uni] using h.2)
  simp [flat] at ih ⊢
  rw [ih, h.1, Nat.add_mul, Nat.one_mul, Nat.add_comm]
theorem flat_get {s : Nat} (hs : 0 < s) : ∀ {l : List PD}, uni s l = true → ∀ k, (flat l)[k]? = (l[k / s]?).bind fun x => x.leaves[k % s]?
 | [], _, k => by simp [flat]
 | x :: l, h, k => by
  simp [uni] at h
  have ih := flat_get hs (l := l) (by simpa [uni] using h.2)
  have e : flat (x :: l) = x.leaves ++ flat l := by simp [flat]
  rw [e]
  by_cases hk : k < s
  ·rw [List.getElem?_append_left (by omega), Nat.div_eq_of_lt hk, Nat.mod_eq_of_lt hk]; simp
  ·rw [List.getElem?_append_right (by omega), h.1, ih (k - s)]
   have e1 : k / s = (k - s) / s + 1 := by rw [Nat.div_eq_sub_div hs (by omega)]
   have e2 : k % s = (k - s) % s := by rw [Nat.mod_eq_sub_mod (by omega)]
   rw [e1, e2]; simp
theorem PRep.flat {I : Nat → Prop} {a : Option Addr} {n cap s : Nat} {l : List PD} (h : PRep I w (.slice a n cap) (.sl l)) (hu : uni s l = true) :
  n = l.length ∧ n ≤ cap ∧ ∃ vs : List Value, vs.length = n * s ∧ (∀ (j : Nat) (v : Value), vs[j]? = some v → ∃ ad, a = some ad ∧ ad.spot = none ∧ I ad.block ∧ w.cell? ⟨ad.block, ad.off + j, none⟩ = some v) ∧
   ∀ (j : Nat) (v : Value) (y : PD), vs[j]? = some v → (Abs.flat l)[j]? = some y → PRep I w v y := by
 cases h with
 | nil => exact ⟨rfl, Nat.le_refl _, [], by simp, by simp, by simp⟩
 | sl a n cap sz l f hsp hn hcap hI hsz hc hr =>
  refine ⟨hn, hcap, (List.range (n * s)).map fun k => f (k / s) (k % s), by simp, ?_, ?_⟩
  ·intro j v hj
   simp only [List.getElem?_map, Option.map_eq_some_iff] at hj
   obtain ⟨j', hj, rfl⟩ := hj
   have hlt := (List.getElem?_eq_some_iff.1 hj).1
   simp at hlt
   obtain rfl : j' = j := by have := (List.getElem?_eq_some_iff.1 hj).2; simpa using this.symm
   have hs : 0 < s := by rcases Nat.eq_zero_or_pos s with rfl | h; · simp at hlt
                         ·exact h
   have h1 : j' / s < n := by rw [Nat.div_lt_iff_lt_mul hs]; exact hlt
   have h2 : j' % s < s := Nat.mod_lt _ hs
   have h3 : sz = s := by
    have := hsz (j' / s) (l[j' / s]'(hn ▸ h1)) (List.getElem?_eq_getElem (hn ▸ h1))
    rw [← this, uni_at hu (List.getElem?_eq_getElem (hn ▸ h1))]
   have := hc (j' / s) (j' % s) h1 (h3 ▸ h2)
   refine ⟨a, rfl, hsp (Nat.lt_of_le_of_lt (Nat.zero_le _) h1), hI (Nat.lt_of_le_of_lt (Nat.zero_le _) h1), ?_⟩
   rw [← this]
   congr 2
   have q1 := Nat.div_add_mod j' s
   have e : s * (j' / s) = j' / s * sz := by rw [h3, Nat.mul_comm]
   generalize s * (j' / s) = q2 at *
   generalize j' / s * sz = q3 at *
   omega
  ·intro j v y hj hy
   simp only [List.getElem?_map, Option.map_eq_some_iff] at hj
   obtain ⟨j', hj, rfl⟩ := hj
   have hlt := (List.getElem?_eq_some_iff.1 hj).1
   simp at hlt
   obtain rfl : j' = j := by have := (List.getElem?_eq_some_iff.1 hj).2; simpa using this.symm
   have hs : 0 < s := by rcases Nat.eq_zero_or_pos s with rfl | h; · simp at hlt
                         ·exact h
   rw [flat_get hs hu, Option.bind_eq_some_iff] at hy
   obtain ⟨x, hx, hy⟩ := hy
   exact hr _ _ x y hx hy
def idx (i : Int) (n : Nat) : Option Nat := if 0 ≤ i ∧ i < n then some i.toNat else none
theorem idx_some {i : Int} {n k : Nat} (h : idx i n = some k) : 0 ≤ i ∧ i < n ∧ i.toNat = k ∧ k < n := by
 unfold idx at h
 split at h
 ·cases h; rename_i h; exact ⟨h.1, h.2, rfl, by omega⟩
 ·cases h
def aIndexAddr (P : Program) (M : Mem) (t : TypeId) (x i : AV) : Option AV :=
 match P.underlying t, i with
 | some (.slice e), .pd (.int _ i) =>
  match szOf P e, x with
  | some s, .pd (.sl l) => (idx i l.length).bind fun k => (l[k]?).bind fun y => if y.leaves.length = s then some (.rd y.leaves) else none
  | some s, .fixed l => (idx i l.length).bind fun k => (l[k]?).bind fun y => if y.leaves.length = s then some (.rd y.leaves) else none
  | some s, .own b len ver =>
   match M[b]? with
   | some (.cells _ sz ver' _) => if ver' = ver ∧ sz = s then (idx i len).map fun k => .ptr b (k * s) ver else none
   | _ => none
  | _, _ => none
 | some (.array n e), .pd (.int _ i) =>
  match szOf P e, x with
  | some s, .ptr b off ver => if verOf M b = ver then (idx i n).map fun k => .ptr b (off + k * s) ver else none
  | some s, .rd l => (idx i n).map fun k => .rd (l.drop (k * s))
  | _, _ => none
 | _, _ => none
theorem run_indexAt_sl {t e : TypeId} (ht : P.underlying t = some (.slice e)) {s : Nat} (hs : szOf P e = some s) (a : Addr) (len cap k : Nat) (q : IntKind) (i : Int) (hi : idx i len = some k) (w : World) :
  (Instr.indexAt t (.slice (some a) len cap) (.int q i)).run P w = .ok (.pointer (some (a.add (k * s)))) w := by
 obtain ⟨h1, h2, h3, h4⟩ := idx_some hi
 simp [Instr.indexAt, asIntOf, run_underlying ht, h1, h2, run_sizeOf hs, h3]
theorem PRep.at {I : Nat → Prop} {a : Option Addr} {n cap k : Nat} {l : List PD} {y : PD} (h : PRep I w (.slice a n cap) (.sl l)) (hk : l[k]? = some y) :
  n = l.length ∧ ∃ (ad : Addr) (f : Nat → Value), a = some ad ∧ ad.spot = none ∧ I ad.block ∧ (∀ j, j < y.leaves.length → w.cell? ⟨ad.block, ad.off + k * y.leaves.length + j, none⟩ = some (f j)) ∧
   ∀ (j : Nat) (z : PD), y.leaves[j]? = some z → PRep I w (f j) z := by
 cases h with
 | nil => simp at hk
 | sl a n cap sz l f hsp hn hcap hI hsz hc hr =>
  have hlt := (List.getElem?_eq_some_iff.1 hk).1
  have hs := hsz k y hk
  refine ⟨hn, a, f k, rfl, hsp (by omega), hI (by omega), fun j hj => ?_, fun j z hz => hr k j y z hk hz⟩
  have := hc k j (by omega) (by omega)
  rw [hs]; exact this
theorem rd_of_at {a : Option Addr} {n cap k s : Nat} {l : List PD} {y : PD} (h : PRep c.imm w (.slice a n cap) (.sl l)) (hk : l[k]? = some y) (hy : y.leaves.length = s) :
  ∃ ad, a = some ad ∧ ARep c M w (.pointer (some (ad.add (k * s)))) (.rd y.leaves) := by
 obtain ⟨hn, ad, f, rfl, h2, h3, h4, h5⟩ := h.at hk
 refine ⟨ad, rfl, ?_⟩
 rw [addr_add _ _ h2]
 refine .rd _ _ f rfl (fun _ => h3) (fun j hj => ?_) fun j z hz => h5 j z hz
 have := h4 j hj
 rw [hy] at this
 exact this
theorem aIndexAddr_ok {t : TypeId} {x i y : AV} {v u : Value} (hS : Sim B I0 c M w) (hx : ARep c M w v x) (hi : ARep c M w u i) (h : aIndexAddr P M t x i = some y) : Out P B I0 c M w (Instr.indexAt t v u) y M := by
 unfold aIndexAddr at h
 split at h
 ·rename_i e q n ht
  cases hi with
  | pd u x' hi =>
  cases hi
  cases hs : szOf P e with
  | none => simp [hs] at h
  | some s =>
   simp only [hs] at h
   cases hx with
   | pd v x hx =>
    cases x with
    | sl l =>
     simp only [Option.bind_eq_some_iff] at h
     obtain ⟨k, hk, y', hy, h⟩ := h
     split at h
     ·rename_i hle
      cases h
      cases hx with
      | nil => simp at hy
      | sl a m cap sz l f hsp hn hcap hI hsz hc hr =>
       obtain ⟨ad, e1, e2⟩ := rd_of_at (M := M) (PRep.sl a m cap sz l f hsp hn hcap hI hsz hc hr) hy hle
       cases e1
       exact Out.val hS (run_indexAt_sl ht hs a m cap k q n (by rw [hn]; exact hk) w) e2
     ·cases h
    | _ => simp at h
   | fixed a m l hn hp =>
    simp only [Option.bind_eq_some_iff] at h
    obtain ⟨k, hk, y', hy, h⟩ := h
    split at h
    ·rename_i hle
     cases h
     obtain ⟨ad, rfl, e2⟩ := rd_of_at (M := M) hp hy hle
     exact Out.val hS (run_indexAt_sl ht hs ad m m k q n (by rw [hn]; exact hk) w) e2
    ·cases h
   | own v b len ver hb hv hp =>
    simp only at h
    split at h
    ·rename_i l sz ver' z hM
     split at h
     ·rename_i hc
      obtain ⟨rfl, rfl⟩ := hc
      simp only [Option.map_eq_some_iff] at h
      obtain ⟨k, hk, rfl⟩ := h
      rcases hp (verOf_some hM) with ⟨cap, l2, sz2, z2, hM2, rfl, h5, h6, h7⟩ | ⟨sz2, hM2, _⟩
      ·rw [hM] at hM2; cases hM2
       refine Out.val hS (run_indexAt_sl ht hs _ len cap k q n hk w) ?_
       rw [addr_add _ _ rfl, Nat.zero_add]
       exact .ptr _ _ _ _ hb hv fun _ => rfl
      ·rw [hM] at hM2; cases hM2
     ·cases h
    ·cases h
   | _ => simp at h
 ·rename_i m e q n ht
  cases hi with
  | pd u x' hi =>
  cases hi
  cases hs : szOf P e with
  | none => simp [hs] at h
  | some s =>
   simp only [hs] at h
   have run : ∀ (a : Addr) (k : Nat), idx n m = some k → (Instr.indexAt t (.pointer (some a)) (.int q n)).run P w = .ok (.pointer (some (a.add (k * s)))) w := by
    intro a k hk
    obtain ⟨h1, h2, h3, h4⟩ := idx_some hk
    simp [Instr.indexAt, asIntOf, run_underlying ht, Instr.sureAddr, h1, h2, run_sizeOf hs, h3]
   cases hx with
   | ptr v b off ver hb hv hp =>
    simp only at h
    split at h
    ·rename_i hvv
     simp only [Option.map_eq_some_iff] at h
     obtain ⟨k, hk, rfl⟩ := h
     rw [hp hvv]
     refine Out.val hS (run _ k hk) ?_
     rw [addr_add _ _ rfl]
     exact .ptr _ _ _ _ hb hv fun _ => rfl
    ·cases h
   | rd a l f hsp hI hc hr =>
    simp only [Option.map_eq_some_iff] at h
    obtain ⟨k, hk, rfl⟩ := h
    refine Out.val hS (run _ k hk) ?_
    rw [addr_add _ _ hsp]
    refine .rd _ _ (fun j => f (k * s + j)) rfl (fun h => hI (by simp at h; omega)) (fun j hj => ?_) fun j z hz => hr _ z (by simpa using hz)
    have := hc (k * s + j) (by simp at hj; omega)
    simpa [Nat.add_assoc] using this
   | _ => simp at h
 ·cases h
def fieldOf (P : Program) (t : TypeId) (f : Nat) : Option Field :=
 match P.underlying t with
 | some (.struct fs) => fs[f]?
 | _ => none
def aFieldAddr (P : Program) (M : Mem) (s : TypeId) (x : AV) (f : Nat) : Option AV :=
 match fieldOf P s f with
 | some fl =>
  match szOf P fl.type, x with
  | some (_ + 1), .ptr b off ver => if verOf M b = ver then some (.ptr b (off + fl.offset) ver) else none
  | some (_ + 1), .rd l => some (.rd (l.drop fl.offset))
  | _, _ => none
 | none => none
theorem fieldOf_some {t : TypeId} {f : Nat} {fl : Field} (h : fieldOf P t f = some fl) : ∃ fs, P.underlying t = some (.struct fs) ∧ fs[f]? = some fl := by
 unfold fieldOf at h
 split at h
 ·rename_i fs hu; exact ⟨fs, hu, h⟩
 ·cases h
theorem aFieldAddr_ok {s : TypeId} {x y : AV} {f : Nat} {v : Value} (hS : Sim B I0 c M w) (hx : ARep c M w v x) (h : aFieldAddr P M s x f = some y) : Out P B I0 c M w (Instr.fieldAt s v f) y M := by
 unfold aFieldAddr at h
 split at h
 ·rename_i fl hf
  obtain ⟨fs, hu, hfs⟩ := fieldOf_some hf
  have run : ∀ (a : Addr) (n : Nat), szOf P fl.type = some (n + 1) → (Instr.fieldAt s (.pointer (some a)) f).run P w = .ok (.pointer (some (a.add fl.offset))) w := by
   intro a n hn
   simp [Instr.fieldAt, run_underlying hu, hfs, Instr.sureAddr, fieldPlace, run_sizeOf hn]
  cases hs : szOf P fl.type with
  | none => simp [hs] at h
  | some m =>
   cases m with
   | zero => simp [hs] at h
   | succ n =>
    simp only [hs] at h
    cases hx with
    | ptr v b off ver hb hv hp =>
     simp only at h
     split at h
     ·rename_i hvv
      cases h
      rw [hp hvv]
      refine Out.val hS (run _ n hs) ?_
      rw [addr_add _ _ rfl]
      exact .ptr _ _ _ _ hb hv fun _ => rfl
     ·cases h
    | rd a l g hsp hI hc hr =>
     simp only [Option.some.injEq] at h
     subst h
     refine Out.val hS (run _ n hs) ?_
     rw [addr_add _ _ hsp]
     refine .rd _ _ (fun j => g (fl.offset + j)) rfl (fun h => hI (by simp at h; omega)) (fun j hj => ?_) fun j z hz => hr _ z (by simpa using hz)
     have := hc (fl.offset + j) (by simp at hj; omega)
     simpa [Nat.add_assoc] using this
    | _ => simp at h
 ·cases h
def aPart (P : Program) (t : TypeId) (l : List AV) (off : Nat) : Option AV :=
 match aggT P t, szOf P t with
 | some true, some n => if off + n ≤ l.length then some (.agg ((l.drop off).take n)) else none
 | some false, _ => l[off]?
 | _, _ => none
theorem aPart_ok {t : TypeId} {l : List AV} {off : Nat} {y : AV} {cs : Array Value} (hz : cs.size = l.length)
  (hr : ∀ (i : Nat) (v : Value) (x : AV), cs[i]? = some v → l[i]? = some x → ARep c M w v x) (h : aPart P t l off = some y) : ∃ v, (part t cs off).run P w = .ok v w ∧ ARep c M w v y := by
 unfold aPart at h
 split at h
 ·rename_i n hag hn
  split at h
  ·rename_i hle
   cases h
   refine ⟨.agg (cs.extract off (off + n)), by simp [part, run_isAgg hag, run_sizeOf hn], .agg _ _ (by simp; omega) fun i v x h1 h2 => ?_⟩
   rw [List.getElem?_take, List.getElem?_drop] at h2
   split at h2
   ·rename_i hi
    refine hr (off + i) v x ?_ h2
    rw [Array.getElem?_extract] at h1
    split at h1
    ·exact h1
    ·cases h1
   ·cases h2
  ·cases h
 ·rename_i hag
  have hlt := (List.getElem?_eq_some_iff.1 h).1
  refine ⟨cs[off]'(by omega), ?_, hr off _ y (Array.getElem?_eq_getElem (by omega)) h⟩
  simp [part, run_isAgg hag, show off < cs.size by omega]
 ·cases h
def AV.parts : AV → Option (List AV)
 | .agg l => some l
 | .pd (.agg l) => some (l.map .pd)
 | _ => none
theorem ARep.parts {v : Value} {x : AV} {l : List AV} (h : ARep c M w v x) (hl : x.parts = some l) : ∃ cs, v = .agg cs ∧ cs.size = l.length ∧ ∀ (i : Nat) (v : Value) (x : AV), cs[i]? = some v → l[i]? = some x → ARep c M w v x := by
 cases h with
 | agg vs l' hs h => simp [AV.parts] at hl; subst hl; exact ⟨vs, rfl, hs, h⟩
 | pd v x h =>
  cases x with
  | agg l' =>
   simp [AV.parts] at hl; subst hl
   cases h with
   | agg vs l' hs h =>
    refine ⟨vs, rfl, by simpa using hs, fun i v x h1 h2 => ?_⟩
    simp only [List.getElem?_map, Option.map_eq_some_iff] at h2
    obtain ⟨y, h2, rfl⟩ := h2
    exact .pd _ _ (h i v y h1 h2)
  | _ => simp [AV.parts] at hl
 | _ => simp [AV.parts] at hl
def aField (P : Program) (t : TypeId) (x : AV) (f : Nat) : Option AV :=
 match fieldOf P t f, x.parts with
 | some fl, some l => aPart P fl.type l fl.offset
 | _, _ => none
theorem aField_ok {t : TypeId} {x y : AV} {f : Nat} {v : Value} (hS : Sim B I0 c M w) (hx : ARep c M w v x) (h : aField P t x f = some y) : Out P B I0 c M w (Instr.field t v f) y M := by
 unfold aField at h
 split at h
 ·rename_i fl l hf hl
  obtain ⟨fs, hu, hfs⟩ := fieldOf_some hf
  obtain ⟨cs, rfl, h1, h2⟩ := hx.parts hl
  obtain ⟨u, h3, h4⟩ := aPart_ok (P := P) h1 h2 h
  refine Out.val hS (v' := u) ?_ h4
  simp [Instr.field, run_underlying hu, hfs, asAgg, h3]
 ·cases h
def aIndexS (x : AV) (i : Int) : Option AV :=
 match x with
 | .pd (.str s) => (idx i s.length).bind fun k => (s[k]?).map fun b => .pd (.int .u8 b.toNat)
 | _ => none
def aIndexA (P : Program) (n : Nat) (e : TypeId) (x : AV) (i : Int) : Option AV :=
 match szOf P e, x.parts with
 | some s, some l => (idx i n).bind fun k => aPart P e l (k * s)
 | _, _ => none
def AV.int? : AV → Option Int
 | .pd (.int _ i) => some i
 | _ => none
def aIndex (P : Program) (t : TypeId) (x i : AV) : Option AV :=
 match P.underlying t, i.int? with
 | some .string, some i => aIndexS x i
 | some (.array n e), some i => aIndexA P n e x i
 | _, _ => none
theorem ARep.int {v : Value} {x : AV} {n : Int} (h : ARep c M w v x) (hx : x.int? = some n) : ∃ k, v = .int k n ∧ x = .pd (.int k n) := by
 unfold AV.int? at hx
 split at hx
 ·cases hx
  cases h with
  | pd v y h => cases h; exact ⟨_, rfl, rfl⟩
 ·cases hx
theorem size_mk (s : List UInt8) : (ByteArray.mk s.toArray).size = s.length := by simp [ByteArray.size]
theorem get?_mk (s : List UInt8) (k : Nat) : (ByteArray.mk s.toArray)[k]? = s[k]? := by
 by_cases h : k < s.length
 ·rw [ByteArray.getElem?_lt' _ _ (by rw [size_mk]; exact h), List.getElem?_eq_getElem h]
  rfl
 ·rw [ByteArray.getElem?_ge' _ _ (by rw [size_mk]; exact h), List.getElem?_eq_none (by omega)]
theorem aIndex_ok {t : TypeId} {x i y : AV} {v u : Value} (hS : Sim B I0 c M w) (hx : ARep c M w v x) (hi : ARep c M w u i) (h : aIndex P t x i = some y) : Out P B I0 c M w (Instr.index t v u) y M := by
 unfold aIndex at h
 cases hii : i.int? with
 | none => rw [hii] at h; split at h <;> simp_all
 | some n =>
  obtain ⟨q, rfl, rfl⟩ := hi.int hii
  rw [hii] at h
  cases ht : P.underlying t with
  | none => simp [ht] at h
  | some d =>
   rw [ht] at h
   cases d with
   | string =>
    simp only [aIndexS] at h
    split at h
    ·rename_i s
     cases hx with
     | pd v x hx =>
     cases hx
     simp only [Option.bind_eq_some_iff, Option.map_eq_some_iff] at h
     obtain ⟨k, hk, b, hb, rfl⟩ := h
     obtain ⟨h1, h2, h3, h4⟩ := idx_some hk
     refine Out.val hS (v' := .int .u8 b.toNat) ?_ (.pd _ _ (.int _ _))
     simp [Instr.index, asIntOf, run_underlying ht, strV, h1, h3, get?_mk, hb]
    ·cases h
   | array m e =>
    simp only [aIndexA] at h
    cases hs : szOf P e with
    | none => simp [hs] at h
    | some s =>
     cases hl : x.parts with
     | none => simp [hs, hl] at h
     | some l =>
      simp only [hs, hl, Option.bind_eq_some_iff] at h
      obtain ⟨k, hk, h⟩ := h
      obtain ⟨h1, h2, h3, h4⟩ := idx_some hk
      obtain ⟨cs, rfl, k1, k2⟩ := hx.parts hl
      obtain ⟨u, k3, k4⟩ := aPart_ok (P := P) k1 k2 h
      refine Out.val hS (v' := u) ?_ k4
      simp [Instr.index, asIntOf, run_underlying ht, h1, h2, h3, run_sizeOf hs, k3]
   | _ => simp at h
end Go.Abs
end

section
namespace Go.Abs
open Go.RowKit
variable {P : Program} {B : Nat} {I0 : Nat → Prop} {c : Ctx} {M : Mem} {w : World}
def srcCells (M : Mem) (s : Nat) (x : AV) : Option (List AV × Nat) :=
 match x with
 | .pd (.sl l) => if uni s l then some ((flat l).map .pd, l.length) else none
 | .fixed l => if uni s l then some ((flat l).map .pd, l.length) else none
 | .own b len ver =>
  match M[b]? with
  | some (.cells l sz ver' _) => if ver' = ver ∧ sz = s then some (l.take (len * s), len) else none
  | some (.vrow _ ver') => if ver' = ver then some ([], 0) else none
  | _ => none
 | .pd (.str t) => if s = 1 then some (t.map fun b => .pd (.int .u8 b.toNat), t.length) else none
 | _ => none
structure Lends (P : Program) (c : Ctx) (M : Mem) (w : World) (s : Nat) (v : Value) (xs : List AV) (n : Nat) : Prop where
 len : xs.length = n * s
 lenOf : ∀ w', (Builtin.lenOf v).run P w' = .ok n w'
 cells : ∃ vs : List Value, vs.length = n * s ∧ (∀ w' : World, w'.heap = w.heap → ∀ m, m ≤ n → (Builtin.firstCells s m v).run P w' = .ok (vs.take (m * s)).toArray w') ∧
  ∀ (j : Nat) (u : Value) (y : AV), vs[j]? = some u → xs[j]? = some y → ARep c M w u y
theorem cell_heap {w w' : World} (h : w'.heap = w.heap) (a : Addr) : w'.cell? a = w.cell? a := by simp [World.cell?, h]
theorem lends_slice {a : Option Addr} {n cap s : Nat} {xs : List AV} (vs : List Value) (hl : vs.length = n * s) (hx : xs.length = n * s)
  (hc : ∀ (j : Nat) (v : Value), vs[j]? = some v → ∃ ad, a = some ad ∧ ad.spot = none ∧ w.cell? ⟨ad.block, ad.off + j, none⟩ = some v)
  (hn : a = none → n = 0)
  (hr : ∀ (j : Nat) (u : Value) (y : AV), vs[j]? = some u → xs[j]? = some y → ARep c M w u y) : Lends P c M w s (.slice a n cap) xs n := by
 refine ⟨hx, fun w' => by simp [Builtin.lenOf], vs, hl, fun w' hw m hm => ?_, hr⟩
 cases a with
 | none =>
  have := hn rfl
  obtain rfl : m = 0 := by omega
  simp [Builtin.firstCells]
 | some ad =>
  have hmn : m * s ≤ n * s := Nat.mul_le_mul_right _ hm
  refine run_firstCells_some (P := P) w' s m ad n cap (vs.take (m * s)) (by simp; omega) fun j v hj => ?_
  rw [List.getElem?_take] at hj
  split at hj
  ·obtain ⟨ad', e, h1, h2⟩ := hc j v hj
   cases e
   rw [addr_add _ _ h1, cell_heap hw]; exact h2
  ·cases hj
theorem srcCells_ok {s n : Nat} {x : AV} {v : Value} {xs : List AV} (hS : Sim B I0 c M w) (hx : ARep c M w v x) (h : srcCells M s x = some (xs, n)) : Lends P c M w s v xs n := by
 unfold srcCells at h
 cases hx with
 | pd v x hx =>
  cases x with
  | sl l =>
   simp only at h
   split at h
   ·rename_i hu
    cases h
    have key : ∀ (a : Option Addr) (n cap : Nat), PRep c.imm w (.slice a n cap) (.sl l) → Lends P c M w s (.slice a n cap) ((Abs.flat l).map .pd) l.length := by
     intro a n cap hx
     obtain ⟨rfl, h2, vs, h3, h4, h5⟩ := hx.flat hu
     refine lends_slice vs h3 (by simp [flat_length hu]) (fun j v hj => ?_) (fun ha => ?_) fun j u y h1 h2 => ?_
     ·obtain ⟨ad, e1, e2, _, e3⟩ := h4 j v hj
      exact ⟨ad, e1, e2, e3⟩
     ·subst ha
      generalize hl : l.length = q at hx
      cases hx; rfl
     ·simp only [List.getElem?_map, Option.map_eq_some_iff] at h2
      obtain ⟨z, h2, rfl⟩ := h2
      exact .pd _ _ (h5 j u z h1 h2)
    cases hx with
    | nil => exact key none 0 0 .nil
    | sl a n cap sz l f q1 q2 q3 q4 q5 q6 q7 => exact key _ _ _ (.sl a n cap sz l f q1 q2 q3 q4 q5 q6 q7)
   ·cases h
  | str t =>
   simp only at h
   split at h
   ·rename_i hs
    subst hs
    cases h
    cases hx
    refine ⟨by simp, fun w' => by simp [Builtin.lenOf, strV, size_mk], t.map fun b => .int .u8 b.toNat, by simp, fun w' _ m hm => ?_, fun j u y h1 h2 => ?_⟩
    ·simp [Builtin.firstCells, strV, List.map_take]
    ·simp only [List.getElem?_map, Option.map_eq_some_iff] at h1 h2
     obtain ⟨b, h1, rfl⟩ := h1
     obtain ⟨b', h2, rfl⟩ := h2
     rw [h1] at h2; cases h2
     exact .pd _ _ (.int _ _)
   ·cases h
  | _ => simp at h
 | fixed a m l hn hp =>
  simp only at h
  split at h
  ·rename_i hu
   cases h
   obtain ⟨rfl, h2, vs, h3, h4, h5⟩ := hp.flat hu
   refine lends_slice vs h3 (by simp [flat_length hu]) (fun j v hj => ?_) (fun ha => ?_) fun j u y h1 h2 => ?_
   ·obtain ⟨ad, e1, e2, _, e3⟩ := h4 j v hj
    exact ⟨ad, e1, e2, e3⟩
   ·subst ha
    generalize hl : l.length = q at hp
    cases hp; rfl
   ·simp only [List.getElem?_map, Option.map_eq_some_iff] at h2
    obtain ⟨z, h2, rfl⟩ := h2
    exact .pd _ _ (h5 j u z h1 h2)
  ·cases h
 | own v b len ver hb hv hp =>
  simp only at h
  split at h
  ·rename_i l sz ver' z hM
   split at h
   ·rename_i hc
    obtain ⟨rfl, rfl⟩ := hc
    cases h
    rcases hp (verOf_some hM) with ⟨cap, l2, sz2, z2, hM2, rfl, h5, h6, h7⟩ | ⟨sz2, hM2, _⟩
    ·rw [hM] at hM2; cases hM2
     obtain ⟨cs, e, g1, g2, g3, g4⟩ := hS.row hM
     refine lends_slice (cs.toList.take (n * sz)) (by simp; omega) (by simp; omega) (fun j v hj => ⟨_, rfl, rfl, ?_⟩) (by simp) fun j u y h1 h2 => ?_
     ·rw [List.getElem?_take] at hj
      split at hj
      ·simp [World.cell?, g1]; simpa using hj
      ·cases hj
     ·rw [List.getElem?_take] at h1 h2
      split at h1
      ·rename_i hj
       rw [if_pos hj] at h2
       obtain ⟨v', k1, k2⟩ := g4 _ _ h2
       rw [Array.getElem?_toList] at h1
       rw [h1] at k1; cases k1
       exact k2
      ·cases h1
    ·rw [hM] at hM2; cases hM2
   ·cases h
  ·rename_i sz ver' hM
   split at h
   ·rename_i hvv
    subst hvv
    cases h
    rcases hp (verOf_some hM) with ⟨cap, l2, sz2, z2, hM2, _⟩ | ⟨sz2, hM2, rfl, rfl⟩
    ·rw [hM] at hM2; cases hM2
    ·exact lends_slice [] (by simp) (by simp) (by simp) (by simp) (by simp)
   ·cases h
  ·cases h
 | _ => simp at h
def elemT (P : Program) (t : TypeId) : Option TypeId := match P.underlying t with | some (.slice e) => some e | _ => none
def noInt (P : Program) (t : TypeId) : Bool := match P.underlying t with | some (.int _) => false | some _ => true | none => false
theorem elemT_some {t e : TypeId} (h : elemT P t = some e) : P.underlying t = some (.slice e) := by
 unfold elemT at h
 split at h
 ·cases h; assumption
 ·cases h
def rowInfo (P : Program) (e : TypeId) : Option (Nat × Nat × Value) := (P.info? e).bind fun i => i.zero.map fun z => (i.size, i.bytes, z)
theorem rowInfo_some {e : TypeId} {s by_ : Nat} {z : Value} (h : rowInfo P e = some (s, by_, z)) : ∃ i, P.info? e = some i ∧ i.zero = some z ∧ i.size = s ∧ i.bytes = by_ := by
 unfold rowInfo at h
 rw [Option.bind_eq_some_iff] at h
 obtain ⟨i, hi, h⟩ := h
 rw [Option.map_eq_some_iff] at h
 obtain ⟨z', hz, h⟩ := h
 cases h
 exact ⟨i, hi, hz, rfl, rfl⟩
set_option maxHeartbeats 8000000 in
theorem run_append_in {sT xT e ty : TypeId} {s by_ n sLen sCap : Nat} {z x : Value} {base : Option Addr} {vs : List Value} (ht : P.underlying sT = some (.slice e)) (hx : noInt P xT = true) (hi : rowInfo P e = some (s, by_, z))
  (hlen : (Builtin.lenOf x).run P w = .ok n w) (hf : (Builtin.firstCells s n x).run P w = .ok vs.toArray w) (hroom : sLen + n ≤ sCap) {w' : World}
  (hst : ∀ a, base = some a → (storeCells (a.add (sLen * s)) vs).run P w = .ok () w') (hno : base = none → w' = w) :
  (Builtin.append_ #[sT, xT] ty #[.slice base sLen sCap, x]).run P w = .ok (.slice base (sLen + n) sCap) w' := by
 obtain ⟨i, h1, h2, rfl, rfl⟩ := rowInfo_some hi
 unfold noInt at hx
 cases hu : P.underlying xT with
 | none => simp [hu] at hx
 | some d =>
  rw [hu] at hx
  cases base with
  | none =>
   rw [hno rfl]
   cases d <;> simp at hx <;> simp [Builtin.append_, run_underlying ht, run_underlying hu, sizeOf, typeInfo, h1, hlen, hroom, hf]
  | some a =>
   cases d <;> simp at hx <;> simp [Builtin.append_, run_underlying ht, run_underlying hu, sizeOf, typeInfo, h1, hlen, hroom, hf, hst a rfl]
theorem app3 (a b : List Value) (z : Array Value) : a.toArray ++ (b.toArray ++ z) = (a ++ b).toArray ++ z := by
 apply Array.ext'; simp
set_option maxHeartbeats 8000000 in
theorem run_append_new {sT xT e ty : TypeId} {s by_ n sLen sCap : Nat} {z x : Value} {base : Option Addr} {olds vs : List Value} (ht : P.underlying sT = some (.slice e)) (hx : noInt P xT = true) (hi : rowInfo P e = some (s, by_, z))
  (hlen : (Builtin.lenOf x).run P w = .ok n w) (hf : (Builtin.firstCells s n x).run P w.drew = .ok vs.toArray w.drew) (hfo : (Builtin.firstCells s sLen (.slice base sLen sCap)).run P w.drew = .ok olds.toArray w.drew)
  (hroom : sCap < sLen + n) (hby : (sLen + n) * by_ ≤ 140737488355328) (hb1 : 0 < by_) :
  ∃ cap tail, (Builtin.append_ #[sT, xT] ty #[.slice base sLen sCap, x]).run P w = .ok (.slice (some ⟨w.heap.size, 0, none⟩) (sLen + n) cap) (w.drew.alloc (.cells (olds.toArray ++ vs.toArray ++ tail) e)) ∧
   sLen + n ≤ cap ∧ tail.size = (cap - (sLen + n)) * z.cells.size := by
 obtain ⟨i, h1, h2, rfl, rfl⟩ := rowInfo_some hi
 unfold noInt at hx
 cases hu : P.underlying xT with
 | none => simp [hu] at hx
 | some d =>
  rw [hu] at hx
  have hn : ¬ (sLen + n ≤ sCap) := by omega
  have hfit := growslice_fits (old := sCap) hroom hby
  have h48 : ¬ (281474976710656 < Builtin.nextslicecap (sLen + n) sCap * i.bytes) := by omega
  have hb0 : i.bytes ≠ 0 := by omega
  refine ⟨grownCap w (sLen + n) sCap e, Builtin.zeroCells z.cells (grownCap w (sLen + n) sCap e - (sLen + n)), ?_, grownCap_ge _ _ _ _, size_zeroCells _ _⟩
  cases d <;> simp at hx <;> simp [Builtin.append_, run_underlying ht, run_underlying hu, sizeOf, typeInfo, zeroValue, h1, h2, hlen, hn, h48, hb0, Question.forced, hf, hfo, newRow, grownCap]
  all_goals exact congrArg (fun c => w.drew.alloc (.cells c e)) (app3 _ _ _)
end Go.Abs
end
