/- The own memory's steps: a new object, a write, a move, a freezing. -/
import Derived.Test.YtibeobmcanaedaaDoorAbs1
namespace Go.Abs
open Go.RowKit

theorem verOf_some {M : Mem} {b : Nat} {o : Ob} (h : M[b]? = some o) : verOf M b = o.ver := by simp [verOf, h]

theorem obj_set {M : Mem} {b i : Nat} {o o' : Ob} (h : M[b]? = some o) (hk : o'.isRow = o.isRow) (hi : obj M i) : obj (M.set b o') i := by
  obtain ⟨p, hp, hr⟩ := hi
  by_cases e : b = i
  · subst e
    refine ⟨o', ?_, ?_⟩
    · rw [List.getElem?_set_self (List.getElem?_eq_some_iff.1 h).1]
    · rw [h] at hp; cases hp; rw [hk, hr]
  · exact ⟨p, by rw [List.getElem?_set_ne e]; exact hp, hr⟩

theorem keep_set {M : Mem} {b i : Nat} {o o' : Ob} {t : Bool} (h : M[b]? = some o) (hd : o.isDef = false) (hi : M[i]? = some (.defers t)) : (M.set b o')[i]? = some (.defers t) := by
  by_cases e : b = i
  · subst e; rw [h] at hi; cases hi; cases hd
  · rw [List.getElem?_set_ne e]; exact hi

/-- One object is written anew, where it lies. -/
theorem Ext.set {c : Ctx} {M : Mem} {b : Nat} {o o' : Ob} (h : M[b]? = some o) (hk : o'.isRow = o.isRow) (hv : o.ver ≤ o'.ver) (hs : o'.ver = o.ver → o'.shape = o.shape) (hd : o.isDef = false := by rfl) : Ext c M c (M.set b o') := by
  have hb := (List.getElem?_eq_some_iff.1 h).1
  refine ⟨⟨by simp, fun i hi => ?_, fun i hi he => ⟨rfl, rfl, ?_⟩, fun i hi => obj_set h hk hi⟩, fun i t hi => keep_set h hd hi⟩
  · by_cases e : b = i
    · subst e; rw [verOf_some h, verOf_some (List.getElem?_set_self hb)]; exact hv
    · simp [verOf, List.getElem?_set_ne e]
  · by_cases e : b = i
    · subst e
      rw [verOf_some h, verOf_some (List.getElem?_set_self hb)] at he
      rw [h, List.getElem?_set_self hb]; simp [hs he]
    · rw [List.getElem?_set_ne e]

/-- A world that differs at one block alone, none of the unchanging ones. -/
theorem Stp.of_block {B : Nat} {c : Ctx} {w w' : World} {k : Nat} (hk : ¬ c.imm k) (hB : B ≤ k) (ho : w'.os = w.os) (ht : w'.tape = w.tape) (hp : w'.output = w.output) (hz : w'.heap.size = w.heap.size)
    (h : ∀ b, b ≠ k → w'.heap[b]? = w.heap[b]?) : Stp B c w c w' :=
  ⟨⟨ho, ht, hp, by omega, fun b hb => h b (by omega)⟩, fun _ h => h, fun b hb => h b (fun e => hk (e ▸ hb))⟩

theorem real_set {M : Mem} {b i : Nat} {o o' : Ob} (h : M[b]? = some o) (hv : o.virt = false) (hr : real (M.set b o') i) : real M i := by
  obtain ⟨p, hp, hpv⟩ := hr
  by_cases e : b = i
  · subst e; exact ⟨o, h, hv⟩
  · exact ⟨p, by rw [List.getElem?_set_ne e] at hp; exact hp, hpv⟩

theorem Sim.lt {B : Nat} {I0 : Nat → Prop} {c : Ctx} {M : Mem} {w : World} (hS : Sim B I0 c M w) {i : Nat} (h : real M i) : c.blk i < w.heap.size := by
  obtain ⟨o, h, hv⟩ := h
  exact (hS.obj i o h).lt hv

theorem Sim.put {B : Nat} {I0 : Nat → Prop} {c : Ctx} {M : Mem} {w w' : World} (hS : Sim B I0 c M w) {b : Nat} {o o' : Ob} (hM : M[b]? = some o)
    (he : Ext c M c (M.set b o')) (hs : Stp B c w c w') (hw : ∀ k, k ≠ c.blk b → w'.heap[k]? = w.heap[k]?)
    (ho : ORep c (M.set b o') w' b o') (hz0 : o.frz = false) (hv0 : o.virt = false) : Sim B I0 c (M.set b o') w' := by
  have hb := (List.getElem?_eq_some_iff.1 hM).1
  refine ⟨fun i hi => hS.blkB i (real_set hM hv0 hi), fun i j hi hj => hS.inj i j (real_set hM hv0 hi) (real_set hM hv0 hj), hS.imm0, hS.immB, fun k hk => Nat.lt_of_lt_of_le (hS.immlt k hk) hs.below.size, ?_, ?_, Nat.le_trans hS.hB hs.below.size⟩
  · intro i p hp hpz hpv
    by_cases e : b = i
    · subst e
      exact hS.sep b o hM hz0 hv0
    · rw [List.getElem?_set_ne e] at hp
      exact hS.sep i p hp hpz hpv
  · intro i p hp
    by_cases e : b = i
    · subst e; rw [List.getElem?_set_self hb] at hp; cases hp; exact ho
    · rw [List.getElem?_set_ne e] at hp
      exact (hS.obj i p hp).mono he hs rfl rfl fun hv => hw _ fun q => e (hS.inj i b ⟨p, hp, hv⟩ ⟨o, hM, hv0⟩ q).symm

def upd {α : Type} (f : Nat → α) (b : Nat) (x : α) : Nat → α := fun i => if i = b then x else f i
@[simp] theorem upd_self {α : Type} (f : Nat → α) (b : Nat) (x : α) : upd f b x b = x := by simp [upd]
theorem upd_ne {α : Type} (f : Nat → α) {b i : Nat} (x : α) (h : i ≠ b) : upd f b x i = f i := by simp [upd, h]

/-- The context behind a new object. -/
def Ctx.push (c : Ctx) (M : Mem) (k z : Nat) : Ctx := { c with blk := upd c.blk M.length k, rsz := upd c.rsz M.length z }

theorem Ext.push (c : Ctx) (M : Mem) (k z : Nat) (o : Ob) : Ext c M (c.push M k z) (M ++ [o]) := by
  have g : ∀ i, i < M.length → (M ++ [o])[i]? = M[i]? := fun i hi => List.getElem?_append_left hi
  refine ⟨⟨by simp, fun i hi => ?_, fun i hi _ => ⟨upd_ne _ _ (by omega), upd_ne _ _ (by omega), by rw [g i hi]⟩, fun i hi => ?_⟩, fun i t hi => ?_⟩
  · simp [verOf, g i hi]
  · obtain ⟨p, hp, hr⟩ := hi
    exact ⟨p, by rw [g i (List.getElem?_eq_some_iff.1 hp).1]; exact hp, hr⟩
  · rw [g i (List.getElem?_eq_some_iff.1 hi).1]; exact hi

theorem Stp.alloc {B : Nat} {c : Ctx} {w : World} (hB : B ≤ w.heap.size) (hI : ∀ b, c.imm b → b < w.heap.size) (ob : Obj) (blk rsz : Nat → Nat) : Stp B c w ⟨blk, rsz, c.imm⟩ (w.alloc ob) :=
  ⟨(Below.refl _ _).alloc hB _, fun _ h => h, fun b hb => Below.heap_alloc _ _ _ (hI b hb)⟩

theorem real_push {M : Mem} {o : Ob} {i : Nat} (h : real (M ++ [o]) i) : real M i ∨ i = M.length := by
  obtain ⟨p, hp, hv⟩ := h
  by_cases e : i < M.length
  · rw [List.getElem?_append_left e] at hp; exact .inl ⟨p, hp, hv⟩
  · have := (List.getElem?_eq_some_iff.1 hp).1; simp at this; exact .inr (by omega)

theorem Sim.push {B : Nat} {I0 : Nat → Prop} {c : Ctx} {M : Mem} {w : World} (hS : Sim B I0 c M w) (ob : Obj) (z : Nat) (o : Ob)
    (ho : ORep (c.push M w.heap.size z) (M ++ [o]) (w.alloc ob) M.length o) : Sim B I0 (c.push M w.heap.size z) (M ++ [o]) (w.alloc ob) := by
  have he : Ext c M (c.push M w.heap.size z) (M ++ [o]) := Ext.push c M _ _ o
  have hs : Stp B c w (c.push M w.heap.size z) (w.alloc ob) := Stp.alloc hS.hB hS.immlt _ _ _
  have lt : ∀ i, real M i → c.blk i < w.heap.size := fun i hi => hS.lt hi
  have bl : ∀ i, i < M.length → (c.push M w.heap.size z).blk i = c.blk i := fun i hi => upd_ne _ _ (by omega)
  have bn : (c.push M w.heap.size z).blk M.length = w.heap.size := upd_self _ _ _
  refine ⟨?_, ?_, hS.imm0, hS.immB, fun k hk => by have := hS.immlt k hk; simp; omega, ?_, ?_, by have := hS.hB; simp; omega⟩
  · intro i hi
    rcases real_push hi with hi | rfl
    · rw [bl i hi.lt]; exact hS.blkB i hi
    · rw [bn]; exact hS.hB
  · intro i j hi hj q
    rcases real_push hi with hi | rfl <;> rcases real_push hj with hj | rfl
    · rw [bl i hi.lt, bl j hj.lt] at q; exact hS.inj i j hi hj q
    · rw [bn, bl i hi.lt] at q; have := lt i hi; omega
    · rw [bn, bl j hj.lt] at q; have := lt j hj; omega
    · rfl
  · intro i p hp hz hv
    by_cases e : i < M.length
    · rw [List.getElem?_append_left e] at hp
      rw [bl i e]; exact hS.sep i p hp hz hv
    · have : i = M.length := by have := (List.getElem?_eq_some_iff.1 hp).1; simp at this; omega
      subst this
      rw [bn]; intro q; have := hS.immlt _ q; omega
  · intro i p hp
    by_cases e : i < M.length
    · rw [List.getElem?_append_left e] at hp
      exact (hS.obj i p hp).mono he hs (bl i e) (upd_ne _ _ (by omega)) fun hv => Below.heap_alloc _ _ _ (lt i ⟨p, hp, hv⟩)
    · have : i = M.length := by have := (List.getElem?_eq_some_iff.1 hp).1; simp at this; omega
      subst this
      simp at hp; subst hp; exact ho

/-- A new object that has no block. -/
theorem Sim.pushV {B : Nat} {I0 : Nat → Prop} {c : Ctx} {M : Mem} {w : World} (hS : Sim B I0 c M w) (sz ver : Nat) : Sim B I0 c (M ++ [.vrow sz ver]) w ∧ Ext c M c (M ++ [.vrow sz ver]) := by
  have he : Ext c M c (M ++ [.vrow sz ver]) := by
    have g : ∀ i, i < M.length → (M ++ [.vrow sz ver])[i]? = M[i]? := fun i hi => List.getElem?_append_left hi
    refine ⟨⟨by simp, fun i hi => by simp [verOf, g i hi], fun i hi _ => ⟨rfl, rfl, by rw [g i hi]⟩, fun i hi => ?_⟩, fun i t hi => by rw [g i (List.getElem?_eq_some_iff.1 hi).1]; exact hi⟩
    obtain ⟨p, hp, hr⟩ := hi
    exact ⟨p, by rw [g i (List.getElem?_eq_some_iff.1 hp).1]; exact hp, hr⟩
  have hr : ∀ i, real (M ++ [.vrow sz ver]) i → real M i := fun i hi => by
    rcases real_push hi with h | rfl
    · exact h
    · obtain ⟨p, hp, hv⟩ := hi; simp at hp; subst hp; cases hv
  refine ⟨⟨fun i hi => hS.blkB i (hr i hi), fun i j hi hj => hS.inj i j (hr i hi) (hr j hj), hS.imm0, hS.immB, hS.immlt, ?_, ?_, hS.hB⟩, he⟩
  · intro i p hp hz hv
    by_cases e : i < M.length
    · rw [List.getElem?_append_left e] at hp; exact hS.sep i p hp hz hv
    · have : i = M.length := by have := (List.getElem?_eq_some_iff.1 hp).1; simp at this; omega
      subst this
      simp at hp; subst hp; cases hv
  · intro i p hp
    by_cases e : i < M.length
    · rw [List.getElem?_append_left e] at hp
      exact (hS.obj i p hp).mono he (Stp.refl B c w) rfl rfl fun _ => rfl
    · have : i = M.length := by have := (List.getElem?_eq_some_iff.1 hp).1; simp at this; omega
      subst this
      simp at hp; subst hp; trivial

/-- The context behind a row's move. -/
def Ctx.move (c : Ctx) (b k z : Nat) : Ctx := { c with blk := upd c.blk b k, rsz := upd c.rsz b z }

theorem Ext.move {c : Ctx} {M : Mem} {b : Nat} {o o' : Ob} (h : M[b]? = some o) (hk : o'.isRow = o.isRow) (hv : o.ver < o'.ver) (k z : Nat) (hd : o.isDef = false := by rfl) : Ext c M (c.move b k z) (M.set b o') := by
  have hb := (List.getElem?_eq_some_iff.1 h).1
  refine ⟨⟨by simp, fun i hi => ?_, fun i hi he => ?_, fun i hi => obj_set h hk hi⟩, fun i t hi => keep_set h hd hi⟩
  · by_cases e : b = i
    · subst e; rw [verOf_some h, verOf_some (List.getElem?_set_self hb)]; omega
    · simp [verOf, List.getElem?_set_ne e]
  · by_cases e : b = i
    · subst e; rw [verOf_some h, verOf_some (List.getElem?_set_self hb)] at he; omega
    · exact ⟨upd_ne _ _ (Ne.symm e), upd_ne _ _ (Ne.symm e), by rw [List.getElem?_set_ne e]⟩

theorem real_set' {M : Mem} {b i : Nat} {o' : Ob} (hr : real (M.set b o') i) : real M i ∨ i = b := by
  obtain ⟨p, hp, hpv⟩ := hr
  by_cases e : b = i
  · exact .inr e.symm
  · exact .inl ⟨p, by rw [List.getElem?_set_ne e] at hp; exact hp, hpv⟩

theorem Sim.move {B : Nat} {I0 : Nat → Prop} {c : Ctx} {M : Mem} {w : World} (hS : Sim B I0 c M w) {b : Nat} {o o' : Ob} (hM : M[b]? = some o) (hk : o'.isRow = o.isRow) (hv : o.ver < o'.ver) (ob : Obj) (z : Nat)
    (ho : ORep (c.move b w.heap.size z) (M.set b o') (w.alloc ob) b o') (hd : o.isDef = false := by rfl) : Sim B I0 (c.move b w.heap.size z) (M.set b o') (w.alloc ob) := by
  have he : Ext c M (c.move b w.heap.size z) (M.set b o') := Ext.move hM hk hv _ _ hd
  have hs : Stp B c w (c.move b w.heap.size z) (w.alloc ob) := Stp.alloc hS.hB hS.immlt _ _ _
  have hb := (List.getElem?_eq_some_iff.1 hM).1
  have lt : ∀ i, real M i → c.blk i < w.heap.size := fun i hi => hS.lt hi
  have bl : ∀ i, i ≠ b → (c.move b w.heap.size z).blk i = c.blk i := fun i hi => upd_ne _ _ hi
  have bn : (c.move b w.heap.size z).blk b = w.heap.size := upd_self _ _ _
  refine ⟨?_, ?_, hS.imm0, hS.immB, fun k hk => by have := hS.immlt k hk; simp; omega, ?_, ?_, by have := hS.hB; simp; omega⟩
  · intro i hi
    by_cases e : i = b
    · subst e; rw [bn]; exact hS.hB
    · rw [bl i e]; exact hS.blkB i ((real_set' hi).resolve_right e)
  · intro i j hi hj q
    by_cases e : i = b
    · by_cases e' : j = b
      · omega
      · subst e; rw [bn, bl j e'] at q; have := lt j ((real_set' hj).resolve_right e'); omega
    · by_cases e' : j = b
      · subst e'; rw [bn, bl i e] at q; have := lt i ((real_set' hi).resolve_right e); omega
      · rw [bl i e, bl j e'] at q; exact hS.inj i j ((real_set' hi).resolve_right e) ((real_set' hj).resolve_right e') q
  · intro i p hp hz hvp
    by_cases e : b = i
    · subst e; rw [bn]; intro q; have := hS.immlt _ q; omega
    · rw [List.getElem?_set_ne e] at hp
      rw [bl i (Ne.symm e)]; exact hS.sep i p hp hz hvp
  · intro i p hp
    by_cases e : b = i
    · subst e; rw [List.getElem?_set_self hb] at hp; cases hp; exact ho
    · rw [List.getElem?_set_ne e] at hp
      exact (hS.obj i p hp).mono he hs (bl i (Ne.symm e)) (upd_ne _ _ (Ne.symm e)) fun hvp => Below.heap_alloc _ _ _ (lt i ⟨p, hp, hvp⟩)

/-- The world goes on: what lay lies, new blocks alone: these change no more. -/
def Ctx.grown (c : Ctx) (w w' : World) : Ctx := { c with imm := fun b => c.imm b ∨ (w.heap.size ≤ b ∧ b < w'.heap.size) }

theorem Ext.grown (c : Ctx) (M : Mem) (J : Nat → Prop) : Ext c M { c with imm := J } M := ⟨⟨Nat.le_refl _, fun _ _ => Nat.le_refl _, fun _ _ _ => ⟨rfl, rfl, rfl⟩, fun _ h => h⟩, fun _ _ h => h⟩

theorem Stp.grown {B : Nat} {c : Ctx} {w w' : World} (hB : B ≤ w.heap.size) (hI : ∀ b, c.imm b → b < w.heap.size) (h : Below w.heap.size w w') : Stp B c w (c.grown w w') w' :=
  ⟨h.mono hB, fun _ h => .inl h, fun b hb => h.block b (hI b hb)⟩

theorem Sim.grown {B : Nat} {I0 : Nat → Prop} {c : Ctx} {M : Mem} {w w' : World} (hS : Sim B I0 c M w) (h : Below w.heap.size w w') : Sim B I0 (c.grown w w') M w' := by
  have hs := Stp.grown hS.hB hS.immlt h
  refine ⟨hS.blkB, hS.inj, fun b hb => .inl (hS.imm0 b hb), ?_, ?_, ?_, fun i o hi => (hS.obj i o hi).mono (Ext.grown _ _ _).toExt0 hs rfl rfl fun hv => h.block _ (hS.lt ⟨o, hi, hv⟩), Nat.le_trans hS.hB h.size⟩
  · rintro b (hb | ⟨h1, h2⟩) hlt
    · exact hS.immB b hb hlt
    · have := hS.hB; omega
  · rintro b (hb | ⟨h1, h2⟩)
    · exact Nat.lt_of_lt_of_le (hS.immlt b hb) h.size
    · exact h2
  · rintro i o hi hz hv (q | ⟨q, _⟩)
    · exact hS.sep i o hi hz hv q
    · have := hS.lt ⟨o, hi, hv⟩; have q' : w.heap.size ≤ c.blk i := q; omega

/-- A draw. -/
theorem Stp.drew {B : Nat} {c : Ctx} {w w' : World} (h : Stp B c w c w') : Stp B c w c w'.drew := ⟨h.below.drew, h.imm, h.kept⟩

theorem Sim.same {B : Nat} {I0 : Nat → Prop} {c : Ctx} {M : Mem} {w w' : World} (hS : Sim B I0 c M w) (h : w'.heap = w.heap) (ho : w'.os = w.os) (ht : w'.tape = w.tape) (hp : w'.output = w.output) : Sim B I0 c M w' ∧ Stp B c w c w' := by
  have hs : Stp B c w c w' := ⟨⟨ho, ht, hp, by rw [h]; exact Nat.le_refl _, fun b _ => by rw [h]⟩, fun _ h => h, fun b _ => by rw [h]⟩
  refine ⟨⟨hS.blkB, hS.inj, hS.imm0, hS.immB, fun b hb => by rw [h]; exact hS.immlt b hb, hS.sep, fun i o hi => (hS.obj i o hi).mono (Ext.refl _ _).toExt0 hs rfl rfl (fun _ => by rw [h]), by rw [h]; exact hS.hB⟩, hs⟩

/-- Row b is written no more. -/
def Ctx.freeze (c : Ctx) (b : Nat) : Ctx := { c with imm := fun k => c.imm k ∨ k = c.blk b }

theorem Sim.freeze {B : Nat} {I0 : Nat → Prop} {c : Ctx} {M : Mem} {w : World} (hS : Sim B I0 c M w) {b : Nat} {l : List AV} {sz ver : Nat} {z : Bool} (hM : M[b]? = some (.cells l sz ver z)) :
    Sim B I0 (c.freeze b) (M.set b (.cells l sz ver true)) w ∧ Ext c M (c.freeze b) (M.set b (.cells l sz ver true)) ∧ Stp B c w (c.freeze b) w := by
  have he0 : Ext c M c (M.set b (.cells l sz ver true)) := Ext.set hM rfl (Nat.le_refl _) (fun _ => rfl)
  have he : Ext c M (c.freeze b) (M.set b (.cells l sz ver true)) := he0.trans (Ext.grown _ _ _)
  have hs : Stp B c w (c.freeze b) w := ⟨Below.refl _ _, fun _ h => .inl h, Kept.refl _ _⟩
  have hb := (List.getElem?_eq_some_iff.1 hM).1
  have rb : real M b := ⟨_, hM, rfl⟩
  have rs : ∀ i, real (M.set b (.cells l sz ver true)) i → real M i := fun i hi => real_set hM rfl hi
  refine ⟨⟨fun i hi => hS.blkB i (rs i hi), fun i j hi hj => hS.inj i j (rs i hi) (rs j hj), fun b hb => .inl (hS.imm0 b hb), ?_, ?_, ?_, ?_, hS.hB⟩, he, hs⟩
  · rintro k (hk | rfl) hlt
    · exact hS.immB k hk hlt
    · have := hS.blkB b rb; omega
  · rintro k (hk | rfl)
    · exact hS.immlt k hk
    · exact hS.lt rb
  · rintro i p hp hz hv (q | q)
    · by_cases e : b = i
      · subst e; rw [List.getElem?_set_self hb] at hp; cases hp; cases hz
      · rw [List.getElem?_set_ne e] at hp; exact hS.sep i p hp hz hv q
    · by_cases e : b = i
      · subst e; rw [List.getElem?_set_self hb] at hp; cases hp; cases hz
      · rw [List.getElem?_set_ne e] at hp
        exact e (hS.inj i b ⟨p, hp, hv⟩ rb q).symm
  · intro i p hp
    by_cases e : b = i
    · subst e
      rw [List.getElem?_set_self hb] at hp; cases hp
      have ho : ORep c M w b (.cells l sz ver z) := hS.obj b _ hM
      have ho : ORep c M w b (.cells l sz ver true) := ho
      exact ho.mono he hs rfl rfl fun _ => rfl
    · rw [List.getElem?_set_ne e] at hp
      exact (hS.obj i p hp).mono he hs rfl rfl fun _ => rfl

end Go.Abs
