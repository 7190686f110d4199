/- Part of a proof, in few files: GW. -/
import GoSem.Core.View
import GoSem.Core.Utf8
import Derived.KernelRfl

section
namespace Go.Abs
def IfB (b : Bool) (A B : Prop) : Prop := (b = true → A) ∧ (b = false → B)
theorem IfB.t {b : Bool} {A B : Prop} (h : IfB b A B) (e : b = true) : A := h.1 e
theorem IfB.f {b : Bool} {A B : Prop} (h : IfB b A B) (e : b = false) : B := h.2 e
theorem IfB.intro {b : Bool} {A B : Prop} (h1 : b = true → A) (h2 : b = false → B) : IfB b A B := ⟨h1, h2⟩
@[simp] theorem IfB_true {A B : Prop} : IfB true A B ↔ A := ⟨fun h => h.1 rfl, fun h => ⟨fun _ => h, fun e => by cases e⟩⟩
@[simp] theorem IfB_false {A B : Prop} : IfB false A B ↔ B := ⟨fun h => h.2 rfl, fun h => ⟨fun e => (by cases e), fun _ => h⟩⟩
def Idx {α : Type} (l : List α) (z : Int) (x : α) : Prop := 0 ≤ z ∧ l[z.toNat]? = some x
theorem Idx.of {α : Type} {l : List α} {z : Int} (h0 : 0 ≤ z) (h : z.toNat < l.length) : Idx l z l[z.toNat] := ⟨h0, List.getElem?_eq_getElem h⟩
theorem Idx.nat {α : Type} {l : List α} {k : Nat} (h : k < l.length) : Idx l (k : Int) l[k] := ⟨Int.natCast_nonneg _, by simp [h]⟩
theorem Idx.lt {α : Type} {l : List α} {z : Int} {x : α} (h : Idx l z x) : z.toNat < l.length := (List.getElem?_eq_some_iff.1 h.2).1
theorem Idx.keep {α : Type} {l : List α} {z : Int} {x : α} (h : Idx l z x) (i : Nat) (y : α) : Idx (l.set i y) z (if i = z.toNat then y else x) := by
  refine ⟨h.1, ?_⟩
  have hlt := Idx.lt h
  by_cases e : i = z.toNat
  · subst e; rw [if_pos rfl, List.getElem?_set_self hlt]
  · rw [if_neg e, List.getElem?_set_ne e]; exact h.2
def sub {α : Type} (l : List α) (lo hi : Int) : List α := (l.drop lo.toNat).take (hi.toNat - lo.toNat)
def SubOk {α : Type} (l : List α) (lo hi : Int) : Prop := 0 ≤ lo ∧ lo ≤ hi ∧ hi ≤ (l.length : Int)
def bitO (k : IntKind) (a b : Int) : Int := k.wrap ((BitVec.ofInt k.bits a ||| BitVec.ofInt k.bits b).toNat)
def runeAt (s : List UInt8) (pos : Nat) : Int := ((Utf8.decode ⟨s.toArray⟩ pos).1 : Nat)
def runeLen (s : List UInt8) (pos : Nat) : Nat := (Utf8.decode ⟨s.toArray⟩ pos).2
def Fits (n by_ : Nat) : Prop := n * by_ ≤ 140737488355328
def LoopP {σ : Type} (F : (σ → Prop) → σ → Prop) (s : σ) : Prop := ∀ X : σ → Prop, (∀ s, F X s → X s) → X s
theorem LoopP.intro {σ : Type} {F : (σ → Prop) → σ → Prop} (J : σ → Prop) (μ : σ → Nat) {s0 : σ} (h0 : J s0) (h : ∀ (X : σ → Prop) (s : σ), J s → (∀ s', J s' → μ s' < μ s → X s') → F X s) : LoopP F s0 := by
  intro X hX
  have : ∀ n s, μ s = n → J s → X s := by
    intro n
    induction n using Nat.strongRecOn with
    | _ n ih =>
      intro s hs hJ
      exact hX s (h X s hJ fun s' hJ' hlt => ih _ (hs ▸ hlt) s' rfl hJ')
  exact this _ s0 rfl h0
end Go.Abs
end
