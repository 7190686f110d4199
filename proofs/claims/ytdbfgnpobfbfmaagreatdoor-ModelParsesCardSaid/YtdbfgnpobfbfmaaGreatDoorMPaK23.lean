/- Part of a proof, in few files: Abs29. -/
import Derived.Test.YtdbfgnpobfbfmaaGreatDoorMPaK22
import Derived.Test.YtdbfgnpobfbfmaaGreatDoorMPaK20
import Derived.Lib.LaidTab
import Derived.Lib.Fields
import Derived.Lib.Join
import Derived.Lib.IndexMore
import Derived.Lib.Bytealg
import Derived.Deep.Draws

section
namespace Go.Abs
open Go.RowKit Go.Proofs
variable {P : Program} {GT : Tabs}
theorem ASpec.of_calls {f : FuncId} {args : List AV} (r : AV) (hp : r.pure = true) (h : ∀ (c : Ctx) (w : World) (vs : Array Value), ArgsRep c [] w vs args → GRep GT c w → (∀ b, c.imm b → b < w.heap.size) →
    Calls P f vs w fun e w' => ∃ v, e = .returned v ∧ Below w.heap.size w w' ∧ ARep (c.grown w w') [] w' v r) : ASpec P GT f args (· = r) := by
  intro B I0 c w vs n hS hG hA
  rw [callsIn_wide]
  refine (h c w vs hA hG hS.immlt).mono ?_
  rintro e w' ⟨v, rfl, hb, hv⟩
  exact ⟨v, r, [], c.grown w w', rfl, ⟨rfl, hp, rfl⟩, hv, hS.grown hb, Ext.nil _ _, Stp.grown hS.hB hS.immlt hb⟩
theorem args_at {c : Ctx} {M : Mem} {w : World} {vs : Array Value} {xs : List AV} (h : ArgsRep c M w vs xs) (i : Nat) {x : AV} (hx : xs[i]? = some x) : ∃ v, vs[i]? = some v ∧ ARep c M w v x := by
  have hlt := (List.getElem?_eq_some_iff.1 hx).1
  have hlt' : i < vs.size := by rw [h.1]; exact hlt
  exact ⟨vs[i], Array.getElem?_eq_getElem hlt', h.2 i _ x (Array.getElem?_eq_getElem hlt') hx⟩
theorem vs1 {vs : Array Value} {a : Value} (hs : vs.size = 1) (h0 : vs[0]? = some a) : vs = #[a] := by
  apply Array.ext_getElem?
  intro i
  match i with
  | 0 => simpa using h0
  | i + 1 => rw [Array.getElem?_eq_none (by omega)]; simp
theorem vs2 {vs : Array Value} {a b : Value} (hs : vs.size = 2) (h0 : vs[0]? = some a) (h1 : vs[1]? = some b) : vs = #[a, b] := by
  apply Array.ext_getElem?
  intro i
  match i with
  | 0 => simpa using h0
  | 1 => simpa using h1
  | i + 2 => rw [Array.getElem?_eq_none (by omega)]; simp
theorem str_inv {c : Ctx} {M : Mem} {w : World} {v : Value} {s : List UInt8} (h : ARep c M w v (.pd (.str s))) : v = .string ⟨s.toArray⟩ := by
  cases h with
  | pd v x h => cases h; rfl
theorem strs_rep {I : Nat → Prop} {w : World} {b n : Nat} {l : List (List UInt8)} {e : TypeId} {z : Nat × Nat} (hb : w.heap[b]? = some (.cells (l.map fun s => Value.string ⟨s.toArray⟩).toArray e z)) (hI : I b) (hn : n = l.length) : PRep I w (.slice (some ⟨b, 0, none⟩) n n) (.sl (l.map PD.str)) := by
  refine .sl ⟨b, 0, none⟩ n n 1 _ (fun i _ => .string ⟨(l.getD i []).toArray⟩) (fun _ => rfl) (by simpa using hn) (Nat.le_refl _) (fun _ => hI) (fun i x hx => ?_) (fun i j hi hj => ?_) fun i j x y hx hy => ?_
  · simp only [List.getElem?_map, Option.map_eq_some_iff] at hx
    obtain ⟨s, _, rfl⟩ := hx; rfl
  · have hj0 : j = 0 := by omega
    subst hj0
    simp [World.cell?, hb, List.getD_eq_getElem?_getD, show i < l.length by omega]
  · simp only [List.getElem?_map, Option.map_eq_some_iff] at hx
    obtain ⟨s, hs, rfl⟩ := hx
    cases j with
    | zero => simp [PD.leaves] at hy; subst hy; simp only [List.getD_eq_getElem?_getD, hs]; exact .str _
    | succ j => simp [PD.leaves] at hy
theorem glob_tab {c : Ctx} {w : World} {name : String} {k : IntKind} {zs : List Int} {g : Nat} (h : GRep GT c w) (hg : GT g = some (zs.map (PD.int k))) (hn : P.globalNamed name = some g) : Lib.TabIs P w name k zs := by
  obtain ⟨h1, h2, cs, e, z, h3, h4⟩ := h g _ hg
  unfold Lib.TabIs World.var?
  rw [hn]
  simp only [Option.bind_some, h3]
  congr 1
  generalize hv : Value.pointer (some ⟨g, 0, none⟩) = v at h1
  cases h1 with
  | rd a l f hsp hI hc hr =>
    cases hv
    apply Array.ext_getElem?
    intro i
    by_cases hi : i < zs.length
    · have := hc i (by simpa using hi)
      have hy := hr i (.int k zs[i]) (by simp [hi])
      simp [World.cell?, h3] at this
      rw [this]
      generalize f i = u at hy
      cases hy
      simp [hi]
    · rw [Array.getElem?_eq_none (by rw [h4]; simpa using hi), Array.getElem?_eq_none (by simpa using hi)]
theorem glob_int {c : Ctx} {w : World} {k : IntKind} {m : Int} {g : Nat} (h : GRep GT c w) (hg : GT g = some [PD.int k m]) : w.cell? ⟨g, 0, none⟩ = some (.int k m) := by
  obtain ⟨h1, _⟩ := h g _ hg
  generalize hv : Value.pointer (some ⟨g, 0, none⟩) = v at h1
  cases h1 with
  | rd a l f hsp hI hc hr =>
    cases hv
    have h2 := hc 0 (by simp)
    have hy := hr 0 (.int k m) rfl
    generalize f 0 = u at h2 hy
    cases hy; exact h2
theorem below_alloc {w : World} (o : Obj) : Below w.heap.size w (w.alloc o) := (Below.refl _ _).alloc (Nat.le_refl _) _
theorem below_drewN {w : World} (n : Nat) : Below w.heap.size w (w.drewN n) := ⟨rfl, rfl, rfl, Nat.le_refl _, fun _ _ => rfl⟩
theorem strs_spec {f : FuncId} {args : List AV} {l : List (List UInt8)} (h : ∀ (c : Ctx) (w : World) (vs : Array Value), ArgsRep c [] w vs args → GRep GT c w → ∃ e, Calls P f vs w fun en w' => en = .returned (.slice (some ⟨w.heap.size, 0, none⟩) l.length l.length) ∧ w' = w.alloc (.cells (l.map fun s => Value.string ⟨s.toArray⟩).toArray e)) :
    ASpec P GT f args (· = .pd (.sl (l.map PD.str))) := by
  refine ASpec.of_calls _ (by simp [AV.pure]) fun c w vs hA hG hlt => ?_
  obtain ⟨e, hc⟩ := h c w vs hA hG
  refine hc.mono ?_
  rintro en w' ⟨rfl, rfl⟩
  refine ⟨_, rfl, below_alloc _, .pd _ _ (strs_rep (e := e) (z := (0, 0)) ?_ (.inr ⟨Nat.le_refl _, by simp⟩) rfl)⟩
  exact World.alloc_heap_new _ _
theorem str_spec {f : FuncId} {args : List AV} {s : List UInt8} (h : ∀ (c : Ctx) (w : World) (vs : Array Value), ArgsRep c [] w vs args → GRep GT c w → (∀ b, c.imm b → b < w.heap.size) → Calls P f vs w fun en w' => en = .returned (.string ⟨s.toArray⟩) ∧ Below w.heap.size w w') :
    ASpec P GT f args (· = .pd (.str s)) := by
  refine ASpec.of_calls _ (by simp [AV.pure]) fun c w vs hA hG hlt => (h c w vs hA hG hlt).mono ?_
  rintro en w' ⟨rfl, hb⟩
  exact ⟨_, rfl, hb, .pd _ _ (.str s)⟩
theorem strs_inv {I : Nat → Prop} {w : World} {v : Value} {l : List (List UInt8)} (h : PRep I w v (.sl (l.map PD.str))) : (v = .slice none 0 0 ∧ l = []) ∨
    ∃ a cap, v = .slice (some a) l.length cap ∧ l.length ≤ cap ∧ (0 < l.length → a.spot = none ∧ I a.block) ∧ ∀ (j : Nat) (s : List UInt8), l[j]? = some s → w.cell? ⟨a.block, a.off + j, none⟩ = some (.string ⟨s.toArray⟩) := by
  generalize hx : PD.sl (l.map PD.str) = x at h
  cases h with
  | nil => simp at hx; exact .inl ⟨rfl, hx⟩
  | sl a n cap sz l' f hsp hn hcap hI hsz hc hr =>
    cases hx
    right
    have hn' : n = l.length := by simpa using hn
    subst hn'
    refine ⟨a, cap, rfl, hcap, fun h => ⟨hsp h, hI h⟩, fun j s hs => ?_⟩
    have hlt := (List.getElem?_eq_some_iff.1 hs).1
    have h1 : (l.map PD.str)[j]? = some (.str s) := by simp [hs]
    have hz := hsz j _ h1
    simp [PD.leaves] at hz
    have h2 := hc j 0 hlt (by omega)
    have h3 := hr j 0 _ (.str s) h1 rfl
    rw [← hz] at h2
    simp at h2
    rw [h2]
    generalize f j 0 = u at h3
    cases h3; rfl
  | _ => cases hx
end Go.Abs
end
