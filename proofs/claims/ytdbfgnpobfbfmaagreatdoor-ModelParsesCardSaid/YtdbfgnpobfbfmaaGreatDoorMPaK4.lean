/- Part of a proof, in few files: Abs5. -/
import Derived.Test.YtdbfgnpobfbfmaaGreatDoorMPaK3

section
namespace Go.Abs
open Go.RowKit
variable {P : Program} {B : Nat} {I0 : Nat → Prop} {c : Ctx} {M : Mem} {w : World}
def srcCells (M : Mem) (s : Nat) (x : AV) : Option (List AV × Nat) :=
  match x with
  | .pd (.sl l) => if uni s l then some ((flat l).map .pd, l.length) else none
  | .fixed l => if uni s l then some ((flat l).map .pd, l.length) else none
  | .own b len ver =>
    match M[b]? with
    | some (.cells l sz ver' _) => if ver' = ver ∧ sz = s then some (l.take (len * s), len) else none
    | some (.vrow _ ver') => if ver' = ver then some ([], 0) else none
    | _ => none
  | .pd (.str t) => if s = 1 then some (t.map fun b => .pd (.int .u8 b.toNat), t.length) else none
  | _ => none
structure Lends (P : Program) (c : Ctx) (M : Mem) (w : World) (s : Nat) (v : Value) (xs : List AV) (n : Nat) : Prop where
  len : xs.length = n * s
  lenOf : ∀ w', (Builtin.lenOf v).run P w' = .ok n w'
  cells : ∃ vs : List Value, vs.length = n * s ∧ (∀ w' : World, w'.heap = w.heap → ∀ m, m ≤ n → (Builtin.firstCells s m v).run P w' = .ok (vs.take (m * s)).toArray w') ∧
    ∀ (j : Nat) (u : Value) (y : AV), vs[j]? = some u → xs[j]? = some y → ARep c M w u y
theorem cell_heap {w w' : World} (h : w'.heap = w.heap) (a : Addr) : w'.cell? a = w.cell? a := by simp [World.cell?, h]
theorem lends_slice {a : Option Addr} {n cap s : Nat} {xs : List AV} (vs : List Value) (hl : vs.length = n * s) (hx : xs.length = n * s)
    (hc : ∀ (j : Nat) (v : Value), vs[j]? = some v → ∃ ad, a = some ad ∧ ad.spot = none ∧ w.cell? ⟨ad.block, ad.off + j, none⟩ = some v)
    (hn : a = none → n = 0)
    (hr : ∀ (j : Nat) (u : Value) (y : AV), vs[j]? = some u → xs[j]? = some y → ARep c M w u y) : Lends P c M w s (.slice a n cap) xs n := by
  refine ⟨hx, fun w' => by simp [Builtin.lenOf], vs, hl, fun w' hw m hm => ?_, hr⟩
  cases a with
  | none =>
    have := hn rfl
    obtain rfl : m = 0 := by omega
    simp [Builtin.firstCells]
  | some ad =>
    have hmn : m * s ≤ n * s := Nat.mul_le_mul_right _ hm
    refine run_firstCells_some (P := P) w' s m ad n cap (vs.take (m * s)) (by simp; omega) fun j v hj => ?_
    rw [List.getElem?_take] at hj
    split at hj
    · obtain ⟨ad', e, h1, h2⟩ := hc j v hj
      cases e
      rw [addr_add _ _ h1, cell_heap hw]; exact h2
    · cases hj
theorem srcCells_ok {s n : Nat} {x : AV} {v : Value} {xs : List AV} (hS : Sim B I0 c M w) (hx : ARep c M w v x) (h : srcCells M s x = some (xs, n)) : Lends P c M w s v xs n := by
  unfold srcCells at h
  cases hx with
  | pd v x hx =>
    cases x with
    | sl l =>
      simp only at h
      split at h
      · rename_i hu
        cases h
        have key : ∀ (a : Option Addr) (n cap : Nat), PRep c.imm w (.slice a n cap) (.sl l) → Lends P c M w s (.slice a n cap) ((Abs.flat l).map .pd) l.length := by
          intro a n cap hx
          obtain ⟨rfl, h2, vs, h3, h4, h5⟩ := hx.flat hu
          refine lends_slice vs h3 (by simp [flat_length hu]) (fun j v hj => ?_) (fun ha => ?_) fun j u y h1 h2 => ?_
          · obtain ⟨ad, e1, e2, _, e3⟩ := h4 j v hj
            exact ⟨ad, e1, e2, e3⟩
          · subst ha
            generalize hl : l.length = q at hx
            cases hx; rfl
          · simp only [List.getElem?_map, Option.map_eq_some_iff] at h2
            obtain ⟨z, h2, rfl⟩ := h2
            exact .pd _ _ (h5 j u z h1 h2)
        cases hx with
        | nil => exact key none 0 0 .nil
        | sl a n cap sz l f q1 q2 q3 q4 q5 q6 q7 => exact key _ _ _ (.sl a n cap sz l f q1 q2 q3 q4 q5 q6 q7)
      · cases h
    | str t =>
      simp only at h
      split at h
      · rename_i hs
        subst hs
        cases h
        cases hx
        refine ⟨by simp, fun w' => by simp [Builtin.lenOf, strV, size_mk], t.map fun b => .int .u8 b.toNat, by simp, fun w' _ m hm => ?_, fun j u y h1 h2 => ?_⟩
        · simp [Builtin.firstCells, strV, List.map_take]
        · simp only [List.getElem?_map, Option.map_eq_some_iff] at h1 h2
          obtain ⟨b, h1, rfl⟩ := h1
          obtain ⟨b', h2, rfl⟩ := h2
          rw [h1] at h2; cases h2
          exact .pd _ _ (.int _ _)
      · cases h
    | _ => simp at h
  | fixed a m l hn hp =>
    simp only at h
    split at h
    · rename_i hu
      cases h
      obtain ⟨rfl, h2, vs, h3, h4, h5⟩ := hp.flat hu
      refine lends_slice vs h3 (by simp [flat_length hu]) (fun j v hj => ?_) (fun ha => ?_) fun j u y h1 h2 => ?_
      · obtain ⟨ad, e1, e2, _, e3⟩ := h4 j v hj
        exact ⟨ad, e1, e2, e3⟩
      · subst ha
        generalize hl : l.length = q at hp
        cases hp; rfl
      · simp only [List.getElem?_map, Option.map_eq_some_iff] at h2
        obtain ⟨z, h2, rfl⟩ := h2
        exact .pd _ _ (h5 j u z h1 h2)
    · cases h
  | own v b len ver hb hv hp =>
    simp only at h
    split at h
    · rename_i l sz ver' z hM
      split at h
      · rename_i hc
        obtain ⟨rfl, rfl⟩ := hc
        cases h
        rcases hp (verOf_some hM) with ⟨cap, l2, sz2, z2, hM2, rfl, h5, h6, h7⟩ | ⟨sz2, hM2, _⟩
        · rw [hM] at hM2; cases hM2
          obtain ⟨cs, e, g1, g2, g3, g4⟩ := hS.row hM
          refine lends_slice (cs.toList.take (n * sz)) (by simp; omega) (by simp; omega) (fun j v hj => ⟨_, rfl, rfl, ?_⟩) (by simp) fun j u y h1 h2 => ?_
          · rw [List.getElem?_take] at hj
            split at hj
            · simp [World.cell?, g1]; simpa using hj
            · cases hj
          · rw [List.getElem?_take] at h1 h2
            split at h1
            · rename_i hj
              rw [if_pos hj] at h2
              obtain ⟨v', k1, k2⟩ := g4 _ _ h2
              rw [Array.getElem?_toList] at h1
              rw [h1] at k1; cases k1
              exact k2
            · cases h1
        · rw [hM] at hM2; cases hM2
      · cases h
    · rename_i sz ver' hM
      split at h
      · rename_i hvv
        subst hvv
        cases h
        rcases hp (verOf_some hM) with ⟨cap, l2, sz2, z2, hM2, _⟩ | ⟨sz2, hM2, rfl, rfl⟩
        · rw [hM] at hM2; cases hM2
        · exact lends_slice [] (by simp) (by simp) (by simp) (by simp) (by simp)
      · cases h
    · cases h
  | _ => simp at h
def elemT (P : Program) (t : TypeId) : Option TypeId := match P.underlying t with | some (.slice e) => some e | _ => none
def noInt (P : Program) (t : TypeId) : Bool := match P.underlying t with | some (.int _) => false | some _ => true | none => false
theorem elemT_some {t e : TypeId} (h : elemT P t = some e) : P.underlying t = some (.slice e) := by
  unfold elemT at h
  split at h
  · cases h; assumption
  · cases h
def rowInfo (P : Program) (e : TypeId) : Option (Nat × Nat × Value) := (P.info? e).bind fun i => i.zero.map fun z => (i.size, i.bytes, z)
theorem rowInfo_some {e : TypeId} {s by_ : Nat} {z : Value} (h : rowInfo P e = some (s, by_, z)) : ∃ i, P.info? e = some i ∧ i.zero = some z ∧ i.size = s ∧ i.bytes = by_ := by
  unfold rowInfo at h
  rw [Option.bind_eq_some_iff] at h
  obtain ⟨i, hi, h⟩ := h
  rw [Option.map_eq_some_iff] at h
  obtain ⟨z', hz, h⟩ := h
  cases h
  exact ⟨i, hi, hz, rfl, rfl⟩
set_option maxHeartbeats 8000000 in
theorem run_append_in {sT xT e ty : TypeId} {s by_ n sLen sCap : Nat} {z x : Value} {base : Option Addr} {vs : List Value} (ht : P.underlying sT = some (.slice e)) (hx : noInt P xT = true) (hi : rowInfo P e = some (s, by_, z))
    (hlen : (Builtin.lenOf x).run P w = .ok n w) (hf : (Builtin.firstCells s n x).run P w = .ok vs.toArray w) (hroom : sLen + n ≤ sCap) {w' : World}
    (hst : ∀ a, base = some a → (storeCells (a.add (sLen * s)) vs).run P w = .ok () w') (hno : base = none → w' = w) :
    (Builtin.append_ #[sT, xT] ty #[.slice base sLen sCap, x]).run P w = .ok (.slice base (sLen + n) sCap) w' := by
  obtain ⟨i, h1, h2, rfl, rfl⟩ := rowInfo_some hi
  unfold noInt at hx
  cases hu : P.underlying xT with
  | none => simp [hu] at hx
  | some d =>
    rw [hu] at hx
    cases base with
    | none =>
      rw [hno rfl]
      cases d <;> simp at hx <;> simp [Builtin.append_, run_underlying ht, run_underlying hu, sizeOf, typeInfo, h1, hlen, hroom, hf]
    | some a =>
      cases d <;> simp at hx <;> simp [Builtin.append_, run_underlying ht, run_underlying hu, sizeOf, typeInfo, h1, hlen, hroom, hf, hst a rfl]
theorem app3 (a b : List Value) (z : Array Value) : a.toArray ++ (b.toArray ++ z) = (a ++ b).toArray ++ z := by
  apply Array.ext'; simp
set_option maxHeartbeats 8000000 in
theorem run_append_new {sT xT e ty : TypeId} {s by_ n sLen sCap : Nat} {z x : Value} {base : Option Addr} {olds vs : List Value} (ht : P.underlying sT = some (.slice e)) (hx : noInt P xT = true) (hi : rowInfo P e = some (s, by_, z))
    (hlen : (Builtin.lenOf x).run P w = .ok n w) (hf : (Builtin.firstCells s n x).run P w.drew = .ok vs.toArray w.drew) (hfo : (Builtin.firstCells s sLen (.slice base sLen sCap)).run P w.drew = .ok olds.toArray w.drew)
    (hroom : sCap < sLen + n) (hby : (sLen + n) * by_ ≤ 140737488355328) (hb1 : 0 < by_) :
    ∃ cap tail, (Builtin.append_ #[sT, xT] ty #[.slice base sLen sCap, x]).run P w = .ok (.slice (some ⟨w.heap.size, 0, none⟩) (sLen + n) cap) (w.drew.alloc (.cells (olds.toArray ++ vs.toArray ++ tail) e)) ∧
      sLen + n ≤ cap ∧ tail.size = (cap - (sLen + n)) * z.cells.size := by
  obtain ⟨i, h1, h2, rfl, rfl⟩ := rowInfo_some hi
  unfold noInt at hx
  cases hu : P.underlying xT with
  | none => simp [hu] at hx
  | some d =>
    rw [hu] at hx
    have hn : ¬ (sLen + n ≤ sCap) := by omega
    have hfit := growslice_fits (old := sCap) hroom hby
    have h48 : ¬ (281474976710656 < Builtin.nextslicecap (sLen + n) sCap * i.bytes) := by omega
    have hb0 : i.bytes ≠ 0 := by omega
    refine ⟨grownCap w (sLen + n) sCap e, Builtin.zeroCells z.cells (grownCap w (sLen + n) sCap e - (sLen + n)), ?_, grownCap_ge _ _ _ _, size_zeroCells _ _⟩
    cases d <;> simp at hx <;> simp [Builtin.append_, run_underlying ht, run_underlying hu, sizeOf, typeInfo, zeroValue, h1, h2, hlen, hn, h48, hb0, Question.forced, hf, hfo, newRow, grownCap]
    all_goals exact congrArg (fun c => w.drew.alloc (.cells c e)) (app3 _ _ _)
end Go.Abs
end
