/- Chapter 07: a row of texts that came in, as the walks want it. -/
import Derived.Test.YtibeobmcanaedaaDoorR07
namespace Go.Proofs.YtibeobmcanaedaaDoor.R07
open Go.ChangeShapes Go.WideShapes Go.ChangeAt Go.RowKit Go.Abs
set_option maxRecDepth 20000

theorem open_strs {H : Type} {enc : TypeId × Value → H} {W : World} {a : Option Addr} {len cap : Nat} {d : DataW H} {ps : List MemPlace}
    (h : DataW.Trod enc Tryd.prog W 0 (fun _ => true) true 30 (.slice a len cap) d ps) : ∃ z : List (List UInt8), ARep (ctx0 W) [] W (.slice a len cap) (.pd (.sl (z.map PD.str))) := by
  obtain ⟨fuel, hf⟩ := h
  rcases open_strings Tryd.underlying30 Tryd.underlying9 (by kernel_rfl) hf with ⟨hcs, _⟩ | ⟨x, len', cap', ss, hcs, _, hl, _, hz, _, hcell, _⟩
  · simp [Value.cells] at hcs
    obtain ⟨rfl, rfl, rfl⟩ := hcs
    exact ⟨[], .pd _ _ .nil⟩
  · simp [Value.cells] at hcs
    obtain ⟨rfl, rfl, rfl⟩ := hcs
    simp only [if_true] at hz
    have spot : 0 < len → x.spot = none := by
      intro h0
      have := hcell 0 (by omega)
      have e : x.add 0 = x := by simp [Addr.add]
      rw [e] at this
      unfold World.cell? at this
      cases hs : x.spot with
      | none => rfl
      | some s => rw [hs] at this; split at this <;> simp at this
    have cell : ∀ i, i < len → W.cell? ⟨x.block, x.off + i, none⟩ = some (.string (ss.getD i ByteArray.empty)) := by
      intro i hi
      have := hcell i (by omega)
      rw [addr_add _ _ (spot (by omega))] at this
      exact this
    refine ⟨(ss.take len).map (·.data.toList), .pd _ _ (.sl x len cap 1 _ (fun i _ => .string (ss.getD i ByteArray.empty)) spot (by simp; omega) hl (fun h0 => ?_) (fun i y hy => ?_) (fun i j hi hj => ?_) fun i j y z hy hz' => ?_)⟩
    · have := cell 0 h0
      show x.block < W.heap.size
      unfold World.cell? at this
      cases hb : W.heap[x.block]? with
      | none => simp [hb] at this
      | some o => exact (Array.getElem?_eq_some_iff.1 hb).1
    · simp only [List.getElem?_map, Option.map_eq_some_iff] at hy
      obtain ⟨n, _, rfl⟩ := hy
      rfl
    · obtain rfl : j = 0 := by omega
      simpa using cell i hi
    · simp only [List.getElem?_map, Option.map_eq_some_iff] at hy
      obtain ⟨n, ⟨s, hs, rfl⟩, rfl⟩ := hy
      cases j with
      | zero =>
        simp [PD.leaves] at hz'
        subst hz'
        rw [List.getElem?_take] at hs
        split at hs
        · have : ss.getD i ByteArray.empty = s := by simp [List.getD_eq_getElem?_getD, hs]
          rw [this]
          exact (show PRep (ctx0 W).imm W (.string ⟨s.data.toList.toArray⟩) (.str s.data.toList) from .str s.data.toList)
        · cases hs
      | succ j => simp [PD.leaves] at hz'

end Go.Proofs.YtibeobmcanaedaaDoor.R07
