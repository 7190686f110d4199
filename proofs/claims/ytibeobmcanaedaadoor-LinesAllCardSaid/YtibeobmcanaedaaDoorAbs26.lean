/- From a world, as a row finds it, into the abstract layer and back. -/
import Derived.Test.YtibeobmcanaedaaDoorAbs25
import Derived.Lib.LaidTab
import Derived.ProofKit
import Derived.OpenShut
import Derived.ShutString
import Derived.ChangeOld
import Derived.SizedLaws
import Derived.Deep.DeepHandedRow
namespace Go.Abs
open Go.RowKit Go.Proofs
variable {P : Program} {GT : Tabs}

/-- All that stands when the call begins will stand. -/
def ctx0 (W : World) : Ctx := ⟨fun _ => 0, fun _ => 0, fun b => b < W.heap.size⟩

theorem sim0 (W : World) : Sim W.heap.size (ctx0 W).imm (ctx0 W) [] W :=
  ⟨fun i hi => absurd hi.lt (by simp), fun i j hi => absurd hi.lt (by simp), fun _ h => h, fun _ h _ => h, fun _ h => h, by simp, by simp, Nat.le_refl _⟩

theorem enter {f : FuncId} {args : List AV} {R : AV → Prop} (h : ASpec P GT f args R) {W : World} {vs : Array Value} (hG : GRep GT (ctx0 W) W) (hA : ArgsRep (ctx0 W) [] W vs args) :
    Calls P f vs W fun e W' => ∃ v r c', e = .returned v ∧ R r ∧ ARep c' [] W' v r ∧ Below W.heap.size W W' := by
  rw [← callsIn_wide (n := 0)]
  refine (h W.heap.size (ctx0 W).imm (ctx0 W) W vs 0 (sim0 W) hG hA).mono ?_
  rintro e W' ⟨v, r, M', c', rfl, ⟨rfl, _, hR⟩, hv, _, _, hs⟩
  exact ⟨v, r, c', rfl, hR, hv, hs.below⟩

/-- A law that answers yes. -/
theorem enter_true {f : FuncId} {args : List AV} (h : ASpec P GT f args (· = .pd (.bool true))) {W : World} {vs : Array Value} (hG : GRep GT (ctx0 W) W) (hA : ArgsRep (ctx0 W) [] W vs args) :
    Calls P f vs W fun e W' => e = .returned (.bool true) ∧ Below W.heap.size W W' := by
  refine (enter h hG hA).mono ?_
  rintro e W' ⟨v, r, c', rfl, rfl, hv, hb⟩
  refine ⟨?_, hb⟩
  cases hv with
  | pd v x hx => cases hx; rfl

theorem args_nil {c : Ctx} {M : Mem} {w : World} : ArgsRep c M w #[] [] := ⟨rfl, by simp⟩
theorem args_cons {c : Ctx} {M : Mem} {w : World} {v : Value} {x : AV} {vs : Array Value} {xs : List AV} (h : ARep c M w v x) (k : ArgsRep c M w vs xs) : ArgsRep c M w (#[v] ++ vs) (x :: xs) := by
  have : ArgsRep c M w #[v] [x] := by
    refine ⟨rfl, fun i u y q1 q2 => ?_⟩
    match i with
    | 0 => simp at q1 q2; subst q1; subst q2; exact h
    | i + 1 => simp at q1
  exact this.append k

/-- A row of whole numbers, as a row's argument reads. -/
def IsRow (k : IntKind) (w : World) (a : Option Addr) (len cap : Nat) (zs : List Int) : Prop :=
  (a = none ∧ len = 0 ∧ cap = 0 ∧ zs = []) ∨
  ∃ x, a = some x ∧ len ≤ cap ∧ cap ≤ maxLen ∧ zs.length = cap ∧ (∀ i, i < zs.length → w.cell? (x.add i) = some (.int k (zs.getD i 0))) ∧ ∀ n ∈ zs, (Lit.int k n).wf = true

theorem IsRow.rep {W : World} {a : Option Addr} {len cap : Nat} {zs : List Int} (h : IsRow .i64 W a len cap zs) : ARep (ctx0 W) [] W (.slice a len cap) (.pd (ints (zs.take len))) ∧ ∀ n, n ∈ zs.take len → (Lit.int .i64 n).wf = true := by
  rcases h with ⟨rfl, rfl, rfl, rfl⟩ | ⟨x, rfl, h1, _, h2, h3, h4⟩
  · exact ⟨.pd _ _ .nil, by simp⟩
  refine ⟨.pd _ _ ?_, fun n hn => h4 n (List.mem_of_mem_take hn)⟩
  have spot : 0 < len → x.spot = none := by
    intro hl
    have := h3 0 (by omega)
    have e : x.add 0 = x := by simp [Addr.add]
    rw [e] at this
    unfold World.cell? at this
    cases hs : x.spot with
    | none => rfl
    | some s => rw [hs] at this; split at this <;> simp at this
  have cell : ∀ i, i < len → W.cell? ⟨x.block, x.off + i, none⟩ = some (.int .i64 (zs.getD i 0)) := by
    intro i hi
    have := h3 i (by omega)
    rw [addr_add _ _ (spot (by omega))] at this
    exact this
  refine .sl x len cap 1 _ (fun i _ => .int .i64 (zs.getD i 0)) spot (by simp; omega) h1 (fun hl => ?_) (fun i y hy => ?_) (fun i j hi hj => ?_) fun i j y z hy hz => ?_
  · have := cell 0 hl
    show x.block < W.heap.size
    unfold World.cell? at this
    cases hb : W.heap[x.block]? with
    | none => simp [hb] at this
    | some o => exact (Array.getElem?_eq_some_iff.1 hb).1
  · simp only [List.getElem?_map, Option.map_eq_some_iff] at hy
    obtain ⟨n, _, rfl⟩ := hy
    rfl
  · obtain rfl : j = 0 := by omega
    simpa using cell i hi
  · simp only [List.getElem?_map, Option.map_eq_some_iff] at hy
    obtain ⟨n, hn, rfl⟩ := hy
    simp only [i64, PD.leaves] at hz
    cases j with
    | zero =>
      simp at hz; subst hz
      rw [List.getElem?_take] at hn
      split at hn
      · have : zs.getD i 0 = n := by simp [List.getD_eq_getElem?_getD, hn]
        rw [this]; exact .int _ _
      · cases hn
    | succ j => simp at hz

theorem wf64 {n : Int} (h : (Lit.int .i64 n).wf = true) : In64 n := by
  simp [Lit.wf, IntKind.min, IntKind.max, IntKind.signed, IntKind.bits] at h
  constructor <;> omega

theorem laid_tail {x : String × DataW Unit} {r : List (String × DataW Unit)} {W : World} (h : laidMet P (x :: r) W) : laidMet P r W := by
  obtain ⟨n, d⟩ := x
  obtain ⟨ps, ⟨g, t, cs, fuel, p, q, _, _, _, _, hr, rfl⟩, hn, hc⟩ := h
  exact ⟨q, hr, (List.nodup_append.1 hn).2.1, fun b off hm => hc b off (by simp [hm])⟩

/-- A table of small numbers that a row lists. -/
theorem rd_of_tab {W : World} {name : String} {k : IntKind} {zs : List Int} {g : Nat} (h : Lib.TabIs P W name k zs) (hg : P.globalNamed name = some g) (hz : 0 < zs.length) : ARep (ctx0 W) [] W (.pointer (some ⟨g, 0, none⟩)) (.rd (zs.map (PD.int k))) ∧ (ctx0 W).imm g ∧ ∃ cs e z, W.heap[g]? = some (.cells cs e z) ∧ cs.size = (zs.map (PD.int k)).length := by
  have hv : ∃ cs e z, W.heap[g]? = some (.cells cs e z) ∧ cs.size = (zs.map (PD.int k)).length := by
    unfold Lib.TabIs World.var? at h
    rw [hg] at h
    simp only [Option.bind_some] at h
    split at h
    · rename_i cs e z hb
      exact ⟨cs, e, z, hb, by cases h; simp⟩
    · cases h
  refine ⟨?_, ?_, hv⟩
  rotate_left
  · obtain ⟨cs, e, z, hb, _⟩ := hv
    exact (Array.getElem?_eq_some_iff.1 hb).1
  refine .rd _ _ (fun i => .int k (zs.getD i 0)) rfl (fun _ => ?_) (fun j hj => ?_) fun j y hy => ?_
  · have := h.cell hg 0 hz
    show g < W.heap.size
    unfold World.cell? at this
    cases hb : W.heap[g]? with
    | none => simp [hb] at this
    | some o => exact (Array.getElem?_eq_some_iff.1 hb).1
  · have := h.cell hg j (by simpa using hj)
    simpa using this
  · simp only [List.getElem?_map, Option.map_eq_some_iff] at hy
    obtain ⟨n, hn, rfl⟩ := hy
    have : zs.getD j 0 = n := by simp [List.getD_eq_getElem?_getD, hn]
    simp only [this]; exact .int _ _

end Go.Abs
