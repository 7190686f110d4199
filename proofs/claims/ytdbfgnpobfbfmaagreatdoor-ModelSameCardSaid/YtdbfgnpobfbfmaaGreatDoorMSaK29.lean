/- Part of a proof, in few files: RD. -/
import Derived.Test.YtdbfgnpobfbfmaaGreatDoorMSaK20
import Derived.Deep.Slices
import Derived.ChangeArms

section
/- Arguments that are plain data, of whatever type: a row's reading of them is what the walks want. -/
namespace Go.Abs
open Go.ChangeShapes Go.WideShapes Go.Deep
set_option linter.unusedVariables false

/-- What a cell holds. -/
inductive TS where
  | int (k : IntKind)
  | bool
  | str
  | sl (agg : Bool) (ls : List TS)

def elemP (agg : Bool) (xs : List PD) : PD := if agg then .agg xs else xs.headD (.bool false)

inductive Sh : TS → PD → Prop
  | int (k : IntKind) (z : Int) (h : (Lit.int k z).wf = true) : Sh (.int k) (.int k z)
  | bool (b : Bool) : Sh .bool (.bool b)
  | str (s : List UInt8) (h : s.length ≤ maxLen) : Sh .str (.str s)
  | sl (agg : Bool) (ls : List TS) (xss : List (List PD)) (hm : xss.length ≤ maxLen) (hn : ∀ xs, xs ∈ xss → xs.length = ls.length)
      (h : ∀ (i j : Nat) (xs : List PD) (u : TS) (z : PD), xss[i]? = some xs → ls[j]? = some u → xs[j]? = some z → Sh u z) : Sh (.sl agg ls) (.sl (xss.map (elemP agg)))

def isSt (P : Program) (t : TypeId) : Bool := match P.underlying t with | some (.struct _) => true | _ => false

def shapeF (P : Program) (g : TypeId → Option (List TS)) : List Field → Nat → Option (List TS)
  | [], _ => some []
  | f :: r, off =>
    if f.offset = off then
      match g f.type with
      | some l => if P.cellsOf f.type = l.length then (shapeF P g r (off + l.length)).map (l ++ ·) else none
      | none => none
    else none

/-- A type's cells. -/
def shapeT (P : Program) : Nat → TypeId → Option (List TS)
  | 0, _ => none
  | n + 1, t =>
    match P.underlying t with
    | some (.int k) => some [.int k]
    | some .bool => some [.bool]
    | some .string => some [.str]
    | some (.slice e) => (shapeT P n e).bind fun ls => if P.cellsOf e = ls.length && (isSt P e || ls.length == 1) && Nat.blt 0 ls.length then some [.sl (isSt P e) ls] else none
    | some (.struct fs) => (shapeF P (shapeT P n) fs.toList 0).bind fun ls => if P.cellsOf t = ls.length then some ls else none
    | _ => none

variable {H : Type} {enc : TypeId × Value → H} {P : Program} {w : World} {sp : Nat → Bool} {held : Bool}

theorem cells_at {a : Addr} {n : Nat} {cs : List Value} (h : w.cells? 0 a n = some cs) : cs.length = n ∧ ∀ j v, cs[j]? = some v → w.cell? (a.add j) = some v := by
  unfold World.cells? at h
  rw [if_pos (Nat.zero_le _)] at h
  obtain ⟨h1, h2⟩ := mapM_some h
  rw [List.length_range] at h1
  refine ⟨h1, fun j v hj => ?_⟩
  have hlt : j < n := by rw [← h1]; exact (List.getElem?_eq_some_iff.1 hj).1
  obtain ⟨b, hb, hf⟩ := h2 j j (by simp [hlt])
  rw [hj] at hb; cases hb
  exact hf

theorem spot_none {a : Addr} {v : Value} (h : w.cell? a = some v) : a.spot = none ∧ a.block < w.heap.size := by
  unfold World.cell? at h
  cases hb : w.heap[a.block]? with
  | none => simp [hb] at h
  | some o =>
    refine ⟨?_, (Array.getElem?_eq_some_iff.1 hb).1⟩
    rw [hb] at h
    cases o with
    | cells c _ _ =>
      simp only at h
      cases hs : a.spot with
      | none => rfl
      | some s => simp [hs] at h
    | _ => simp at h

theorem add_eq {a : Addr} (h : a.spot = none) (j : Nat) : a.add j = ⟨a.block, a.off + j, none⟩ := addr_add a j h

abbrev Iw (w : World) : Nat → Prop := (ctx0 w).imm

/-- Cells, each as it is told. -/
def CellsSh (w : World) (ls : List TS) (cs : List Value) : Prop := cs.length = ls.length ∧ ∀ (i : Nat) (u : TS) (v : Value), ls[i]? = some u → cs[i]? = some v → ∃ y, Sh u y ∧ PRep (Iw w) w v y

theorem CellsSh.one {u : TS} {v : Value} {y : PD} (h1 : Sh u y) (h2 : PRep (Iw w) w v y) : CellsSh w [u] [v] := by
  refine ⟨rfl, fun i u' v' q1 q2 => ?_⟩
  cases i with
  | zero => simp at q1 q2; subst q1; subst q2; exact ⟨y, h1, h2⟩
  | succ i => simp at q1

theorem leaves_st {agg : Bool} {xs : List PD} (h : agg = true ∨ xs.length = 1) (hx : agg = false → ∀ x, x ∈ xs → ∀ l, x ≠ .agg l) : (elemP agg xs).leaves = xs := by
  cases agg with
  | true => rfl
  | false =>
    have hl := h.resolve_left (by simp)
    match xs, hl with
    | [x], _ =>
      have := hx rfl x (by simp)
      unfold elemP
      simp only [Bool.false_eq_true, if_false, List.headD_cons]
      cases x <;> first | rfl | exact absurd rfl (this _)

theorem Sh.notAgg {u : TS} {y : PD} (h : Sh u y) : ∀ l, y ≠ .agg l := by cases h <;> (intro l e; cases e)

theorem trod_sh : ∀ (N : Nat) (t : TypeId) (fuel : Nat) (cs : List Value) (x : DataW H × List MemPlace) (ls : List TS), DataW.trod enc P w 0 sp held fuel t cs = some x → shapeT P N t = some ls → CellsSh w ls cs
  | 0, _, _, _, _, _, _, h => by simp [shapeT] at h
  | N + 1, t, fuel, cs, x, ls, hx, hs => by
    unfold shapeT at hs
    split at hs
    · rename_i k hu
      cases hs
      obtain ⟨z, rfl, _, hwf⟩ := DataW.trod_int hu hx
      exact CellsSh.one (.int k z hwf) (.int k z)
    · rename_i hu
      cases hs
      obtain ⟨b, rfl, _⟩ := DataW.trod_bool hu hx
      exact CellsSh.one (.bool b) (.bool b)
    · rename_i hu
      cases hs
      obtain ⟨s, rfl, _, hlen⟩ := DataW.trod_string hu hx
      exact CellsSh.one (.str s.data.toList (by rw [Array.length_toList]; exact hlen)) (show PRep _ w (.string ⟨s.data.toList.toArray⟩) _ from .str _)
    · rename_i e hu
      rw [Option.bind_eq_some_iff] at hs
      obtain ⟨es, he, hs⟩ := hs
      split at hs
      · rename_i hc
        cases hs
        simp only [Bool.and_eq_true, decide_eq_true_eq, Bool.or_eq_true, beq_iff_eq, Nat.blt_eq] at hc
        obtain ⟨⟨hce, hag⟩, hpos⟩ := hc
        rcases open_slice hu hx with ⟨rfl, _⟩ | ⟨a, len, cap, m, n, D, Pl, rfl, _, hlc, hcm, hm, _, hel⟩
        · exact CellsSh.one (.sl (isSt P e) es [] (Nat.zero_le _) (fun _ h => by cases h) (fun _ _ _ _ _ h => by cases h)) .nil
        · have hle : len ≤ m := by rw [hm]; split <;> omega
          -- each element's cells
          have each : ∀ i, i < len → ∃ cs', w.cells? 0 (a.add (i * P.cellsOf e)) (P.cellsOf e) = some cs' ∧ CellsSh w es cs' := fun i hi => by
            obtain ⟨cs', h1, h2⟩ := hel i (by omega)
            exact ⟨cs', h1, trod_sh N e n cs' _ es h2 he⟩
          have sp0 : 0 < len → a.spot = none ∧ a.block < w.heap.size := fun h0 => by
            obtain ⟨cs', h1, h2, _⟩ := each 0 h0
            obtain ⟨g1, g2⟩ := cells_at h1
            have : 0 < cs'.length := by omega
            have hv := g2 0 cs'[0] (List.getElem?_eq_getElem this)
            have e0 : (a.add (0 * P.cellsOf e)).add 0 = a := by simp [Addr.add]
            rw [e0] at hv
            exact spot_none hv
          -- their plain data
          have pick : ∀ i, i < len → ∃ xs : List PD, xs.length = es.length ∧ ∀ j u z, es[j]? = some u → xs[j]? = some z → Sh u z ∧ ∃ v, w.cell? ⟨a.block, a.off + i * es.length + j, none⟩ = some v ∧ PRep (Iw w) w v z := fun i hi => by
            obtain ⟨cs', h1, h2, h3⟩ := each i hi
            obtain ⟨g1, g2⟩ := cells_at h1
            obtain ⟨f, hf⟩ := choose_lt (α := PD) (n := es.length) (p := fun j z => ∀ u v, es[j]? = some u → cs'[j]? = some v → Sh u z ∧ PRep (Iw w) w v z) (fun j hj => by
              obtain ⟨y, q1, q2⟩ := h3 j es[j] cs'[j] (List.getElem?_eq_getElem hj) (List.getElem?_eq_getElem (by omega))
              exact ⟨y, fun u v hu hv => by
                rw [List.getElem?_eq_getElem hj] at hu; cases hu
                rw [List.getElem?_eq_getElem (by omega)] at hv; cases hv
                exact ⟨q1, q2⟩⟩)
            refine ⟨(List.range es.length).map f, by simp, fun j u z hu hz => ?_⟩
            have hj : j < es.length := (List.getElem?_eq_some_iff.1 hu).1
            simp [hj] at hz
            subst hz
            have hv : cs'[j]? = some cs'[j] := List.getElem?_eq_getElem (by omega)
            obtain ⟨r1, r2⟩ := hf j hj u _ hu hv
            refine ⟨r1, _, ?_, r2⟩
            have := g2 j _ hv
            rw [add_add, add_eq (sp0 (by omega)).1, hce] at this
            rw [← Nat.add_assoc] at this
            exact this
          obtain ⟨F, hF⟩ := choose_lt (α := List PD) pick
          have fx : ∃ V : Nat → Nat → Value, ∀ i j, i < len → j < es.length → w.cell? ⟨a.block, a.off + i * es.length + j, none⟩ = some (V i j) ∧ ∀ z, (F i)[j]? = some z → PRep (Iw w) w (V i j) z := by
            refine ⟨fun i j => (w.cell? ⟨a.block, a.off + i * es.length + j, none⟩).getD .nilIface, fun i j hi hj => ?_⟩
            obtain ⟨g1, g2⟩ := hF i hi
            have hjF : j < (F i).length := by omega
            obtain ⟨_, v, hv, hp⟩ := g2 j es[j] (F i)[j] (List.getElem?_eq_getElem hj) (List.getElem?_eq_getElem hjF)
            simp only [hv, Option.getD_some]
            refine ⟨trivial, fun z hz => ?_⟩
            rw [List.getElem?_eq_getElem hjF] at hz
            cases hz
            exact hp
          obtain ⟨V, hV⟩ := fx
          have hlv : ∀ i, i < len → (elemP (isSt P e) (F i)).leaves = F i := fun i hi => by
            obtain ⟨g1, g2⟩ := hF i hi
            refine leaves_st (hag.imp id fun h => by omega) fun _ x hx => ?_
            obtain ⟨j, hj, rfl⟩ := List.getElem_of_mem hx
            exact (g2 j es[j] (F i)[j] (List.getElem?_eq_getElem (by omega)) (List.getElem?_eq_getElem hj)).1.notAgg
          refine CellsSh.one (y := .sl (((List.range len).map F).map (elemP (isSt P e)))) (.sl (isSt P e) es _ ?_ ?_ ?_) (.sl a len cap es.length _ V (fun h => (sp0 h).1) (by simp) hlc (fun h => (sp0 h).2) ?_ (fun i j hi hj => (hV i j hi hj).1) ?_)
          · simp only [List.length_map, List.length_range]; omega
          · intro xs hxs
            obtain ⟨i, hi, rfl⟩ := List.mem_map.1 hxs
            exact (hF i (List.mem_range.1 hi)).1
          · intro i j xs u z hxs hu hz
            simp only [List.getElem?_map, Option.map_eq_some_iff] at hxs
            obtain ⟨i', hi', rfl⟩ := hxs
            have hi2 : i < len := by have := (List.getElem?_eq_some_iff.1 hi').1; simpa using this
            simp [hi2] at hi'
            subst hi'
            exact ((hF i hi2).2 j u z hu hz).1
          · intro i y hy
            simp only [List.getElem?_map, Option.map_eq_some_iff] at hy
            obtain ⟨xs, ⟨i', hi', rfl⟩, rfl⟩ := hy
            have hi2 : i < len := by have := (List.getElem?_eq_some_iff.1 hi').1; simpa using this
            simp [hi2] at hi'
            subst hi'
            rw [hlv i hi2, (hF i hi2).1]
          · intro i j y z hy hz
            simp only [List.getElem?_map, Option.map_eq_some_iff] at hy
            obtain ⟨xs, ⟨i', hi', rfl⟩, rfl⟩ := hy
            have hi2 : i < len := by have := (List.getElem?_eq_some_iff.1 hi').1; simpa using this
            simp [hi2] at hi'
            subst hi'
            rw [hlv i hi2] at hz
            have hj : j < es.length := by rw [← (hF i hi2).1]; exact (List.getElem?_eq_some_iff.1 hz).1
            exact (hV i j hi2 hj).2 z hz
      · cases hs
    · rename_i fs hu
      rw [Option.bind_eq_some_iff] at hs
      obtain ⟨ls', hls, hs⟩ := hs
      split at hs
      · rename_i hc
        cases hs
        obtain ⟨xs, n, _, _, hlen, hxl, hf⟩ := DataW.trod_struct hu hx
        refine ⟨by omega, ?_⟩
        -- field by field
        have fld : ∀ (fl : List Field) (k off : Nat) (l : List TS), fs.toList.drop k = fl → shapeF P (shapeT P N) fl off = some l → ∀ (i : Nat) (u : TS) (v : Value), l[i]? = some u → cs[off + i]? = some v → ∃ y, Sh u y ∧ PRep (Iw w) w v y := by
          intro fl
          induction fl with
          | nil => intro k off l _ hl i u v hu _; cases hl; simp at hu
          | cons f r ih =>
            intro k off l hk hl i u v hu hv
            unfold shapeF at hl
            split at hl
            · rename_i ho
              subst ho
              split at hl
              · rename_i lf hlf
                split at hl
                · rename_i hcf
                  rw [Option.map_eq_some_iff] at hl
                  obtain ⟨l2, hl2, rfl⟩ := hl
                  have hfk : fs[k]? = some f := by
                    have : (fs.toList.drop k)[0]? = some f := by rw [hk]; rfl
                    rw [List.getElem?_drop] at this
                    simpa using this
                  have hread := hf k f hfk
                  have hkx : k < xs.length := by rw [hxl]; exact (Array.getElem?_eq_some_iff.1 hfk).1
                  rw [List.getElem?_eq_getElem hkx] at hread
                  obtain ⟨g1, g2⟩ := trod_sh N f.type n _ _ lf hread hlf
                  by_cases hi : i < lf.length
                  · rw [List.getElem?_append_left hi] at hu
                    refine g2 i u v hu ?_
                    rw [List.getElem?_take_of_lt (by omega), List.getElem?_drop]
                    exact hv
                  · rw [List.getElem?_append_right (by omega)] at hu
                    refine ih (k + 1) (f.offset + lf.length) l2 ?_ hl2 (i - lf.length) u v hu ?_
                    · rw [← List.tail_drop, hk]; rfl
                    · rw [show f.offset + lf.length + (i - lf.length) = f.offset + i by omega]; exact hv
                · cases hl
              · cases hl
            · cases hl
        intro i u v hu' hv
        exact fld fs.toList 0 0 ls (by simp) hls i u v hu' (by simpa using hv)
      · cases hs
    · cases hs

/-! ### told by kinds -/
theorem sh_int {k : IntKind} {y : PD} (h : Sh (.int k) y) : ∃ z, y = .int k z ∧ (Lit.int k z).wf = true := by cases h with | int k z h => exact ⟨z, rfl, h⟩
theorem sh_bool {y : PD} (h : Sh .bool y) : ∃ b, y = .bool b ∧ True := by cases h with | bool b => exact ⟨b, rfl, trivial⟩
theorem sh_str {y : PD} (h : Sh .str y) : ∃ s, y = .str s ∧ s.length ≤ maxLen := by cases h with | str s h => exact ⟨s, rfl, h⟩
theorem sh_sl {α : Type} {el : α → PD} {wf : α → Prop} {agg : Bool} {ls : List TS} (hel : ∀ xs : List PD, xs.length = ls.length → (∀ (j : Nat) (u : TS) (z : PD), ls[j]? = some u → xs[j]? = some z → Sh u z) → ∃ e, elemP agg xs = el e ∧ wf e) {y : PD} (h : Sh (.sl agg ls) y) :
    ∃ l : List α, y = .sl (l.map el) ∧ (l.length ≤ maxLen ∧ ∀ x, x ∈ l → wf x) := by
  cases h with
  | sl agg ls xss hm hn h =>
    have : ∀ xss : List (List PD), (∀ xs, xs ∈ xss → ∃ e, elemP agg xs = el e ∧ wf e) → ∃ l : List α, xss.map (elemP agg) = l.map el ∧ l.length = xss.length ∧ ∀ x, x ∈ l → wf x := by
      intro xss
      induction xss with
      | nil => intro _; exact ⟨[], rfl, rfl, fun _ h => by cases h⟩
      | cons xs r ih =>
        intro hx
        obtain ⟨e, h1, h2⟩ := hx xs (by simp)
        obtain ⟨l, h3, h4, h5⟩ := ih fun y hy => hx y (by simp [hy])
        refine ⟨e :: l, by simp [h1, h3], by simp [h4], fun x hx => ?_⟩
        rcases List.mem_cons.1 hx with rfl | hx
        · exact h2
        · exact h5 x hx
    obtain ⟨l, h1, h2, h3⟩ := this xss fun xs hxs => by
      obtain ⟨i, hi, e⟩ := List.getElem_of_mem hxs
      exact hel xs (hn xs hxs) fun j u z hu hz => h i j xs u z (by rw [List.getElem?_eq_getElem hi, e]) hu hz
    exact ⟨l, by rw [h1], by rw [h2]; exact hm, h3⟩
theorem get1 {xs : List PD} (h : xs.length = 1) : ∃ a, xs = [a] := by match xs, h with | [a], _ => exact ⟨a, rfl⟩
theorem get3 {xs : List PD} (h : xs.length = 3) : ∃ a b c, xs = [a, b, c] := by match xs, h with | [a, b, c], _ => exact ⟨a, b, c, rfl⟩
theorem get6 {xs : List PD} (h : xs.length = 6) : ∃ a b c d e f, xs = [a, b, c, d, e, f] := by match xs, h with | [a, b, c, d, e, f], _ => exact ⟨a, b, c, d, e, f, rfl⟩

/-- A struct that is handed over. -/
theorem agg_rep {cs : Array Value} {ls : List TS} {ys : List AV} (h : CellsSh w ls cs.toList) (hl : ys.length = ls.length) (hy : ∀ (i : Nat) (u : TS) (v : Value) (y : AV), ls[i]? = some u → cs.toList[i]? = some v → ys[i]? = some y → ARep (ctx0 w) [] w v y) : ARep (ctx0 w) [] w (.agg cs) (.agg ys) := by
  refine .agg _ _ (by have := h.1; simp at this; omega) fun i v y h1 h2 => ?_
  have hi : i < ls.length := by rw [← hl]; exact (List.getElem?_eq_some_iff.1 h2).1
  exact hy i ls[i] v y (List.getElem?_eq_getElem hi) (by simpa using h1) h2

end Go.Abs
end
