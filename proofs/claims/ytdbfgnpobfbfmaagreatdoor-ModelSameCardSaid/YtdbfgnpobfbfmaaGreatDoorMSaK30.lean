/- Part of a proof, in few files: Abs30. -/
import Derived.Test.YtdbfgnpobfbfmaaGreatDoorMSaK24

section
/- Parts put together: a nil slice among them as a row of the call's own that is still empty; an own row among them as plain data, written no more. -/
namespace Go.Abs
open Go.RowKit Go.Proofs
set_option linter.unusedVariables false
set_option linter.unusedSimpArgs false
variable {P : Program} {GT : Tabs} {Q : Exit → S → Prop} {w : W}

/-- The same world, other symbols. -/
def VStep (M M1 : Mem) : Prop := ∀ (B : Nat) (I0 : Nat → Prop) (c : Ctx) (w : World), Sim B I0 c M w → Sim B I0 c M1 w ∧ Ext c M c M1

theorem PartsRep.mono {B : Nat} {c c' : Ctx} {M M' : Mem} {u u' : World} (he : Ext c M c' M') (hs : Stp B c u c' u') : ∀ {vs : List (Nat × Value)} {xs : List (Nat × AV)}, PartsRep c M u vs xs → PartsRep c' M' u' vs xs
  | [], [], _ => trivial
  | (i, v) :: vs, (j, x) :: xs, ⟨h1, h2, h3⟩ => ⟨h1, h2.mono he hs, PartsRep.mono he hs h3⟩
  | [], _ :: _, h => h.elim
  | _ :: _, [], h => h.elim

theorem zLeaf_nil {y : Value} (h : zLeaf y = some (.fixed [])) : y = .slice none 0 0 := by
  unfold zLeaf at h
  split at h <;> simp at h
  rfl

theorem zcell_nil {v y : Value} {z : AV} {zs : List AV} {j : Nat} (h2 : zAV v = some z) (hzs : z.cells = some zs) (hj : zs[j]? = some (.fixed [])) (hy : v.cells[j]? = some y) : y = .slice none 0 0 := by
  by_cases hv : ∃ cs, v = .agg cs
  · obtain ⟨cs, rfl⟩ := hv
    simp only [zAV, Option.map_eq_some_iff] at h2
    obtain ⟨l, hl, rfl⟩ := h2
    obtain ⟨h1, h2⟩ := mapM_some hl
    cases hzs
    obtain ⟨b, q1, q2⟩ := h2 j y (by simpa [Value.cells] using hy)
    rw [hj] at q1; cases q1
    exact zLeaf_nil q2
  · have e : zAV v = zLeaf v := by cases v <;> first | rfl | (exact absurd ⟨_, rfl⟩ hv)
    rw [e] at h2
    have hz1 : z.cells = some [z] := by
      unfold zLeaf at h2
      split at h2 <;> first | (cases h2; rfl) | cases h2
    rw [hz1] at hzs
    cases hzs
    have e2 : v.cells = #[v] := by cases v <;> first | rfl | (exact absurd ⟨_, rfl⟩ hv)
    rw [e2] at hy
    cases j with
    | zero =>
      simp at hj hy
      subst hj; subst hy
      exact zLeaf_nil h2
    | succ j => simp at hj

variable {α : Type} {lv : α → List PD} {sz : Nat} {e : List α} {ver : Nat} {z : Bool} {o : Ob}
theorem RowIs.isRow (h : RowIs o lv sz e ver z) : o.isRow = true ∧ o.ver = ver := by
  rcases h with rfl | ⟨_, rfl, _⟩ <;> exact ⟨rfl, rfl⟩
theorem ok_own {M : Mem} {b n : Nat} (hM : M[b]? = some o) (hr : RowIs o lv sz e ver z) : AV.okCell M (.own b n ver) = true := by
  simp [AV.okCell, verOf, hM, hr.isRow.2]

/-- A value with own rows in it, stored in the call's own cells. -/
theorem ask_storeC {M M2 : Mem} {t : TypeId} {b off v n s : Nat} {l xs : List AV} {x : AV} (hb : M[b]? = some (.cells l s v false)) (hn : szOf P t = some n) (hx : x.cells = some xs) (hl : (Nat.beq xs.length n && Nat.ble (off + n) l.length) = true) (hok : xs.all (·.okCell M) = true) (hM : M.set b (.cells (l.take off ++ xs ++ l.drop (off + n)) s v false) = M2) :
    (aStore P M t (.ptr b off v) x).map (AV.junk, ·) = some (.junk, M2) := by
  rw [Bool.and_eq_true] at hl
  have h1 := Nat.eq_of_beq_eq_true hl.1
  have h2 := Nat.le_of_ble_eq_true hl.2
  unfold aStore
  simp only [hn, hx, hb]
  rw [if_pos ⟨trivial, h1, h2, hok⟩, hM]
  rfl
theorem H_bldS0 {t : TypeId} {n : Nat} {parts : List (Nat × AV)} {M0 : Mem} (x : AV) (hv : w.view = .bld true t n parts M0) (hx : aBuildSlice P M0 t n parts = some x) (h : (w.back x M0).holds P GT Q) : w.holds P GT Q :=
  H_bld x M0 hv (fun _ _ _ _ _ hS hp => aBuildSlice_ok hS hp hx) h

/-! ### own rows among the parts of a slice -/
inductive Fz (b len ver : Nat) (x0 : PD) : AV → AV → Prop
  | keep (x : AV) : Fz b len ver x0 x x
  | cut : Fz b len ver x0 (.own b len ver) (.pd x0)
inductive FzL (b len ver : Nat) (x0 : PD) : List AV → List AV → Prop
  | nil : FzL b len ver x0 [] []
  | cons {x y : AV} {l m : List AV} (h : Fz b len ver x0 x y) (t : FzL b len ver x0 l m) : FzL b len ver x0 (x :: l) (y :: m)
inductive FzP (b len ver : Nat) (x0 : PD) : AV → AV → Prop
  | agg {l m : List AV} (h : FzL b len ver x0 l m) : FzP b len ver x0 (.agg l) (.agg m)
  | one {x y : AV} (h : Fz b len ver x0 x y) : FzP b len ver x0 x y
inductive FzS (b len ver : Nat) (x0 : PD) : List (Nat × AV) → List (Nat × AV) → Prop
  | nil : FzS b len ver x0 [] []
  | cons {i : Nat} {x y : AV} {l m : List (Nat × AV)} (h : FzP b len ver x0 x y) (t : FzS b len ver x0 l m) : FzS b len ver x0 ((i, x) :: l) ((i, y) :: m)

theorem Fz.ok {B : Nat} {c c' : Ctx} {M M' : Mem} {u u' : World} {b len ver : Nat} {x0 : PD} {v : Value} {x y : AV} (he : Ext c M c' M') (hs : Stp B c u c' u') (hp : ∀ v, ARep c M u v (.own b len ver) → PRep c'.imm u' v x0) (hf : Fz b len ver x0 x y) (h : ARep c M u v x) : ARep c' M' u' v y := by
  cases hf with
  | keep => exact h.mono he hs
  | cut => exact .pd _ _ (hp v h)
theorem FzL.ok {b len ver : Nat} {x0 : PD} : ∀ {l m : List AV}, FzL b len ver x0 l m → l.length = m.length ∧ ∀ (i : Nat) (y : AV), m[i]? = some y → ∃ x, l[i]? = some x ∧ Fz b len ver x0 x y
  | [], _, .nil => ⟨rfl, fun i y h => by simp at h⟩
  | x :: l, _, .cons h t => by
    obtain ⟨h1, h2⟩ := t.ok
    refine ⟨by simp [h1], fun i y hy => ?_⟩
    cases i with
    | zero => simp at hy; subst hy; exact ⟨x, rfl, h⟩
    | succ i => simp at hy ⊢; exact h2 i y hy
theorem FzP.ok {B : Nat} {c c' : Ctx} {M M' : Mem} {u u' : World} {b len ver : Nat} {x0 : PD} {v : Value} {x y : AV} (he : Ext c M c' M') (hs : Stp B c u c' u') (hp : ∀ v, ARep c M u v (.own b len ver) → PRep c'.imm u' v x0) (hf : FzP b len ver x0 x y) (h : ARep c M u v x) : ARep c' M' u' v y := by
  cases hf with
  | agg hl =>
    obtain ⟨g1, g2⟩ := hl.ok
    cases h with
    | agg vs l hs' h =>
      refine .agg vs _ (by omega) fun i u y q1 q2 => ?_
      obtain ⟨x, q3, q4⟩ := g2 i y q2
      exact q4.ok he hs hp (h i u x q1 q3)
  | one h1 => exact h1.ok he hs hp h
theorem FzS.ok {B : Nat} {c c' : Ctx} {M M' : Mem} {u u' : World} {b len ver : Nat} {x0 : PD} (he : Ext c M c' M') (hs : Stp B c u c' u') (hp : ∀ v, ARep c M u v (.own b len ver) → PRep c'.imm u' v x0) : ∀ {xs ys : List (Nat × AV)} {vs : List (Nat × Value)}, FzS b len ver x0 xs ys → PartsRep c M u vs xs → PartsRep c' M' u' vs ys
  | [], _, [], .nil, _ => trivial
  | [], _, _ :: _, .nil, h => h.elim
  | (_, _) :: _, _, [], .cons _ _, h => h.elim
  | (i, x) :: xs, _, (j, v) :: vs, .cons h1 t, ⟨e, h2, h3⟩ => ⟨e, h1.ok he hs hp h2, FzS.ok he hs hp t h3⟩

/-! ### several nil slices among the cells of a value, or of a variable, that begins as zero -/
theorem VStep.refl (M : Mem) : VStep M M := fun _ _ _ _ h => ⟨h, Ext.refl _ _⟩
theorem VStep.trans {M M1 M2 : Mem} (h : VStep M M1) (k : VStep M1 M2) : VStep M M2 := fun B I0 c w hS => by
  obtain ⟨h1, h2⟩ := h B I0 c w hS
  obtain ⟨h3, h4⟩ := k B I0 c w h1
  exact ⟨h3, h2.trans h4⟩
theorem VStep.to {M M1 M2 : Mem} (h : VStep M M1) (e : M1 = M2) : VStep M M2 := e ▸ h
/-- The cells zs, some of them (nil slices) told as empty own rows, or as plain data. -/
def vset (M : Mem) : List (Nat × Option Nat) → List AV → Option (List AV)
  | [], zs => some zs
  | (j, none) :: r, zs =>
    match zs[j]? with
    | some (.fixed []) => vset M r (zs.set j (.pd (.sl [])))
    | _ => none
  | (j, some b) :: r, zs =>
    match zs[j]?, M[b]? with
    | some (.fixed []), some (.vrow _ ver') => vset M r (zs.set j (.own b 0 ver'))
    | _, _ => none

theorem vset_ok {c : Ctx} {M : Mem} {u : World} {cs : Array Value} : ∀ {L : List (Nat × Option Nat)} {zs zs' : List AV}, Cells c M u cs zs → (∀ (j : Nat) (y : Value), zs[j]? = some (.fixed []) → cs[j]? = some y → y = .slice none 0 0) → vset M L zs = some zs' → Cells c M u cs zs'
  | [], zs, zs', h, _, he => by cases he; exact h
  | (j, none) :: r, zs, zs', h, hn, he => by
    unfold vset at he
    split at he
    · rename_i hj
      refine vset_ok ⟨by simpa using h.1, fun i y z' q1 q2 => ?_⟩ (fun i y q1 q2 => ?_) he
      · by_cases e : i = j
        · subst e
          rw [List.getElem?_set_self (List.getElem?_eq_some_iff.1 hj).1] at q2
          cases q2
          have hnil := hn _ _ hj q1
          subst hnil
          exact .pd _ _ .nil
        · rw [List.getElem?_set_ne (fun e' => e e'.symm)] at q2
          exact h.2 i y z' q1 q2
      · by_cases e : i = j
        · subst e
          rw [List.getElem?_set_self (List.getElem?_eq_some_iff.1 hj).1] at q1
          cases q1
        · rw [List.getElem?_set_ne (fun e' => e e'.symm)] at q1
          exact hn i y q1 q2
    · cases he
  | (j, some b) :: r, zs, zs', h, hn, he => by
    unfold vset at he
    split at he
    · rename_i sz ver' hj hb
      refine vset_ok ⟨by simpa using h.1, fun i y z' q1 q2 => ?_⟩ (fun i y q1 q2 => ?_) he
      · by_cases e : i = j
        · subst e
          rw [List.getElem?_set_self (List.getElem?_eq_some_iff.1 hj).1] at q2
          cases q2
          have hnil := hn _ _ hj q1
          subst hnil
          exact .own _ _ _ _ (List.getElem?_eq_some_iff.1 hb).1 (by simp [verOf, hb, Ob.ver]) fun _ => .inr ⟨sz, hb, rfl, rfl⟩
        · rw [List.getElem?_set_ne (fun e' => e e'.symm)] at q2
          exact h.2 i y z' q1 q2
      · by_cases e : i = j
        · subst e
          rw [List.getElem?_set_self (List.getElem?_eq_some_iff.1 hj).1] at q1
          cases q1
        · rw [List.getElem?_set_ne (fun e' => e e'.symm)] at q1
          exact hn i y q1 q2
    · cases he

/-- The cells of a type's zero value, some nil slices told as rows. -/
def zcells (P : Program) (t : TypeId) (L : List (Nat × Option Nat)) (M : Mem) : Option (List AV) :=
  ((zeroOf P t).bind AV.cells).bind fun zs => if zs.all (·.okCell M) then vset M L zs else none

theorem zcells_ok {t : TypeId} {L : List (Nat × Option Nat)} {M : Mem} {zs' : List AV} (h : zcells P t L M = some zs') (c : Ctx) (u : World) : ∃ v, (zeroValue t).run P u = .ok v u ∧ Cells c M u v.cells zs' := by
  unfold zcells at h
  rw [Option.bind_eq_some_iff] at h
  obtain ⟨zs, h, h'⟩ := h
  rw [Option.bind_eq_some_iff] at h
  obtain ⟨z, hz, hzs⟩ := h
  obtain ⟨v, h1, h2⟩ := zeroOf_ok hz u
  have h3 := (zAV_ok (c := c) (M := M) (w := u) h2).1
  split at h'
  · rename_i hok
    exact ⟨v, h1, vset_ok (h3.cells hzs hok) (fun j y hj hy => zcell_nil h2 hzs hj hy) h'⟩
  · cases h'

theorem allocL_ok {t : TypeId} {L : List (Nat × Option Nat)} {M M1 M2 : Mem} {zs : List AV} (hv : VStep M M1) (h : zcells P t L M1 = some zs) (hM : M1 ++ [.cells zs 1 0 false] = M2) : BldOK P false t 1 [] M (.ptr M1.length 0 0) M2 := by
  subst hM
  intro B I0 c u ps hS0 _
  obtain ⟨hS, hE⟩ := hv B I0 c u hS0
  obtain ⟨v, h1, hc⟩ := zcells_ok h c u
  obtain ⟨g1, g2, g3, g4, g5, g6⟩ := newRow_ok hS t v.cells zs 1 (by have := hc.1; omega) (fun j x hj => by
    have hjl : j < v.cells.size := by have := (List.getElem?_eq_some_iff.1 hj).1; have := hc.1; omega
    exact ⟨v.cells[j], Array.getElem?_eq_getElem hjl, hc.2 j _ x (Array.getElem?_eq_getElem hjl) hj⟩)
  refine ⟨.pointer (some ⟨(c.push M1 u.heap.size v.cells.size).blk M1.length, 0, none⟩), _, _, ?_, ?_, g1, hE.trans g2, g3⟩
  · rw [g4]; simp [bldSem, Instr.alloc, h1, newVar, newRow]
  · exact .ptr _ _ _ _ (by simp) (Nat.zero_le _) (fun _ => rfl)

/-- A variable that begins as zero, some nil slices in it told as own rows. -/
theorem H_allocL {t : TypeId} {M0 M1 M2 : Mem} (L : List (Nat × Option Nat)) (zs : List AV) (hv : w.view = .bld false t 1 [] M0) (hs : VStep M0 M1) (hz : zcells P t L M1 = some zs) (hM : M1 ++ [.cells zs 1 0 false] = M2) (h : (w.back (.ptr M1.length 0 0) M2).holds P GT Q) : w.holds P GT Q :=
  H_bld _ M2 hv (allocL_ok hs hz hM) h

/-! ### rows that are written no more, ahead of a drawn order -/
theorem GStep.frz (M : Mem) (b : Nat) : GStep M (frz M b) := by
  intro B I0 c w hS
  unfold Abs.frz
  split
  · rename_i l sz ver z hM
    obtain ⟨h1, h2, h3⟩ := hS.freeze hM
    exact ⟨_, h1, h2, h3⟩
  · exact ⟨c, hS, Ext.refl _ _, Stp.refl _ _ _⟩

/-- A call in a drawn order, one argument an own row that is written no more. -/
theorem H_dvalF {g : FuncId} {pre post args' : List AV} {M : Mem} (b len ver : Nat) {x0 : PD} (x : AV) (hv : w.view = .dcall g (pre ++ .own b len ver :: post) M) (hx : ownPD M b len ver = some x0) (hM : Abs.frz M b = M) (hk : (pre ++ .pd x0 :: post).map wk = args') (hc : ASpec P GT g args' (· = x)) (hp : args'.all pur2 = true) (he : Enters P g)
    (h : (w.back x M).holds P GT Q) : w.holds P GT Q := by
  refine H_dcall x hv (ACall.frz1 pre post b len ver hx ?_) he h
  rw [hM]
  exact (hc.atM (fun x hx => pur2_pure (List.all_eq_true.1 hp x hx)) M).wk hk

theorem H_dvalX {g : FuncId} {pre post args' : List AV} {M : Mem} (b len ver : Nat) {x0 : PD} (x : AV) (hv : w.view = .dcall g (pre ++ .own b len ver :: post) M) (hx : ownPD M b len ver = some x0) (hM : Abs.frz M b = M.set b o) (hM2 : M.set b o = M) (hk : (pre ++ .pd x0 :: post).map wk = args') (hc : ASpec P GT g args' (· = x)) (hp : args'.all pur2 = true) (he : Enters P g)
    (h : (w.back x M).holds P GT Q) : w.holds P GT Q := H_dvalF b len ver x hv hx (hM.trans hM2) hk hc hp he h

/-! ### a first part of an own row -/
/-! ### bytes to a text -/
/-- askG, where the parts of some types are put together by the lemmas. -/
def askO (L : List Nat) (v : Bool) (O : List Nat) : Op → Bool
  | .buildSlice t _ _ => O.any (Nat.beq t)
  | o => askG L v o
/-! ### a loop of so many rounds, walked round for round -/
def unr (P : Program) (GT : Tabs) (q : Op → Bool) (ro : Option Nat) (x : Code) (k : Exit → S → W) : Nat → S → W
  | 0, _ => .fail
  | n + 1, s => wc P GT q ro x s fun e s' => match e with | .normal => unr P GT q ro x k n s' | e => k e s'
attribute [irreducible] unr

end Go.Abs
end
