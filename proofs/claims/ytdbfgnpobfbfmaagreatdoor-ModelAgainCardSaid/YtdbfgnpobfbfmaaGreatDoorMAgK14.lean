/- Part of a proof, in few files: Abs30 Abs31 QW BCd BNd. -/
import Derived.Test.YtdbfgnpobfbfmaaGreatDoorMAgK12
import Derived.Test.YtdbfgnpobfbfmaaGreatDoorMAgK13
import Derived.Test.YtdbfgnpobfbfmaaGreatDoorMAgK11
import Derived.Lib.Strings

section
namespace Go.Abs
open Go.RowKit Go.Proofs
set_option linter.unusedVariables false
set_option linter.unusedSimpArgs false
variable {P : Program} {GT : Tabs} {Q : Exit → S → Prop} {w : W}
def VStep (M M1 : Mem) : Prop := ∀ (B : Nat) (I0 : Nat → Prop) (c : Ctx) (w : World), Sim B I0 c M w → Sim B I0 c M1 w ∧ Ext c M c M1
theorem VStep.new (M : Mem) (sz : Nat) : VStep M (M ++ [.vrow sz 0]) := fun _ _ _ _ h => h.pushV sz 0
theorem PartsRep.mono {B : Nat} {c c' : Ctx} {M M' : Mem} {u u' : World} (he : Ext c M c' M') (hs : Stp B c u c' u') : ∀ {vs : List (Nat × Value)} {xs : List (Nat × AV)}, PartsRep c M u vs xs → PartsRep c' M' u' vs xs
  | [], [], _ => trivial
  | (i, v) :: vs, (j, x) :: xs, ⟨h1, h2, h3⟩ => ⟨h1, h2.mono he hs, PartsRep.mono he hs h3⟩
  | [], _ :: _, h => h.elim
  | _ :: _, [], h => h.elim
theorem zLeaf_nil {y : Value} (h : zLeaf y = some (.fixed [])) : y = .slice none 0 0 := by
  unfold zLeaf at h
  split at h <;> simp at h
  rfl
theorem zcell_nil {v y : Value} {z : AV} {zs : List AV} {j : Nat} (h2 : zAV v = some z) (hzs : z.cells = some zs) (hj : zs[j]? = some (.fixed [])) (hy : v.cells[j]? = some y) : y = .slice none 0 0 := by
  by_cases hv : ∃ cs, v = .agg cs
  · obtain ⟨cs, rfl⟩ := hv
    simp only [zAV, Option.map_eq_some_iff] at h2
    obtain ⟨l, hl, rfl⟩ := h2
    obtain ⟨h1, h2⟩ := mapM_some hl
    cases hzs
    obtain ⟨b, q1, q2⟩ := h2 j y (by simpa [Value.cells] using hy)
    rw [hj] at q1; cases q1
    exact zLeaf_nil q2
  · have e : zAV v = zLeaf v := by cases v <;> first | rfl | (exact absurd ⟨_, rfl⟩ hv)
    rw [e] at h2
    have hz1 : z.cells = some [z] := by
      unfold zLeaf at h2
      split at h2 <;> first | (cases h2; rfl) | cases h2
    rw [hz1] at hzs
    cases hzs
    have e2 : v.cells = #[v] := by cases v <;> first | rfl | (exact absurd ⟨_, rfl⟩ hv)
    rw [e2] at hy
    cases j with
    | zero =>
      simp at hj hy
      subst hj; subst hy
      exact zLeaf_nil h2
    | succ j => simp at hj
variable {α : Type} {lv : α → List PD} {sz : Nat} {e : List α} {ver : Nat} {z : Bool} {o : Ob}
theorem RowIs.isRow (h : RowIs o lv sz e ver z) : o.isRow = true ∧ o.ver = ver := by
  rcases h with rfl | ⟨_, rfl, _⟩ <;> exact ⟨rfl, rfl⟩
theorem ok_own {M : Mem} {b n : Nat} (hM : M[b]? = some o) (hr : RowIs o lv sz e ver z) : AV.okCell M (.own b n ver) = true := by
  simp [AV.okCell, verOf, hM, hr.isRow.2]
theorem ask_storeC {M M2 : Mem} {t : TypeId} {b off v n s : Nat} {l xs : List AV} {x : AV} (hb : M[b]? = some (.cells l s v false)) (hn : szOf P t = some n) (hx : x.cells = some xs) (hl : (Nat.beq xs.length n && Nat.ble (off + n) l.length) = true) (hok : xs.all (·.okCell M) = true) (hM : M.set b (.cells (l.take off ++ xs ++ l.drop (off + n)) s v false) = M2) :
    (aStore P M t (.ptr b off v) x).map (AV.junk, ·) = some (.junk, M2) := by
  rw [Bool.and_eq_true] at hl
  have h1 := Nat.eq_of_beq_eq_true hl.1
  have h2 := Nat.le_of_ble_eq_true hl.2
  unfold aStore
  simp only [hn, hx, hb]
  rw [if_pos ⟨trivial, h1, h2, hok⟩, hM]
  rfl
theorem H_bldS0 {t : TypeId} {n : Nat} {parts : List (Nat × AV)} {M0 : Mem} (x : AV) (hv : w.view = .bld true t n parts M0) (hx : aBuildSlice P M0 t n parts = some x) (h : (w.back x M0).holds P GT Q) : w.holds P GT Q :=
  H_bld x M0 hv (fun _ _ _ _ _ hS hp => aBuildSlice_ok hS hp hx) h
inductive Fz (b len ver : Nat) (x0 : PD) : AV → AV → Prop
  | keep (x : AV) : Fz b len ver x0 x x
  | cut : Fz b len ver x0 (.own b len ver) (.pd x0)
inductive FzL (b len ver : Nat) (x0 : PD) : List AV → List AV → Prop
  | nil : FzL b len ver x0 [] []
  | cons {x y : AV} {l m : List AV} (h : Fz b len ver x0 x y) (t : FzL b len ver x0 l m) : FzL b len ver x0 (x :: l) (y :: m)
inductive FzP (b len ver : Nat) (x0 : PD) : AV → AV → Prop
  | agg {l m : List AV} (h : FzL b len ver x0 l m) : FzP b len ver x0 (.agg l) (.agg m)
  | one {x y : AV} (h : Fz b len ver x0 x y) : FzP b len ver x0 x y
inductive FzS (b len ver : Nat) (x0 : PD) : List (Nat × AV) → List (Nat × AV) → Prop
  | nil : FzS b len ver x0 [] []
  | cons {i : Nat} {x y : AV} {l m : List (Nat × AV)} (h : FzP b len ver x0 x y) (t : FzS b len ver x0 l m) : FzS b len ver x0 ((i, x) :: l) ((i, y) :: m)
theorem Fz.ok {B : Nat} {c c' : Ctx} {M M' : Mem} {u u' : World} {b len ver : Nat} {x0 : PD} {v : Value} {x y : AV} (he : Ext c M c' M') (hs : Stp B c u c' u') (hp : ∀ v, ARep c M u v (.own b len ver) → PRep c'.imm u' v x0) (hf : Fz b len ver x0 x y) (h : ARep c M u v x) : ARep c' M' u' v y := by
  cases hf with
  | keep => exact h.mono he hs
  | cut => exact .pd _ _ (hp v h)
theorem FzL.ok {b len ver : Nat} {x0 : PD} : ∀ {l m : List AV}, FzL b len ver x0 l m → l.length = m.length ∧ ∀ (i : Nat) (y : AV), m[i]? = some y → ∃ x, l[i]? = some x ∧ Fz b len ver x0 x y
  | [], _, .nil => ⟨rfl, fun i y h => by simp at h⟩
  | x :: l, _, .cons h t => by
    obtain ⟨h1, h2⟩ := t.ok
    refine ⟨by simp [h1], fun i y hy => ?_⟩
    cases i with
    | zero => simp at hy; subst hy; exact ⟨x, rfl, h⟩
    | succ i => simp at hy ⊢; exact h2 i y hy
theorem FzP.ok {B : Nat} {c c' : Ctx} {M M' : Mem} {u u' : World} {b len ver : Nat} {x0 : PD} {v : Value} {x y : AV} (he : Ext c M c' M') (hs : Stp B c u c' u') (hp : ∀ v, ARep c M u v (.own b len ver) → PRep c'.imm u' v x0) (hf : FzP b len ver x0 x y) (h : ARep c M u v x) : ARep c' M' u' v y := by
  cases hf with
  | agg hl =>
    obtain ⟨g1, g2⟩ := hl.ok
    cases h with
    | agg vs l hs' h =>
      refine .agg vs _ (by omega) fun i u y q1 q2 => ?_
      obtain ⟨x, q3, q4⟩ := g2 i y q2
      exact q4.ok he hs hp (h i u x q1 q3)
  | one h1 => exact h1.ok he hs hp h
theorem FzS.ok {B : Nat} {c c' : Ctx} {M M' : Mem} {u u' : World} {b len ver : Nat} {x0 : PD} (he : Ext c M c' M') (hs : Stp B c u c' u') (hp : ∀ v, ARep c M u v (.own b len ver) → PRep c'.imm u' v x0) : ∀ {xs ys : List (Nat × AV)} {vs : List (Nat × Value)}, FzS b len ver x0 xs ys → PartsRep c M u vs xs → PartsRep c' M' u' vs ys
  | [], _, [], .nil, _ => trivial
  | [], _, _ :: _, .nil, h => h.elim
  | (_, _) :: _, _, [], .cons _ _, h => h.elim
  | (i, x) :: xs, _, (j, v) :: vs, .cons h1 t, ⟨e, h2, h3⟩ => ⟨e, h1.ok he hs hp h2, FzS.ok he hs hp t h3⟩
theorem VStep.refl (M : Mem) : VStep M M := fun _ _ _ _ h => ⟨h, Ext.refl _ _⟩
theorem VStep.trans {M M1 M2 : Mem} (h : VStep M M1) (k : VStep M1 M2) : VStep M M2 := fun B I0 c w hS => by
  obtain ⟨h1, h2⟩ := h B I0 c w hS
  obtain ⟨h3, h4⟩ := k B I0 c w h1
  exact ⟨h3, h2.trans h4⟩
theorem VStep.to {M M1 M2 : Mem} (h : VStep M M1) (e : M1 = M2) : VStep M M2 := e ▸ h
def vset (M : Mem) : List (Nat × Option Nat) → List AV → Option (List AV)
  | [], zs => some zs
  | (j, none) :: r, zs =>
    match zs[j]? with
    | some (.fixed []) => vset M r (zs.set j (.pd (.sl [])))
    | _ => none
  | (j, some b) :: r, zs =>
    match zs[j]?, M[b]? with
    | some (.fixed []), some (.vrow _ ver') => vset M r (zs.set j (.own b 0 ver'))
    | _, _ => none
theorem vset_ok {c : Ctx} {M : Mem} {u : World} {cs : Array Value} : ∀ {L : List (Nat × Option Nat)} {zs zs' : List AV}, Cells c M u cs zs → (∀ (j : Nat) (y : Value), zs[j]? = some (.fixed []) → cs[j]? = some y → y = .slice none 0 0) → vset M L zs = some zs' → Cells c M u cs zs'
  | [], zs, zs', h, _, he => by cases he; exact h
  | (j, none) :: r, zs, zs', h, hn, he => by
    unfold vset at he
    split at he
    · rename_i hj
      refine vset_ok ⟨by simpa using h.1, fun i y z' q1 q2 => ?_⟩ (fun i y q1 q2 => ?_) he
      · by_cases e : i = j
        · subst e
          rw [List.getElem?_set_self (List.getElem?_eq_some_iff.1 hj).1] at q2
          cases q2
          have hnil := hn _ _ hj q1
          subst hnil
          exact .pd _ _ .nil
        · rw [List.getElem?_set_ne (fun e' => e e'.symm)] at q2
          exact h.2 i y z' q1 q2
      · by_cases e : i = j
        · subst e
          rw [List.getElem?_set_self (List.getElem?_eq_some_iff.1 hj).1] at q1
          cases q1
        · rw [List.getElem?_set_ne (fun e' => e e'.symm)] at q1
          exact hn i y q1 q2
    · cases he
  | (j, some b) :: r, zs, zs', h, hn, he => by
    unfold vset at he
    split at he
    · rename_i sz ver' hj hb
      refine vset_ok ⟨by simpa using h.1, fun i y z' q1 q2 => ?_⟩ (fun i y q1 q2 => ?_) he
      · by_cases e : i = j
        · subst e
          rw [List.getElem?_set_self (List.getElem?_eq_some_iff.1 hj).1] at q2
          cases q2
          have hnil := hn _ _ hj q1
          subst hnil
          exact .own _ _ _ _ (List.getElem?_eq_some_iff.1 hb).1 (by simp [verOf, hb, Ob.ver]) fun _ => .inr ⟨sz, hb, rfl, rfl⟩
        · rw [List.getElem?_set_ne (fun e' => e e'.symm)] at q2
          exact h.2 i y z' q1 q2
      · by_cases e : i = j
        · subst e
          rw [List.getElem?_set_self (List.getElem?_eq_some_iff.1 hj).1] at q1
          cases q1
        · rw [List.getElem?_set_ne (fun e' => e e'.symm)] at q1
          exact hn i y q1 q2
    · cases he
def zcells (P : Program) (t : TypeId) (L : List (Nat × Option Nat)) (M : Mem) : Option (List AV) :=
  ((zeroOf P t).bind AV.cells).bind fun zs => if zs.all (·.okCell M) then vset M L zs else none
theorem zcells_ok {t : TypeId} {L : List (Nat × Option Nat)} {M : Mem} {zs' : List AV} (h : zcells P t L M = some zs') (c : Ctx) (u : World) : ∃ v, (zeroValue t).run P u = .ok v u ∧ Cells c M u v.cells zs' := by
  unfold zcells at h
  rw [Option.bind_eq_some_iff] at h
  obtain ⟨zs, h, h'⟩ := h
  rw [Option.bind_eq_some_iff] at h
  obtain ⟨z, hz, hzs⟩ := h
  obtain ⟨v, h1, h2⟩ := zeroOf_ok hz u
  have h3 := (zAV_ok (c := c) (M := M) (w := u) h2).1
  split at h'
  · rename_i hok
    exact ⟨v, h1, vset_ok (h3.cells hzs hok) (fun j y hj hy => zcell_nil h2 hzs hj hy) h'⟩
  · cases h'
def bldVs (P : Program) (t : TypeId) (L : List (Nat × Option Nat)) (M : Mem) (parts : List (Nat × AV)) : Option AV :=
  match zcells P t L M, P.underlying t with
  | some zs, some (.struct fs) => (placesOf P fs).bind fun pl => (afill M (pl.toArray[·]?) zs parts).map .agg
  | _, _ => none
theorem bldVs_ok {t : TypeId} {L : List (Nat × Option Nat)} {M M1 : Mem} {parts : List (Nat × AV)} {x : AV} (hv : VStep M M1) (h : bldVs P t L M1 parts = some x) : BldOK P false t 0 parts M x M1 := by
  intro B I0 c u ps hS0 hp0
  obtain ⟨hS, hE⟩ := hv B I0 c u hS0
  have hp := PartsRep.mono hE (Stp.refl B c u) hp0
  unfold bldVs at h
  split at h
  · rename_i zs fs hz hu
    rw [Option.bind_eq_some_iff] at h
    obtain ⟨pl, hpl, h⟩ := h
    rw [Option.map_eq_some_iff] at h
    obtain ⟨l', hl', rfl⟩ := h
    obtain ⟨v, h1, hc'⟩ := zcells_ok hz c u
    obtain ⟨cs', g1, g2⟩ := afill_ok (place := (pl.toArray[·]?)) hp hc' hl'
    refine ⟨.agg cs', u, c, run_build u t ps cs' ?_, .agg _ _ g2.1 g2.2, hS, hE, Stp.refl _ _ _⟩
    obtain ⟨i, hi, hiz⟩ := zeroVal h1
    have hpl' : fs.toList.mapM (fun f => (P.info? f.type).map fun i => (f.offset, i.size)) = some pl := by
      rw [← hpl]; unfold placesOf; congr 1; funext f; simp only [szOf, Option.map_map]; rfl
    simp only [Program.built, hi, hu, hiz, hpl', g1]
  · cases h
theorem H_bldL {t : TypeId} {parts : List (Nat × AV)} {M0 M1 : Mem} (L : List (Nat × Option Nat)) (x : AV) (hv : w.view = .bld false t 0 parts M0) (hs : VStep M0 M1) (hx : bldVs P t L M1 parts = some x) (h : (w.back x M1).holds P GT Q) : w.holds P GT Q :=
  H_bld x M1 hv (bldVs_ok hs hx) h
theorem allocL_ok {t : TypeId} {L : List (Nat × Option Nat)} {M M1 M2 : Mem} {zs : List AV} (hv : VStep M M1) (h : zcells P t L M1 = some zs) (hM : M1 ++ [.cells zs 1 0 false] = M2) : BldOK P false t 1 [] M (.ptr M1.length 0 0) M2 := by
  subst hM
  intro B I0 c u ps hS0 _
  obtain ⟨hS, hE⟩ := hv B I0 c u hS0
  obtain ⟨v, h1, hc⟩ := zcells_ok h c u
  obtain ⟨g1, g2, g3, g4, g5, g6⟩ := newRow_ok hS t v.cells zs 1 (by have := hc.1; omega) (fun j x hj => by
    have hjl : j < v.cells.size := by have := (List.getElem?_eq_some_iff.1 hj).1; have := hc.1; omega
    exact ⟨v.cells[j], Array.getElem?_eq_getElem hjl, hc.2 j _ x (Array.getElem?_eq_getElem hjl) hj⟩)
  refine ⟨.pointer (some ⟨(c.push M1 u.heap.size v.cells.size).blk M1.length, 0, none⟩), _, _, ?_, ?_, g1, hE.trans g2, g3⟩
  · rw [g4]; simp [bldSem, Instr.alloc, h1, newVar, newRow]
  · exact .ptr _ _ _ _ (by simp) (Nat.zero_le _) (fun _ => rfl)
theorem H_allocL {t : TypeId} {M0 M1 M2 : Mem} (L : List (Nat × Option Nat)) (zs : List AV) (hv : w.view = .bld false t 1 [] M0) (hs : VStep M0 M1) (hz : zcells P t L M1 = some zs) (hM : M1 ++ [.cells zs 1 0 false] = M2) (h : (w.back (.ptr M1.length 0 0) M2).holds P GT Q) : w.holds P GT Q :=
  H_bld _ M2 hv (allocL_ok hs hz hM) h
theorem ask_boxC {M M2 : Mem} {x : AV} {xs : List AV} (hx : x.cells = some xs) (hok : xs.all (·.okCell M) = true) (hM : M ++ [.cells xs 1 0 false] = M2) : aBox M x = some (.ptr M.length 0 0, M2) := by
  unfold aBox
  rw [hx]
  simp only
  rw [if_pos hok, hM]
theorem GStep.frz (M : Mem) (b : Nat) : GStep M (frz M b) := by
  intro B I0 c w hS
  unfold Abs.frz
  split
  · rename_i l sz ver z hM
    obtain ⟨h1, h2, h3⟩ := hS.freeze hM
    exact ⟨_, h1, h2, h3⟩
  · exact ⟨c, hS, Ext.refl _ _, Stp.refl _ _ _⟩
theorem H_dvalF {g : FuncId} {pre post args' : List AV} {M : Mem} (b len ver : Nat) {x0 : PD} (x : AV) (hv : w.view = .dcall g (pre ++ .own b len ver :: post) M) (hx : ownPD M b len ver = some x0) (hM : Abs.frz M b = M) (hk : (pre ++ .pd x0 :: post).map wk = args') (hc : ASpec P GT g args' (· = x)) (hp : args'.all pur2 = true) (he : Enters P g)
    (h : (w.back x M).holds P GT Q) : w.holds P GT Q := by
  refine H_dcall x hv (ACall.frz1 pre post b len ver hx ?_) he h
  rw [hM]
  exact (hc.atM (fun x hx => pur2_pure (List.all_eq_true.1 hp x hx)) M).wk hk
theorem H_dvalX {g : FuncId} {pre post args' : List AV} {M : Mem} (b len ver : Nat) {x0 : PD} (x : AV) (hv : w.view = .dcall g (pre ++ .own b len ver :: post) M) (hx : ownPD M b len ver = some x0) (hM : Abs.frz M b = M.set b o) (hM2 : M.set b o = M) (hk : (pre ++ .pd x0 :: post).map wk = args') (hc : ASpec P GT g args' (· = x)) (hp : args'.all pur2 = true) (he : Enters P g)
    (h : (w.back x M).holds P GT Q) : w.holds P GT Q := H_dvalF b len ver x hv hx (hM.trans hM2) hk hc hp he h
theorem sl_parts {c : Ctx} {M : Mem} {u : World} {ps : Array (Nat × Value)} {x y : AV} (hp : PartsRep c M u ps.toList [(0, x), (1, y)]) : ∃ v k i j, ps.toList = [(i, v), (j, k)] ∧ ARep c M u v x ∧ ARep c M u k y := by
  match h : ps.toList, hp with
  | [(i, v), (j, k)], hp => exact ⟨v, k, i, j, rfl, hp.2.1, hp.2.2.2.1⟩
  | [], hp => exact hp.elim
  | [_], hp => exact hp.2.2.elim
  | _ :: _ :: _ :: _, hp => exact hp.2.2.2.2.elim
theorem slice_ok {t : TypeId} {M : Mem} {x y z : AV} (h : aSlice P M t x none (some y) none = some z) : BldOK P false t 2 [(0, x), (1, y)] M z M := by
  intro B I0 c u ps hS hp
  obtain ⟨v, k, i, j, e, h1, h2⟩ := sl_parts hp
  have := aSlice_ok (vl := none) (vh := some k) (vm := none) hS h1 (show OptRep c M u none none from trivial) (show OptRep c M u (some k) (some y) from h2) (show OptRep c M u none none from trivial) h
  simpa only [bldSem, e] using this
theorem Sim.trunc {B : Nat} {I0 : Nat → Prop} {c : Ctx} {M : Mem} {u : World} (hS : Sim B I0 c M u) {b : Nat} {l : List AV} {sz ver : Nat} (hM : M[b]? = some (.cells l sz ver false)) (m : Nat) :
    Sim B I0 c (M.set b (.cells (l.take m) sz (ver + 1) false)) u ∧ Ext c M c (M.set b (.cells (l.take m) sz (ver + 1) false)) := by
  have he : Ext c M c (M.set b (.cells (l.take m) sz (ver + 1) false)) := Ext.set hM rfl (Nat.le_succ _) fun e => by simp [Ob.ver] at e
  refine ⟨hS.put hM he (Stp.refl B c u) (fun k hk => rfl) ?_ rfl rfl, he⟩
  obtain ⟨cs, e, g1, g2, g3, g4⟩ := hS.obj b _ hM
  refine ⟨cs, e, g1, g2, ?_, fun j x hj => ?_⟩
  · simp; omega
  · have hj' : l[j]? = some x := by
      rw [List.getElem?_take] at hj
      split at hj
      · exact hj
      · cases hj
    obtain ⟨v, q1, q2⟩ := g4 j x hj'
    exact ⟨v, q1, q2.mono he.toExt0 (Stp.refl B c u)⟩
theorem trunc_ok {t et : TypeId} {M M1 : Mem} {b n : Nat} {kk : IntKind} {hi : Int} (h1 : LVok lv sz) (hu : P.underlying t = some (.slice et)) (hz : szOf P et = some sz) (hb : M[b]? = some o) (hr : RowIs o lv sz e ver false) (hn : n = e.length) (h0 : 0 < hi ∧ hi ≤ e.length) (hM : M.set b (.cells (rowC lv (e.take hi.toNat)) sz (ver + 1) false) = M1) :
    BldOK P false t 2 [(0, .own b n ver), (1, .pd (.int kk hi))] M (.own b (e.take hi.toNat).length (ver + 1)) M1 := by
  subst hM
  have hlen : (e.take hi.toNat).length = hi.toNat := by simp; omega
  have hi0 : hi.toNat < e.length + 1 := by omega
  have hpos : 0 < e.length := by omega
  have ho := hr.some (List.getElem?_eq_getElem hpos)
  subst ho
  intro B I0 c u ps hS hp
  have ha : aSlice P M t (.own b n ver) none (some (.pd (.int kk hi))) none = some (.own b hi.toNat ver) := by
    have hv : verOf M b = ver := by simp [verOf, hb, Ob.ver]
    have hon : optNat (some (AV.pd (.int kk hi))) = some (some hi.toNat) := by
      obtain ⟨k, rfl⟩ : ∃ k : Nat, hi = k := ⟨hi.toNat, by omega⟩
      simp [optNat, nat_some (k := kk) (Int.natCast_nonneg k)]
    unfold aSlice
    rw [hon]
    simp only [optNat, hu]
    rw [if_pos ⟨hv, rfl, by simp; omega, by simp [hz]⟩]
    rfl
  obtain ⟨v', w', c', r1, r2, r3, r4, r5⟩ := slice_ok ha B I0 c u ps hS hp
  obtain ⟨q1, q2⟩ := r3.trunc hb (hi.toNat * sz)
  rw [rowC_take h1] at q1 q2
  refine ⟨v', w', c', r1, ?_, q1, r4.trans q2, r5⟩
  cases r2 with
  | own v b len ver hbl hvv hx =>
    have hlt := (List.getElem?_eq_some_iff.1 hb).1
    rcases hx (by simp [verOf, hb, Ob.ver]) with ⟨cap, l, sz', z', hM2, rfl, k1, k2, k3⟩ | ⟨sz', hM2, _⟩
    · rw [hb] at hM2; cases hM2
      rw [hlen]
      refine .own _ _ _ _ (by simpa using hbl) (by simp [verOf, hlt, Ob.ver]) fun _ => .inl ⟨cap, _, _, _, List.getElem?_set_self hlt, rfl, k1, k2, ?_⟩
      rw [rowC_length h1, hlen]
      exact Nat.le_refl _
    · rw [hb] at hM2; cases hM2
theorem H_trunc {t et : TypeId} {M M1 : Mem} {b n : Nat} {kk : IntKind} {hi : Int} (hv : w.view = .bld false t 2 [(0, .own b n ver), (1, .pd (.int kk hi))] M) (h1 : LVok lv sz) (hu : P.underlying t = some (.slice et)) (hz : szOf P et = some sz) (hb : M[b]? = some o) (hr : RowIs o lv sz e ver false) (hn : n = e.length) (h0 : 0 < hi ∧ hi ≤ e.length) (hM : M.set b (.cells (rowC lv (e.take hi.toNat)) sz (ver + 1) false) = M1)
    (h : (w.back (.own b (e.take hi.toNat).length (ver + 1)) M1).holds P GT Q) : w.holds P GT Q :=
  H_bld _ M1 hv (trunc_ok h1 hu hz hb hr hn h0 hM) h
theorem H_truncV {t et : TypeId} {M M1 : Mem} {b n : Nat} {kk : IntKind} {hi : Int} (hv : w.view = .bld false t 2 [(0, .own b n ver), (1, .pd (.int kk hi))] M) (h1 : LVok lv sz) (hu : P.underlying t = some (.slice et)) (hz : szOf P et = some sz) (hb : M[b]? = some o) (hr : RowIs o lv sz e ver false) (hn : n = e.length) (h0 : 0 < hi ∧ hi ≤ e.length) (hM : M.set b (rowV lv sz (e.take hi.toNat) (ver + 1) false) = M1)
    (h : (w.back (.own b (e.take hi.toNat).length (ver + 1)) M1).holds P GT Q) : w.holds P GT Q := by
  refine H_trunc (M1 := M1) hv h1 hu hz hb hr hn h0 ?_ h
  rw [← hM]
  have : e.take hi.toNat ≠ [] := fun h' => by
    have hl := congrArg List.length h'
    rw [List.length_take, List.length_nil] at hl
    omega
  cases he : e.take hi.toNat with
  | nil => exact absurd he this
  | cons x l => rfl
theorem byte_rows {lv : Int → List PD} (hlv : ∀ z, lv z = [.int .u8 z]) : ∀ e : List Int, (rowC lv e).mapM byteOf? = some (byteS e)
  | [] => rfl
  | z :: e => by
    have := byte_rows hlv e
    rw [rowC_cons, hlv]
    simp [byteOf?, this, byteS]
theorem lenSl_own {M : Mem} {b n : Nat} (hM : M[b]? = some o) (hr : RowIs o lv sz e ver z) : ∃ m, lenSl M (.own b n ver) = some m := ⟨n, by simp [lenSl, verOf, hM, hr.isRow.2]⟩
theorem ask_bstr {src dst et : TypeId} {M : Mem} {x : AV} {lv : Int → List PD} {e : List Int} (hs : P.underlying src = some (.slice et)) (hd : P.underlying dst = some .string) (he : P.underlying et = some (.int .u8)) (hsrc : Src M 1 x lv e) (hlv : ∀ z, lv z = [.int .u8 z]) (hl : ∃ m, lenSl M x = some m) :
    (aConv P M src dst x).map (·, M) = some (.pd (.str (byteS e)), M) := by
  obtain ⟨m, hm⟩ := hl
  have h : srcCells M 1 x = some (rowC lv e, e.length) := hsrc
  unfold aConv
  rw [hs, hd]
  simp only [he, h, hm, byte_rows hlv e]
  rfl
def askO (L : List Nat) (v : Bool) (O : List Nat) : Op → Bool
  | .buildSlice t _ _ => O.any (Nat.beq t)
  | o => askG L v o
def unr (P : Program) (GT : Tabs) (q : Op → Bool) (ro : Option Nat) (x : Code) (k : Exit → S → W) : Nat → S → W
  | 0, _ => .fail
  | n + 1, s => wc P GT q ro x s fun e s' => match e with | .normal => unr P GT q ro x k n s' | e => k e s'
attribute [irreducible] unr
theorem ask_aidx {P : Program} {t e : TypeId} {n : Nat} {M : Mem} {k : IntKind} {α : Type} (f : α → PD) (l : List α) {z : Int} {x : α} (hu : P.underlying t = some (.array n e)) (ha : aggT P e = some false) (hs : szOf P e = some 1) (hl : l.length = n) (h : Idx l z x) :
    (aIndex P t (.agg (l.map fun a => .pd (f a))) (.pd (.int k z))).map (·, M) = some (.pd (f x), M) := by
  obtain ⟨h0, hx⟩ := h
  have hlt := (List.getElem?_eq_some_iff.1 hx).1
  have hi : idx z n = some z.toNat := by simp [idx]; omega
  have e1 : aIndexA P n e (.agg (l.map fun a => .pd (f a))) z = some (.pd (f x)) := by
    unfold aIndexA
    rw [hs]
    simp only [AV.parts, hi, Option.bind_some, Nat.mul_one, aPart, ha]
    simp [hx]
  unfold aIndex
  rw [hu]
  simp only [AV.int?, e1]
  rfl
end Go.Abs
end

section
namespace Go.Abs
open Go.RowKit
set_option linter.unusedVariables false
set_option linter.unusedSimpArgs false
variable {P : Program} {GT : Tabs} {ro : Option Nat} {Q : Exit → S → Prop}
theorem mpEntL_app : ∀ (l : List (List UInt8 × Int)) (p : List UInt8 × Int) (n : Nat), mpEntL n (l ++ [p]) = mpEntL n l ++ [{ key := strV p.1, val := .int .i64 p.2, born := n + l.length }]
  | [], p, n => rfl
  | q :: l, p, n => by
    rw [List.cons_append, mpEntL, mpEntL_app l p (n + 1), mpEntL, List.cons_append, List.length_cons, show n + 1 + l.length = n + (l.length + 1) from by omega]
theorem mpEnt_push (l : List (List UInt8 × Int)) (p : List UInt8 × Int) : (mpEnt l).push { key := strV p.1, val := .int .i64 p.2, born := l.length } = mpEnt (l ++ [p]) := by
  unfold mpEnt; rw [mpEntL_app]; simp
theorem run_ins {t k e : TypeId} {w : World} {r : Nat} {l : List (List UInt8 × Int)} {s : List UInt8} {v : Int} (ht : P.underlying t = some (.map k e)) (hk : P.underlying k = some .string) (hw : w.heap[r]? = some (.map (mpEnt l) l.length)) (hn : (l.find? fun p => p.1 == s) = none) :
    (Instr.mapUpdate t (.map (some r)) (strV s) (.int .i64 v)).run P w = .ok () { w with heap := w.heap.setIfInBounds r (.map (mpEnt (l ++ [(s, v)])) (l ++ [(s, v)]).length) } := by
  obtain ⟨j, hj⟩ := find_mp s l 0 0
  rw [hn] at hj
  have hf : (Instr.findKey k (strV s) (mpEnt l).toList).run P w = .ok none w := MapKept.run_findKey hk (by simpa [mpEnt] using hj)
  have hc : ∀ em, (Instr.checkKey em 10000 k (strV s)).run P w = .ok () w := fun em => MapKept.run_checkKey (n := 9999) hk (by simp [strV, MapKept.IsKey]) em
  simp [Instr.mapUpdate, run_underlying ht, MapKept.run_getObj_map hw, hc, hf, Result.andThen, MapKept.run_setObj_map _ hw, ← mpEnt_push]
def insOf (t : TypeId) (d : Tmp) : List Oper → Option (List (List UInt8 × Int))
  | [] => some []
  | o :: r =>
    match o.guard, o.dst, o.op with
    | none, none, .insert t' (.tmp d') (.const (.string s)) (.const (.int .i64 v)) => if t' = t ∧ d' = d then (insOf t d r).map ((s.data.toList, v) :: ·) else none
    | _, _, _ => none
theorem wanted_none {o : Oper} {T : Array Value} (h : o.guard = none) {ops : Array Oper} : Region.wanted o (yielded ops T) = true := by
  simp [Region.wanted, h]
theorem ins_run {F : Fence} {n : Nat} {ops : Array Oper} {QQ : Exit → Act → World → Prop} {t k e : TypeId} {d : Tmp} {r : Nat} (hF : ∀ f, F.fn f) (ht : P.underlying t = some (.map k e)) (hk : P.underlying k = some .string) (rest : List Oper) : ∀ (is : List Oper) (m l : List (List UInt8 × Int)) (a : Act) (w : World), insOf t d is = some m →
    a.eval (.tmp d) = .map (some r) → w.heap[r]? = some (.map (mpEnt l) l.length) → ((l ++ m).map (·.1)).Nodup →
    (∀ w' : World, w'.heap[r]? = some (.map (mpEnt (l ++ m)) (l ++ m).length) → (∀ b, b ≠ r → w'.heap[b]? = w.heap[b]?) → w'.heap.size = w.heap.size → w'.os = w.os → w'.tape = w.tape → w'.output = w.output → wpListIn F n P ops QQ rest a w') → wpListIn F n P ops QQ (is ++ rest) a w
  | [], m, l, a, w, hi, ha, hw, hnd, h => by
    simp only [insOf, Option.some.injEq] at hi
    subst hi
    rw [List.append_nil] at h
    exact h w hw (fun _ _ => rfl) rfl rfl rfl rfl
  | o :: is, m, l, a, w, hi, ha, hw, hnd, h => by
    unfold insOf at hi
    split at hi
    · rename_i t' d' s v hg hd ho
      split at hi
      · rename_i hc
        obtain ⟨rfl, rfl⟩ := hc
        rw [Option.map_eq_some_iff] at hi
        obtain ⟨m', hm, rfl⟩ := hi
        have hs : strV s.data.toList = .string s := by obtain ⟨x⟩ := s; simp [strV]
        have hfind : (l.find? fun p => p.1 == s.data.toList) = none := by
          rw [List.find?_eq_none]
          intro p hp hps
          have hps : p.1 = s.data.toList := by simpa using hps
          rw [List.map_append, List.nodup_append] at hnd
          exact hnd.2.2 p.1 (List.mem_map_of_mem hp) p.1 (by simp [hps]) rfl
        have hrun := run_ins (v := v) ht hk hw hfind
        rw [hs] at hrun
        have hlt : r < w.heap.size := (Array.getElem?_eq_some_iff.1 hw).1
        rw [List.cons_append]
        unfold wpListIn
        rw [wanted_none hg, if_pos rfl]
        have e1 : (o.semAt F.round a.eval).run P w = .ok .skip { w with heap := w.heap.setIfInBounds r (.map (mpEnt (l ++ [(s.data.toList, v)])) (l ++ [(s.data.toList, v)]).length) } := by
          rw [Oper.semAt_eq _ _ _ (by intro k e; rw [e] at ho; cases ho)]
          have ec : a.eval (.const (.string s)) = .string s := rfl
          have ec2 : a.eval (.const (.int .i64 v)) = .int .i64 v := rfl
          simp [execOp, ho, ha, ec, ec2, hrun]
        refine ⟨fun f _ => hF f, ?_⟩
        rw [e1]
        have ea : a.put o.dst undef = a := by rw [hd]; rfl
        have ih := ins_run (QQ := QQ) (n := n) (ops := ops) hF ht hk rest is m' (l ++ [(s.data.toList, v)]) a { w with heap := w.heap.setIfInBounds r (.map (mpEnt (l ++ [(s.data.toList, v)])) (l ++ [(s.data.toList, v)]).length) } hm ha (by simp [hlt]) (by simpa using hnd) (fun w' h1 h2 h3 h4 h5 h6 => by
          refine h w' (by simpa using h1) (fun b hb => ?_) (by rw [h3]; simp) h4 h5 h6
          rw [h2 b hb]
          simp [Ne.symm hb])
        simpa [Oper.uponIn, ea] using ih
      · cases hi
    · cases hi
theorem AL_mkmap {ops : Array Oper} {o : Oper} {is rest : List Oper} {t k e : TypeId} {d : Tmp} {m : List (List UInt8 × Int)} {s : S} (hg : o.guard = none) (hd : o.dst = some d) (ho : o.op = .makeMap t none) (hi : insOf t d is = some m) (ht : P.underlying t = some (.map k e)) (hk : P.underlying k = some .string) (hnd : (m.map (·.1)).Nodup)
    (hdT : d < s.T.length) (h : AL P GT ro ops rest ⟨aput s.T (some d) (.pd (.mp m)), s.M, s.D⟩ Q) : AL P GT ro ops (o :: (is ++ rest)) s Q := by
  intro B I0 c a w n hR hob
  unfold wpListIn
  rw [wanted_none hg, if_pos rfl]
  have e1 : (o.semAt (fen c ro).round a.eval).run P w = .ok (.value (.map (some w.heap.size))) (w.alloc (.map #[] 0)) := by
    rw [Oper.semAt_eq _ _ _ (by intro k e; rw [e] at ho; cases ho)]
    simp [execOp, ho, Instr.makeMap, Result.andThen]
  refine ⟨fun f _ => fen_fn _ _ _, ?_⟩
  rw [e1]
  simp only [Oper.uponIn]
  rw [hd]
  show wpListIn (fen c ro) n P ops _ (is ++ rest) (a.put (some d) (.map (some w.heap.size))) (w.alloc (.map #[] 0))
  have hsz := hR.tmps.1
  have ha : (a.put (some d) (.map (some w.heap.size))).eval (.tmp d) = .map (some w.heap.size) := by
    have : d < a.tmps.size := Nat.lt_of_lt_of_le hdT hsz
    simp [Act.put, Act.eval, this]
  refine ins_run (l := []) (fun f => fen_fn _ _ _) ht hk rest is m (a.put (some d) (.map (some w.heap.size))) _ hi ha (by exact World.alloc_heap_new _ _) (by simpa using hnd) ?_
  intro w' h1 h2 h3 h4 h5 h6
  have hal : (w.alloc (.map #[] 0)).heap.size = w.heap.size + 1 := by show (w.heap.push _).size = _; simp
  have hbel : Below w.heap.size w w' := ⟨h4, h5, h6, by omega, fun b hb => by
    rw [h2 b (by omega)]
    show (w.heap.push _)[b]? = _
    rw [Array.getElem?_push, if_neg (by omega)]⟩
  have hG := hR.sim.grown hbel
  have he : Ext c s.M (c.grown w w') s.M := Ext.grown _ _ _
  have hs := Stp.grown hR.sim.hB hR.sim.immlt hbel
  have hv : ARep (c.grown w w') s.M w' (.map (some w.heap.size)) (.pd (.mp m)) := .pd _ _ (.mp _ _ (.inr ⟨Nat.le_refl _, by omega⟩) (by simpa using h1))
  have hR' := hR.step hG he hs (some d) hv
  have := h B I0 (c.grown w w') _ w' n hR' (fun l hl => he.obj l (hob l hl))
  rw [fen_ext he hob] at this
  exact wpListIn_mono2 (fun e a u h => Aft.from he hs h) _ _ _ this
end Go.Abs
end

section
namespace Go.Abs
open Go.RowKit Go.Proofs
variable {P : Program} {GT : Tabs} {w : W} {Q : Exit → S → Prop} {α : Type}
def W.adv : Nat → W → W
  | 0, w => w
  | n + 1, .ask (some (x, M)) k => W.adv n (k x M)
  | _ + 1, _ => .fail
theorem QK (n : Nat) (h : (w.adv n).holds P GT Q) : w.holds P GT Q := by
  induction n generalizing w with
  | zero => exact h
  | succ n ih =>
    cases w with
    | ask t k =>
      cases t with
      | none => exact (fail_holds (Q := Q) h).elim
      | some z =>
        obtain ⟨x, M⟩ := z
        have e : W.holds P GT Q ((W.ask (some (x, M)) k).back x M) = W.holds P GT Q (k x M) := by kernel_rfl
        exact H_ask x M (by kernel_rfl) rfl (e ▸ ih (w := k x M) h)
    | _ => exact (fail_holds (Q := Q) h).elim
theorem QP (b : Bool) (h1 : b = true → (w.br true).holds P GT Q) (h2 : b = false → (w.br false).holds P GT Q) (hv : w.view = .split b := by kernel_rfl) : w.holds P GT Q := H_split b hv h1 h2
theorem QL (M : Mem) (t et : TypeId) (el : α → PD) (e : List α) (h : (w.back (.pd (.int .i64 (e.length : Int))) M).holds P GT Q) (hv : w.view = .ask ((aLen P M t (.pd (.sl (e.map el)))).map (·, M)) := by kernel_rfl) (hu : P.underlying t = some (.slice et) := by kernel_rfl) : w.holds P GT Q := H_ask _ _ hv (ask_len hu) h
theorem QI (M : Mem) (t et : TypeId) (k : IntKind) {el : α → PD} {lv : α → List PD} {s : Nat} (h1 : LVok lv s) (h2 : ELok el lv) {e : List α} {z : Int} {x : α} (h : Idx e z x) (hh : (w.back (.rd (lv x)) M).holds P GT Q) (hv : w.view = .ask ((aIndexAddr P M t (.pd (.sl (e.map el))) (.pd (.int k z))).map (·, M)) := by kernel_rfl) (hu : P.underlying t = some (.slice et) := by kernel_rfl) (hz : szOf P et = some s := by kernel_rfl) : w.holds P GT Q := H_ask _ _ hv (ask_idx h1 h2 hu hz h) hh
theorem QS (M : Mem) (t et : TypeId) (lo hi : Option Int) {el : α → PD} {lv : α → List PD} {s : Nat} (h1 : LVok lv s) (h2 : ELok el lv) {e : List α} (h : SubOk e (loOf lo) (hiOf e.length hi)) (hh : (w.back (.pd (.sl ((sub e (loOf lo) (hiOf e.length hi)).map el))) M).holds P GT Q) (hv : w.view = .ask ((aSlice P M t (.pd (.sl (e.map el))) (lo.map fun z => .pd (.int .i64 z)) (hi.map fun z => .pd (.int .i64 z)) none).map (·, M)) := by kernel_rfl) (hu : P.underlying t = some (.slice et) := by kernel_rfl) (hz : szOf P et = some s := by kernel_rfl) : w.holds P GT Q := H_ask _ _ hv (ask_sub h1 h2 hu hz h) hh
theorem QA (M : Mem) (b : Nat) (e e2 : List α) (ver sT xT by_ : Nat) {lv : α → List PD} {s n : Nat} {x : AV} (h1 : LVok lv s) (hs : Src M s x lv e2) (hn : n = e.length) (hf : Fits (e.length + e2.length) by_) (hh : (w.back (.own b (e ++ e2).length (vnext e e2 ver)) (M.set b (rowV lv s (e ++ e2) (vnext e e2 ver) false))).holds P GT Q) (hv : w.view = .ask (aAppend P M sT xT (.own b n ver) x) := by kernel_rfl) (hi : RowInfoOk P sT xT s by_ = true := by kernel_rfl) (hM : M[b]? = some (rowV lv s e ver false) := by kernel_rfl) : w.holds P GT Q := H_ask _ _ hv (ask_appV h1 hi hs hM hn hf) hh
def cellsAt (M : Mem) (b : Nat) : List AV := match M[b]? with | some (.cells l _ _ _) => l | _ => []
theorem QC (M : Mem) (t : TypeId) (b off v n s : Nat) (xs : List AV) (x : AV) (hok : xs.all (·.okCell M) = true) (hh : (w.back .junk (M.set b (.cells ((cellsAt M b).take off ++ xs ++ (cellsAt M b).drop (off + n)) s v false))).holds P GT Q) (hv : w.view = .ask ((aStore P M t (.ptr b off v) x).map (AV.junk, ·)) := by kernel_rfl) (hb : M[b]? = some (.cells (cellsAt M b) s v false) := by kernel_rfl) (hn : szOf P t = some n := by kernel_rfl) (hx : x.cells = some xs := by kernel_rfl) (hl : (Nat.beq xs.length n && Nat.ble (off + n) (cellsAt M b).length) = true := by kernel_rfl) : w.holds P GT Q := H_ask _ _ hv (ask_storeC hb hn hx hl hok rfl) hh
def W.cM : W → Mem | .call _ _ M _ => M | .dcall _ _ M _ => M | _ => []
theorem QV {g : FuncId} {args : List AV} {x : AV} (hc : ASpec Tryz.prog GT g args (· = x)) (h : (w.back x w.cM).holds Tryz.prog GT Q) (hv : w.view = .call g args w.cM := by kernel_rfl) (hk : args.map wk = args := by kernel_rfl) (hp : args.all pur2 = true := by kernel_rfl) (he : hasBody Tryz.prog g = true := by kernel_rfl) : w.holds Tryz.prog GT Q := H_valW x (.inl hv) hk hc hp (hasT g he) h
theorem QVd {g : FuncId} {args : List AV} {x : AV} (hc : ASpec Tryz.prog GT g args (· = x)) (h : (w.back x w.cM).holds Tryz.prog GT Q) (hv : w.view = .dcall g args w.cM := by kernel_rfl) (hk : args.map wk = args := by kernel_rfl) (hp : args.all pur2 = true := by kernel_rfl) (he : hasBody Tryz.prog g = true := by kernel_rfl) : w.holds Tryz.prog GT Q := H_valW x (.inr hv) hk hc hp (hasT g he) h
theorem QO (M : Mem) (t et : TypeId) (lv : α → List PD) (s b : Nat) (e : List α) (ver : Nat) {n : Nat} (hn : n = e.length) (h : (w.back (.pd (.int .i64 (e.length : Int))) M).holds P GT Q) (hv : w.view = .ask ((aLen P M t (.own b n ver)).map (·, M)) := by kernel_rfl) (hu : P.underlying t = some (.slice et) := by kernel_rfl) (hM : M[b]? = some (rowV lv s e ver false) := by kernel_rfl) : w.holds P GT Q := H_ask _ _ hv (ask_olen hu hM (rowIs_v' (z := false)) hn) h
theorem QOc (M : Mem) (t et : TypeId) (lv : α → List PD) (s b : Nat) (e : List α) (ver : Nat) {n : Nat} (hn : n = e.length) (h : (w.back (.pd (.int .i64 (e.length : Int))) M).holds P GT Q) (hv : w.view = .ask ((aLen P M t (.own b n ver)).map (·, M)) := by kernel_rfl) (hu : P.underlying t = some (.slice et) := by kernel_rfl) (hM : M[b]? = some (.cells (rowC lv e) s ver false) := by kernel_rfl) : w.holds P GT Q := H_ask _ _ hv (ask_olen hu hM (rowIs_c (z := false)) hn) h
theorem QJ (M : Mem) (t et : TypeId) (k : IntKind) (lv : α → List PD) (s b : Nat) (e : List α) (ver : Nat) {n : Nat} {i : Int} {x : α} (hn : n = e.length) (hx : Idx e i x) (h : (w.back (.ptr b (i.toNat * s) ver) M).holds P GT Q) (hv : w.view = .ask ((aIndexAddr P M t (.own b n ver) (.pd (.int k i))).map (·, M)) := by kernel_rfl) (hu : P.underlying t = some (.slice et) := by kernel_rfl) (hz : szOf P et = some s := by kernel_rfl) (hM : M[b]? = some (rowV lv s e ver false) := by kernel_rfl) : w.holds P GT Q := H_ask _ _ hv (ask_oidx hu hz hM (rowIs_v' (z := false)) hn hx) h
theorem QJc (M : Mem) (t et : TypeId) (k : IntKind) (lv : α → List PD) (s b : Nat) (e : List α) (ver : Nat) {n : Nat} {i : Int} {x : α} (hn : n = e.length) (hx : Idx e i x) (h : (w.back (.ptr b (i.toNat * s) ver) M).holds P GT Q) (hv : w.view = .ask ((aIndexAddr P M t (.own b n ver) (.pd (.int k i))).map (·, M)) := by kernel_rfl) (hu : P.underlying t = some (.slice et) := by kernel_rfl) (hz : szOf P et = some s := by kernel_rfl) (hM : M[b]? = some (.cells (rowC lv e) s ver false) := by kernel_rfl) : w.holds P GT Q := H_ask _ _ hv (ask_oidx hu hz hM (rowIs_c (z := false)) hn hx) h
theorem QZ {t : Option (AV × Mem)} {x : AV} {M : Mem} (ht : t = some (x, M)) (h : (w.back x M).holds P GT Q) (hv : w.view = .ask t := by kernel_rfl) : w.holds P GT Q := H_ask x M hv ht h
theorem QB {b : Bool} {A B : Prop} (hi : IfB b A B) (h1 : A → (w.br true).holds P GT Q) (h2 : B → (w.br false).holds P GT Q) (hv : w.view = .split b := by kernel_rfl) : w.holds P GT Q := H_split b hv (fun e => h1 (hi.t e)) (fun e => h2 (hi.f e))
theorem QBp {b : Bool} {A B : Prop} (hi : IfB b A B) (h1 : b = true → A → (w.br true).holds P GT Q) (h2 : b = false → B → (w.br false).holds P GT Q) (hv : w.view = .split b := by kernel_rfl) : w.holds P GT Q := H_split b hv (fun e => h1 e (hi.t e)) (fun e => h2 e (hi.f e))
theorem QE {fn : Func} {x : AV} (e : Exit) (hv : w.view = .done e := by kernel_rfl) (he : endOk e = true := by kernel_rfl) (hr : endVal P fn w.stS = some x := by kernel_rfl) : w.holds P GT (EndQ P fn (· = x)) := H_end e x hv he hr rfl
theorem QX {fn : Func} {x : AV} (e : Exit) (rv : AV) (M : Mem) (hp : pure3 M rv = some x) (hv : w.view = .done e := by kernel_rfl) (he : endOk e = true := by kernel_rfl) (hr : resOf P fn w.stS.T (shut w.stS.M w.stS.D) = some rv := by kernel_rfl) (hM : shut w.stS.M w.stS.D = M := by kernel_rfl) : w.holds P GT (EndQ P fn (· = x)) := H_endX e rv x M hv he hr hM hp rfl
theorem QT {fn : Func} {el : α → PD} {lv : α → List PD} {s n : Nat} {e : List α} {fl : Bool} (ex : Exit) (h1 : LVok lv s) (hg : ELg el lv s) (b ver : Nat) (hn : n = e.length) (hv : w.view = .done ex := by kernel_rfl) (he : endOk ex = true := by kernel_rfl) (hr : resOf P fn w.stS.T (shut w.stS.M w.stS.D) = some (.tup [.own b n ver, .pd (.bool fl)]) := by kernel_rfl) (hs : Nat.blt 0 s = true := by kernel_rfl) (hM : (shut w.stS.M w.stS.D)[b]? = some (rowV lv s e ver false) := by kernel_rfl) : w.holds P GT (EndQ P fn (· = .tup [.pd (.sl (e.map el)), .pd (.bool fl)])) :=
  H_endX ex _ _ _ hv he hr rfl (pure_tup (pl_cons (pure_1to2 (pure1_own h1 (Nat.le_of_ble_eq_true hs) hg hM rowIs_v' hn) rfl) (pl_cons rfl pl_nil))) rfl
variable {σ γ : Type} {w0 : W} {n m : Nat} {st : σ → γ → List (Nat × AV)} {mm : σ → γ → Mem} {I : σ → γ → Prop} {D : List Nat} {X : σ → Prop}
theorem QG {a : σ} (g : γ) (hX : X a) (hI : I a g) (hv : w.view = .done .normal := by kernel_rfl) (hn : w.stS.T.length = n := by kernel_rfl) (hT : pickW w.stS.T ((st a g).map (·.1)) = ((st a g).map fun p => some p.2) := by kernel_rfl) (hM : w.stS.M = mm a g := by kernel_rfl) (hD : w.stS.D = D := by kernel_rfl) : w.holds P GT (RndP P GT Q w0 n m st mm I D X) := H_againP a g hX hI hv hn hT hM hD
theorem QGC {a : σ} (g : γ) (hX : X a) (hI : I a g) (hb : (mm a g).all (belO m) = true) (hv : w.view = .done .normal := by kernel_rfl) (hn : w.stS.T.length = n := by kernel_rfl) (hT : pickW w.stS.T ((st a g).map (·.1)) = ((st a g).map fun p => some p.2) := by kernel_rfl) (hD : w.stS.D = D := by kernel_rfl) (hl : Nat.ble m w.stS.M.length = true := by kernel_rfl) (hM : w.stS.M.take m = mm a g := by kernel_rfl) (hs : (st a g).all (fun p => bel3 m p.2) = true := by kernel_rfl) (hd : D.all (fun d => Nat.blt d m) = true := by kernel_rfl) : w.holds P GT (RndP P GT Q w0 n m st mm I D X) := H_againC a g hX hI hv hn hT hD hl hM hb hs hd
def noN : Exit → Bool | .normal => false | _ => true
theorem QR (e : Exit) (h : (w0.go e w.stS).holds P GT Q) (hv : w.view = .done e := by kernel_rfl) (hne : noN e = true := by kernel_rfl) : w.holds P GT (RndP P GT Q w0 n m st mm I D X) := by
  cases e <;> first | exact H_leaveP _ hv rfl h | cases hne
theorem QD (h : w.on.holds P GT Q) (hv : w.view = .draw true := by kernel_rfl) : w.holds P GT Q := H_draw hv h
theorem ask_ofld {M : Mem} {st : TypeId} {f b off fo k s ver : Nat} {o : Ob} {lv : α → List PD} {e : List α} {z : Bool} (h1 : (fieldOf P st f).map (fun fl => (szOf P fl.type, fl.offset)) = some (some (k + 1), fo)) (hM : M[b]? = some o) (hr : RowIs o lv s e ver z) : (aFieldAddr P M st (.ptr b off ver) f).map (·, M) = some (.ptr b (off + fo) ver, M) := by
  have hv : verOf M b = ver := by rw [verOf_some hM, hr.ver]
  unfold aFieldAddr
  cases hf : fieldOf P st f with
  | none => rw [hf] at h1; cases h1
  | some fl =>
    rw [hf] at h1
    simp only [Option.map_some, Option.some.injEq, Prod.mk.injEq] at h1
    simp only [h1.1, h1.2, if_pos hv]; rfl
theorem po {M : Mem} {el : α → PD} {lv : α → List PD} {s : Nat} (h1 : LVok lv s) (hg : ELg el lv s) (b : Nat) (e : List α) (ver n : Nat) (hn : n = e.length) (hs : Nat.blt 0 s = true := by kernel_rfl) (hM : M[b]? = some (rowV lv s e ver false) := by kernel_rfl) : pure1 M (.own b n ver) = some (.pd (.sl (e.map el))) := pure1_own h1 (Nat.le_of_ble_eq_true hs) hg hM rowIs_v' hn
def Pre (M0 M : Mem) : Prop := ∃ RR : Mem, M = M0 ++ RR
theorem Dq : (∀ (p : Prop) [Decidable p], decide p = true ↔ p) ∧ (∀ (p : Prop) [Decidable p], decide p = false ↔ ¬ p) ∧ (∀ a b : Int, (a == b) = true ↔ a = b) ∧ (∀ a b : Int, (a == b) = false ↔ ¬ a = b) ∧ (∀ a b : Int, (a != b) = true ↔ ¬ a = b) ∧ (∀ a b : Int, (a != b) = false ↔ a = b) := by
  refine ⟨fun p _ => by simp, fun p _ => by simp, fun a b => by simp, fun a b => by simp, fun a b => by simp, fun a b => by simp⟩
end Go.Abs
end

section
namespace Go.Abs
open Go
def strings_CutPrefix (s p : List UInt8) (r : List UInt8 × Bool) : Prop := r = (Lib.trimPrefix s p, Lib.hasPrefix s p)
end Go.Abs
end

section
namespace Go.Abs
def slices_Clone_nat_Nat_uint32 (l r : List Int) : Prop := Fits l.length 4 ∧ r = l
end Go.Abs
end
