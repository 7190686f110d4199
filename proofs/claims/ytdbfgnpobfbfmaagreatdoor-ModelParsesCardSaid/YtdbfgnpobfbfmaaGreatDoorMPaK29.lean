/- Part of a proof, in few files: Abs30. -/
import Derived.Test.YtdbfgnpobfbfmaaGreatDoorMPaK23

section
namespace Go.Abs
open Go.RowKit Go.Proofs
set_option linter.unusedVariables false
set_option linter.unusedSimpArgs false
variable {P : Program} {GT : Tabs} {Q : Exit → S → Prop} {w : W}
def bldV (P : Program) (t : TypeId) (j b : Nat) (M : Mem) (parts : List (Nat × AV)) : Option AV :=
  match (zeroOf P t).bind AV.cells, P.underlying t with
  | some zs, some (.struct fs) =>
    match zs[j]?, M[b]? with
    | some (.fixed []), some (.vrow _ ver') =>
      if zs.all (·.okCell M) then (placesOf P fs).bind fun pl => (afill M (pl.toArray[·]?) (zs.set j (.own b 0 ver')) parts).map .agg else none
    | _, _ => none
  | _, _ => none
def VStep (M M1 : Mem) : Prop := ∀ (B : Nat) (I0 : Nat → Prop) (c : Ctx) (w : World), Sim B I0 c M w → Sim B I0 c M1 w ∧ Ext c M c M1
theorem VStep.new (M : Mem) (sz : Nat) : VStep M (M ++ [.vrow sz 0]) := fun _ _ _ _ h => h.pushV sz 0
theorem VStep.reset {M : Mem} {b sz ver : Nat} {o : Ob} (hb : M[b]? = some o) (hr : o.isRow = true) (hv : o.ver < ver) : VStep M (M.set b (.vrow sz ver)) := by
  intro B I0 c w hS
  have hlt := (List.getElem?_eq_some_iff.1 hb).1
  have ne : ∀ i, i ≠ b → (M.set b (.vrow sz ver))[i]? = M[i]? := fun i hi => List.getElem?_set_ne (fun e => hi e.symm)
  have at_ : (M.set b (.vrow sz ver))[b]? = some (.vrow sz ver) := List.getElem?_set_self hlt
  have vb : verOf M b = o.ver := by simp [verOf, hb]
  have vb2 : verOf (M.set b (.vrow sz ver)) b = ver := by simp [verOf, at_, Ob.ver]
  have vn : ∀ i, i ≠ b → verOf (M.set b (.vrow sz ver)) i = verOf M i := fun i hi => by simp [verOf, ne i hi]
  have he : Ext c M c (M.set b (.vrow sz ver)) := by
    refine ⟨⟨by simp, fun i hi => ?_, fun i hi e => ?_, fun i hi => ?_⟩, fun i t hi => ?_⟩
    · by_cases e : i = b
      · subst e; rw [vb, vb2]; omega
      · rw [vn i e]; exact Nat.le_refl _
    · by_cases e2 : i = b
      · subst e2; rw [vb, vb2] at e; omega
      · exact ⟨rfl, rfl, by rw [ne i e2]⟩
    · obtain ⟨p, hp, hr2⟩ := hi
      have : i ≠ b := fun e => by subst e; rw [hb] at hp; cases hp; rw [hr] at hr2; cases hr2
      exact ⟨p, by rw [ne i this]; exact hp, hr2⟩
    · have : i ≠ b := fun e => by subst e; rw [hb] at hi; cases hi; cases hr
      rw [ne i this]; exact hi
  have hreal : ∀ i, real (M.set b (.vrow sz ver)) i → real M i ∧ i ≠ b := fun i hi => by
    obtain ⟨p, hp, hv2⟩ := hi
    by_cases e : i = b
    · subst e; rw [at_] at hp; cases hp; cases hv2
    · exact ⟨⟨p, by rw [← ne i e]; exact hp, hv2⟩, e⟩
  refine ⟨⟨fun i hi => hS.blkB i (hreal i hi).1, fun i j hi hj => hS.inj i j (hreal i hi).1 (hreal j hj).1, hS.imm0, hS.immB, hS.immlt, fun i p hp hz hv2 => ?_, fun i p hp => ?_, hS.hB⟩, he⟩
  · by_cases e : i = b
    · subst e; rw [at_] at hp; cases hp; cases hv2
    · rw [ne i e] at hp; exact hS.sep i p hp hz hv2
  · by_cases e : i = b
    · subst e; rw [at_] at hp; cases hp; trivial
    · rw [ne i e] at hp
      exact (hS.obj i p hp).mono he.toExt0 (Stp.refl B c w) rfl rfl fun _ => rfl
theorem PartsRep.mono {B : Nat} {c c' : Ctx} {M M' : Mem} {u u' : World} (he : Ext c M c' M') (hs : Stp B c u c' u') : ∀ {vs : List (Nat × Value)} {xs : List (Nat × AV)}, PartsRep c M u vs xs → PartsRep c' M' u' vs xs
  | [], [], _ => trivial
  | (i, v) :: vs, (j, x) :: xs, ⟨h1, h2, h3⟩ => ⟨h1, h2.mono he hs, PartsRep.mono he hs h3⟩
  | [], _ :: _, h => h.elim
  | _ :: _, [], h => h.elim
theorem zLeaf_nil {y : Value} (h : zLeaf y = some (.fixed [])) : y = .slice none 0 0 := by
  unfold zLeaf at h
  split at h <;> simp at h
  rfl
theorem zcell_nil {v y : Value} {z : AV} {zs : List AV} {j : Nat} (h2 : zAV v = some z) (hzs : z.cells = some zs) (hj : zs[j]? = some (.fixed [])) (hy : v.cells[j]? = some y) : y = .slice none 0 0 := by
  by_cases hv : ∃ cs, v = .agg cs
  · obtain ⟨cs, rfl⟩ := hv
    simp only [zAV, Option.map_eq_some_iff] at h2
    obtain ⟨l, hl, rfl⟩ := h2
    obtain ⟨h1, h2⟩ := mapM_some hl
    cases hzs
    obtain ⟨b, q1, q2⟩ := h2 j y (by simpa [Value.cells] using hy)
    rw [hj] at q1; cases q1
    exact zLeaf_nil q2
  · have e : zAV v = zLeaf v := by cases v <;> first | rfl | (exact absurd ⟨_, rfl⟩ hv)
    rw [e] at h2
    have hz1 : z.cells = some [z] := by
      unfold zLeaf at h2
      split at h2 <;> first | (cases h2; rfl) | cases h2
    rw [hz1] at hzs
    cases hzs
    have e2 : v.cells = #[v] := by cases v <;> first | rfl | (exact absurd ⟨_, rfl⟩ hv)
    rw [e2] at hy
    cases j with
    | zero =>
      simp at hj hy
      subst hj; subst hy
      exact zLeaf_nil h2
    | succ j => simp at hj
theorem bldV_ok {t : TypeId} {j b : Nat} {M M1 : Mem} {parts : List (Nat × AV)} {x : AV} (hv : VStep M M1) (h : bldV P t j b M1 parts = some x) : BldOK P false t 0 parts M x M1 := by
  intro B I0 c u ps hS0 hp0
  obtain ⟨hS, hE⟩ := hv B I0 c u hS0
  have hp := PartsRep.mono hE (Stp.refl B c u) hp0
  unfold bldV at h
  cases hz : zeroOf P t with
  | none => simp [hz] at h
  | some z =>
  cases hzs : z.cells with
  | none => simp [hz, hzs] at h
  | some zs =>
  simp only [hz, Option.bind_some, hzs] at h
  obtain ⟨v, h1, h2⟩ := zeroOf_ok hz u
  have h3 := (zAV_ok (c := c) (M := M1) (w := u) h2).1
  cases hu : P.underlying t with
  | none => simp [hu] at h
  | some d =>
  rw [hu] at h
  cases d with
  | struct fs =>
    simp only at h
    split at h
    · rename_i sz ver' hj hb
      split at h
      · rename_i hok
        rw [Option.bind_eq_some_iff] at h
        obtain ⟨pl, hpl, h⟩ := h
        rw [Option.map_eq_some_iff] at h
        obtain ⟨l', hl', rfl⟩ := h
        have hc : Cells c M1 u v.cells zs := h3.cells hzs hok
        have hc' : Cells c M1 u v.cells (zs.set j (.own b 0 ver')) := by
          refine ⟨by simpa using hc.1, fun i y z' q1 q2 => ?_⟩
          by_cases e : i = j
          · subst e
            rw [List.getElem?_set_self (List.getElem?_eq_some_iff.1 hj).1] at q2
            cases q2
            -- the zero cell is the nil slice
            have hnil : y = .slice none 0 0 := zcell_nil h2 hzs hj q1
            subst hnil
            exact .own _ _ _ _ (List.getElem?_eq_some_iff.1 hb).1 (by simp [verOf, hb, Ob.ver]) fun _ => .inr ⟨sz, hb, rfl, rfl⟩
          · rw [List.getElem?_set_ne (fun e' => e e'.symm)] at q2
            exact hc.2 i y z' q1 q2
        obtain ⟨cs', g1, g2⟩ := afill_ok (place := (pl.toArray[·]?)) hp hc' hl'
        refine ⟨.agg cs', u, c, run_build u t ps cs' ?_, .agg _ _ g2.1 g2.2, hS, hE, Stp.refl _ _ _⟩
        obtain ⟨i, hi, hiz⟩ := zeroVal h1
        have hpl' : fs.toList.mapM (fun f => (P.info? f.type).map fun i => (f.offset, i.size)) = some pl := by
          rw [← hpl]; unfold placesOf; congr 1; funext f; simp only [szOf, Option.map_map]; rfl
        simp only [Program.built, hi, hu, hiz, hpl', g1]
      · cases h
    · cases h
  | _ => simp at h
variable {α : Type} {lv : α → List PD} {sz : Nat} {e : List α} {ver : Nat} {z : Bool} {o : Ob}
theorem RowIs.isRow (h : RowIs o lv sz e ver z) : o.isRow = true ∧ o.ver = ver := by
  rcases h with rfl | ⟨_, rfl, _⟩ <;> exact ⟨rfl, rfl⟩
theorem ok_own {M : Mem} {b n : Nat} (hM : M[b]? = some o) (hr : RowIs o lv sz e ver z) : AV.okCell M (.own b n ver) = true := by
  simp [AV.okCell, verOf, hM, hr.isRow.2]
theorem H_bldV {t : TypeId} {parts : List (Nat × AV)} {M0 M1 : Mem} (j b : Nat) (x : AV) (hv : w.view = .bld false t 0 parts M0) (hb : M0[b]? = some o) (hr : RowIs o lv sz e ver z) (hM : M0.set b (.vrow sz (ver + 1)) = M1) (hx : bldV P t j b M1 parts = some x) (h : (w.back x M1).holds P GT Q) : w.holds P GT Q :=
  H_bld x M1 hv (bldV_ok (hM ▸ VStep.reset hb hr.isRow.1 (by rw [hr.isRow.2]; exact Nat.lt_succ_self _)) hx) h
theorem H_bldN {t : TypeId} {parts : List (Nat × AV)} {M0 M1 : Mem} (j b s : Nat) (x : AV) (hv : w.view = .bld false t 0 parts M0) (hM : M0 ++ [.vrow s 0] = M1) (hx : bldV P t j b M1 parts = some x) (h : (w.back x M1).holds P GT Q) : w.holds P GT Q :=
  H_bld x M1 hv (bldV_ok (hM ▸ VStep.new M0 s) hx) h
theorem ask_storeC {M M2 : Mem} {t : TypeId} {b off v n s : Nat} {l xs : List AV} {x : AV} (hb : M[b]? = some (.cells l s v false)) (hn : szOf P t = some n) (hx : x.cells = some xs) (hl : (Nat.beq xs.length n && Nat.ble (off + n) l.length) = true) (hok : xs.all (·.okCell M) = true) (hM : M.set b (.cells (l.take off ++ xs ++ l.drop (off + n)) s v false) = M2) :
    (aStore P M t (.ptr b off v) x).map (AV.junk, ·) = some (.junk, M2) := by
  rw [Bool.and_eq_true] at hl
  have h1 := Nat.eq_of_beq_eq_true hl.1
  have h2 := Nat.le_of_ble_eq_true hl.2
  unfold aStore
  simp only [hn, hx, hb]
  rw [if_pos ⟨trivial, h1, h2, hok⟩, hM]
  rfl
theorem H_bldS0 {t : TypeId} {n : Nat} {parts : List (Nat × AV)} {M0 : Mem} (x : AV) (hv : w.view = .bld true t n parts M0) (hx : aBuildSlice P M0 t n parts = some x) (h : (w.back x M0).holds P GT Q) : w.holds P GT Q :=
  H_bld x M0 hv (fun _ _ _ _ _ hS hp => aBuildSlice_ok hS hp hx) h
inductive Fz (b len ver : Nat) (x0 : PD) : AV → AV → Prop
  | keep (x : AV) : Fz b len ver x0 x x
  | cut : Fz b len ver x0 (.own b len ver) (.pd x0)
inductive FzL (b len ver : Nat) (x0 : PD) : List AV → List AV → Prop
  | nil : FzL b len ver x0 [] []
  | cons {x y : AV} {l m : List AV} (h : Fz b len ver x0 x y) (t : FzL b len ver x0 l m) : FzL b len ver x0 (x :: l) (y :: m)
inductive FzP (b len ver : Nat) (x0 : PD) : AV → AV → Prop
  | agg {l m : List AV} (h : FzL b len ver x0 l m) : FzP b len ver x0 (.agg l) (.agg m)
  | one {x y : AV} (h : Fz b len ver x0 x y) : FzP b len ver x0 x y
inductive FzS (b len ver : Nat) (x0 : PD) : List (Nat × AV) → List (Nat × AV) → Prop
  | nil : FzS b len ver x0 [] []
  | cons {i : Nat} {x y : AV} {l m : List (Nat × AV)} (h : FzP b len ver x0 x y) (t : FzS b len ver x0 l m) : FzS b len ver x0 ((i, x) :: l) ((i, y) :: m)
theorem Fz.ok {B : Nat} {c c' : Ctx} {M M' : Mem} {u u' : World} {b len ver : Nat} {x0 : PD} {v : Value} {x y : AV} (he : Ext c M c' M') (hs : Stp B c u c' u') (hp : ∀ v, ARep c M u v (.own b len ver) → PRep c'.imm u' v x0) (hf : Fz b len ver x0 x y) (h : ARep c M u v x) : ARep c' M' u' v y := by
  cases hf with
  | keep => exact h.mono he hs
  | cut => exact .pd _ _ (hp v h)
theorem FzL.ok {b len ver : Nat} {x0 : PD} : ∀ {l m : List AV}, FzL b len ver x0 l m → l.length = m.length ∧ ∀ (i : Nat) (y : AV), m[i]? = some y → ∃ x, l[i]? = some x ∧ Fz b len ver x0 x y
  | [], _, .nil => ⟨rfl, fun i y h => by simp at h⟩
  | x :: l, _, .cons h t => by
    obtain ⟨h1, h2⟩ := t.ok
    refine ⟨by simp [h1], fun i y hy => ?_⟩
    cases i with
    | zero => simp at hy; subst hy; exact ⟨x, rfl, h⟩
    | succ i => simp at hy ⊢; exact h2 i y hy
theorem FzP.ok {B : Nat} {c c' : Ctx} {M M' : Mem} {u u' : World} {b len ver : Nat} {x0 : PD} {v : Value} {x y : AV} (he : Ext c M c' M') (hs : Stp B c u c' u') (hp : ∀ v, ARep c M u v (.own b len ver) → PRep c'.imm u' v x0) (hf : FzP b len ver x0 x y) (h : ARep c M u v x) : ARep c' M' u' v y := by
  cases hf with
  | agg hl =>
    obtain ⟨g1, g2⟩ := hl.ok
    cases h with
    | agg vs l hs' h =>
      refine .agg vs _ (by omega) fun i u y q1 q2 => ?_
      obtain ⟨x, q3, q4⟩ := g2 i y q2
      exact q4.ok he hs hp (h i u x q1 q3)
  | one h1 => exact h1.ok he hs hp h
theorem FzS.ok {B : Nat} {c c' : Ctx} {M M' : Mem} {u u' : World} {b len ver : Nat} {x0 : PD} (he : Ext c M c' M') (hs : Stp B c u c' u') (hp : ∀ v, ARep c M u v (.own b len ver) → PRep c'.imm u' v x0) : ∀ {xs ys : List (Nat × AV)} {vs : List (Nat × Value)}, FzS b len ver x0 xs ys → PartsRep c M u vs xs → PartsRep c' M' u' vs ys
  | [], _, [], .nil, _ => trivial
  | [], _, _ :: _, .nil, h => h.elim
  | (_, _) :: _, _, [], .cons _ _, h => h.elim
  | (i, x) :: xs, _, (j, v) :: vs, .cons h1 t, ⟨e, h2, h3⟩ => ⟨e, h1.ok he hs hp h2, FzS.ok he hs hp t h3⟩
theorem bldF_ok {t : TypeId} {n b len ver : Nat} {M M1 : Mem} {parts parts' : List (Nat × AV)} {x0 : PD} {x : AV} (hx : ownPD M b len ver = some x0) (hM : frz M b = M1) (hf : FzS b len ver x0 parts parts') (h : aBuildSlice P M1 t n parts' = some x) : BldOK P true t n parts M x M1 := by
  intro B I0 c u ps hS hp
  have main : ∀ c' : Ctx, Sim B I0 c' M1 u → Ext c M c' M1 → Stp B c u c' u → (∀ v, ARep c M u v (.own b len ver) → PRep c'.imm u v x0) → Out P B I0 c M u (bldSem true t n ps) x M1 := by
    intro c' hS' hE hs hq
    obtain ⟨v', w', c2, h1, h2, h3, h4, h5⟩ := aBuildSlice_ok hS' (FzS.ok hE hs hq hf hp) h
    exact ⟨v', w', c2, h1, h2, h3, hE.trans h4, hs.trans h5⟩
  unfold frz at hM
  split at hM
  · rename_i l sz ver' z hb
    subst hM
    obtain ⟨q1, q2, q3⟩ := hS.freeze hb
    exact main _ q1 q2 q3 fun v hv => ownPD_ok hS hv hx (fun _ h => .inl h) fun _ => .inr rfl
  · rename_i hno
    subst hM
    refine main c hS (Ext.refl _ _) (Stp.refl _ _ _) fun v hv => ownPD_ok hS hv hx (fun _ h => h) fun hr => ?_
    unfold ownPD at hx
    split at hx
    · rename_i l sz ver' z hM; exact absurd hM (hno _ _ _ _)
    · rename_i sz ver' hM
      obtain ⟨o, ho, hov⟩ := hr
      rw [hM] at ho; cases ho; cases hov
    · cases hx
theorem H_bldF {t : TypeId} {n : Nat} {parts parts' : List (Nat × AV)} {M0 M1 : Mem} (b len ver : Nat) {x0 : PD} (x : AV) (hv : w.view = .bld true t n parts M0) (hx : ownPD M0 b len ver = some x0) (hM : frz M0 b = M1) (hf : FzS b len ver x0 parts parts') (hb : aBuildSlice P M1 t n parts' = some x) (h : (w.back x M1).holds P GT Q) : w.holds P GT Q :=
  H_bld x M1 hv (bldF_ok hx hM hf hb) h
theorem VStep.refl (M : Mem) : VStep M M := fun _ _ _ _ h => ⟨h, Ext.refl _ _⟩
theorem VStep.trans {M M1 M2 : Mem} (h : VStep M M1) (k : VStep M1 M2) : VStep M M2 := fun B I0 c w hS => by
  obtain ⟨h1, h2⟩ := h B I0 c w hS
  obtain ⟨h3, h4⟩ := k B I0 c w h1
  exact ⟨h3, h2.trans h4⟩
theorem VStep.to {M M1 M2 : Mem} (h : VStep M M1) (e : M1 = M2) : VStep M M2 := e ▸ h
def vset (M : Mem) : List (Nat × Option Nat) → List AV → Option (List AV)
  | [], zs => some zs
  | (j, none) :: r, zs =>
    match zs[j]? with
    | some (.fixed []) => vset M r (zs.set j (.pd (.sl [])))
    | _ => none
  | (j, some b) :: r, zs =>
    match zs[j]?, M[b]? with
    | some (.fixed []), some (.vrow _ ver') => vset M r (zs.set j (.own b 0 ver'))
    | _, _ => none
theorem vset_ok {c : Ctx} {M : Mem} {u : World} {cs : Array Value} : ∀ {L : List (Nat × Option Nat)} {zs zs' : List AV}, Cells c M u cs zs → (∀ (j : Nat) (y : Value), zs[j]? = some (.fixed []) → cs[j]? = some y → y = .slice none 0 0) → vset M L zs = some zs' → Cells c M u cs zs'
  | [], zs, zs', h, _, he => by cases he; exact h
  | (j, none) :: r, zs, zs', h, hn, he => by
    unfold vset at he
    split at he
    · rename_i hj
      refine vset_ok ⟨by simpa using h.1, fun i y z' q1 q2 => ?_⟩ (fun i y q1 q2 => ?_) he
      · by_cases e : i = j
        · subst e
          rw [List.getElem?_set_self (List.getElem?_eq_some_iff.1 hj).1] at q2
          cases q2
          have hnil := hn _ _ hj q1
          subst hnil
          exact .pd _ _ .nil
        · rw [List.getElem?_set_ne (fun e' => e e'.symm)] at q2
          exact h.2 i y z' q1 q2
      · by_cases e : i = j
        · subst e
          rw [List.getElem?_set_self (List.getElem?_eq_some_iff.1 hj).1] at q1
          cases q1
        · rw [List.getElem?_set_ne (fun e' => e e'.symm)] at q1
          exact hn i y q1 q2
    · cases he
  | (j, some b) :: r, zs, zs', h, hn, he => by
    unfold vset at he
    split at he
    · rename_i sz ver' hj hb
      refine vset_ok ⟨by simpa using h.1, fun i y z' q1 q2 => ?_⟩ (fun i y q1 q2 => ?_) he
      · by_cases e : i = j
        · subst e
          rw [List.getElem?_set_self (List.getElem?_eq_some_iff.1 hj).1] at q2
          cases q2
          have hnil := hn _ _ hj q1
          subst hnil
          exact .own _ _ _ _ (List.getElem?_eq_some_iff.1 hb).1 (by simp [verOf, hb, Ob.ver]) fun _ => .inr ⟨sz, hb, rfl, rfl⟩
        · rw [List.getElem?_set_ne (fun e' => e e'.symm)] at q2
          exact h.2 i y z' q1 q2
      · by_cases e : i = j
        · subst e
          rw [List.getElem?_set_self (List.getElem?_eq_some_iff.1 hj).1] at q1
          cases q1
        · rw [List.getElem?_set_ne (fun e' => e e'.symm)] at q1
          exact hn i y q1 q2
    · cases he
def zcells (P : Program) (t : TypeId) (L : List (Nat × Option Nat)) (M : Mem) : Option (List AV) :=
  ((zeroOf P t).bind AV.cells).bind fun zs => if zs.all (·.okCell M) then vset M L zs else none
theorem zcells_ok {t : TypeId} {L : List (Nat × Option Nat)} {M : Mem} {zs' : List AV} (h : zcells P t L M = some zs') (c : Ctx) (u : World) : ∃ v, (zeroValue t).run P u = .ok v u ∧ Cells c M u v.cells zs' := by
  unfold zcells at h
  rw [Option.bind_eq_some_iff] at h
  obtain ⟨zs, h, h'⟩ := h
  rw [Option.bind_eq_some_iff] at h
  obtain ⟨z, hz, hzs⟩ := h
  obtain ⟨v, h1, h2⟩ := zeroOf_ok hz u
  have h3 := (zAV_ok (c := c) (M := M) (w := u) h2).1
  split at h'
  · rename_i hok
    exact ⟨v, h1, vset_ok (h3.cells hzs hok) (fun j y hj hy => zcell_nil h2 hzs hj hy) h'⟩
  · cases h'
def bldVs (P : Program) (t : TypeId) (L : List (Nat × Option Nat)) (M : Mem) (parts : List (Nat × AV)) : Option AV :=
  match zcells P t L M, P.underlying t with
  | some zs, some (.struct fs) => (placesOf P fs).bind fun pl => (afill M (pl.toArray[·]?) zs parts).map .agg
  | _, _ => none
theorem bldVs_ok {t : TypeId} {L : List (Nat × Option Nat)} {M M1 : Mem} {parts : List (Nat × AV)} {x : AV} (hv : VStep M M1) (h : bldVs P t L M1 parts = some x) : BldOK P false t 0 parts M x M1 := by
  intro B I0 c u ps hS0 hp0
  obtain ⟨hS, hE⟩ := hv B I0 c u hS0
  have hp := PartsRep.mono hE (Stp.refl B c u) hp0
  unfold bldVs at h
  split at h
  · rename_i zs fs hz hu
    rw [Option.bind_eq_some_iff] at h
    obtain ⟨pl, hpl, h⟩ := h
    rw [Option.map_eq_some_iff] at h
    obtain ⟨l', hl', rfl⟩ := h
    obtain ⟨v, h1, hc'⟩ := zcells_ok hz c u
    obtain ⟨cs', g1, g2⟩ := afill_ok (place := (pl.toArray[·]?)) hp hc' hl'
    refine ⟨.agg cs', u, c, run_build u t ps cs' ?_, .agg _ _ g2.1 g2.2, hS, hE, Stp.refl _ _ _⟩
    obtain ⟨i, hi, hiz⟩ := zeroVal h1
    have hpl' : fs.toList.mapM (fun f => (P.info? f.type).map fun i => (f.offset, i.size)) = some pl := by
      rw [← hpl]; unfold placesOf; congr 1; funext f; simp only [szOf, Option.map_map]; rfl
    simp only [Program.built, hi, hu, hiz, hpl', g1]
  · cases h
theorem H_bldL {t : TypeId} {parts : List (Nat × AV)} {M0 M1 : Mem} (L : List (Nat × Option Nat)) (x : AV) (hv : w.view = .bld false t 0 parts M0) (hs : VStep M0 M1) (hx : bldVs P t L M1 parts = some x) (h : (w.back x M1).holds P GT Q) : w.holds P GT Q :=
  H_bld x M1 hv (bldVs_ok hs hx) h
theorem allocL_ok {t : TypeId} {L : List (Nat × Option Nat)} {M M1 M2 : Mem} {zs : List AV} (hv : VStep M M1) (h : zcells P t L M1 = some zs) (hM : M1 ++ [.cells zs 1 0 false] = M2) : BldOK P false t 1 [] M (.ptr M1.length 0 0) M2 := by
  subst hM
  intro B I0 c u ps hS0 _
  obtain ⟨hS, hE⟩ := hv B I0 c u hS0
  obtain ⟨v, h1, hc⟩ := zcells_ok h c u
  obtain ⟨g1, g2, g3, g4, g5, g6⟩ := newRow_ok hS t v.cells zs 1 (by have := hc.1; omega) (fun j x hj => by
    have hjl : j < v.cells.size := by have := (List.getElem?_eq_some_iff.1 hj).1; have := hc.1; omega
    exact ⟨v.cells[j], Array.getElem?_eq_getElem hjl, hc.2 j _ x (Array.getElem?_eq_getElem hjl) hj⟩)
  refine ⟨.pointer (some ⟨(c.push M1 u.heap.size v.cells.size).blk M1.length, 0, none⟩), _, _, ?_, ?_, g1, hE.trans g2, g3⟩
  · rw [g4]; simp [bldSem, Instr.alloc, h1, newVar, newRow]
  · exact .ptr _ _ _ _ (by simp) (Nat.zero_le _) (fun _ => rfl)
theorem H_allocL {t : TypeId} {M0 M1 M2 : Mem} (L : List (Nat × Option Nat)) (zs : List AV) (hv : w.view = .bld false t 1 [] M0) (hs : VStep M0 M1) (hz : zcells P t L M1 = some zs) (hM : M1 ++ [.cells zs 1 0 false] = M2) (h : (w.back (.ptr M1.length 0 0) M2).holds P GT Q) : w.holds P GT Q :=
  H_bld _ M2 hv (allocL_ok hs hz hM) h
theorem ask_boxC {M M2 : Mem} {x : AV} {xs : List AV} (hx : x.cells = some xs) (hok : xs.all (·.okCell M) = true) (hM : M ++ [.cells xs 1 0 false] = M2) : aBox M x = some (.ptr M.length 0 0, M2) := by
  unfold aBox
  rw [hx]
  simp only
  rw [if_pos hok, hM]
theorem GStep.frz (M : Mem) (b : Nat) : GStep M (frz M b) := by
  intro B I0 c w hS
  unfold Abs.frz
  split
  · rename_i l sz ver z hM
    obtain ⟨h1, h2, h3⟩ := hS.freeze hM
    exact ⟨_, h1, h2, h3⟩
  · exact ⟨c, hS, Ext.refl _ _, Stp.refl _ _ _⟩
theorem H_dvalF {g : FuncId} {pre post args' : List AV} {M : Mem} (b len ver : Nat) {x0 : PD} (x : AV) (hv : w.view = .dcall g (pre ++ .own b len ver :: post) M) (hx : ownPD M b len ver = some x0) (hM : Abs.frz M b = M) (hk : (pre ++ .pd x0 :: post).map wk = args') (hc : ASpec P GT g args' (· = x)) (hp : args'.all pur2 = true) (he : Enters P g)
    (h : (w.back x M).holds P GT Q) : w.holds P GT Q := by
  refine H_dcall x hv (ACall.frz1 pre post b len ver hx ?_) he h
  rw [hM]
  exact (hc.atM (fun x hx => pur2_pure (List.all_eq_true.1 hp x hx)) M).wk hk
theorem H_dvalX {g : FuncId} {pre post args' : List AV} {M : Mem} (b len ver : Nat) {x0 : PD} (x : AV) (hv : w.view = .dcall g (pre ++ .own b len ver :: post) M) (hx : ownPD M b len ver = some x0) (hM : Abs.frz M b = M.set b o) (hM2 : M.set b o = M) (hk : (pre ++ .pd x0 :: post).map wk = args') (hc : ASpec P GT g args' (· = x)) (hp : args'.all pur2 = true) (he : Enters P g)
    (h : (w.back x M).holds P GT Q) : w.holds P GT Q := H_dvalF b len ver x hv hx (hM.trans hM2) hk hc hp he h
def askO (L : List Nat) (v : Bool) (O : List Nat) : Op → Bool
  | .buildSlice t _ _ => O.any (Nat.beq t)
  | o => askG L v o
def unr (P : Program) (GT : Tabs) (q : Op → Bool) (ro : Option Nat) (x : Code) (k : Exit → S → W) : Nat → S → W
  | 0, _ => .fail
  | n + 1, s => wc P GT q ro x s fun e s' => match e with | .normal => unr P GT q ro x k n s' | e => k e s'
attribute [irreducible] unr
end Go.Abs
end
