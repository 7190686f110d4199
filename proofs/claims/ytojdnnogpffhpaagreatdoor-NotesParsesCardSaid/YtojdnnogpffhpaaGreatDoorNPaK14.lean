/- Part of a proof, in few files: Abs30 BCd BNd DNat DLin B13n BDd D13p. -/
import Derived.Test.YtojdnnogpffhpaaGreatDoorNPaK12
import Derived.Test.YtojdnnogpffhpaaGreatDoorNPaK11
import Derived.Lib.Strings
import Derived.Lib.IndexMore

section
namespace Go.Abs
open Go.RowKit Go.Proofs
set_option linter.unusedVariables false
set_option linter.unusedSimpArgs false
variable {P : Program} {GT : Tabs} {Q : Exit → S → Prop} {w : W}
def bldV (P : Program) (t : TypeId) (j b : Nat) (M : Mem) (parts : List (Nat × AV)) : Option AV :=
  match (zeroOf P t).bind AV.cells, P.underlying t with
  | some zs, some (.struct fs) =>
    match zs[j]?, M[b]? with
    | some (.fixed []), some (.vrow _ ver') =>
      if zs.all (·.okCell M) then (placesOf P fs).bind fun pl => (afill M (pl.toArray[·]?) (zs.set j (.own b 0 ver')) parts).map .agg else none
    | _, _ => none
  | _, _ => none
def VStep (M M1 : Mem) : Prop := ∀ (B : Nat) (I0 : Nat → Prop) (c : Ctx) (w : World), Sim B I0 c M w → Sim B I0 c M1 w ∧ Ext c M c M1
theorem VStep.new (M : Mem) (sz : Nat) : VStep M (M ++ [.vrow sz 0]) := fun _ _ _ _ h => h.pushV sz 0
theorem VStep.reset {M : Mem} {b sz ver : Nat} {o : Ob} (hb : M[b]? = some o) (hr : o.isRow = true) (hv : o.ver < ver) : VStep M (M.set b (.vrow sz ver)) := by
  intro B I0 c w hS
  have hlt := (List.getElem?_eq_some_iff.1 hb).1
  have ne : ∀ i, i ≠ b → (M.set b (.vrow sz ver))[i]? = M[i]? := fun i hi => List.getElem?_set_ne (fun e => hi e.symm)
  have at_ : (M.set b (.vrow sz ver))[b]? = some (.vrow sz ver) := List.getElem?_set_self hlt
  have vb : verOf M b = o.ver := by simp [verOf, hb]
  have vb2 : verOf (M.set b (.vrow sz ver)) b = ver := by simp [verOf, at_, Ob.ver]
  have vn : ∀ i, i ≠ b → verOf (M.set b (.vrow sz ver)) i = verOf M i := fun i hi => by simp [verOf, ne i hi]
  have he : Ext c M c (M.set b (.vrow sz ver)) := by
    refine ⟨⟨by simp, fun i hi => ?_, fun i hi e => ?_, fun i hi => ?_⟩, fun i t hi => ?_⟩
    · by_cases e : i = b
      · subst e; rw [vb, vb2]; omega
      · rw [vn i e]; exact Nat.le_refl _
    · by_cases e2 : i = b
      · subst e2; rw [vb, vb2] at e; omega
      · exact ⟨rfl, rfl, by rw [ne i e2]⟩
    · obtain ⟨p, hp, hr2⟩ := hi
      have : i ≠ b := fun e => by subst e; rw [hb] at hp; cases hp; rw [hr] at hr2; cases hr2
      exact ⟨p, by rw [ne i this]; exact hp, hr2⟩
    · have : i ≠ b := fun e => by subst e; rw [hb] at hi; cases hi; cases hr
      rw [ne i this]; exact hi
  have hreal : ∀ i, real (M.set b (.vrow sz ver)) i → real M i ∧ i ≠ b := fun i hi => by
    obtain ⟨p, hp, hv2⟩ := hi
    by_cases e : i = b
    · subst e; rw [at_] at hp; cases hp; cases hv2
    · exact ⟨⟨p, by rw [← ne i e]; exact hp, hv2⟩, e⟩
  refine ⟨⟨fun i hi => hS.blkB i (hreal i hi).1, fun i j hi hj => hS.inj i j (hreal i hi).1 (hreal j hj).1, hS.imm0, hS.immB, hS.immlt, fun i p hp hz hv2 => ?_, fun i p hp => ?_, hS.hB⟩, he⟩
  · by_cases e : i = b
    · subst e; rw [at_] at hp; cases hp; cases hv2
    · rw [ne i e] at hp; exact hS.sep i p hp hz hv2
  · by_cases e : i = b
    · subst e; rw [at_] at hp; cases hp; trivial
    · rw [ne i e] at hp
      exact (hS.obj i p hp).mono he.toExt0 (Stp.refl B c w) rfl rfl fun _ => rfl
theorem PartsRep.mono {B : Nat} {c c' : Ctx} {M M' : Mem} {u u' : World} (he : Ext c M c' M') (hs : Stp B c u c' u') : ∀ {vs : List (Nat × Value)} {xs : List (Nat × AV)}, PartsRep c M u vs xs → PartsRep c' M' u' vs xs
  | [], [], _ => trivial
  | (i, v) :: vs, (j, x) :: xs, ⟨h1, h2, h3⟩ => ⟨h1, h2.mono he hs, PartsRep.mono he hs h3⟩
  | [], _ :: _, h => h.elim
  | _ :: _, [], h => h.elim
theorem zLeaf_nil {y : Value} (h : zLeaf y = some (.fixed [])) : y = .slice none 0 0 := by
  unfold zLeaf at h
  split at h <;> simp at h
  rfl
theorem zcell_nil {v y : Value} {z : AV} {zs : List AV} {j : Nat} (h2 : zAV v = some z) (hzs : z.cells = some zs) (hj : zs[j]? = some (.fixed [])) (hy : v.cells[j]? = some y) : y = .slice none 0 0 := by
  by_cases hv : ∃ cs, v = .agg cs
  · obtain ⟨cs, rfl⟩ := hv
    simp only [zAV, Option.map_eq_some_iff] at h2
    obtain ⟨l, hl, rfl⟩ := h2
    obtain ⟨h1, h2⟩ := mapM_some hl
    cases hzs
    obtain ⟨b, q1, q2⟩ := h2 j y (by simpa [Value.cells] using hy)
    rw [hj] at q1; cases q1
    exact zLeaf_nil q2
  · have e : zAV v = zLeaf v := by cases v <;> first | rfl | (exact absurd ⟨_, rfl⟩ hv)
    rw [e] at h2
    have hz1 : z.cells = some [z] := by
      unfold zLeaf at h2
      split at h2 <;> first | (cases h2; rfl) | cases h2
    rw [hz1] at hzs
    cases hzs
    have e2 : v.cells = #[v] := by cases v <;> first | rfl | (exact absurd ⟨_, rfl⟩ hv)
    rw [e2] at hy
    cases j with
    | zero =>
      simp at hj hy
      subst hj; subst hy
      exact zLeaf_nil h2
    | succ j => simp at hj
theorem bldV_ok {t : TypeId} {j b : Nat} {M M1 : Mem} {parts : List (Nat × AV)} {x : AV} (hv : VStep M M1) (h : bldV P t j b M1 parts = some x) : BldOK P false t 0 parts M x M1 := by
  intro B I0 c u ps hS0 hp0
  obtain ⟨hS, hE⟩ := hv B I0 c u hS0
  have hp := PartsRep.mono hE (Stp.refl B c u) hp0
  unfold bldV at h
  cases hz : zeroOf P t with
  | none => simp [hz] at h
  | some z =>
  cases hzs : z.cells with
  | none => simp [hz, hzs] at h
  | some zs =>
  simp only [hz, Option.bind_some, hzs] at h
  obtain ⟨v, h1, h2⟩ := zeroOf_ok hz u
  have h3 := (zAV_ok (c := c) (M := M1) (w := u) h2).1
  cases hu : P.underlying t with
  | none => simp [hu] at h
  | some d =>
  rw [hu] at h
  cases d with
  | struct fs =>
    simp only at h
    split at h
    · rename_i sz ver' hj hb
      split at h
      · rename_i hok
        rw [Option.bind_eq_some_iff] at h
        obtain ⟨pl, hpl, h⟩ := h
        rw [Option.map_eq_some_iff] at h
        obtain ⟨l', hl', rfl⟩ := h
        have hc : Cells c M1 u v.cells zs := h3.cells hzs hok
        have hc' : Cells c M1 u v.cells (zs.set j (.own b 0 ver')) := by
          refine ⟨by simpa using hc.1, fun i y z' q1 q2 => ?_⟩
          by_cases e : i = j
          · subst e
            rw [List.getElem?_set_self (List.getElem?_eq_some_iff.1 hj).1] at q2
            cases q2
            -- the zero cell is the nil slice
            have hnil : y = .slice none 0 0 := zcell_nil h2 hzs hj q1
            subst hnil
            exact .own _ _ _ _ (List.getElem?_eq_some_iff.1 hb).1 (by simp [verOf, hb, Ob.ver]) fun _ => .inr ⟨sz, hb, rfl, rfl⟩
          · rw [List.getElem?_set_ne (fun e' => e e'.symm)] at q2
            exact hc.2 i y z' q1 q2
        obtain ⟨cs', g1, g2⟩ := afill_ok (place := (pl.toArray[·]?)) hp hc' hl'
        refine ⟨.agg cs', u, c, run_build u t ps cs' ?_, .agg _ _ g2.1 g2.2, hS, hE, Stp.refl _ _ _⟩
        obtain ⟨i, hi, hiz⟩ := zeroVal h1
        have hpl' : fs.toList.mapM (fun f => (P.info? f.type).map fun i => (f.offset, i.size)) = some pl := by
          rw [← hpl]; unfold placesOf; congr 1; funext f; simp only [szOf, Option.map_map]; rfl
        simp only [Program.built, hi, hu, hiz, hpl', g1]
      · cases h
    · cases h
  | _ => simp at h
variable {α : Type} {lv : α → List PD} {sz : Nat} {e : List α} {ver : Nat} {z : Bool} {o : Ob}
theorem RowIs.isRow (h : RowIs o lv sz e ver z) : o.isRow = true ∧ o.ver = ver := by
  rcases h with rfl | ⟨_, rfl, _⟩ <;> exact ⟨rfl, rfl⟩
theorem ok_own {M : Mem} {b n : Nat} (hM : M[b]? = some o) (hr : RowIs o lv sz e ver z) : AV.okCell M (.own b n ver) = true := by
  simp [AV.okCell, verOf, hM, hr.isRow.2]
theorem H_bldV {t : TypeId} {parts : List (Nat × AV)} {M0 M1 : Mem} (j b : Nat) (x : AV) (hv : w.view = .bld false t 0 parts M0) (hb : M0[b]? = some o) (hr : RowIs o lv sz e ver z) (hM : M0.set b (.vrow sz (ver + 1)) = M1) (hx : bldV P t j b M1 parts = some x) (h : (w.back x M1).holds P GT Q) : w.holds P GT Q :=
  H_bld x M1 hv (bldV_ok (hM ▸ VStep.reset hb hr.isRow.1 (by rw [hr.isRow.2]; exact Nat.lt_succ_self _)) hx) h
theorem H_bldN {t : TypeId} {parts : List (Nat × AV)} {M0 M1 : Mem} (j b s : Nat) (x : AV) (hv : w.view = .bld false t 0 parts M0) (hM : M0 ++ [.vrow s 0] = M1) (hx : bldV P t j b M1 parts = some x) (h : (w.back x M1).holds P GT Q) : w.holds P GT Q :=
  H_bld x M1 hv (bldV_ok (hM ▸ VStep.new M0 s) hx) h
theorem ask_storeC {M M2 : Mem} {t : TypeId} {b off v n s : Nat} {l xs : List AV} {x : AV} (hb : M[b]? = some (.cells l s v false)) (hn : szOf P t = some n) (hx : x.cells = some xs) (hl : (Nat.beq xs.length n && Nat.ble (off + n) l.length) = true) (hok : xs.all (·.okCell M) = true) (hM : M.set b (.cells (l.take off ++ xs ++ l.drop (off + n)) s v false) = M2) :
    (aStore P M t (.ptr b off v) x).map (AV.junk, ·) = some (.junk, M2) := by
  rw [Bool.and_eq_true] at hl
  have h1 := Nat.eq_of_beq_eq_true hl.1
  have h2 := Nat.le_of_ble_eq_true hl.2
  unfold aStore
  simp only [hn, hx, hb]
  rw [if_pos ⟨trivial, h1, h2, hok⟩, hM]
  rfl
theorem H_bldS0 {t : TypeId} {n : Nat} {parts : List (Nat × AV)} {M0 : Mem} (x : AV) (hv : w.view = .bld true t n parts M0) (hx : aBuildSlice P M0 t n parts = some x) (h : (w.back x M0).holds P GT Q) : w.holds P GT Q :=
  H_bld x M0 hv (fun _ _ _ _ _ hS hp => aBuildSlice_ok hS hp hx) h
inductive Fz (b len ver : Nat) (x0 : PD) : AV → AV → Prop
  | keep (x : AV) : Fz b len ver x0 x x
  | cut : Fz b len ver x0 (.own b len ver) (.pd x0)
inductive FzL (b len ver : Nat) (x0 : PD) : List AV → List AV → Prop
  | nil : FzL b len ver x0 [] []
  | cons {x y : AV} {l m : List AV} (h : Fz b len ver x0 x y) (t : FzL b len ver x0 l m) : FzL b len ver x0 (x :: l) (y :: m)
inductive FzP (b len ver : Nat) (x0 : PD) : AV → AV → Prop
  | agg {l m : List AV} (h : FzL b len ver x0 l m) : FzP b len ver x0 (.agg l) (.agg m)
  | one {x y : AV} (h : Fz b len ver x0 x y) : FzP b len ver x0 x y
inductive FzS (b len ver : Nat) (x0 : PD) : List (Nat × AV) → List (Nat × AV) → Prop
  | nil : FzS b len ver x0 [] []
  | cons {i : Nat} {x y : AV} {l m : List (Nat × AV)} (h : FzP b len ver x0 x y) (t : FzS b len ver x0 l m) : FzS b len ver x0 ((i, x) :: l) ((i, y) :: m)
theorem Fz.ok {B : Nat} {c c' : Ctx} {M M' : Mem} {u u' : World} {b len ver : Nat} {x0 : PD} {v : Value} {x y : AV} (he : Ext c M c' M') (hs : Stp B c u c' u') (hp : ∀ v, ARep c M u v (.own b len ver) → PRep c'.imm u' v x0) (hf : Fz b len ver x0 x y) (h : ARep c M u v x) : ARep c' M' u' v y := by
  cases hf with
  | keep => exact h.mono he hs
  | cut => exact .pd _ _ (hp v h)
theorem FzL.ok {b len ver : Nat} {x0 : PD} : ∀ {l m : List AV}, FzL b len ver x0 l m → l.length = m.length ∧ ∀ (i : Nat) (y : AV), m[i]? = some y → ∃ x, l[i]? = some x ∧ Fz b len ver x0 x y
  | [], _, .nil => ⟨rfl, fun i y h => by simp at h⟩
  | x :: l, _, .cons h t => by
    obtain ⟨h1, h2⟩ := t.ok
    refine ⟨by simp [h1], fun i y hy => ?_⟩
    cases i with
    | zero => simp at hy; subst hy; exact ⟨x, rfl, h⟩
    | succ i => simp at hy ⊢; exact h2 i y hy
theorem FzP.ok {B : Nat} {c c' : Ctx} {M M' : Mem} {u u' : World} {b len ver : Nat} {x0 : PD} {v : Value} {x y : AV} (he : Ext c M c' M') (hs : Stp B c u c' u') (hp : ∀ v, ARep c M u v (.own b len ver) → PRep c'.imm u' v x0) (hf : FzP b len ver x0 x y) (h : ARep c M u v x) : ARep c' M' u' v y := by
  cases hf with
  | agg hl =>
    obtain ⟨g1, g2⟩ := hl.ok
    cases h with
    | agg vs l hs' h =>
      refine .agg vs _ (by omega) fun i u y q1 q2 => ?_
      obtain ⟨x, q3, q4⟩ := g2 i y q2
      exact q4.ok he hs hp (h i u x q1 q3)
  | one h1 => exact h1.ok he hs hp h
theorem FzS.ok {B : Nat} {c c' : Ctx} {M M' : Mem} {u u' : World} {b len ver : Nat} {x0 : PD} (he : Ext c M c' M') (hs : Stp B c u c' u') (hp : ∀ v, ARep c M u v (.own b len ver) → PRep c'.imm u' v x0) : ∀ {xs ys : List (Nat × AV)} {vs : List (Nat × Value)}, FzS b len ver x0 xs ys → PartsRep c M u vs xs → PartsRep c' M' u' vs ys
  | [], _, [], .nil, _ => trivial
  | [], _, _ :: _, .nil, h => h.elim
  | (_, _) :: _, _, [], .cons _ _, h => h.elim
  | (i, x) :: xs, _, (j, v) :: vs, .cons h1 t, ⟨e, h2, h3⟩ => ⟨e, h1.ok he hs hp h2, FzS.ok he hs hp t h3⟩
theorem bldF_ok {t : TypeId} {n b len ver : Nat} {M M1 : Mem} {parts parts' : List (Nat × AV)} {x0 : PD} {x : AV} (hx : ownPD M b len ver = some x0) (hM : frz M b = M1) (hf : FzS b len ver x0 parts parts') (h : aBuildSlice P M1 t n parts' = some x) : BldOK P true t n parts M x M1 := by
  intro B I0 c u ps hS hp
  have main : ∀ c' : Ctx, Sim B I0 c' M1 u → Ext c M c' M1 → Stp B c u c' u → (∀ v, ARep c M u v (.own b len ver) → PRep c'.imm u v x0) → Out P B I0 c M u (bldSem true t n ps) x M1 := by
    intro c' hS' hE hs hq
    obtain ⟨v', w', c2, h1, h2, h3, h4, h5⟩ := aBuildSlice_ok hS' (FzS.ok hE hs hq hf hp) h
    exact ⟨v', w', c2, h1, h2, h3, hE.trans h4, hs.trans h5⟩
  unfold frz at hM
  split at hM
  · rename_i l sz ver' z hb
    subst hM
    obtain ⟨q1, q2, q3⟩ := hS.freeze hb
    exact main _ q1 q2 q3 fun v hv => ownPD_ok hS hv hx (fun _ h => .inl h) fun _ => .inr rfl
  · rename_i hno
    subst hM
    refine main c hS (Ext.refl _ _) (Stp.refl _ _ _) fun v hv => ownPD_ok hS hv hx (fun _ h => h) fun hr => ?_
    unfold ownPD at hx
    split at hx
    · rename_i l sz ver' z hM; exact absurd hM (hno _ _ _ _)
    · rename_i sz ver' hM
      obtain ⟨o, ho, hov⟩ := hr
      rw [hM] at ho; cases ho; cases hov
    · cases hx
theorem H_bldF {t : TypeId} {n : Nat} {parts parts' : List (Nat × AV)} {M0 M1 : Mem} (b len ver : Nat) {x0 : PD} (x : AV) (hv : w.view = .bld true t n parts M0) (hx : ownPD M0 b len ver = some x0) (hM : frz M0 b = M1) (hf : FzS b len ver x0 parts parts') (hb : aBuildSlice P M1 t n parts' = some x) (h : (w.back x M1).holds P GT Q) : w.holds P GT Q :=
  H_bld x M1 hv (bldF_ok hx hM hf hb) h
theorem VStep.refl (M : Mem) : VStep M M := fun _ _ _ _ h => ⟨h, Ext.refl _ _⟩
theorem VStep.trans {M M1 M2 : Mem} (h : VStep M M1) (k : VStep M1 M2) : VStep M M2 := fun B I0 c w hS => by
  obtain ⟨h1, h2⟩ := h B I0 c w hS
  obtain ⟨h3, h4⟩ := k B I0 c w h1
  exact ⟨h3, h2.trans h4⟩
theorem VStep.to {M M1 M2 : Mem} (h : VStep M M1) (e : M1 = M2) : VStep M M2 := e ▸ h
theorem VStep.res {M M1 : Mem} {b : Nat} (hb : M[b]? = some o) (hr : RowIs o lv sz e ver z) (hM : M.set b (.vrow sz (ver + 1)) = M1) : VStep M M1 :=
  hM ▸ VStep.reset hb hr.isRow.1 (by rw [hr.isRow.2]; exact Nat.lt_succ_self _)
def vset (M : Mem) : List (Nat × Option Nat) → List AV → Option (List AV)
  | [], zs => some zs
  | (j, none) :: r, zs =>
    match zs[j]? with
    | some (.fixed []) => vset M r (zs.set j (.pd (.sl [])))
    | _ => none
  | (j, some b) :: r, zs =>
    match zs[j]?, M[b]? with
    | some (.fixed []), some (.vrow _ ver') => vset M r (zs.set j (.own b 0 ver'))
    | _, _ => none
theorem vset_ok {c : Ctx} {M : Mem} {u : World} {cs : Array Value} : ∀ {L : List (Nat × Option Nat)} {zs zs' : List AV}, Cells c M u cs zs → (∀ (j : Nat) (y : Value), zs[j]? = some (.fixed []) → cs[j]? = some y → y = .slice none 0 0) → vset M L zs = some zs' → Cells c M u cs zs'
  | [], zs, zs', h, _, he => by cases he; exact h
  | (j, none) :: r, zs, zs', h, hn, he => by
    unfold vset at he
    split at he
    · rename_i hj
      refine vset_ok ⟨by simpa using h.1, fun i y z' q1 q2 => ?_⟩ (fun i y q1 q2 => ?_) he
      · by_cases e : i = j
        · subst e
          rw [List.getElem?_set_self (List.getElem?_eq_some_iff.1 hj).1] at q2
          cases q2
          have hnil := hn _ _ hj q1
          subst hnil
          exact .pd _ _ .nil
        · rw [List.getElem?_set_ne (fun e' => e e'.symm)] at q2
          exact h.2 i y z' q1 q2
      · by_cases e : i = j
        · subst e
          rw [List.getElem?_set_self (List.getElem?_eq_some_iff.1 hj).1] at q1
          cases q1
        · rw [List.getElem?_set_ne (fun e' => e e'.symm)] at q1
          exact hn i y q1 q2
    · cases he
  | (j, some b) :: r, zs, zs', h, hn, he => by
    unfold vset at he
    split at he
    · rename_i sz ver' hj hb
      refine vset_ok ⟨by simpa using h.1, fun i y z' q1 q2 => ?_⟩ (fun i y q1 q2 => ?_) he
      · by_cases e : i = j
        · subst e
          rw [List.getElem?_set_self (List.getElem?_eq_some_iff.1 hj).1] at q2
          cases q2
          have hnil := hn _ _ hj q1
          subst hnil
          exact .own _ _ _ _ (List.getElem?_eq_some_iff.1 hb).1 (by simp [verOf, hb, Ob.ver]) fun _ => .inr ⟨sz, hb, rfl, rfl⟩
        · rw [List.getElem?_set_ne (fun e' => e e'.symm)] at q2
          exact h.2 i y z' q1 q2
      · by_cases e : i = j
        · subst e
          rw [List.getElem?_set_self (List.getElem?_eq_some_iff.1 hj).1] at q1
          cases q1
        · rw [List.getElem?_set_ne (fun e' => e e'.symm)] at q1
          exact hn i y q1 q2
    · cases he
def zcells (P : Program) (t : TypeId) (L : List (Nat × Option Nat)) (M : Mem) : Option (List AV) :=
  ((zeroOf P t).bind AV.cells).bind fun zs => if zs.all (·.okCell M) then vset M L zs else none
theorem zcells_ok {t : TypeId} {L : List (Nat × Option Nat)} {M : Mem} {zs' : List AV} (h : zcells P t L M = some zs') (c : Ctx) (u : World) : ∃ v, (zeroValue t).run P u = .ok v u ∧ Cells c M u v.cells zs' := by
  unfold zcells at h
  rw [Option.bind_eq_some_iff] at h
  obtain ⟨zs, h, h'⟩ := h
  rw [Option.bind_eq_some_iff] at h
  obtain ⟨z, hz, hzs⟩ := h
  obtain ⟨v, h1, h2⟩ := zeroOf_ok hz u
  have h3 := (zAV_ok (c := c) (M := M) (w := u) h2).1
  split at h'
  · rename_i hok
    exact ⟨v, h1, vset_ok (h3.cells hzs hok) (fun j y hj hy => zcell_nil h2 hzs hj hy) h'⟩
  · cases h'
def bldVs (P : Program) (t : TypeId) (L : List (Nat × Option Nat)) (M : Mem) (parts : List (Nat × AV)) : Option AV :=
  match zcells P t L M, P.underlying t with
  | some zs, some (.struct fs) => (placesOf P fs).bind fun pl => (afill M (pl.toArray[·]?) zs parts).map .agg
  | _, _ => none
theorem bldVs_ok {t : TypeId} {L : List (Nat × Option Nat)} {M M1 : Mem} {parts : List (Nat × AV)} {x : AV} (hv : VStep M M1) (h : bldVs P t L M1 parts = some x) : BldOK P false t 0 parts M x M1 := by
  intro B I0 c u ps hS0 hp0
  obtain ⟨hS, hE⟩ := hv B I0 c u hS0
  have hp := PartsRep.mono hE (Stp.refl B c u) hp0
  unfold bldVs at h
  split at h
  · rename_i zs fs hz hu
    rw [Option.bind_eq_some_iff] at h
    obtain ⟨pl, hpl, h⟩ := h
    rw [Option.map_eq_some_iff] at h
    obtain ⟨l', hl', rfl⟩ := h
    obtain ⟨v, h1, hc'⟩ := zcells_ok hz c u
    obtain ⟨cs', g1, g2⟩ := afill_ok (place := (pl.toArray[·]?)) hp hc' hl'
    refine ⟨.agg cs', u, c, run_build u t ps cs' ?_, .agg _ _ g2.1 g2.2, hS, hE, Stp.refl _ _ _⟩
    obtain ⟨i, hi, hiz⟩ := zeroVal h1
    have hpl' : fs.toList.mapM (fun f => (P.info? f.type).map fun i => (f.offset, i.size)) = some pl := by
      rw [← hpl]; unfold placesOf; congr 1; funext f; simp only [szOf, Option.map_map]; rfl
    simp only [Program.built, hi, hu, hiz, hpl', g1]
  · cases h
theorem H_bldL {t : TypeId} {parts : List (Nat × AV)} {M0 M1 : Mem} (L : List (Nat × Option Nat)) (x : AV) (hv : w.view = .bld false t 0 parts M0) (hs : VStep M0 M1) (hx : bldVs P t L M1 parts = some x) (h : (w.back x M1).holds P GT Q) : w.holds P GT Q :=
  H_bld x M1 hv (bldVs_ok hs hx) h
theorem allocL_ok {t : TypeId} {L : List (Nat × Option Nat)} {M M1 M2 : Mem} {zs : List AV} (hv : VStep M M1) (h : zcells P t L M1 = some zs) (hM : M1 ++ [.cells zs 1 0 false] = M2) : BldOK P false t 1 [] M (.ptr M1.length 0 0) M2 := by
  subst hM
  intro B I0 c u ps hS0 _
  obtain ⟨hS, hE⟩ := hv B I0 c u hS0
  obtain ⟨v, h1, hc⟩ := zcells_ok h c u
  obtain ⟨g1, g2, g3, g4, g5, g6⟩ := newRow_ok hS t v.cells zs 1 (by have := hc.1; omega) (fun j x hj => by
    have hjl : j < v.cells.size := by have := (List.getElem?_eq_some_iff.1 hj).1; have := hc.1; omega
    exact ⟨v.cells[j], Array.getElem?_eq_getElem hjl, hc.2 j _ x (Array.getElem?_eq_getElem hjl) hj⟩)
  refine ⟨.pointer (some ⟨(c.push M1 u.heap.size v.cells.size).blk M1.length, 0, none⟩), _, _, ?_, ?_, g1, hE.trans g2, g3⟩
  · rw [g4]; simp [bldSem, Instr.alloc, h1, newVar, newRow]
  · exact .ptr _ _ _ _ (by simp) (Nat.zero_le _) (fun _ => rfl)
theorem H_allocL {t : TypeId} {M0 M1 M2 : Mem} (L : List (Nat × Option Nat)) (zs : List AV) (hv : w.view = .bld false t 1 [] M0) (hs : VStep M0 M1) (hz : zcells P t L M1 = some zs) (hM : M1 ++ [.cells zs 1 0 false] = M2) (h : (w.back (.ptr M1.length 0 0) M2).holds P GT Q) : w.holds P GT Q :=
  H_bld _ M2 hv (allocL_ok hs hz hM) h
theorem GStep.frz (M : Mem) (b : Nat) : GStep M (frz M b) := by
  intro B I0 c w hS
  unfold Abs.frz
  split
  · rename_i l sz ver z hM
    obtain ⟨h1, h2, h3⟩ := hS.freeze hM
    exact ⟨_, h1, h2, h3⟩
  · exact ⟨c, hS, Ext.refl _ _, Stp.refl _ _ _⟩
theorem H_dvalF {g : FuncId} {pre post args' : List AV} {M : Mem} (b len ver : Nat) {x0 : PD} (x : AV) (hv : w.view = .dcall g (pre ++ .own b len ver :: post) M) (hx : ownPD M b len ver = some x0) (hM : Abs.frz M b = M) (hk : (pre ++ .pd x0 :: post).map wk = args') (hc : ASpec P GT g args' (· = x)) (hp : args'.all pur2 = true) (he : Enters P g)
    (h : (w.back x M).holds P GT Q) : w.holds P GT Q := by
  refine H_dcall x hv (ACall.frz1 pre post b len ver hx ?_) he h
  rw [hM]
  exact (hc.atM (fun x hx => pur2_pure (List.all_eq_true.1 hp x hx)) M).wk hk
theorem H_dvalX {g : FuncId} {pre post args' : List AV} {M : Mem} (b len ver : Nat) {x0 : PD} (x : AV) (hv : w.view = .dcall g (pre ++ .own b len ver :: post) M) (hx : ownPD M b len ver = some x0) (hM : Abs.frz M b = M.set b o) (hM2 : M.set b o = M) (hk : (pre ++ .pd x0 :: post).map wk = args') (hc : ASpec P GT g args' (· = x)) (hp : args'.all pur2 = true) (he : Enters P g)
    (h : (w.back x M).holds P GT Q) : w.holds P GT Q := H_dvalF b len ver x hv hx (hM.trans hM2) hk hc hp he h
def askO (L : List Nat) (v : Bool) (O : List Nat) : Op → Bool
  | .buildSlice t _ _ => O.any (Nat.beq t)
  | o => askG L v o
def askZ (L : List Nat) (v : Bool) (O Z : List Nat) : Op → Bool
  | .ready g => Z.any (Nat.beq g)
  | o => askO L v O o
def unr (P : Program) (GT : Tabs) (q : Op → Bool) (ro : Option Nat) (x : Code) (k : Exit → S → W) : Nat → S → W
  | 0, _ => .fail
  | n + 1, s => wc P GT q ro x s fun e s' => match e with | .normal => unr P GT q ro x k n s' | e => k e s'
attribute [irreducible] unr
section parts
variable {P : Program} {M : Mem} {t et : TypeId} {k : IntKind} {α : Type} {lv : α → List PD} {s : Nat} {b ver : Nat} {z : Bool} {e : List α}
theorem ask_opart {n : Nat} {hi : Int} (hu : P.underlying t = some (.slice et)) (hz : szOf P et = some s) (hM : M[b]? = some (.cells (rowC lv e) s ver z)) (hn : n = e.length) (h : 0 ≤ hi ∧ hi ≤ e.length) :
    (aSlice P M t (.own b n ver) none (some (.pd (.int k hi))) none).map (·, M) = some (.own b hi.toNat ver, M) := by
  subst hn
  obtain ⟨h1, h2⟩ := h
  have hv : verOf M b = ver := by rw [verOf_some hM]; rfl
  have h3 : hi.toNat ≤ e.length := by omega
  simp [aSlice, optNat, AV.nat?, AV.int?, hu, hz, hv, h1, h3]
theorem ask_osub {n : Nat} {lo : Int} (hu : P.underlying t = some (.slice et)) (hz : szOf P et = some s) (hM : M[b]? = some (.cells (rowC lv e) s ver z)) (hn : n = e.length) (h : 0 < lo ∧ lo ≤ e.length) :
    (aSlice P M t (.own b n ver) (some (.pd (.int k lo))) none none).map (·, M) = some (.owx b lo.toNat (n - lo.toNat) ver, M) := by
  subst hn
  obtain ⟨h1, h2⟩ := h
  have hv : verOf M b = ver := by rw [verOf_some hM]; rfl
  have h0 : 0 ≤ lo := by omega
  have h3 : lo.toNat ≤ e.length := by omega
  have h4 : ¬ lo.toNat = 0 := by omega
  have h5 : ¬ lo ≤ 0 := by omega
  have h6 : owxOk P M b et = true := by simp [owxOk, hM, hz]
  simp [aSlice, optNat, AV.nat?, AV.int?, hu, hz, hv, h0, h3, h4, h5, h6]
theorem src_part {hi : Int} (h1 : LVok lv s) (hM : M[b]? = some (.cells (rowC lv e) s ver z)) (h : 0 ≤ hi ∧ hi ≤ e.length) : Src M s (.own b hi.toNat ver) lv (e.take hi.toNat) := by
  show srcCells _ _ _ = _
  simp [srcCells, hM, rowC_take h1]
  omega
theorem ask_copyO {dT : TypeId} {n : Nat} {x : AV} {e2 : List α} (h1 : LVok lv s) (he : (elemT P dT).bind (szOf P) = some s) (hM : M[b]? = some (.cells (rowC lv e) s ver false)) (hn : n = e.length) (hx : Src M s x lv e2) :
    aCopy P M dT (.own b n ver) x = some (.pd (.int .i64 ((Nat.min e2.length e.length : Nat) : Int)), M.set b (.cells (rowC lv (e2.take (Nat.min e2.length e.length) ++ e.drop (Nat.min e2.length e.length))) s ver false)) := by
  subst hn
  have hx' : srcCells M s x = some (rowC lv e2, e2.length) := hx
  unfold aCopy
  simp only [he, hM, hx']
  rw [if_pos ⟨trivial, trivial, ok_row h1 e2⟩, rowC_take h1, rowC_drop h1, ← rowC_append]
theorem ask_copyX {dT : TypeId} {n : Nat} {lo : Int} {x : AV} {e2 : List α} (h1 : LVok lv s) (he : (elemT P dT).bind (szOf P) = some s) (hM : M[b]? = some (.cells (rowC lv e) s ver false)) (hn : n = e.length) (hx : Src M s x lv e2) :
    aCopy P M dT (.owx b lo.toNat (n - lo.toNat) ver) x = some (.pd (.int .i64 ((Nat.min e2.length (e.length - lo.toNat) : Nat) : Int)), M.set b (.cells (rowC lv (e.take lo.toNat ++ e2.take (Nat.min e2.length (e.length - lo.toNat)) ++ e.drop (lo.toNat + Nat.min e2.length (e.length - lo.toNat)))) s ver false)) := by
  subst hn
  have hx' : srcCells M s x = some (rowC lv e2, e2.length) := hx
  unfold aCopy
  simp only [he, hM, hx']
  rw [if_pos ⟨trivial, trivial, ok_row h1 e2⟩, rowC_take h1, rowC_take h1, ← Nat.add_mul, rowC_drop h1, ← rowC_append, ← rowC_append]
theorem ls_copyO {e e2 : List α} {n : Nat} (hn : n = e.length) : n = (e2.take (Nat.min e2.length e.length) ++ e.drop (Nat.min e2.length e.length)).length := by
  have h1 : Nat.min e2.length e.length ≤ e.length := Nat.min_le_right ..
  have h2 : Nat.min e2.length e.length ≤ e2.length := Nat.min_le_left ..
  generalize Nat.min e2.length e.length = m at *
  rw [List.length_append, List.length_take, List.length_drop]; omega
theorem ls_copyX {e e2 : List α} {n : Nat} {lo : Int} (hn : n = e.length) (h : 0 < lo ∧ lo ≤ e.length) : n = (e.take lo.toNat ++ e2.take (Nat.min e2.length (e.length - lo.toNat)) ++ e.drop (lo.toNat + Nat.min e2.length (e.length - lo.toNat))).length := by
  have h1 : lo.toNat ≤ e.length := by omega
  have h2 : Nat.min e2.length (e.length - lo.toNat) ≤ e2.length := Nat.min_le_left ..
  have h3 : Nat.min e2.length (e.length - lo.toNat) ≤ e.length - lo.toNat := Nat.min_le_right ..
  generalize Nat.min e2.length (e.length - lo.toNat) = m at *
  rw [List.length_append, List.length_append, List.length_take, List.length_take, List.length_drop]; omega
end parts
end Go.Abs
end

section
namespace Go.Abs
open Go
end Go.Abs
end

section
namespace Go.Abs
def slices_Clone_nat_Nat_uint32 (l r : List Int) : Prop := Fits l.length 4 ∧ r = l
end Go.Abs
end

section
namespace Go.Abs
set_option linter.unusedVariables false
set_option linter.unusedSimpArgs false
set_option linter.unnecessarySimpa false
def math_bits_Len32 (p0 : Int) (r : Int) : Prop :=
  IfB (decide (p0 ≥ 65536))
    (IfB (decide ((Int.fdiv p0 (2 ^ (min (Int.toNat (16 : Int)) (IntKind.bits .u32)))) ≥ 256))
      (∃ c1, Idx ([0, 1, 2, 2, 3, 3, 3, 3, 4, 4, 4, 4, 4, 4, 4, 4, 5, 5, 5, 5, 5, 5, 5, 5, 5, 5, 5, 5, 5, 5, 5, 5, 6, 6, 6, 6, 6, 6, 6, 6, 6, 6, 6, 6, 6, 6, 6, 6, 6, 6, 6, 6, 6, 6, 6, 6, 6, 6, 6, 6, 6, 6, 6, 6, 7, 7, 7, 7, 7, 7, 7, 7, 7, 7, 7, 7, 7, 7, 7, 7, 7, 7, 7, 7, 7, 7, 7, 7, 7, 7, 7, 7, 7, 7, 7, 7, 7, 7, 7, 7, 7, 7, 7, 7, 7, 7, 7, 7, 7, 7, 7, 7, 7, 7, 7, 7, 7, 7, 7, 7, 7, 7, 7, 7, 7, 7, 7, 7, 8, 8, 8, 8, 8, 8, 8, 8, 8, 8, 8, 8, 8, 8, 8, 8, 8, 8, 8, 8, 8, 8, 8, 8, 8, 8, 8, 8, 8, 8, 8, 8, 8, 8, 8, 8, 8, 8, 8, 8, 8, 8, 8, 8, 8, 8, 8, 8, 8, 8, 8, 8, 8, 8, 8, 8, 8, 8, 8, 8, 8, 8, 8, 8, 8, 8, 8, 8, 8, 8, 8, 8, 8, 8, 8, 8, 8, 8, 8, 8, 8, 8, 8, 8, 8, 8, 8, 8, 8, 8, 8, 8, 8, 8, 8, 8, 8, 8, 8, 8, 8, 8, 8, 8, 8, 8, 8, 8, 8, 8, 8, 8, 8, 8, 8, 8, 8, 8, 8, 8, 8, 8, 8, 8, 8, 8, 8, 8] : List UInt8) (IntKind.u8.wrap (Int.fdiv (Int.fdiv p0 (2 ^ (min (Int.toNat (16 : Int)) (IntKind.bits .u32)))) (2 ^ (min (Int.toNat (8 : Int)) (IntKind.bits .u32))))) c1 ∧
      r = (IntKind.i64.wrap (24 + (IntKind.i64.wrap ((c1.toNat : Nat) : Int)))))
      (∃ c3, Idx ([0, 1, 2, 2, 3, 3, 3, 3, 4, 4, 4, 4, 4, 4, 4, 4, 5, 5, 5, 5, 5, 5, 5, 5, 5, 5, 5, 5, 5, 5, 5, 5, 6, 6, 6, 6, 6, 6, 6, 6, 6, 6, 6, 6, 6, 6, 6, 6, 6, 6, 6, 6, 6, 6, 6, 6, 6, 6, 6, 6, 6, 6, 6, 6, 7, 7, 7, 7, 7, 7, 7, 7, 7, 7, 7, 7, 7, 7, 7, 7, 7, 7, 7, 7, 7, 7, 7, 7, 7, 7, 7, 7, 7, 7, 7, 7, 7, 7, 7, 7, 7, 7, 7, 7, 7, 7, 7, 7, 7, 7, 7, 7, 7, 7, 7, 7, 7, 7, 7, 7, 7, 7, 7, 7, 7, 7, 7, 7, 8, 8, 8, 8, 8, 8, 8, 8, 8, 8, 8, 8, 8, 8, 8, 8, 8, 8, 8, 8, 8, 8, 8, 8, 8, 8, 8, 8, 8, 8, 8, 8, 8, 8, 8, 8, 8, 8, 8, 8, 8, 8, 8, 8, 8, 8, 8, 8, 8, 8, 8, 8, 8, 8, 8, 8, 8, 8, 8, 8, 8, 8, 8, 8, 8, 8, 8, 8, 8, 8, 8, 8, 8, 8, 8, 8, 8, 8, 8, 8, 8, 8, 8, 8, 8, 8, 8, 8, 8, 8, 8, 8, 8, 8, 8, 8, 8, 8, 8, 8, 8, 8, 8, 8, 8, 8, 8, 8, 8, 8, 8, 8, 8, 8, 8, 8, 8, 8, 8, 8, 8, 8, 8, 8, 8, 8, 8, 8] : List UInt8) (IntKind.u8.wrap (Int.fdiv p0 (2 ^ (min (Int.toNat (16 : Int)) (IntKind.bits .u32))))) c3 ∧
      r = (IntKind.i64.wrap (16 + (IntKind.i64.wrap ((c3.toNat : Nat) : Int))))))
    (IfB (decide (p0 ≥ 256))
      (∃ c5, Idx ([0, 1, 2, 2, 3, 3, 3, 3, 4, 4, 4, 4, 4, 4, 4, 4, 5, 5, 5, 5, 5, 5, 5, 5, 5, 5, 5, 5, 5, 5, 5, 5, 6, 6, 6, 6, 6, 6, 6, 6, 6, 6, 6, 6, 6, 6, 6, 6, 6, 6, 6, 6, 6, 6, 6, 6, 6, 6, 6, 6, 6, 6, 6, 6, 7, 7, 7, 7, 7, 7, 7, 7, 7, 7, 7, 7, 7, 7, 7, 7, 7, 7, 7, 7, 7, 7, 7, 7, 7, 7, 7, 7, 7, 7, 7, 7, 7, 7, 7, 7, 7, 7, 7, 7, 7, 7, 7, 7, 7, 7, 7, 7, 7, 7, 7, 7, 7, 7, 7, 7, 7, 7, 7, 7, 7, 7, 7, 7, 8, 8, 8, 8, 8, 8, 8, 8, 8, 8, 8, 8, 8, 8, 8, 8, 8, 8, 8, 8, 8, 8, 8, 8, 8, 8, 8, 8, 8, 8, 8, 8, 8, 8, 8, 8, 8, 8, 8, 8, 8, 8, 8, 8, 8, 8, 8, 8, 8, 8, 8, 8, 8, 8, 8, 8, 8, 8, 8, 8, 8, 8, 8, 8, 8, 8, 8, 8, 8, 8, 8, 8, 8, 8, 8, 8, 8, 8, 8, 8, 8, 8, 8, 8, 8, 8, 8, 8, 8, 8, 8, 8, 8, 8, 8, 8, 8, 8, 8, 8, 8, 8, 8, 8, 8, 8, 8, 8, 8, 8, 8, 8, 8, 8, 8, 8, 8, 8, 8, 8, 8, 8, 8, 8, 8, 8, 8, 8] : List UInt8) (IntKind.u8.wrap (Int.fdiv p0 (2 ^ (min (Int.toNat (8 : Int)) (IntKind.bits .u32))))) c5 ∧
      r = (IntKind.i64.wrap (8 + (IntKind.i64.wrap ((c5.toNat : Nat) : Int)))))
      (∃ c7, Idx ([0, 1, 2, 2, 3, 3, 3, 3, 4, 4, 4, 4, 4, 4, 4, 4, 5, 5, 5, 5, 5, 5, 5, 5, 5, 5, 5, 5, 5, 5, 5, 5, 6, 6, 6, 6, 6, 6, 6, 6, 6, 6, 6, 6, 6, 6, 6, 6, 6, 6, 6, 6, 6, 6, 6, 6, 6, 6, 6, 6, 6, 6, 6, 6, 7, 7, 7, 7, 7, 7, 7, 7, 7, 7, 7, 7, 7, 7, 7, 7, 7, 7, 7, 7, 7, 7, 7, 7, 7, 7, 7, 7, 7, 7, 7, 7, 7, 7, 7, 7, 7, 7, 7, 7, 7, 7, 7, 7, 7, 7, 7, 7, 7, 7, 7, 7, 7, 7, 7, 7, 7, 7, 7, 7, 7, 7, 7, 7, 8, 8, 8, 8, 8, 8, 8, 8, 8, 8, 8, 8, 8, 8, 8, 8, 8, 8, 8, 8, 8, 8, 8, 8, 8, 8, 8, 8, 8, 8, 8, 8, 8, 8, 8, 8, 8, 8, 8, 8, 8, 8, 8, 8, 8, 8, 8, 8, 8, 8, 8, 8, 8, 8, 8, 8, 8, 8, 8, 8, 8, 8, 8, 8, 8, 8, 8, 8, 8, 8, 8, 8, 8, 8, 8, 8, 8, 8, 8, 8, 8, 8, 8, 8, 8, 8, 8, 8, 8, 8, 8, 8, 8, 8, 8, 8, 8, 8, 8, 8, 8, 8, 8, 8, 8, 8, 8, 8, 8, 8, 8, 8, 8, 8, 8, 8, 8, 8, 8, 8, 8, 8, 8, 8, 8, 8, 8, 8] : List UInt8) (IntKind.u8.wrap p0) c7 ∧
      r = (IntKind.i64.wrap (0 + (IntKind.i64.wrap ((c7.toNat : Nat) : Int))))))
def nat_trim_L1 (p0 : List Int) (r : (List Int)) (X1 : Int → Prop) (s : Int) : Prop := match s with
  | s100 =>
  IfB (decide (s100 > 0))
    (∃ x1, Idx p0 (IntKind.i64.wrap (s100 - 1)) x1 ∧
    IfB (x1 == 0)
      (X1 (IntKind.i64.wrap (s100 - 1)))
      (SubOk p0 0 s100 ∧
      ∃ x4, slices_Clone_nat_Nat_uint32 (sub p0 0 s100) x4 ∧
      r = x4))
    (SubOk p0 0 s100 ∧
    ∃ x7, slices_Clone_nat_Nat_uint32 (sub p0 0 s100) x7 ∧
    r = x7)
def nat_trim (p0 : List Int) (r : (List Int)) : Prop :=
  LoopP (nat_trim_L1 p0 r) (p0.length : Int)
def nat_Of (p0 : Int) (r : (List Int)) : Prop :=
  ∃ x1, nat_trim [(IntKind.u32.wrap p0), (IntKind.u32.wrap (Int.fdiv p0 (2 ^ (min (Int.toNat (32 : Int)) (IntKind.bits .u64)))))] x1 ∧
  r = x1
def nat_Small_L1 (x1 : List Int) (r : Int × Bool) (X1 : (Int × Int) → Prop) (s : Int × Int) : Prop := match s with
  | (s100, s101) =>
  IfB (decide (s100 ≥ 0))
    (∃ x3, Idx x1 s100 x3 ∧
    X1 ((IntKind.i64.wrap (s100 - 1)), (bitO .u64 (IntKind.u64.wrap (s101 * 2 ^ (min (Int.toNat (32 : Int)) (IntKind.bits .u64)))) (IntKind.u64.wrap x3))))
    (r = (s101, true))
def nat_Small (p0 : List Int) (r : Int × Bool) : Prop :=
  ∃ x1, nat_trim p0 x1 ∧
  IfB (decide ((x1.length : Int) > 2))
    (r = (0, false))
    (LoopP (nat_Small_L1 x1 r) ((IntKind.i64.wrap ((x1.length : Int) - 1)), (0 : Int)))
def nat_Compare_L1 (x1 : List Int) (x3 : List Int) (r : Int) (X1 : Int → Prop) (s : Int) : Prop := match s with
  | s100 =>
  IfB (decide (s100 ≥ 0))
    (∃ x5, Idx x1 s100 x5 ∧
    ∃ x7, Idx x3 s100 x7 ∧
    IfB (decide (x5 < x7))
      (r = (-1))
      (∃ x9, Idx x3 s100 x9 ∧
      IfB (decide (x5 > x9))
        (r = 1)
        (X1 (IntKind.i64.wrap (s100 - 1)))))
    (r = 0)
def nat_Compare (p0 : List Int) (p1 : List Int) (r : Int) : Prop :=
  ∃ x1, nat_trim p0 x1 ∧
  ∃ x3, nat_trim p1 x3 ∧
  IfB ((x1.length : Int) != (x3.length : Int))
    (r = (if (1 : Int) < (if (-1 : Int) > (IntKind.i64.wrap ((x1.length : Int) - (x3.length : Int))) then (-1) else (IntKind.i64.wrap ((x1.length : Int) - (x3.length : Int)))) then 1 else (if (-1 : Int) > (IntKind.i64.wrap ((x1.length : Int) - (x3.length : Int))) then (-1) else (IntKind.i64.wrap ((x1.length : Int) - (x3.length : Int))))))
    (LoopP (nat_Compare_L1 x1 x3 r) (IntKind.i64.wrap ((x1.length : Int) - 1)))
def nat_at (p0 : List Int) (p1 : Int) (r : Int) : Prop :=
  IfB (decide (p1 < (p0.length : Int)))
    (∃ x1, Idx p0 p1 x1 ∧
    r = (IntKind.u64.wrap x1))
    (r = 0)
def nat_Sub_L1 (p0 : List Int) (p1 : List Int) (r : (List Int) × Bool) (X1 : (Int × Int × (List Int)) → Prop) (s : Int × Int × (List Int)) : Prop := match s with
  | (s100, s101, s150) =>
  IfB (decide (s101 < ((List.replicate (Int.toNat (p0.length : Int)) (0 : Int)).length : Int)))
    (∃ x6, nat_at p0 s101 x6 ∧
    ∃ x8, nat_at p1 s101 x8 ∧
    ∃ x10, Idx s150 s101 x10 ∧
    X1 ((Int.fdiv (IntKind.u64.wrap ((IntKind.u64.wrap (x6 - x8)) - s100)) (2 ^ (min (Int.toNat (63 : Int)) (IntKind.bits .u64)))), (IntKind.i64.wrap (s101 + 1)), (s150.set (Int.toNat s101) (IntKind.u32.wrap (IntKind.u64.wrap ((IntKind.u64.wrap (x6 - x8)) - s100))))))
    (∃ x12, nat_trim s150 x12 ∧
    r = (x12, true))
def nat_Sub (p0 : List Int) (p1 : List Int) (r : (List Int) × Bool) : Prop :=
  ∃ x1, nat_Compare p0 p1 x1 ∧
  IfB (decide (x1 < 0))
    (r = ([], false))
    ((0 ≤ (p0.length : Int) ∧ Fits (Int.toNat (p0.length : Int)) 4 ∧ Fits (Int.toNat (p0.length : Int)) 1) ∧
    LoopP (nat_Sub_L1 p0 p1 r) ((0 : Int), (0 : Int), (List.replicate (Int.toNat (p0.length : Int)) (0 : Int))))
def nat_Mul_L2 (p1 : List Int) (s100 : Int) (X1 : (Int × (List Int)) → Prop) (x4 : Int) (X2 : (Int × Int × (List Int)) → Prop) (s : Int × Int × (List Int)) : Prop := match s with
  | (s200, s201, s250) =>
  IfB (decide (s201 < (p1.length : Int)))
    (∃ x6, Idx p1 s201 x6 ∧
    ∃ x8, Idx s250 (IntKind.i64.wrap (s100 + s201)) x8 ∧
    ∃ x10, Idx s250 (IntKind.i64.wrap (s100 + s201)) x10 ∧
    X2 ((Int.fdiv (IntKind.u64.wrap (s200 + (IntKind.u64.wrap ((IntKind.u64.wrap ((IntKind.u64.wrap x4) * (IntKind.u64.wrap x6))) + (IntKind.u64.wrap x8))))) (2 ^ (min (Int.toNat (32 : Int)) (IntKind.bits .u64)))), (IntKind.i64.wrap (s201 + 1)), (s250.set (Int.toNat (IntKind.i64.wrap (s100 + s201))) (IntKind.u32.wrap (IntKind.u64.wrap (s200 + (IntKind.u64.wrap ((IntKind.u64.wrap ((IntKind.u64.wrap x4) * (IntKind.u64.wrap x6))) + (IntKind.u64.wrap x8)))))))))
    (∃ x12, Idx s250 (IntKind.i64.wrap (s100 + (p1.length : Int))) x12 ∧
    X1 ((IntKind.i64.wrap (s100 + 1)), (s250.set (Int.toNat (IntKind.i64.wrap (s100 + (p1.length : Int)))) (IntKind.u32.wrap s200))))
def nat_Mul_L1 (p0 : List Int) (p1 : List Int) (r : (List Int)) (X1 : (Int × (List Int)) → Prop) (s : Int × (List Int)) : Prop := match s with
  | (s100, s150) =>
  IfB (decide (s100 < (p0.length : Int)))
    (∃ x4, Idx p0 s100 x4 ∧
    LoopP (nat_Mul_L2 p1 s100 X1 x4) ((0 : Int), (0 : Int), s150))
    (∃ x14, nat_trim s150 x14 ∧
    r = x14)
def nat_Mul (p0 : List Int) (p1 : List Int) (r : (List Int)) : Prop :=
  (0 ≤ (IntKind.i64.wrap ((p0.length : Int) + (p1.length : Int))) ∧ Fits (Int.toNat (IntKind.i64.wrap ((p0.length : Int) + (p1.length : Int)))) 4 ∧ Fits (Int.toNat (IntKind.i64.wrap ((p0.length : Int) + (p1.length : Int)))) 1) ∧
  LoopP (nat_Mul_L1 p0 p1 r) ((0 : Int), (List.replicate (Int.toNat (IntKind.i64.wrap ((p0.length : Int) + (p1.length : Int)))) (0 : Int)))
def nat_Bits (p0 : List Int) (r : Int) : Prop :=
  ∃ x1, nat_trim p0 x1 ∧
  IfB ((x1.length : Int) == 0)
    (r = 0)
    (∃ x3, Idx x1 (IntKind.i64.wrap ((x1.length : Int) - 1)) x3 ∧
    ∃ x5, math_bits_Len32 x3 x5 ∧
    r = (IntKind.i64.wrap ((IntKind.i64.wrap (32 * (IntKind.i64.wrap ((x1.length : Int) - 1)))) + x5)))
def nat_Shift_L1 (p0 : List Int) (p1 : Int) (r : (List Int)) (X1 : (Int × (List Int)) → Prop) (s : Int × (List Int)) : Prop := match s with
  | (s100, s150) =>
  IfB (decide (s100 < (p0.length : Int)))
    (∃ x8, Idx p0 s100 x8 ∧
    0 ≤ (Int.tmod p1 (32 : Int)) ∧
    ∃ x11, Idx s150 (IntKind.i64.wrap (s100 + (IntKind.i64.wrap (Int.tdiv p1 (32 : Int))))) x11 ∧
    ∃ x13, Idx s150 (IntKind.i64.wrap (s100 + (IntKind.i64.wrap (Int.tdiv p1 (32 : Int))))) x13 ∧
    ∃ x15, Idx (s150.set (Int.toNat (IntKind.i64.wrap (s100 + (IntKind.i64.wrap (Int.tdiv p1 (32 : Int)))))) (bitO .u32 x11 (IntKind.u32.wrap (IntKind.u64.wrap ((IntKind.u64.wrap x8) * 2 ^ (min (Int.toNat (Int.tmod p1 (32 : Int))) (IntKind.bits .u64))))))) (IntKind.i64.wrap ((IntKind.i64.wrap (s100 + (IntKind.i64.wrap (Int.tdiv p1 (32 : Int))))) + 1)) x15 ∧
    ∃ x17, Idx (s150.set (Int.toNat (IntKind.i64.wrap (s100 + (IntKind.i64.wrap (Int.tdiv p1 (32 : Int)))))) (bitO .u32 x11 (IntKind.u32.wrap (IntKind.u64.wrap ((IntKind.u64.wrap x8) * 2 ^ (min (Int.toNat (Int.tmod p1 (32 : Int))) (IntKind.bits .u64))))))) (IntKind.i64.wrap ((IntKind.i64.wrap (s100 + (IntKind.i64.wrap (Int.tdiv p1 (32 : Int))))) + 1)) x17 ∧
    X1 ((IntKind.i64.wrap (s100 + 1)), ((s150.set (Int.toNat (IntKind.i64.wrap (s100 + (IntKind.i64.wrap (Int.tdiv p1 (32 : Int)))))) (bitO .u32 x11 (IntKind.u32.wrap (IntKind.u64.wrap ((IntKind.u64.wrap x8) * 2 ^ (min (Int.toNat (Int.tmod p1 (32 : Int))) (IntKind.bits .u64))))))).set (Int.toNat (IntKind.i64.wrap ((IntKind.i64.wrap (s100 + (IntKind.i64.wrap (Int.tdiv p1 (32 : Int))))) + 1))) (bitO .u32 x15 (IntKind.u32.wrap (Int.fdiv (IntKind.u64.wrap ((IntKind.u64.wrap x8) * 2 ^ (min (Int.toNat (Int.tmod p1 (32 : Int))) (IntKind.bits .u64)))) (2 ^ (min (Int.toNat (32 : Int)) (IntKind.bits .u64)))))))))
    (∃ x19, nat_trim s150 x19 ∧
    r = x19)
def nat_Shift (p0 : List Int) (p1 : Int) (r : (List Int)) : Prop :=
  IfB (decide (p1 < 0))
    (∃ x1, nat_trim p0 x1 ∧
    r = x1)
    (IfB (decide (p1 > 65536))
      (∃ x3, nat_trim p0 x3 ∧
      r = x3)
      ((0 ≤ (IntKind.i64.wrap ((IntKind.i64.wrap ((p0.length : Int) + (IntKind.i64.wrap (Int.tdiv p1 (32 : Int))))) + 1)) ∧ Fits (Int.toNat (IntKind.i64.wrap ((IntKind.i64.wrap ((p0.length : Int) + (IntKind.i64.wrap (Int.tdiv p1 (32 : Int))))) + 1))) 4 ∧ Fits (Int.toNat (IntKind.i64.wrap ((IntKind.i64.wrap ((p0.length : Int) + (IntKind.i64.wrap (Int.tdiv p1 (32 : Int))))) + 1))) 1) ∧
      LoopP (nat_Shift_L1 p0 p1 r) ((0 : Int), (List.replicate (Int.toNat (IntKind.i64.wrap ((IntKind.i64.wrap ((p0.length : Int) + (IntKind.i64.wrap (Int.tdiv p1 (32 : Int))))) + 1))) (0 : Int)))))
def nat_digit_L1 (p1 : List Int) (r : Int × (List Int)) (X1 : ((List Int) × Int × Int) → Prop) (s : (List Int) × Int × Int) : Prop := match s with
  | (s100, s101, s102) =>
  IfB (decide (s102 ≥ 0))
    (∃ x1, nat_Shift p1 s102 x1 ∧
    ∃ x3 x4, nat_Sub s100 x1 (x3, x4) ∧
    IfB x4
      (0 ≤ s102 ∧
      X1 (x3, (bitO .u32 s101 (IntKind.u32.wrap ((1 : Int) * 2 ^ (min (Int.toNat s102) (IntKind.bits .u32))))), (IntKind.i64.wrap (s102 - 1))))
      (X1 (s100, s101, (IntKind.i64.wrap (s102 - 1)))))
    (r = (s101, s100))
def nat_digit (p0 : List Int) (p1 : List Int) (r : Int × (List Int)) : Prop :=
  LoopP (nat_digit_L1 p1 r) (p0, (0 : Int), (31 : Int))
def nat_DivMod_L1 (x1 : List Int) (x3 : List Int) (r : (List Int) × (List Int) × Int) (X1 : (Int × (List Int) × (List Int)) → Prop) (s : Int × (List Int) × (List Int)) : Prop := match s with
  | (s100, s101, s151) =>
  IfB (decide (s100 ≥ 0))
    (∃ x8, Idx x1 s100 x8 ∧
    IfB s101.isEmpty
      (∃ x11, nat_trim [x8] x11 ∧
      IfB ((x3.length : Int) == 1)
        (∃ x13 x14, nat_Small x11 (x13, x14) ∧
        IfB x14
          (∃ x16, Idx x3 0 x16 ∧
          (IntKind.u64.wrap x16) ≠ 0 ∧
          ∃ x19, Idx s151 s100 x19 ∧
          ∃ x21, Idx x3 0 x21 ∧
          (IntKind.u64.wrap x21) ≠ 0 ∧
          ∃ x24, nat_Of (Int.tmod x13 (IntKind.u64.wrap x21)) x24 ∧
          X1 ((IntKind.i64.wrap (s100 - 1)), x24, (s151.set (Int.toNat s100) (IntKind.u32.wrap (IntKind.u64.wrap (Int.tdiv x13 (IntKind.u64.wrap x16)))))))
          (∃ x26, Idx x3 0 x26 ∧
          (IntKind.u64.wrap x26) ≠ 0 ∧
          ∃ x29, Idx s151 s100 x29 ∧
          ∃ x31, Idx x3 0 x31 ∧
          (IntKind.u64.wrap x31) ≠ 0 ∧
          ∃ x34, nat_Of (Int.tmod x13 (IntKind.u64.wrap x31)) x34 ∧
          X1 ((IntKind.i64.wrap (s100 - 1)), x34, (s151.set (Int.toNat s100) (IntKind.u32.wrap (IntKind.u64.wrap (Int.tdiv x13 (IntKind.u64.wrap x26))))))))
        (∃ x36 x37, nat_digit x11 x3 (x36, x37) ∧
        ∃ x39, Idx s151 s100 x39 ∧
        X1 ((IntKind.i64.wrap (s100 - 1)), x37, (s151.set (Int.toNat s100) x36))))
      (Fits ([x8].length + s101.length) 4 ∧
      ∃ x42, nat_trim ([x8] ++ s101) x42 ∧
      IfB ((x3.length : Int) == 1)
        (∃ x44 x45, nat_Small x42 (x44, x45) ∧
        IfB x45
          (∃ x47, Idx x3 0 x47 ∧
          (IntKind.u64.wrap x47) ≠ 0 ∧
          ∃ x50, Idx s151 s100 x50 ∧
          ∃ x52, Idx x3 0 x52 ∧
          (IntKind.u64.wrap x52) ≠ 0 ∧
          ∃ x55, nat_Of (Int.tmod x44 (IntKind.u64.wrap x52)) x55 ∧
          X1 ((IntKind.i64.wrap (s100 - 1)), x55, (s151.set (Int.toNat s100) (IntKind.u32.wrap (IntKind.u64.wrap (Int.tdiv x44 (IntKind.u64.wrap x47)))))))
          (∃ x57, Idx x3 0 x57 ∧
          (IntKind.u64.wrap x57) ≠ 0 ∧
          ∃ x60, Idx s151 s100 x60 ∧
          ∃ x62, Idx x3 0 x62 ∧
          (IntKind.u64.wrap x62) ≠ 0 ∧
          ∃ x65, nat_Of (Int.tmod x44 (IntKind.u64.wrap x62)) x65 ∧
          X1 ((IntKind.i64.wrap (s100 - 1)), x65, (s151.set (Int.toNat s100) (IntKind.u32.wrap (IntKind.u64.wrap (Int.tdiv x44 (IntKind.u64.wrap x57))))))))
        (∃ x67 x68, nat_digit x42 x3 (x67, x68) ∧
        ∃ x70, Idx s151 s100 x70 ∧
        X1 ((IntKind.i64.wrap (s100 - 1)), x68, (s151.set (Int.toNat s100) x67)))))
    (∃ x72, nat_trim s151 x72 ∧
    r = (x72, s101, 0))
def nat_DivMod (p0 : List Int) (p1 : List Int) (r : (List Int) × (List Int) × Int) : Prop :=
  ∃ x1, nat_trim p0 x1 ∧
  ∃ x3, nat_trim p1 x3 ∧
  IfB ((x3.length : Int) == 0)
    (r = ([], [], 5))
    ((0 ≤ (x1.length : Int) ∧ Fits (Int.toNat (x1.length : Int)) 4 ∧ Fits (Int.toNat (x1.length : Int)) 1) ∧
    LoopP (nat_DivMod_L1 x1 x3 r) ((IntKind.i64.wrap ((x1.length : Int) - 1)), [], (List.replicate (Int.toNat (x1.length : Int)) (0 : Int))))
def nat_Gcd_L1 (r : (List Int)) (X1 : ((List Int) × (List Int)) → Prop) (s : (List Int) × (List Int)) : Prop := match s with
  | (s100, s101) =>
  IfB (decide ((s101.length : Int) > 0))
    (∃ x5 x6 x7, nat_DivMod s100 s101 (x5, x6, x7) ∧
    X1 (s101, x6))
    (r = s100)
def nat_Gcd (p0 : List Int) (p1 : List Int) (r : (List Int)) : Prop :=
  ∃ x1, nat_trim p0 x1 ∧
  ∃ x3, nat_trim p1 x3 ∧
  LoopP (nat_Gcd_L1 r) (x1, x3)
def whole_Make (p0 : Bool) (p1 : List Int) (r : Bool × (List Int)) : Prop :=
  IfB p0
    (∃ x1, nat_Shift p1 (0 : Int) x1 ∧
    IfB (decide ((x1.length : Int) > 0))
      (r = (true, x1))
      (r = (false, x1)))
    (∃ x3, nat_Shift p1 (0 : Int) x3 ∧
    r = (false, x3))
def whole_Of (p0 : Int) (r : Bool × (List Int)) : Prop :=
  IfB (decide (p0 < 0))
    (∃ x1, nat_Of (IntKind.u64.wrap (if (IntKind.i64.wrap (0 - p0)) > p0 then (IntKind.i64.wrap (0 - p0)) else p0)) x1 ∧
    ∃ x3 x4, whole_Make true x1 (x3, x4) ∧
    r = (x3, x4))
    (∃ x6, nat_Of (IntKind.u64.wrap (if (IntKind.i64.wrap (0 - p0)) > p0 then (IntKind.i64.wrap (0 - p0)) else p0)) x6 ∧
    ∃ x8 x9, whole_Make false x6 (x8, x9) ∧
    r = (x8, x9))
def whole_Sign (p0 : Bool) (p1 : List Int) (r : Int) : Prop :=
  ∃ x1 x2, whole_Make p0 p1 (x1, x2) ∧
  IfB x1
    (IfB ((x2.length : Int) == 0)
      (r = 0)
      (r = (-1)))
    (IfB ((x2.length : Int) == 0)
      (r = 0)
      (r = 1))
def whole_Mul (p0 : Bool) (p1 : List Int) (p2 : Bool) (p3 : List Int) (r : Bool × (List Int)) : Prop :=
  ∃ x1, whole_Sign p0 p1 x1 ∧
  ∃ x3, whole_Sign p2 p3 x3 ∧
  IfB (decide ((IntKind.i64.wrap (x1 * x3)) < 0))
    (∃ x5, nat_Mul p1 p3 x5 ∧
    ∃ x7 x8, whole_Make true x5 (x7, x8) ∧
    r = (x7, x8))
    (∃ x10, nat_Mul p1 p3 x10 ∧
    ∃ x12 x13, whole_Make false x10 (x12, x13) ∧
    r = (x12, x13))
def rat_den (p0 : Bool) (p1 : List Int) (p2 : List Int) (r : (List Int)) : Prop :=
  ∃ x1, nat_Bits p2 x1 ∧
  IfB (x1 == 0)
    (∃ x3, nat_Of (1 : Int) x3 ∧
    r = x3)
    (r = p2)
def rat_Make (p0 : Bool) (p1 : List Int) (p2 : List Int) (r : Bool × (List Int) × (List Int)) : Prop :=
  ∃ x1, rat_den false ([] : List Int) p2 x1 ∧
  ∃ x3, nat_Gcd p1 x1 x3 ∧
  ∃ x5 x6 x7, nat_DivMod p1 x3 (x5, x6, x7) ∧
  ∃ x9 x10 x11, nat_DivMod x1 x3 (x9, x10, x11) ∧
  ∃ x13 x14, whole_Make p0 x5 (x13, x14) ∧
  r = (x13, x14, x9)
def rat_Int (p0 : Int) (r : Bool × (List Int) × (List Int)) : Prop :=
  ∃ x1 x2, whole_Of p0 (x1, x2) ∧
  ∃ x4, nat_Of (1 : Int) x4 ∧
  ∃ x6 x7 x8, rat_Make x1 x2 x4 (x6, x7, x8) ∧
  r = (x6, x7, x8)
def rat_Mul (p0 : Bool) (p1 : List Int) (p2 : List Int) (p3 : Bool) (p4 : List Int) (p5 : List Int) (r : Bool × (List Int) × (List Int)) : Prop :=
  ∃ x1 x2, whole_Mul p0 p1 p3 p4 (x1, x2) ∧
  ∃ x4, rat_den p0 p1 p2 x4 ∧
  ∃ x6, rat_den p3 p4 p5 x6 ∧
  ∃ x8, nat_Mul x4 x6 x8 ∧
  ∃ x10 x11 x12, rat_Make x1 x2 x8 (x10, x11, x12) ∧
  r = (x10, x11, x12)
end Go.Abs
end

section
namespace Go.Abs
set_option linter.unusedVariables false
set_option linter.unusedSimpArgs false
set_option linter.unnecessarySimpa false
def lines_may (p0 : Int) (r : Bool) : Prop :=
  IfB (p0 == 10)
    (r = true)
    (IfB (decide (p0 ≥ 32))
      (IfB (decide (p0 ≤ 126))
        (r = true)
        (r = false))
      (r = false))
def lines_All_L2 (x4 : List (List UInt8)) (r : (List (Int × (List (List UInt8)))) × Int) (X2 : (Int × (List (Int × (List (List UInt8))))) → Prop) (s : Int × (List (Int × (List (List UInt8))))) : Prop := match s with
  | (s200, s252) =>
  IfB (decide (s200 < (x4.length : Int)))
    (∃ x6, Idx x4 s200 x6 ∧
    ∃ x8 x9 x10, strings_Cut x6 ([35] : List UInt8) (x8, x9, x10) ∧
    IfB x10
      (∃ x12, strings_Fields x8 x12 ∧
      IfB (decide ((x12.length : Int) > 0))
        (Fits (s252.length + [((IntKind.i64.wrap (s200 + 1)), x12)].length) 32 ∧
        X2 ((IntKind.i64.wrap (s200 + 1)), (s252 ++ [((IntKind.i64.wrap (s200 + 1)), x12)])))
        (X2 ((IntKind.i64.wrap (s200 + 1)), s252)))
      (∃ x15, strings_Fields x8 x15 ∧
      IfB (decide ((x15.length : Int) > 0))
        (Fits (s252.length + [((IntKind.i64.wrap (s200 + 1)), x15)].length) 32 ∧
        X2 ((IntKind.i64.wrap (s200 + 1)), (s252 ++ [((IntKind.i64.wrap (s200 + 1)), x15)])))
        (X2 ((IntKind.i64.wrap (s200 + 1)), s252))))
    (r = (s252, 0))
def lines_All_L1 (p0 : List UInt8) (r : (List (Int × (List (List UInt8)))) × Int) (X1 : Nat → Prop) (s : Nat) : Prop := match s with
  | s151 =>
  IfB (decide (s151 < p0.length))
    (∃ x2, lines_may (runeAt p0 s151) x2 ∧
    IfB x2
      (X1 (s151 + runeLen p0 s151))
      (r = ([], 2)))
    (∃ x4, strings_Split p0 ([10] : List UInt8) x4 ∧
    LoopP (lines_All_L2 x4 r) ((0 : Int), []))
def lines_All (p0 : List UInt8) (r : (List (Int × (List (List UInt8)))) × Int) : Prop :=
  IfB (decide ((p0.length : Int) > 65536))
    (r = ([], 4))
    (LoopP (lines_All_L1 p0 r) 0)
def lines_Join (p0 : List (List UInt8)) (r : (List UInt8)) : Prop :=
  ∃ x1, strings_Join p0 ([32] : List UInt8) x1 ∧
  r = x1
def offcutref07_Right_L1 (p0 : List UInt8) (r : Bool) (X1 : Int → Prop) (s : Int) : Prop := match s with
  | s100 =>
  IfB (decide (s100 < (p0.length : Int)))
    (∃ c1, Idx p0 s100 c1 ∧
    IfB (((c1.toNat : Nat) : Int) != 10)
      (∃ c3, Idx p0 s100 c3 ∧
      IfB (decide (((c3.toNat : Nat) : Int) < 32))
        (r = false)
        (∃ c5, Idx p0 s100 c5 ∧
        IfB (decide (((c5.toNat : Nat) : Int) > 126))
          (r = false)
          (X1 (IntKind.i64.wrap (s100 + 1)))))
      (X1 (IntKind.i64.wrap (s100 + 1))))
    (r = true)
def offcutref07_Right (p0 : List UInt8) (r : Bool) : Prop :=
  LoopP (offcutref07_Right_L1 p0 r) (0 : Int)
def offcutref07_All_L1 (p0 : List UInt8) (r : (List (Int × (List (List UInt8))))) (X1 : ((List UInt8) × Bool × Int × Int × (List (Int × (List (List UInt8)))) × (List (List UInt8))) → Prop) (s : (List UInt8) × Bool × Int × Int × (List (Int × (List (List UInt8)))) × (List (List UInt8))) : Prop := match s with
  | (s100, s101, s102, s103, s151, s152) =>
  IfB s101
    (IfB (decide (s102 ≤ (p0.length : Int)))
      (IfB (s102 == (p0.length : Int))
        (IfB (!(s100 == []))
          (Fits (s152.length + [s100].length) 16 ∧
          IfB (decide (((s152 ++ [s100]).length : Int) > 0))
            (Fits (s151.length + [(s103, (s152 ++ [s100]))].length) 32 ∧
            X1 ([], false, (IntKind.i64.wrap (s102 + 1)), (IntKind.i64.wrap (s103 + 1)), (s151 ++ [(s103, (s152 ++ [s100]))]), []))
            (X1 ([], false, (IntKind.i64.wrap (s102 + 1)), (IntKind.i64.wrap (s103 + 1)), s151, [])))
          (IfB (decide ((s152.length : Int) > 0))
            (Fits (s151.length + [(s103, s152)].length) 32 ∧
            X1 ([], false, (IntKind.i64.wrap (s102 + 1)), (IntKind.i64.wrap (s103 + 1)), (s151 ++ [(s103, s152)]), []))
            (X1 ([], false, (IntKind.i64.wrap (s102 + 1)), (IntKind.i64.wrap (s103 + 1)), s151, []))))
        (∃ c4, Idx p0 s102 c4 ∧
        IfB (((c4.toNat : Nat) : Int) == 10)
          (IfB (!(s100 == []))
            (Fits (s152.length + [s100].length) 16 ∧
            IfB (decide (((s152 ++ [s100]).length : Int) > 0))
              (Fits (s151.length + [(s103, (s152 ++ [s100]))].length) 32 ∧
              X1 ([], false, (IntKind.i64.wrap (s102 + 1)), (IntKind.i64.wrap (s103 + 1)), (s151 ++ [(s103, (s152 ++ [s100]))]), []))
              (X1 ([], false, (IntKind.i64.wrap (s102 + 1)), (IntKind.i64.wrap (s103 + 1)), s151, [])))
            (IfB (decide ((s152.length : Int) > 0))
              (Fits (s151.length + [(s103, s152)].length) 32 ∧
              X1 ([], false, (IntKind.i64.wrap (s102 + 1)), (IntKind.i64.wrap (s103 + 1)), (s151 ++ [(s103, s152)]), []))
              (X1 ([], false, (IntKind.i64.wrap (s102 + 1)), (IntKind.i64.wrap (s103 + 1)), s151, []))))
          (∃ c9, Idx p0 s102 c9 ∧
          IfB (((c9.toNat : Nat) : Int) == 35)
            (IfB (!(s100 == []))
              (Fits (s152.length + [s100].length) 16 ∧
              X1 ([], true, (IntKind.i64.wrap (s102 + 1)), s103, s151, (s152 ++ [s100])))
              (X1 ([], true, (IntKind.i64.wrap (s102 + 1)), s103, s151, s152)))
            (IfB (!(s100 == []))
              (Fits (s152.length + [s100].length) 16 ∧
              X1 ([], true, (IntKind.i64.wrap (s102 + 1)), s103, s151, (s152 ++ [s100])))
              (X1 ([], true, (IntKind.i64.wrap (s102 + 1)), s103, s151, s152))))))
      (r = s151))
    (IfB (decide (s102 ≤ (p0.length : Int)))
      (IfB (s102 == (p0.length : Int))
        (IfB (!(s100 == []))
          (Fits (s152.length + [s100].length) 16 ∧
          IfB (decide (((s152 ++ [s100]).length : Int) > 0))
            (Fits (s151.length + [(s103, (s152 ++ [s100]))].length) 32 ∧
            X1 ([], false, (IntKind.i64.wrap (s102 + 1)), (IntKind.i64.wrap (s103 + 1)), (s151 ++ [(s103, (s152 ++ [s100]))]), []))
            (X1 ([], false, (IntKind.i64.wrap (s102 + 1)), (IntKind.i64.wrap (s103 + 1)), s151, [])))
          (IfB (decide ((s152.length : Int) > 0))
            (Fits (s151.length + [(s103, s152)].length) 32 ∧
            X1 ([], false, (IntKind.i64.wrap (s102 + 1)), (IntKind.i64.wrap (s103 + 1)), (s151 ++ [(s103, s152)]), []))
            (X1 ([], false, (IntKind.i64.wrap (s102 + 1)), (IntKind.i64.wrap (s103 + 1)), s151, []))))
        (∃ c16, Idx p0 s102 c16 ∧
        IfB (((c16.toNat : Nat) : Int) == 10)
          (IfB (!(s100 == []))
            (Fits (s152.length + [s100].length) 16 ∧
            IfB (decide (((s152 ++ [s100]).length : Int) > 0))
              (Fits (s151.length + [(s103, (s152 ++ [s100]))].length) 32 ∧
              X1 ([], false, (IntKind.i64.wrap (s102 + 1)), (IntKind.i64.wrap (s103 + 1)), (s151 ++ [(s103, (s152 ++ [s100]))]), []))
              (X1 ([], false, (IntKind.i64.wrap (s102 + 1)), (IntKind.i64.wrap (s103 + 1)), s151, [])))
            (IfB (decide ((s152.length : Int) > 0))
              (Fits (s151.length + [(s103, s152)].length) 32 ∧
              X1 ([], false, (IntKind.i64.wrap (s102 + 1)), (IntKind.i64.wrap (s103 + 1)), (s151 ++ [(s103, s152)]), []))
              (X1 ([], false, (IntKind.i64.wrap (s102 + 1)), (IntKind.i64.wrap (s103 + 1)), s151, []))))
          (∃ c21, Idx p0 s102 c21 ∧
          IfB (((c21.toNat : Nat) : Int) == 35)
            (IfB (!(s100 == []))
              (Fits (s152.length + [s100].length) 16 ∧
              X1 ([], true, (IntKind.i64.wrap (s102 + 1)), s103, s151, (s152 ++ [s100])))
              (X1 ([], true, (IntKind.i64.wrap (s102 + 1)), s103, s151, s152)))
            (∃ c24, Idx p0 s102 c24 ∧
            IfB (((c24.toNat : Nat) : Int) == 32)
              (IfB (!(s100 == []))
                (Fits (s152.length + [s100].length) 16 ∧
                X1 ([], false, (IntKind.i64.wrap (s102 + 1)), s103, s151, (s152 ++ [s100])))
                (X1 ([], false, (IntKind.i64.wrap (s102 + 1)), s103, s151, s152)))
              (SubOk p0 s102 (IntKind.i64.wrap (s102 + 1)) ∧
              Fits (s100.length + (sub p0 s102 (IntKind.i64.wrap (s102 + 1))).length) 1 ∧
              X1 ((s100 ++ (sub p0 s102 (IntKind.i64.wrap (s102 + 1)))), false, (IntKind.i64.wrap (s102 + 1)), s103, s151, s152))))))
      (r = s151))
def offcutref07_All (p0 : List UInt8) (r : (List (Int × (List (List UInt8))))) : Prop :=
  LoopP (offcutref07_All_L1 p0 r) ([], false, (0 : Int), (1 : Int), [], [])
def lines_Name_L1 (p0 : List UInt8) (r : Bool) (X1 : Nat → Prop) (s : Nat) : Prop := match s with
  | s150 =>
  IfB (decide (s150 < p0.length))
    (IfB (decide ((runeAt p0 s150) ≥ 97))
      (IfB (decide ((runeAt p0 s150) ≤ 122))
        (X1 (s150 + runeLen p0 s150))
        (IfB (((s150 : Nat) : Int) == 0)
          (r = false)
          (IfB ((runeAt p0 s150) != 95)
            (IfB (decide ((runeAt p0 s150) < 48))
              (r = false)
              (IfB (decide ((runeAt p0 s150) > 57))
                (r = false)
                (X1 (s150 + runeLen p0 s150))))
            (X1 (s150 + runeLen p0 s150)))))
      (IfB (((s150 : Nat) : Int) == 0)
        (r = false)
        (IfB ((runeAt p0 s150) != 95)
          (IfB (decide ((runeAt p0 s150) < 48))
            (r = false)
            (IfB (decide ((runeAt p0 s150) > 57))
              (r = false)
              (X1 (s150 + runeLen p0 s150))))
          (X1 (s150 + runeLen p0 s150)))))
    (IfB (decide ((p0.length : Int) ≥ 1))
      (IfB (decide ((p0.length : Int) ≤ 16))
        (r = true)
        (r = false))
      (r = false))
def lines_Name (p0 : List UInt8) (r : Bool) : Prop :=
  LoopP (lines_Name_L1 p0 r) 0
def lines_Index (p0 : List (List UInt8)) (p1 : List UInt8) (r : Int) : Prop :=
  ∃ x1, slices_Index_string_string p0 p1 x1 ∧
  r = x1
end Go.Abs
end

section
namespace Go.Abs
end Go.Abs
end

section
namespace Go.Abs
open Go
end Go.Abs
end

section
namespace Go.Abs
set_option linter.unusedVariables false
set_option linter.unusedSimpArgs false
set_option linter.unnecessarySimpa false
def offcutlaw05_Few_L1 (p0 : List (Bool × (List Int) × (List Int))) (r : Bool) (X1 : Int → Prop) (s : Int) : Prop := match s with
  | s100 =>
  IfB (decide (s100 < (p0.length : Int)))
   (IfB (decide (s100 ≤ 8))
   (∃ x3 x4 x5, Idx p0 s100 (x3, x4, x5) ∧
   IfB (decide ((x4.length : Int) > 3))
   (r = false)
   (∃ x8 x9 x10, Idx p0 s100 (x8, x9, x10) ∧
   IfB (decide ((x10.length : Int) > 3))
   (r = false)
   (X1 (IntKind.i64.wrap (s100 + 1)))))
   (IfB (decide ((p0.length : Int) ≤ 8))
   (r = true)
   (r = false)))
   (IfB (decide ((p0.length : Int) ≤ 8))
   (r = true)
   (r = false))
def offcutlaw05_Few (p0 : List (Bool × (List Int) × (List Int))) (r : Bool) : Prop :=
  LoopP (offcutlaw05_Few_L1 p0 r) (0 : Int)
end Go.Abs
end
