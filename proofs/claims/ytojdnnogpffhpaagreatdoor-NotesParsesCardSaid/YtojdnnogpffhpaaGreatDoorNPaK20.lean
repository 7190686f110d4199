/- Part of a proof, in few files: Abs32 G09bW MSw SAY. -/
import Derived.Test.YtojdnnogpffhpaaGreatDoorNPaK15
import Derived.Test.YtojdnnogpffhpaaGreatDoorNPaK19
import Derived.Test.YtojdnnogpffhpaaGreatDoorNPaK13
import Derived.Test.YtojdnnogpffhpaaGreatDoorNPaK9

section
namespace Go.Abs
open Go.RowKit
set_option linter.unusedVariables false
set_option linter.unusedSimpArgs false
variable {P : Program} {GT : Tabs} {ro : Option Nat} {Q : Exit → S → Prop}
theorem AW.gpost {code : Code} {s : S} {Q' : Exit → S → Prop} (h : AW P GT ro code s Q') (hq : ∀ e s', Q' e s' → ∃ M1, GStep s'.M M1 ∧ Q e ⟨s'.T, M1, s'.D⟩) : AW P GT ro code s Q := by
  intro B I0 c a w n hr ho
  refine wpIn_mono (h B I0 c a w n hr ho) ?_
  rintro e a' w' ⟨s', c', q, r, he, hs⟩
  obtain ⟨M1, hg, hQ⟩ := hq e s' q
  obtain ⟨c2, g1, g2, g3⟩ := hg _ _ _ _ r.sim
  exact ⟨⟨s'.T, M1, s'.D⟩, c2, hQ, ⟨g1, r.glob.mono g3, r.tmps.mono g2 g3, r.dfs.mono g2⟩, he.trans g2, hs.trans g3⟩
theorem GStep.cell {M : Mem} {b sz ver : Nat} {l : List AV} {z : Bool} {j bb len v : Nat} {x : PD} {l2 : List AV} {s2 : Nat} {z2 : Bool} (hM : M[b]? = some (.cells l sz ver z)) (hl : l[j]? = some (.own bb len v)) (hx : ownPD M bb len v = some x)
    (hb : M[bb]? = some (.cells l2 s2 v z2)) (hne : bb ≠ b) : GStep M ((M.set bb (.cells l2 s2 v true)).set b (.cells (l.set j (.pd x)) sz ver z)) := by
  intro B I0 c w hS
  obtain ⟨q1, q2, q3⟩ := hS.freeze hb
  have hM1 : (M.set bb (.cells l2 s2 v true))[b]? = some (.cells l sz ver z) := by rw [List.getElem?_set_ne hne]; exact hM
  have he : Ext (c.freeze bb) (M.set bb (.cells l2 s2 v true)) (c.freeze bb) ((M.set bb (.cells l2 s2 v true)).set b (.cells (l.set j (.pd x)) sz ver z)) := Ext.set hM1 rfl (Nat.le_refl _) (fun _ => by simp [Ob.shape])
  have hst : Stp B (c.freeze bb) w (c.freeze bb) w := Stp.refl _ _ _
  have hlt := (List.getElem?_eq_some_iff.1 hM1).1
  have rs : ∀ i, real ((M.set bb (.cells l2 s2 v true)).set b (.cells (l.set j (.pd x)) sz ver z)) i → real (M.set bb (.cells l2 s2 v true)) i := fun i hi => real_set hM1 rfl hi
  refine ⟨c.freeze bb, ⟨fun i hi => q1.blkB i (rs i hi), fun i k hi hk => q1.inj i k (rs i hi) (rs k hk), q1.imm0, q1.immB, q1.immlt, ?_, ?_, q1.hB⟩, q2.trans he, q3.trans hst⟩
  · intro i p hp hz hv
    by_cases e : b = i
    · subst e
      rw [List.getElem?_set_self hlt] at hp; cases hp
      exact q1.sep _ _ hM1 hz rfl
    · rw [List.getElem?_set_ne e] at hp
      exact q1.sep i p hp hz hv
  · intro i p hp
    by_cases e : b = i
    · subst e
      rw [List.getElem?_set_self hlt] at hp; cases hp
      obtain ⟨cs, e1, h1, h2, h3, h4⟩ := q1.obj _ _ hM1
      refine ⟨cs, e1, h1, h2, by simpa using h3, fun k y hy => ?_⟩
      by_cases ek : j = k
      · subst ek
        rw [List.getElem?_set_self (List.getElem?_eq_some_iff.1 hl).1] at hy; cases hy
        obtain ⟨cs0, e0, k1, k2, k3, k4⟩ := hS.row hM
        obtain ⟨u, u1, u2⟩ := k4 j _ hl
        have hk : w.heap[c.blk b]? = some (.cells cs e1 (0, 0)) := h1
        rw [k1] at hk; cases hk
        exact ⟨u, u1, .pd _ _ (ownPD_ok hS u2 hx (fun _ h => .inl h) fun _ => .inr rfl)⟩
      · rw [List.getElem?_set_ne ek] at hy
        obtain ⟨u, u1, u2⟩ := h4 k y hy
        exact ⟨u, u1, u2.mono he hst⟩
    · rw [List.getElem?_set_ne e] at hp
      exact (q1.obj i p hp).mono he hst rfl rfl fun _ => rfl
def RndU {σ γ : Type} (P : Program) (GT : Tabs) (Q : Exit → S → Prop) (w : W) (n : Nat) (st : σ → γ → List (Nat × AV)) (mm : σ → γ → Mem) (I : σ → γ → Prop) (D : List Nat) (X : σ → Prop) (e : Exit) (s' : S) : Prop :=
  match e with
  | .normal => ∃ a g, X a ∧ I a g ∧ s'.T.length = n ∧ pickW s'.T ((st a g).map (·.1)) = ((st a g).map fun p => some p.2) ∧ s'.D = D ∧ s'.M = mm a g
  | e => ∃ M1, GStep s'.M M1 ∧ (w.go e ⟨s'.T, M1, s'.D⟩).holds P GT Q
theorem H_loopU {w : W} {σ γ : Type} {F : (σ → Prop) → σ → Prop} {s0 : σ} (hF : LoopP F s0) (g0 : γ) (n : Nat) (st : σ → γ → List (Nat × AV)) (mm : σ → γ → Mem) (I : σ → γ → Prop) (hI : I s0 g0) (D : List Nat) (hm : P.follows .mixedOrders = true) (q : Op → Bool)
    (hv : w.isLoop = true) (hn : w.stS.T.length = n) (hT : pickW w.stS.T ((st s0 g0).map (·.1)) = (st s0 g0).map fun p => some p.2) (hM : w.stS.M = mm s0 g0) (hD : w.stS.D = D)
    (h : ∀ (X : σ → Prop) s g, I s g → F X s → (wc P GT q w.lro w.lx ⟨mkT n (st s g), mm s g, D⟩ .done).holds P GT (RndU P GT Q w n st mm I D X)) : w.holds P GT Q := by
  have hv' : w.view = .loop w.lro w.lx := by
    cases w <;> simp [W.isLoop] at hv
    simp [W.view, W.lro, W.lx]
  have key : ∀ g, I s0 g → LoopAW P GT w.lro w.lx (fun e s' => ∃ M1, GStep s'.M M1 ∧ (w.go e ⟨s'.T, M1, s'.D⟩).holds P GT Q) ⟨mkT n (st s0 g), mm s0 g, D⟩ := by
    refine hF (fun s => ∀ g, I s g → LoopAW P GT w.lro w.lx (fun e s' => ∃ M1, GStep s'.M M1 ∧ (w.go e ⟨s'.T, M1, s'.D⟩).holds P GT Q) ⟨mkT n (st s g), mm s g, D⟩) ?_
    intro s hs g hg
    refine LoopAW.step ((AW_tree hm q (h _ s g hg hs)).mono ?_)
    intro e s' hq
    cases e with
    | normal =>
      obtain ⟨a, g', hX, hI', h1, h2, h3, h4⟩ := hq
      obtain ⟨T', M', D'⟩ := s'
      simp only at h1 h2 h3 h4
      subst h3 h4
      exact LoopAW.lessW (hX g' hI') (less_mkW h1 h2)
    | _ => exact hq
  refine H_loopAW hv' (AW.gpost (AW.lessW (T' := mkT n (st s0 g0)) ?_ (less_mkW hn hT)) fun e s' hq => hq)
  rw [hM, hD]
  exact (key g0 hI).loop
theorem H_againU {w w0 : W} {σ γ : Type} {n : Nat} {st : σ → γ → List (Nat × AV)} {mm : σ → γ → Mem} {I : σ → γ → Prop} {D : List Nat} {X : σ → Prop} (a : σ) (g : γ) (hX : X a) (hI : I a g) (hv : w.view = .done .normal) (hn : w.stS.T.length = n) (hT : pickW w.stS.T ((st a g).map (·.1)) = (st a g).map fun p => some p.2) (hM : w.stS.M = mm a g) (hD : w.stS.D = D) : w.holds P GT (RndU P GT Q w0 n st mm I D X) :=
  H_done .normal hv ⟨a, g, hX, hI, hn, hT, hD, hM⟩
theorem H_leaveU {w w0 : W} {σ γ : Type} {n : Nat} {st : σ → γ → List (Nat × AV)} {mm : σ → γ → Mem} {I : σ → γ → Prop} {D : List Nat} {X : σ → Prop} (e : Exit) (M0 M1 : Mem) (hv : w.view = .done e) (hne : (match e with | .normal => false | _ => true) = true) (hM : w.stS.M = M0) (hg : GStep M0 M1) (h : (w0.go e ⟨w.stS.T, M1, w.stS.D⟩).holds P GT Q) : w.holds P GT (RndU P GT Q w0 n st mm I D X) := by
  refine H_done e hv ?_
  subst hM
  cases e with
  | normal => cases hne
  | _ => exact ⟨M1, hg, h⟩
def rowA (l : List AV) (v : Nat) : Ob := match l with | [] => .vrow 1 v | x :: l => .cells (x :: l) 1 v false
theorem rowA_ne {l : List AV} {v : Nat} (h : l ≠ []) : rowA l v = .cells l 1 v false := by cases l with | nil => exact absurd rfl h | cons x l => rfl
theorem bld_one {t et : TypeId} {M : Mem} {x : AV} {z : AV} (h1 : elemT P t = some et) (h2 : szOf P et = some 1) (h3 : aggT P et = some false) (h4 : (zeroOf P et).bind AV.cells = some [z]) (h5 : z.okCell M = true) (h6 : x.okCell M = true) (h7 : x.cells = some [x]) :
    aBuildRow P M t 1 [(0, x)] = some (.own M.length 1 0, M ++ [.cells [x] 1 0 false]) := by
  unfold aBuildRow
  simp only [h1, h2, h3, h4]
  rw [if_pos (by simp [h5])]
  simp [afill, repCells, setAt, h6, h7]
theorem app_one {sT xT : TypeId} {by_ : Nat} {M : Mem} {b v n b2 : Nat} {l : List AV} {x : AV} (hi : RowInfoOk P sT xT 1 by_ = true) (h2 : M[b2]? = some (.cells [x] 1 0 false)) (hx : x.okCell M = true) (hM : M[b]? = some (rowA l v)) (hn : n = l.length) (hf : Fits (l.length + 1) by_) :
    aAppend P M sT xT (.own b n v) (.own b2 1 0) = some (.own b (l.length + 1) (v + 1), M.set b (rowA (l ++ [x]) (v + 1))) := by
  subst hn
  obtain ⟨et, z, a1, a2, a3, a4, a5⟩ := rowInfo_ok hi
  have hs : srcCells M 1 (.own b2 1 0) = some ([x], 1) := by simp [srcCells, h2]
  have hf' : (l.length + 1) * by_ ≤ maxB := hf
  unfold aAppend
  simp only [a1, a2]
  rw [hs]
  simp only [a5, a3, a4, List.all_cons, List.all_nil, hx, Bool.and_self, and_self, if_true]
  cases l with
  | nil =>
    rw [show M[b]? = some (.vrow 1 v) from hM]
    have hf2 : 1 * by_ ≤ maxB := by simpa using hf'
    simp only
    rw [if_pos ⟨trivial, trivial, hf2⟩]
    rfl
  | cons y l =>
    rw [show M[b]? = some (.cells (y :: l) 1 v false) from hM]
    simp only
    rw [if_pos ⟨trivial, trivial, hf'⟩, Nat.mul_one, List.take_length]
    rfl
theorem idx_one {t et : TypeId} {k : IntKind} {M : Mem} {b v n : Nat} {l : List AV} {i : Int} {x : AV} (hu : P.underlying t = some (.slice et)) (hz : szOf P et = some 1) (hM : M[b]? = some (rowA l v)) (hn : n = l.length) (h : Idx l i x) :
    (aIndexAddr P M t (.own b n v) (.pd (.int k i))).map (·, M) = some (.ptr b i.toNat v, M) := by
  subst hn
  obtain ⟨h0, h1⟩ := h
  have hlt := (List.getElem?_eq_some_iff.1 h1).1
  have hne : l ≠ [] := by intro e; subst e; simp at hlt
  have hi : idx i l.length = some i.toNat := by
    unfold idx
    rw [if_pos (by omega)]
  rw [rowA_ne hne] at hM
  simp [aIndexAddr, hu, hz, hM, hi]
theorem load_one {t : TypeId} {M : Mem} {b v k : Nat} {l : List AV} {x : AV} (ha : aggT P t = some false) (hz : szOf P t = some 1) (hM : M[b]? = some (rowA l v)) (h : l[k]? = some x) :
    (aLoad P M t (.ptr b k v)).map (·, M) = some (x, M) := by
  have hlt := (List.getElem?_eq_some_iff.1 h).1
  have hne : l ≠ [] := by intro e; subst e; simp at hlt
  rw [rowA_ne hne] at hM
  simp [aLoad, ha, hz, hM, h]
theorem store_one {t : TypeId} {M : Mem} {b v k : Nat} {l : List AV} {x : AV} (hz : szOf P t = some 1) (hM : M[b]? = some (rowA l v)) (h : k < l.length) (hx : x.okCell M = true) (hc : x.cells = some [x]) :
    (aStore P M t (.ptr b k v) x).map (AV.junk, ·) = some (.junk, M.set b (rowA (l.set k x) v)) := by
  have hne : l ≠ [] := by intro e; subst e; simp at h
  rw [rowA_ne hne] at hM
  have e1 : l.take k ++ [x] ++ l.drop (k + 1) = l.set k x := by rw [List.set_eq_take_append_cons_drop, if_pos h, List.append_assoc]; rfl
  rw [rowA_ne (l := l.set k x) (by intro e; simp at e; exact hne e)]
  simp only [aStore, hz, hc, hM]
  rw [if_pos (by simp [hx]; omega), e1]
  rfl
end Go.Abs
end

section
namespace Go.Abs
open Go.Proofs
set_option maxHeartbeats 4000000
set_option maxRecDepth 20000
set_option linter.unusedVariables false
set_option linter.unusedSimpArgs false
set_option linter.unnecessarySimpa false
theorem nodup_at {l : List Nat} (h : l.Nodup) {i j : Nat} (hi : i < l.length) (hj : j < l.length) (e : l[i] = l[j]) : i = j := by
  rcases Nat.lt_trichotomy i j with hl | hl | hl
  · exact absurd e (List.pairwise_iff_getElem.1 h i j hi hj hl)
  · exact hl
  · exact absurd e.symm (List.pairwise_iff_getElem.1 h j i hj hi hl)
abbrev Nst := List (Nat × Nat × List Int)
def nAV (t : Nat × Nat × List Int) : AV := .own t.1 t.2.2.length t.2.1
def pAV (l : List Int) : AV := .pd (elQ3 l)
def NOK (R : Mem) (N : Nst) : Prop := (N.map (·.1)).Nodup ∧ ∀ t, t ∈ N → ∃ q, t.1 = q + 3 ∧ R[q]? = some (.cells (rowC lvI64 t.2.2) 1 t.2.1 false)
def mixN (N : Nst) (j : Nat) : List AV := ((N.take j).map fun t => pAV t.2.2) ++ (N.drop j).map nAV
theorem mixN_at {N : Nst} {j : Nat} (h : j < N.length) : (mixN N j)[j]? = some (nAV N[j]) := by
  unfold mixN
  rw [List.getElem?_append_right (by simp; omega)]
  have : j - (List.map (fun t => pAV t.2.2) (List.take j N)).length = 0 := by simp; omega
  rw [this, List.drop_eq_getElem_cons h]; rfl
theorem mixN_set {N : Nst} {j : Nat} (h : j < N.length) : (mixN N j).set j (pAV N[j].2.2) = mixN N (j + 1) := by
  unfold mixN
  rw [List.set_append_right _ _ (by simp; omega)]
  have : j - (List.map (fun t => pAV t.2.2) (List.take j N)).length = 0 := by simp; omega
  rw [this, List.drop_eq_getElem_cons h, List.map_cons, List.set_cons_zero, List.take_succ_eq_append_getElem h, List.map_append, List.append_assoc]; rfl
theorem nest_step {o1 o2 : Ob} {v : Nat} {N : Nst} (hn : (N.map (·.1)).Nodup) {R : Mem} {M0 : Mem} : ∀ (j : Nat), j ≤ N.length → (∀ i (h : i < N.length), ∃ q, N[i].1 = q + 3 ∧ R[q]? = some (.cells (rowC lvI64 N[i].2.2) 1 N[i].2.1 false)) → GStep M0 (o1 :: .cells (mixN N 0) 1 v false :: o2 :: R) →
    ∃ R2, GStep M0 (o1 :: .cells (mixN N j) 1 v false :: o2 :: R2) ∧ ∀ i (h : i < N.length), j ≤ i → ∃ q, N[i].1 = q + 3 ∧ R2[q]? = some (.cells (rowC lvI64 N[i].2.2) 1 N[i].2.1 false)
  | 0, _, h, hg => ⟨R, hg, fun i hi _ => h i hi⟩
  | j + 1, hj, h, hg => by
    obtain ⟨R2, g2, h2⟩ := nest_step hn j (by omega) h hg
    obtain ⟨q, hq, hR⟩ := h2 j (by omega) (Nat.le_refl _)
    have hx : ownPD (o1 :: .cells (mixN N j) 1 v false :: o2 :: R2) (q + 3) N[j].2.2.length N[j].2.1 = some (elQ3 N[j].2.2) :=
      own_pd okI64 (by decide) lgI64 (M := o1 :: .cells (mixN N j) 1 v false :: o2 :: R2) (b := q + 3) (o := .cells (rowC lvI64 N[j].2.2) 1 N[j].2.1 false) hR (.inl rfl) rfl
    have hl : (mixN N j)[j]? = some (.own (q + 3) N[j].2.2.length N[j].2.1) := by rw [mixN_at hj, nAV, hq]
    refine ⟨R2.set q (.cells (rowC lvI64 N[j].2.2) 1 N[j].2.1 true), g2.trans ((GStep.cell (M := o1 :: .cells (mixN N j) 1 v false :: o2 :: R2) (b := 1) (bb := q + 3) rfl hl hx hR (by omega)).to ?_), fun i hi hji => ?_⟩
    · rw [← mixN_set hj]; rfl
    · obtain ⟨q', e1, e2⟩ := h2 i hi (by omega)
      refine ⟨q', e1, ?_⟩
      rw [List.getElem?_set_ne]
      · exact e2
      · intro e
        have hlt1 : j < (N.map (·.1)).length := by rw [List.length_map]; omega
        have hlt2 : i < (N.map (·.1)).length := by simpa using hi
        have : (N.map (·.1))[j] = (N.map (·.1))[i] := by simp; omega
        have := nodup_at hn hlt1 hlt2 this
        omega
theorem rowA_V (l : List (List Int)) (v : Nat) : rowA (l.map pAV) v = rowV lvQ3 1 l v false := by
  have e : ∀ l : List (List Int), l.map pAV = rowC lvQ3 l := by
    intro l; induction l with
    | nil => rfl
    | cons x l ih => rw [rowC_cons, List.map_cons, ih]; rfl
  cases l with
  | nil => rfl
  | cons x l => rw [e, rowA_ne]; · rfl
                · rw [rowC_cons]; simp [lvQ3]
theorem nest_frz {o1 o2 : Ob} {v : Nat} {N : Nst} {R : Mem} (h : NOK R N) : ∃ R2, GStep (o1 :: rowA (N.map nAV) v :: o2 :: R) (o1 :: rowV lvQ3 1 (N.map (·.2.2)) v false :: o2 :: R2) := by
  cases N with
  | nil => exact ⟨R, GStep.refl _⟩
  | cons t N =>
    have e0 : mixN (t :: N) 0 = (t :: N).map nAV := by simp [mixN]
    obtain ⟨R2, g, _⟩ := nest_step (o1 := o1) (o2 := o2) (v := v) h.1 (R := R) (M0 := o1 :: rowA ((t :: N).map nAV) v :: o2 :: R) (t :: N).length (Nat.le_refl _) (fun i hi => h.2 _ (List.getElem_mem hi)) (by rw [e0]; exact GStep.refl _)
    refine ⟨R2, g.to ?_⟩
    have e1 : mixN (t :: N) (t :: N).length = ((t :: N).map (·.2.2)).map pAV := by simp [mixN]
    rw [e1, ← rowA_V]; rfl
theorem NOK.push {R : Mem} {N : Nst} (h : NOK R N) (row : List Int) (c : Ob) : NOK (R ++ [.cells (rowC lvI64 row) 1 0 false] ++ [c]) (N ++ [(R.length + 3, 0, row)]) := by
  have hb : ∀ t, t ∈ N → t.1 < R.length + 3 := fun t ht => by
    obtain ⟨q, e, hq⟩ := h.2 t ht
    have := (List.getElem?_eq_some_iff.1 hq).1
    omega
  refine ⟨?_, fun t ht => ?_⟩
  · rw [List.map_append, List.nodup_append]
    refine ⟨h.1, by simp, fun a ha b hb' => ?_⟩
    obtain ⟨t, ht, rfl⟩ := List.mem_map.1 ha
    have := hb t ht
    simp at hb'; omega
  · rcases List.mem_append.1 ht with ht | ht
    · obtain ⟨q, e, hq⟩ := h.2 t ht
      have := (List.getElem?_eq_some_iff.1 hq).1
      exact ⟨q, e, by rw [List.getElem?_append_left (by simp; omega), List.getElem?_append_left this]; exact hq⟩
    · rw [List.mem_singleton.1 ht]
      exact ⟨R.length, rfl, by rw [List.getElem?_append_left (by simp), List.getElem?_concat_length]⟩
theorem NOK.grow {R : Mem} {N : Nst} (h : NOK R N) {k q v : Nat} {row : List Int} (hk : N[k]? = some (q + 3, v, row)) (row2 : List Int) (v2 : Nat) : NOK (R.set q (.cells (rowC lvI64 row2) 1 v2 false)) (N.set k (q + 3, v2, row2)) := by
  obtain ⟨hlt, hk'⟩ := List.getElem?_eq_some_iff.1 hk
  obtain ⟨q0, e0, hq0⟩ := h.2 _ (List.mem_of_getElem? hk)
  obtain rfl : q = q0 := by simpa using e0
  have hql := (List.getElem?_eq_some_iff.1 hq0).1
  have em : (N.set k (q + 3, v2, row2)).map (·.1) = N.map (·.1) := by
    rw [List.map_set]
    apply List.ext_getElem?
    intro i
    rw [List.getElem?_set]
    split
    · rename_i e; subst e; rw [if_pos (by simpa using hlt), List.getElem?_map, hk]; rfl
    · rfl
  refine ⟨by rw [em]; exact h.1, fun t ht => ?_⟩
  obtain ⟨i, hi, rfl⟩ := List.getElem_of_mem ht
  have hi' : i < N.length := by simpa using hi
  rw [List.getElem_set]
  split
  · exact ⟨q, rfl, by rw [List.getElem?_set_self hql]⟩
  · rename_i hne
    obtain ⟨q', e1, e2⟩ := h.2 _ (List.getElem_mem hi')
    refine ⟨q', e1, ?_⟩
    rw [List.getElem?_set_ne]
    · exact e2
    · intro e
      subst e
      have a1 : (N.map (·.1))[k]'(by simpa using hlt) = (N.map (·.1))[i]'(by simpa using hi') := by simp [hk', e1]
      exact hne (nodup_at h.1 _ _ a1)
theorem offcutref09_Blocks_ok (m : Tp) (p0 : List Int) {r : (List (List Int))} (h : offcutref09_Blocks p0 r) : ASpec Tryz.prog (gtT m) 35 [.pd (.sl (p0.map elI64))] (· = .pd (.sl (r.map elQ3))) := by
  refine ASpec_tree Tryz.f35 mixedT (askZ [9, 10, 11] true [29, 42] [26]) (by kernel_rfl) ?_
  unfold offcutref09_Blocks at h
  refine H_loopU (F := offcutref09_Blocks_L1 p0 r) (s0 := ((0 : Int), ([] : List (List Int)), ([] : List Int))) h (([] : Mem), ([] : Nst), 0, 0, 0, (([] : List Int).length)) 60
    (fun ((s100, s151, s152) : Int × (List (List Int)) × (List Int)) ((R, N, v101, n101, v102, n102) : Mem × Nst × Nat × Nat × Nat × Nat) => [(0, .pd (.sl (p0.map elI64))), (3, .own 1 n101 v101), (4, .own 2 n102 v102), (5, .pd (.int .i64 s100))])
    (fun ((s100, s151, s152) : Int × (List (List Int)) × (List Int)) ((R, N, v101, n101, v102, n102) : Mem × Nst × Nat × Nat × Nat × Nat) => rowV lvQ3 1 ([] : List (List Int)) 0 false :: rowA (N.map nAV) v101 :: rowV lvI64 1 s152 v102 false :: R) (fun ((s100, s151, s152) : Int × (List (List Int)) × (List Int)) ((R, N, v101, n101, v102, n102) : Mem × Nst × Nat × Nat × Nat × Nat) => n101 = s151.length ∧ n102 = s152.length ∧ s151 = N.map (·.2.2) ∧ NOK R N) ⟨rfl, rfl, rfl, ⟨by simp, fun t ht => by cases ht⟩⟩ [] mixedT (askZ [9, 10, 11] true [29, 42] [26])
    (by kernel_rfl) (by kernel_rfl) (by kernel_rfl) (by kernel_rfl) (by kernel_rfl) ?_
  rintro X1 ⟨s100, s151, s152⟩ ⟨R, N, v101, n101, v102, n102⟩ ⟨hn101, hn102, hsN, hNOK⟩ h
  dsimp only [offcutref09_Blocks_L1] at h
  have hnN : n101 = (N.map nAV).length := by rw [hn101, hsN]; simp
  let o1 : Ob := rowV lvQ3 1 ([] : List (List Int)) 0 false
  let m2 : Mem := o1 :: rowA (N.map nAV) v101 :: rowV lvI64 1 s152 v102 false :: R
  refine H_ask _ _ (by kernel_rfl) (ask_len (P := Tryz.prog) (M := m2) (t := 42) (et := 3) (el := elI64) (by kernel_rfl) (e := p0)) ?_
  refine H_split (decide (s100 < (p0.length : Int))) (by kernel_rfl) (fun hp1 => ?_) (fun hp1 => ?_)
  · replace h := h.t hp1
    obtain ⟨x2, hx3, h⟩ := h
    refine H_ask _ _ (by kernel_rfl) (ask_idx (P := Tryz.prog) (M := m2) (t := 42) (et := 3) (k := .i64) (lv := lvI64) okI64 leI64 (by kernel_rfl) (by kernel_rfl) hx3) ?_
    refine H_askK (.pd (.int .i64 x2)) (m2) (by kernel_rfl) ?_
    refine H_split (decide (x2 < (0 : Int))) (by kernel_rfl) (fun hp4 => ?_) (fun hp4 => ?_)
    · replace h := h.t hp4
      exact H_againU (st := _) ((IntKind.i64.wrap (s100 + 1)), s151, s152) (R, N, v101, n101, v102, n102) h ⟨hn101, hn102, hsN, hNOK⟩ (by kernel_rfl) (by kernel_rfl) (by kernel_rfl) (by kernel_rfl) (by kernel_rfl)
    replace h := h.f hp4
    refine H_loopP (F := offcutref09_Blocks_L2 p0 s100 s151 s152 X1) (s0 := ((-1 : Int), (0 : Int))) h () 60 (R.length + 3)
      (fun ((s200, s201) : Int × Int) (() : Unit) => [(0, .pd (.sl (p0.map elI64))), (3, .own 1 n101 v101), (4, .own 2 n102 v102), (5, .pd (.int .i64 s100)), (6, .pd (.int .i64 s200)), (7, .pd (.int .i64 s201))])
      (fun ((s200, s201) : Int × Int) (() : Unit) => rowV lvQ3 1 ([] : List (List Int)) 0 false :: rowA (N.map nAV) v101 :: rowV lvI64 1 s152 v102 false :: R) (fun ((s200, s201) : Int × Int) (() : Unit) => True) trivial [] mixedT (askZ [9, 10, 11] true [29, 42] [26])
      (by kernel_rfl) (by kernel_rfl) (by kernel_rfl) (by kernel_rfl) (by kernel_rfl) (fun _ _ => rfl) ?_
    rintro X2 ⟨s200, s201⟩ ⟨⟩ - h
    dsimp only [offcutref09_Blocks_L2] at h
    refine H_ask _ _ (by kernel_rfl) (ask_olen (P := Tryz.prog) (M := m2) (t := 42) (et := 3) (lv := lvI64) (e := s152) (b := 2) (n := n102) (by kernel_rfl) (by kernel_rfl) (rowIs_v' (lv := lvI64) (s := 1) (e := s152) (ver := v102) (z := false)) hn102) ?_
    refine H_split (decide (s201 < (s152.length : Int))) (by kernel_rfl) (fun hp5 => ?_) (fun hp5 => ?_)
    · replace h := h.t hp5
      refine H_draw (by kernel_rfl) ?_
      obtain ⟨x6, hx7, h⟩ := h
      refine H_ask _ _ (by kernel_rfl) (ask_oidx (P := Tryz.prog) (M := m2) (t := 42) (et := 3) (k := .i64) (lv := lvI64) (e := s152) (s := 1) (b := 2) (by kernel_rfl) (by kernel_rfl) (by kernel_rfl) (rowIs_v' (lv := lvI64) (s := 1) (e := s152) (ver := v102) (z := false)) (n := n102) hn102 hx7) ?_
      refine H_ask _ _ (by kernel_rfl) (ask_oload (P := Tryz.prog) (M := m2) (t := 3) (lv := lvI64) (b := 2) (i := s201) okI64 (by kernel_rfl) (by kernel_rfl) (by kernel_rfl) (rowIs_v' (lv := lvI64) (s := 1) (e := s152) (ver := v102) (z := false)) hx7 rfl) ?_
      obtain ⟨x8, hx9, h⟩ := h
      refine H_ask _ _ (by kernel_rfl) (ask_idx (P := Tryz.prog) (M := m2) (t := 42) (et := 3) (k := .i64) (lv := lvI64) okI64 leI64 (by kernel_rfl) (by kernel_rfl) hx9) ?_
      refine H_askK (.pd (.int .i64 x8)) (m2) (by kernel_rfl) ?_
      refine H_split (x6 == x8) (by kernel_rfl) (fun hp10 => ?_) (fun hp10 => ?_)
      · replace h := h.t hp10
        exact H_againP (st := _) (s201, (IntKind.i64.wrap (s201 + 1))) () h trivial (by kernel_rfl) (by kernel_rfl) (by kernel_rfl) (by kernel_rfl) (by kernel_rfl)
      replace h := h.f hp10
      exact H_againP (st := _) (s200, (IntKind.i64.wrap (s201 + 1))) () h trivial (by kernel_rfl) (by kernel_rfl) (by kernel_rfl) (by kernel_rfl) (by kernel_rfl)
    replace h := h.f hp5
    refine H_leaveP (.exit 2) (by kernel_rfl) rfl ?_
    refine H_split (decide (s200 < (0 : Int))) (by kernel_rfl) (fun hp11 => ?_) (fun hp11 => ?_)
    · replace h := h.t hp11
      obtain ⟨x12, hx13, h⟩ := h
      refine H_ask _ _ (by kernel_rfl) (ask_idx (P := Tryz.prog) (M := m2) (t := 42) (et := 3) (k := .i64) (lv := lvI64) okI64 leI64 (by kernel_rfl) (by kernel_rfl) hx13) ?_
      refine H_askK (.pd (.int .i64 x12)) (m2) (by kernel_rfl) ?_
      refine H_bldS0 (t := 42) (n := 1) (parts := [(0, .pd (.int .i64 x12))]) (M0 := m2) (.fixed ([x12].map elI64)) (by kernel_rfl) (by kernel_rfl) ?_
      obtain ⟨hx14, h⟩ := h
      refine H_ask _ _ (by kernel_rfl) (ask_appV (P := Tryz.prog) (M := m2) (lv := lvI64) (s := 1) (b := 2) (e := s152) (e2 := [x12]) (ver := v102) (sT := 42) (xT := 42) (by_ := 8) okI64 (by kernel_rfl) (src_fixed (M := m2) okI64 leI64) (by kernel_rfl) (n := n102) hn102 hx14) ?_
      let o3 : Ob := rowV lvI64 1 (s152 ++ [x12]) (vnext s152 [x12] v102) false
      let m4 : Mem := o1 :: rowA (N.map nAV) v101 :: o3 :: R
      let c1 : Ob := .cells (rowC lvI64 [s100]) 1 0 false
      let c2 : Ob := .cells [.own (R.length + 3) 1 0] 1 0 false
      let m5 : Mem := o1 :: rowA (N.map nAV) v101 :: o3 :: (R ++ [c1])
      let m6 : Mem := o1 :: rowA (N.map nAV) v101 :: o3 :: (R ++ [c1] ++ [c2])
      refine H_bldRow (t := 42) (n := 1) (parts := [(0, .pd (.int .i64 s100))]) (M0 := m4) (.own (R.length + 3) 1 0) m5 (by kernel_rfl) (bld_one (P := Tryz.prog) (t := 42) (et := 3) (M := m4) (x := .pd (.int .i64 s100)) (z := .pd (.int .i64 0)) (by kernel_rfl) (by kernel_rfl) (by kernel_rfl) (by kernel_rfl) rfl rfl rfl) ?_
      have at1 : m5[R.length + 3]? = some c1 := by show (R ++ [c1])[R.length]? = some c1; simp
      have at1' : m6[R.length + 3]? = some c1 := by show (R ++ [c1] ++ [c2])[R.length]? = some c1; rw [List.getElem?_append_left (by simp)]; simp
      have at2 : m6[R.length + 4]? = some c2 := by show (R ++ [c1] ++ [c2])[R.length + 1]? = some c2; rw [List.getElem?_append_right (by simp)]; simp
      have ok1 : (AV.own (R.length + 3) 1 0).okCell m5 = true := by simp only [AV.okCell]; rw [verOf_some at1]; rfl
      have ok2 : (AV.own (R.length + 3) 1 0).okCell m6 = true := by simp only [AV.okCell]; rw [verOf_some at1']; rfl
      refine H_bldRow (t := 29) (n := 1) (parts := [(0, .own (R.length + 3) 1 0)]) (M0 := m5) (.own (m5.length) 1 0) (m5 ++ [c2]) (by kernel_rfl) (bld_one (P := Tryz.prog) (t := 29) (et := 42) (M := m5) (x := .own (R.length + 3) 1 0) (z := .fixed []) (by kernel_rfl) (by kernel_rfl) (by kernel_rfl) (by kernel_rfl) rfl ok1 rfl) ?_
      have e6 : m5 ++ [c2] = m6 := rfl
      have el5 : m5.length = R.length + 4 := by simp [m5]
      rw [el5, e6]
      obtain ⟨hx15, h⟩ := h
      have hf15 : Fits ((N.map nAV).length + 1) 24 := by rw [← hnN, hn101]; exact hx15
      refine H_ask _ _ (by kernel_rfl) (app_one (P := Tryz.prog) (M := m6) (sT := 29) (xT := 29) (by_ := 24) (b := 1) (v := v101) (n := n101) (b2 := R.length + 4) (l := N.map nAV) (x := .own (R.length + 3) 1 0) (by kernel_rfl) at2 ok2 (by kernel_rfl) hnN hf15) ?_
      have em : (N ++ [(R.length + 3, 0, [s100])]).map nAV = N.map nAV ++ [.own (R.length + 3) 1 0] := by rw [List.map_append]; rfl
      refine H_againU (st := _) ((IntKind.i64.wrap (s100 + 1)), (s151 ++ [[s100]]), (s152 ++ [x12])) (R ++ [c1] ++ [c2], N ++ [(R.length + 3, 0, [s100])], v101 + 1, (N.map nAV).length + 1, (vnext s152 [x12] v102), ((s152 ++ [x12]).length)) h ?_ (by kernel_rfl) (by kernel_rfl) (by kernel_rfl) ?_ (by kernel_rfl)
      · exact ⟨by rw [← hnN, hn101, List.length_append]; rfl, rfl, by rw [List.map_append, hsN]; rfl, hNOK.push [s100] c2⟩
      dsimp only
      rw [em]
      kernel_rfl
    replace h := h.f hp11
    obtain ⟨x16, hx17, hf16, h⟩ := h
    obtain ⟨h0, hk⟩ := hx17
    rw [hsN, List.getElem?_map, Option.map_eq_some_iff] at hk
    obtain ⟨⟨b, v, row⟩, hk, rfl⟩ := hk
    obtain ⟨q, e0, hq⟩ := hNOK.2 _ (List.mem_of_getElem? hk)
    dsimp only at e0 hq
    subst e0
    have hkl := (List.getElem?_eq_some_iff.1 hk).1
    have hA : Idx (N.map nAV) s200 (.own (q + 3) row.length v) := ⟨h0, by rw [List.getElem?_map, hk]; rfl⟩
    refine H_ask _ _ (by kernel_rfl) (idx_one (P := Tryz.prog) (M := m2) (t := 29) (et := 42) (k := .i64) (b := 1) (v := v101) (n := n101) (l := N.map nAV) (by kernel_rfl) (by kernel_rfl) (by kernel_rfl) hnN hA) ?_
    refine H_ask _ _ (by kernel_rfl) (load_one (P := Tryz.prog) (M := m2) (t := 42) (b := 1) (v := v101) (l := N.map nAV) (by kernel_rfl) (by kernel_rfl) (by kernel_rfl) hA.2) ?_
    refine H_bldS0 (t := 42) (n := 1) (parts := [(0, .pd (.int .i64 s100))]) (M0 := m2) (.fixed ([s100].map elI64)) (by kernel_rfl) (by kernel_rfl) ?_
    have hq2 : m2[q + 3]? = some (.cells (rowC lvI64 row) 1 v false) := hq
    refine H_ask _ _ (by kernel_rfl) (ask_app (P := Tryz.prog) (M := m2) (lv := lvI64) (s := 1) (b := q + 3) (e := row) (e2 := [s100]) (ver := v) (sT := 42) (xT := 42) (by_ := 8) okI64 (by kernel_rfl) (src_fixed (M := m2) okI64 leI64) hq2 (n := row.length) rfl hf16) ?_
    let R8 : Mem := R.set q (.cells (rowC lvI64 (row ++ [s100])) 1 (v + 1) false)
    let m8 : Mem := o1 :: rowA (N.map nAV) v101 :: rowV lvI64 1 s152 v102 false :: R8
    have hq8 : m8[q + 3]? = some (.cells (rowC lvI64 (row ++ [s100])) 1 (v + 1) false) := by
      show R8[q]? = _
      exact List.getElem?_set_self (List.getElem?_eq_some_iff.1 hq).1
    have ok8 : (AV.own (q + 3) (row ++ [s100]).length (v + 1)).okCell m8 = true := by simp only [AV.okCell]; rw [verOf_some hq8]; simp [Ob.ver]
    refine H_ask _ _ (by kernel_rfl) (idx_one (P := Tryz.prog) (M := m8) (t := 29) (et := 42) (k := .i64) (b := 1) (v := v101) (n := n101) (l := N.map nAV) (by kernel_rfl) (by kernel_rfl) (by kernel_rfl) hnN hA) ?_
    refine H_ask _ _ (by kernel_rfl) (store_one (P := Tryz.prog) (M := m8) (t := 42) (b := 1) (v := v101) (k := s200.toNat) (l := N.map nAV) (x := .own (q + 3) (row ++ [s100]).length (v + 1)) (by kernel_rfl) (by kernel_rfl) (by simpa using hkl) ok8 rfl) ?_
    have em : (N.set s200.toNat (q + 3, v + 1, row ++ [s100])).map nAV = (N.map nAV).set s200.toNat (.own (q + 3) (row ++ [s100]).length (v + 1)) := by rw [List.map_set]; rfl
    refine H_againU (st := _) ((IntKind.i64.wrap (s100 + 1)), (s151.set s200.toNat (row ++ [s100])), s152) (R8, N.set s200.toNat (q + 3, v + 1, row ++ [s100]), v101, n101, v102, n102) h ?_ (by kernel_rfl) (by kernel_rfl) (by kernel_rfl) ?_ (by kernel_rfl)
    · exact ⟨by rw [hn101, List.length_set], hn102, by rw [hsN, List.map_set], hNOK.grow hk _ _⟩
    dsimp only
    rw [em]
    kernel_rfl
  replace h := h.f hp1
  obtain ⟨R2, hg⟩ := nest_frz (o1 := o1) (o2 := rowV lvI64 1 s152 v102 false) (v := v101) hNOK
  rw [← hsN] at hg
  refine H_leaveU (.exit 0) m2 _ (by kernel_rfl) rfl (by kernel_rfl) hg ?_
  let m9 : Mem := o1 :: rowV lvQ3 1 s151 v101 false :: rowV lvI64 1 s152 v102 false :: R2
  exact H_endX .ret (.own 1 n101 v101) (.pd (.sl (s151.map elQ3))) (m9) (by kernel_rfl) rfl (by kernel_rfl) (by kernel_rfl) (pure_2to3 (pure_1to2 (pure1_own okQ3 (by decide) lgQ3 (M := m9) (b := 1) (o := rowV lvQ3 1 s151 v101 false) (by kernel_rfl) (rowIs_v' (lv := lvQ3) (s := 1) (e := s151) (ver := v101) (z := false)) (n := n101) hn101) rfl) rfl) (by subst h; rfl)
end Go.Abs
end

section
namespace Go.Abs
open Go.RowKit Go.Proofs
set_option maxRecDepth 100000
theorem told_ok {GT : Tabs} {f : FuncId} {args : List AV} {x : AV} {M : Mem} (he : Enters Tryz.prog f) (h : ASpec Tryz.prog GT f (args.map wk) (· = x)) (hp : (args.map wk).all pur2 = true) : CallOK Tryz.prog GT f args M (x, M, false) :=
  ⟨he, ACall.wk (h.atM (fun x hx => pur2_pure (List.all_eq_true.1 hp x hx)) M) rfl, fun _ => rfl⟩
end Go.Abs
end

section
namespace Go.Abs
open Go.RowKit Go.Proofs
set_option linter.unusedVariables false
mutual
def eqPD : PD → PD → Bool
  | .int k a, .int k' b => decide (k = k') && decide (a = b)
  | .bool a, .bool b => a == b
  | .str a, .str b => decide (a = b)
  | .err a, .err b => a == b
  | .agg l, .agg m => eqPDs l m
  | .sl l, .sl m => eqPDs l m
  | _, _ => false
def eqPDs : List PD → List PD → Bool
  | [], [] => true
  | x :: l, y :: m => eqPD x y && eqPDs l m
  | _, _ => false
end
mutual
theorem eqPD_ok : ∀ {x y : PD}, eqPD x y = true → x = y
  | .int k a, y, h => by
    cases y <;> simp [eqPD] at h
    obtain ⟨rfl, rfl⟩ := h; rfl
  | .bool a, y, h => by cases y <;> simp [eqPD] at h; rw [h]
  | .str a, y, h => by cases y <;> simp [eqPD] at h; rw [h]
  | .err a, y, h => by cases y <;> simp [eqPD] at h; rw [h]
  | .flt .., y, h => by cases y <;> simp [eqPD] at h
  | .agg l, y, h => by
    cases y <;> simp only [eqPD, Bool.false_eq_true] at h
    rw [eqPDs_ok h]
  | .sl l, y, h => by
    cases y <;> simp only [eqPD, Bool.false_eq_true] at h
    rw [eqPDs_ok h]
theorem eqPDs_ok : ∀ {l m : List PD}, eqPDs l m = true → l = m
  | [], m, h => by cases m <;> simp [eqPDs] at h; rfl
  | x :: l, m, h => by
    cases m with
    | nil => simp [eqPDs] at h
    | cons y m =>
      simp only [eqPDs, Bool.and_eq_true] at h
      rw [eqPD_ok h.1, eqPDs_ok h.2]
end
def eqA1 : AV → AV → Bool
  | .pd x, .pd y => eqPD x y
  | _, _ => false
theorem eqA1_ok {x y : AV} (h : eqA1 x y = true) : x = y := by
  unfold eqA1 at h
  split at h
  · rw [eqPD_ok h]
  · cases h
def eqA1s : List AV → List AV → Bool
  | [], [] => true
  | x :: l, y :: m => eqA1 x y && eqA1s l m
  | _, _ => false
theorem eqA1s_ok : ∀ {l m : List AV}, eqA1s l m = true → l = m
  | [], [], _ => rfl
  | x :: l, y :: m, h => by
    simp only [eqA1s, Bool.and_eq_true] at h
    rw [eqA1_ok h.1, eqA1s_ok h.2]
  | [], _ :: _, h => by simp [eqA1s] at h
  | _ :: _, [], h => by simp [eqA1s] at h
def eqA2 : AV → AV → Bool
  | .pd x, .pd y => eqPD x y
  | .agg l, .agg m => eqA1s l m
  | _, _ => false
theorem eqA2_ok {x y : AV} (h : eqA2 x y = true) : x = y := by
  unfold eqA2 at h
  split at h
  · rw [eqPD_ok h]
  · rw [eqA1s_ok h]
  · cases h
def eqA2s : List AV → List AV → Bool
  | [], [] => true
  | x :: l, y :: m => eqA2 x y && eqA2s l m
  | _, _ => false
theorem eqA2s_ok : ∀ {l m : List AV}, eqA2s l m = true → l = m
  | [], [], _ => rfl
  | x :: l, y :: m, h => by
    simp only [eqA2s, Bool.and_eq_true] at h
    rw [eqA2_ok h.1, eqA2s_ok h.2]
  | [], _ :: _, h => by simp [eqA2s] at h
  | _ :: _, [], h => by simp [eqA2s] at h
def tabF (g : FuncId) (args : List AV) : List (FuncId × List AV × AV) → Option AV
  | [] => none
  | (f, gs, x) :: r => if Nat.beq f g && eqA2s (args.map wk) gs then some x else tabF g args r
def orcT (tab : List (FuncId × List AV × AV)) (orc : FuncId → List AV → Mem → Option (AV × Mem × Bool)) (g : FuncId) (args : List AV) (M : Mem) : Option (AV × Mem × Bool) :=
  match tabF g args tab with
  | some x => some (x, M, false)
  | none => orc g args M
def TabOK (P : Program) (GT : Tabs) (tab : List (FuncId × List AV × AV)) : Prop := ∀ e, e ∈ tab → ASpec P GT e.1 e.2.1 (· = e.2.2) ∧ Enters P e.1 ∧ e.2.1.all pur2 = true
theorem TabOK.nil {P : Program} {GT : Tabs} : TabOK P GT [] := fun e he => by cases he
theorem TabOK.cons {P : Program} {GT : Tabs} {f : FuncId} {gs : List AV} {x : AV} {r : List (FuncId × List AV × AV)} (h : ASpec P GT f gs (· = x)) (he : Enters P f) (hp : gs.all pur2 = true) (hr : TabOK P GT r) : TabOK P GT ((f, gs, x) :: r) := fun e h' => by
  rcases List.mem_cons.1 h' with rfl | h'
  · exact ⟨h, he, hp⟩
  · exact hr e h'
theorem tabF_ok {g : FuncId} {args : List AV} : ∀ {tab : List (FuncId × List AV × AV)} {x : AV}, tabF g args tab = some x → ∃ e, e ∈ tab ∧ e.1 = g ∧ e.2.1 = args.map wk ∧ e.2.2 = x
  | [], x, h => by cases h
  | (f, gs, y) :: r, x, h => by
    unfold tabF at h
    split at h
    · rename_i hk
      cases h
      simp only [Bool.and_eq_true] at hk
      exact ⟨_, List.mem_cons_self .., Nat.eq_of_beq_eq_true hk.1, (eqA2s_ok hk.2).symm, rfl⟩
    · obtain ⟨e, h1, h2⟩ := tabF_ok h
      exact ⟨e, List.mem_cons_of_mem _ h1, h2⟩
theorem orcT_ok {m : Tp} {tab : List (FuncId × List AV × AV)} {orc : FuncId → List AV → Mem → Option (AV × Mem × Bool)} (ht : TabOK Tryz.prog (gtT m) tab) (ho : ∀ f args M z, orc f args M = some z → CallOK Tryz.prog (gtT m) f args M z) (f : FuncId) (args : List AV) (M : Mem) (z : AV × Mem × Bool) (h : orcT tab orc f args M = some z) : CallOK Tryz.prog (gtT m) f args M z := by
  unfold orcT at h
  split at h
  · rename_i x hx
    cases h
    obtain ⟨e, h1, rfl, h3, rfl⟩ := tabF_ok hx
    obtain ⟨a, b, c⟩ := ht e h1
    rw [h3] at a c
    exact told_ok b a c
  · exact ho _ _ _ _ h
end Go.Abs
end
