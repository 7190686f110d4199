/- Part of a proof, in few files: L8q. -/
import Derived.Test.YtdbfgnpobfbfmaaGreatDoorMPrK27

section
namespace Go.Abs
open Go
open Classical
set_option linter.unusedVariables false
set_option linter.unusedSimpArgs false
set_option linter.unnecessarySimpa false
theorem model_Same_says {V : Ws} {C C' : List Fr} {R R' : List MRow} {k : Nat} (hk : k ≤ 15000) (hV : V.length ≤ 1000) (hC : okL C k) (hC' : okL C' k) (hR : okR R k) (hR' : okR R' k) (lC : C.length ≤ 1000) (lR : R.length ≤ 1000) (lc : ∀ r, r ∈ R → r.2.1.length ≤ 1000)
    (eC : C.map qv = C'.map qv) (eR : R.map qrow = R'.map qrow) : model_Same V C R V C' R' true := by
  unfold model_Same
  refine ⟨true, Equal_refl V (by omega), IfB_true.2 ⟨true, ?_, IfB_true.2 ?_⟩⟩
  · have := vec_Same_says hk lC hC hC'
    rwa [show decide (vq C = vq C') = true from decide_eq_true eC] at this
  · have hlen : R.length = R'.length := by have := congrArg List.length eR; simpa using this
    refine IfB.nei (fun h => absurd (by omega) h) (fun _ => ?_)
    refine LoopP.intro (fun z : Int => ∃ i : Nat, z = i ∧ i ≤ R.length) (fun z => R.length - z.toNat) ⟨0, rfl, by omega⟩ ?_
    rintro X z ⟨i, rfl, hi⟩ hX
    unfold model_Same_L1
    dsimp only
    refine IfB.dec (fun h1 => ?_) (fun _ => rfl)
    have hil : i < R.length := by omega
    have hil' : i < R'.length := by omega
    have hr := hR _ (List.getElem_mem hil)
    have hr' := hR' _ (List.getElem_mem hil')
    have hq : qrow R[i] = qrow R'[i] := by
      have h1 : (R.map qrow)[i]'(by simpa using hil) = qrow R[i] := by simp
      have h2 : (R'.map qrow)[i]'(by simpa using hil') = qrow R'[i] := by simp
      rw [← h1, ← h2]; simp only [eR]
    have hlc := lc _ (List.getElem_mem hil)
    unfold qrow at hq
    simp only [Prod.mk.injEq] at hq
    obtain ⟨q1, q2, q3, q4⟩ := hq
    obtain ⟨c, c1, c2, _⟩ := cmpR hr.2 hr'.2 (by omega) (by omega)
    have c0 : c = 0 := c2.2 q4
    have hv := vec_Same_says hk hlc hr.1 hr'.1
    rw [show decide (vq R[i].2.1 = vq R'[i].2.1) = true from decide_eq_true q2] at hv
    refine ⟨_, _, _, _, _, _, Idx.nat hil, _, _, _, _, _, _, Idx.nat hil', true, ?_, IfB_true.2 ?_⟩
    · unfold model_Same_1
      exact IfB.be (fun _ => IfB.eqi (fun _ => ⟨true, hv, IfB_true.2 ⟨c, c1, IfB.eqi (fun _ => rfl) (fun h => absurd c0 h)⟩⟩) (fun h => absurd q3 h)) (fun h => absurd q1 h)
    · rw [wrap64' (by omega) (by omega)]
      exact hX _ ⟨i + 1, by omega, by omega⟩ (by omega)
theorem right8_says {V : Ws} {C : List Fr} {R : List MRow} (hV : V.length ≤ 60) (hR : R.length ≤ 60) : offcutlaw08_right V C R (decide (MayM V C R)) := by
  unfold offcutlaw08_right
  refine LoopP.intro (fun z : Int × Ws => ∃ k : Nat, z.1 = k ∧ k ≤ R.length ∧ z.2 = (R.map (·.1)).take k ∧ ((R.map (·.1)).take k).Nodup ∧ ∀ r, r ∈ R.take k → NameP r.1 ∧ r.2.1.length = V.length ∧ -1 ≤ r.2.2.1 ∧ r.2.2.1 ≤ 1) (fun z => R.length - z.1.toNat) ⟨0, rfl, by omega, by simp, by simp, by simp⟩ ?_
  rintro X ⟨z1, z2⟩ ⟨k, e1, hk, e2, hn, hm⟩ hX
  simp only at e1 e2
  subst e1
  unfold offcutlaw08_right_L1
  dsimp only
  refine IfB.dec (fun h => ?_) (fun h => ?_)
  · have hkl : k < R.length := by omega
    have hkm : k < (R.map (·.1)).length := by simpa using hkl
    have hmem := List.getElem_mem hkl
    have no : ¬ (NameP R[k].1 ∧ R[k].2.1.length = V.length ∧ -1 ≤ R[k].2.2.1 ∧ R[k].2.2.1 ≤ 1) → decide (MayM V C R) = false := fun hno => decide_eq_false fun hp => hno ⟨hp.2.2.2.2.1.2 _ (List.mem_map.2 ⟨_, hmem, rfl⟩), hp.2.2.2.2.2 _ hmem⟩
    have hz : z2.length ≤ 60 := by rw [e2, List.length_take]; omega
    refine ⟨R[k].1, R[k].2.1, R[k].2.2.1, R[k].2.2.2.1, R[k].2.2.2.2.1, R[k].2.2.2.2.2, Idx.nat hkl, IfB.nei (fun a => no fun h => a (by have := h.2.1; omega)) (fun a => IfB.dec (fun b => no fun h => by omega) (fun b => IfB.dec (fun c => no fun h => by omega) (fun c => ⟨nameB R[k].1, offcutref07_Name_says (nameB_iff _), IfB.bool (fun d => ?_) (fun d => no fun h => by rw [(nameB_iff _).2 h.1] at d; cases d)⟩)))⟩
    refine ⟨_, ref_has_says z2 _ (by omega), IfB.dec (fun e => ?_) (fun e => ?_)⟩
    · refine decide_eq_false fun hp => ?_
      have := (nodup_succ hkm).1 (hp.2.2.2.2.1.1.sublist (List.take_sublist _ _))
      apply this.2
      rw [e2] at e
      simpa using e
    · rw [wrap64' (by omega) (by omega)]
      refine ⟨by unfold Fits; simp; omega, hX _ ⟨k + 1, by dsimp only; omega, by omega, ?_, ?_, fun r hr => ?_⟩ (by dsimp only; omega)⟩
      · dsimp only
        rw [take_succ hkm, e2]; simp
      · exact (nodup_succ hkm).2 ⟨hn, fun hh => e (by rw [e2]; simpa using hh)⟩
      · rw [take_succ hkl, List.mem_append] at hr
        rcases hr with hr | hr
        · exact hm r hr
        · simp at hr; subst hr
          exact ⟨(nameB_iff _).1 d, by omega, by omega, by omega⟩
  · have e : k = R.length := by omega
    subst e
    rw [List.take_of_length_le (by simp)] at hn
    rw [List.take_length] at hm
    refine LoopP.intro (fun z : Int => ∃ k : Nat, z = k ∧ k ≤ V.length ∧ (V.take k).Nodup ∧ ∀ v, v ∈ V.take k → NameP v) (fun z => V.length - z.toNat) ⟨0, rfl, by omega, by simp, by simp⟩ ?_
    rintro Y z ⟨k, rfl, hk, hnv, hmv⟩ hY
    unfold offcutlaw08_right_L2
    dsimp only
    refine IfB.dec (fun h => ?_) (fun h => ?_)
    · have hkl : k < V.length := by omega
      have es : sub V 0 (k : Int) = V.take k := by unfold sub; simp
      refine ⟨_, Idx.nat hkl, nameB V[k], offcutref07_Name_says (nameB_iff _), IfB.bool (fun d => ⟨⟨by omega, by omega, by omega⟩, decide (V[k] ∈ V.take k), ?_, IfB.dec (fun e => ?_) (fun e => ?_)⟩) (fun d => decide_eq_false fun hp => by rw [(nameB_iff _).2 (hp.2.2.2.1.2 _ (List.getElem_mem hkl))] at d; cases d)⟩
      · rw [es]; exact ref_has_says _ _ (by rw [List.length_take]; omega)
      · exact decide_eq_false fun hp => ((nodup_succ hkl).1 (hp.2.2.2.1.1.sublist (List.take_sublist _ _))).2 e
      · rw [wrap64' (by omega) (by omega)]
        refine hY _ ⟨k + 1, by omega, by omega, (nodup_succ hkl).2 ⟨hnv, e⟩, fun v hv => ?_⟩ (by omega)
        rw [take_succ hkl, List.mem_append] at hv
        rcases hv with hv | hv
        · exact hmv v hv
        · simp at hv; subst hv; exact (nameB_iff _).1 d
    · have e : k = V.length := by omega
      subst e
      rw [List.take_length] at hnv hmv
      refine IfB.eqi (fun hc => decide_eq_true ⟨hV, by omega, hR, ⟨hnv, hmv⟩, ⟨hn, fun v hv => ?_⟩, fun r hr => (hm r hr).2⟩) (fun hc => decide_eq_false fun hp => hc (by have := hp.2.1; omega))
      obtain ⟨r, hr, rfl⟩ := List.mem_map.1 hv
      exact (hm r hr).1
theorem wlen_bd : ∀ {l : Ws} {m : Nat}, (∀ w, w ∈ l → w.length ≤ m) → wlen l ≤ (m + 1) * l.length
  | [], m, h => by simp [wlen]
  | x :: l, m, h => by
    have e : wlen (x :: l) = x.length + 1 + wlen l := by simp [wlen]
    have := wlen_bd (l := l) (m := m) fun w hw => h w (by simp [hw])
    have := h x (by simp)
    rw [e, List.length_cons, Nat.mul_add, Nat.mul_one]; omega
def lenQ (q : Rat) (m : Nat) : Prop := (txtR q).length ≤ m ∧ (txtR (-q)).length ≤ m
theorem go_len {m : Nat} (hm : 1 ≤ m) : ∀ (all first : Bool) (l : List Rat) (V : Ws), (∀ v, v ∈ V → v.length ≤ m) → (∀ q, q ∈ l → lenQ q m) → ∀ w, w ∈ sumGo all first l V → w.length ≤ m
  | all, first, q :: l, v :: V, hV, hl, w, hw => by
    unfold sumGo at hw
    split at hw
    · exact go_len hm all first l V (fun x hx => hV x (by simp [hx])) (fun x hx => hl x (by simp [hx])) w hw
    · rcases List.mem_append.1 hw with hw | hw
      · have hv := hV v (by simp)
        have hq := hl q (by simp)
        unfold termWq at hw
        split at hw
        · simp at hw
          rcases hw with rfl | rfl | rfl
          · exact hm
          · exact hq.2
          · exact hv
        · split at hw
          · simp at hw
            rcases hw with rfl | rfl
            · exact hq.1
            · exact hv
          · simp at hw
            rcases hw with rfl | rfl | rfl
            · exact hm
            · exact hq.1
            · exact hv
      · exact go_len hm all false l V (fun x hx => hV x (by simp [hx])) (fun x hx => hl x (by simp [hx])) w hw
  | _, _, [], V, hV, hl, w, hw => by simp [sumGo] at hw
  | _, _, _ :: _, [], hV, hl, w, hw => by simp [sumGo] at hw
theorem sumTW_len {m : Nat} (hm : 1 ≤ m) {all : Bool} {l : List Rat} {V : Ws} (hV : ∀ v, v ∈ V → v.length ≤ m) (hl : ∀ q, q ∈ l → lenQ q m) : ∀ w, w ∈ sumTW all V l → w.length ≤ m := by
  intro w hw
  unfold sumTW at hw
  split at hw
  · simp at hw; subst hw; exact hm
  · exact go_len hm _ _ _ _ hV hl w hw
theorem sumTW_cnt (all : Bool) (V : Ws) (l : List Rat) : (sumTW all V l).length ≤ 3 * l.length + 1 := by
  have := sumGo_len all true l V
  unfold sumTW
  split
  · simp
  · omega
theorem few_len {x : Fr} (h : okX x 3) : lenQ (qv x) 94 ∧ Short10 (qv x) := by
  obtain ⟨n1, n2, n3⟩ := negR h (by omega)
  refine ⟨⟨?_, ?_⟩, ?_, ?_⟩
  · rw [← txtQ_eq]; have := txtQ_len h; omega
  · rw [← n2, ← txtQ_eq]; have := txtQ_len n3; omega
  · have l1 := lowN_len h
    have d1 := decT_lenW (WS_words (lowN x))
    rw [val_words] at d1
    rw [(qv_low x).1, iV_abs]; omega
  · have l2 := lowD_len h
    have d2 := decT_lenW (WS_words (lowD x))
    rw [val_words] at d2
    rw [(qv_low x).2]; omega
theorem qmay_of {V : Ws} {C : List Fr} {R : List MRow} (hm : MayM V C R) (sC : ∀ x, x ∈ C → Short10 (qv x)) (sR : ∀ r, r ∈ R → (∀ x, x ∈ r.2.1 → Short10 (qv x)) ∧ Short10 (qv r.2.2.2)) : QMay V (C.map qv) (R.map qrow) := by
  obtain ⟨m1, m2, m3, m4, m5, m6⟩ := hm
  refine ⟨m1, by rw [List.length_map]; exact m2, by rw [List.length_map]; exact m3, m4, ?_, fun r hr => ?_, fun q hq => ?_, fun r hr => ?_⟩
  · rw [List.map_map]; exact m5
  · obtain ⟨x, hx, rfl⟩ := List.mem_map.1 hr
    exact ⟨by show (x.2.1.map qv).length = _; rw [List.length_map]; exact (m6 x hx).1, (m6 x hx).2.1, (m6 x hx).2.2⟩
  · obtain ⟨x, hx, rfl⟩ := List.mem_map.1 hq
    exact sC x hx
  · obtain ⟨x, hx, rfl⟩ := List.mem_map.1 hr
    refine ⟨fun q hq => ?_, (sR x hx).2⟩
    obtain ⟨y, hy, rfl⟩ := List.mem_map.1 hq
    exact (sR x hx).1 y hy
theorem law_mprints (V : List By) (C : List Fr) (R : List MRow) (wC : wsQ C) (wR : ∀ r, r ∈ R → wsR r) : offcutlaw08_ModelPrints V C R true := by
  unfold offcutlaw08_ModelPrints
  refine ⟨_, Few8_says V C R, IfB.dec (fun hf => ?_) (fun hf => awk8 _ _ rfl)⟩
  obtain ⟨f1, f2, f3, f4, f5⟩ := hf
  have oC : okL C 3 := okX_of wC f5
  have oR : okR R 3 := fun r hr => ⟨okX_of (wR r hr).1 (f4 r hr).2.1, okX_of (wR r hr).2 (f4 r hr).2.2 _ (by simp)⟩
  by_cases hm : MayM V C R
  · have hQ := qmay_of hm (fun x hx => (few_len (oC x hx)).2) (fun r hr => ⟨fun x hx => (few_len ((oR r hr).1 x hx)).2, (few_len (oR r hr).2).2⟩)
    have hnm : ∀ v, v ∈ V → v.length ≤ 94 := fun v hv => by have := (hm.2.2.2.1.2 v hv).2.1; omega
    have hlen : (linesT (printW8 V C R)).length ≤ 65536 := by
      have hb : ∀ ws, ws ∈ printW8 V C R → wlen ws + 1 ≤ 2800 := fun ws hws => by
        unfold printW8 printQ at hws
        rcases List.mem_cons.1 hws with rfl | hws
        · have h1 := sumTW_cnt true V (C.map qv)
          have h2 : wlen (minB :: sumTW true V (C.map qv)) ≤ (94 + 1) * (minB :: sumTW true V (C.map qv)).length := wlen_bd fun w hw => by
            rcases List.mem_cons.1 hw with rfl | hw
            · decide
            · exact sumTW_len (by omega) hnm (fun q hq => by obtain ⟨x, hx, rfl⟩ := List.mem_map.1 hq; exact (few_len (oC x hx)).1) w hw
          have := hm.2.1
          rw [List.length_map] at h1
          rw [List.length_cons] at h2
          omega
        · obtain ⟨r', hr', rfl⟩ := List.mem_map.1 hws
          obtain ⟨r, hr, rfl⟩ := List.mem_map.1 hr'
          have h1 := sumTW_cnt false V (r.2.1.map qv)
          have hn := (hm.2.2.2.2.1.2 r.1 (List.mem_map.2 ⟨r, hr, rfl⟩)).2.1
          have h2 : wlen (rowWq V r.1 (r.2.1.map qv) r.2.2.1 (qv r.2.2.2)) ≤ (94 + 1) * (rowWq V r.1 (r.2.1.map qv) r.2.2.1 (qv r.2.2.2)).length := wlen_bd fun w hw => by
            unfold rowWq at hw
            rcases List.mem_cons.1 hw with rfl | hw
            · simp; omega
            · rcases List.mem_append.1 hw with hw | hw
              · exact sumTW_len (by omega) hnm (fun q hq => by obtain ⟨x, hx, rfl⟩ := List.mem_map.1 hq; exact (few_len ((oR r hr).1 x hx)).1) w hw
              · simp at hw
                rcases hw with rfl | rfl
                · unfold relT; split
                  · decide
                  · split <;> decide
                · exact (few_len (oR r hr).2).1.1
          have := (hm.2.2.2.2.2 r hr).1
          rw [List.length_map] at h1
          have h3 : (rowWq V r.1 (r.2.1.map qv) r.2.2.1 (qv r.2.2.2)).length = (sumTW false V (r.2.1.map qv)).length + 3 := by simp [rowWq]
          show wlen (rowWq V r.1 (r.2.1.map qv) r.2.2.1 (qv r.2.2.2)) + 1 ≤ 2800
          omega
      have := linesT_len (printW8 V C R) 2800 hb
      have h7 : (printW8 V C R).length ≤ 7 := by unfold printW8 printQ; simp; omega
      have := Nat.mul_le_mul_left 2800 h7
      omega
    obtain ⟨C', R', hp, eC, eR, oC', oR', mM⟩ := parse_back hQ hlen
    have hPr := model_Print_says (k := 3) (by omega) hm oC oR hlen
    have hri := right8_says (V := V) (C := C) (R := R) (by omega) (by omega)
    rw [decide_eq_true hm] at hri
    have hRi := model_Right_says V C R
    rw [decide_eq_true hm] at hRi
    have up : okL C 10003 := fun x hx => (oC x hx).mono (by omega)
    have upR : okR R 10003 := fun r hr => ⟨fun x hx => ((oR r hr).1 x hx).mono (by omega), (oR r hr).2.mono (by omega)⟩
    have lC := hm.2.1
    have lC' := mM.2.1
    have lR' := mM.2.2.1
    have s1 : model_Same V C' R' V C R true := model_Same_says (k := 10003) (by omega) (by omega) oC' up oR' upR (by omega) (by omega) (fun r hr => by have := (mM.2.2.2.2.2 r hr).1; omega) eC eR
    have s2 : model_Same V C R V C' R' true := model_Same_says (k := 10003) (by omega) (by omega) up oC' upR oR' (by omega) (by omega) (fun r hr => by have := (hm.2.2.2.2.2 r hr).1; omega) eC.symm eR.symm
    refine ⟨_, _, hPr, true, hRi, IfB_true.2 ⟨true, hri, IfB_true.2 ⟨true, hri, IfB_true.2 ⟨_, _, _, _, _, hp, ?_⟩⟩⟩⟩
    exact IfB.eqi (fun _ => IfB.eqi (fun _ => IfB.eqi (fun _ => ⟨true, s1, IfB_true.2 ⟨true, s2, IfB_true.2 (awk8 _ _ rfl)⟩⟩) (fun h => absurd rfl h)) (fun h => absurd rfl h)) (fun h => absurd rfl h)
  · have hri := right8_says (V := V) (C := C) (R := R) (by omega) (by omega)
    rw [decide_eq_false hm] at hri
    have hRi := model_Right_says V C R
    rw [decide_eq_false hm] at hRi
    refine ⟨_, _, model_Print_no hm, false, hRi, IfB_false.2 ⟨false, hri, IfB_false.2 ⟨false, hri, IfB_false.2 ?_⟩⟩⟩
    exact IfB.be (fun _ => IfB.eqi (fun _ => awk8 _ _ rfl) (fun h => absurd rfl h)) (fun h => absurd rfl h)
end Go.Abs
end
