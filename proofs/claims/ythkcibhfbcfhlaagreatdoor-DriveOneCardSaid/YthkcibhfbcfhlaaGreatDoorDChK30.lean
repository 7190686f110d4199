/- A part. -/
import Derived.Test.YthkcibhfbcfhlaaGreatDoorDChK29
import Derived.Test.YthkcibhfbcfhlaaGreatDoorDChK28
import Derived.Test.YthkcibhfbcfhlaaGreatDoorDChK18
set_option linter.unusedVariables false
set_option linter.unusedSimpArgs false
set_option linter.unnecessarySimpa false
namespace Go.Abs
open Go
open Classical
def costT (st : St8) : List TM := (sumsM st.2).headD []
def rowsD (st : St8) : List (By × List Fr × Int × Bool × List Int × List Int) := (st.2.drop 1).map fun x => rowRec x (denseF st.1 (x.2.1.map tmM))
def resMd : (Int × Int) ⊕ St8 → MR
 | .inl (a, e) => errM a e
 | .inr st => (st.1, denseF st.1 (costT st), rowsD st, 0, 0)
theorem set_mid {α : Type} {a b : List α} {k : Nat} {x : α} (ha : k < a.length) (hl : a.length = b.length) (hx : a[k] = x) : (a.take k ++ b.drop k).set k x = a.take (k + 1) ++ b.drop (k + 1) := by
 have e1 : (a.take k).length = k := by rw [List.length_take]; omega
 have hb : k < b.length := by omega
 rw [List.set_append_right _ _ (by omega), e1, Nat.sub_self, List.drop_eq_getElem_cons hb, List.set_cons_zero, take_succ ha, hx, List.append_assoc]; rfl
theorem rows_fill {st : St8} {k : Nat} {cost : List Fr} (h : InvS k st) (hk : 1 ≤ k) (hts : ∀ x, x ∈ st.2 → x.2.1.length ≤ 100000) :
  LoopP (model_Parse_L7 st.1 (rowsM st.2) (sumsM st.2) cost (st.1, cost, rowsD st, 0, 0)) ((0 : Int), rowsM st.2) := by
 have hr : (rowsM st.2).length = k - 1 := by simp [rowsM, h.len]
 have hd : (rowsD st).length = k - 1 := by simp [rowsD, h.len]
 have := h.r61
 have hv := h.v60
 refine LoopP.intro (fun z : Int × List (By × List Fr × Int × Bool × List Int × List Int) => ∃ j : Nat, z.1 = j ∧ j ≤ k - 1 ∧ z.2 = (rowsD st).take j ++ (rowsM st.2).drop j) (fun z => k - 1 - z.1.toNat) ⟨0, rfl, by omega, rfl⟩ ?_
 rintro X ⟨z1, z2⟩ ⟨j, h1, hj, h2⟩ hX
 simp only at h1 h2
 subst h1
 unfold model_Parse_L7
 dsimp only
 rw [hr]
 refine IfB.dec (fun hh => ?_) (fun hh => ?_)
 ·have hjk : j < k - 1 := by omega
  have hjl : j + 1 < st.2.length := by have := h.len; omega
  have hw1 : IntKind.i64.wrap ((j : Int) + 1) = ((j + 1 : Nat) : Int) := by rw [wrap64' (by omega) (by omega)]; rfl
  rw [hw1]
  have hsum : (sumsM st.2)[j + 1]? = some (st.2[j + 1].2.1.map tmM) := by unfold sumsM; rw [List.getElem?_map, List.getElem?_eq_getElem hjl]; rfl
  have hdr : (st.2.drop 1)[j]? = some st.2[j + 1] := by rw [List.getElem?_drop, Nat.add_comm, List.getElem?_eq_getElem hjl]
  have hrow : (rowsM st.2)[j]? = some (rowRec st.2[j + 1] []) := by unfold rowsM; rw [List.getElem?_map, hdr]; rfl
  have hrd : (rowsD st)[j]'(by omega) = rowRec st.2[j + 1] (denseF st.1 (st.2[j + 1].2.1.map tmM)) := by
   have : (rowsD st)[j]? = some (rowRec st.2[j + 1] (denseF st.1 (st.2[j + 1].2.1.map tmM))) := by unfold rowsD; rw [List.getElem?_map, hdr]; rfl
   exact (List.getElem?_eq_some_iff.1 this).2
  have hmem : st.2[j + 1] ∈ st.2 := List.getElem_mem hjl
  refine ⟨_,⟨by omega, hsum⟩, denseF st.1 (st.2[j + 1].2.1.map tmM), ⟨⟨by omega, by unfold Fits; simp; omega, by unfold Fits; simp; omega⟩, ?_⟩, ?_⟩
  ·refine zeroLoop (n := st.1.length) (E := fun s960 => LoopP (model_Parse_L9 st.1 (st.2[j + 1].2.1.map tmM) (denseF st.1 (st.2[j + 1].2.1.map tmM))) ((0 : Int), s960)) (by omega) ?_
   refine writeLoop (vars := st.1) (ts := st.2[j + 1].2.1.map tmM) (d0 := List.replicate st.1.length zeroF) (E := fun s => denseF st.1 (st.2[j + 1].2.1.map tmM) = s) (by omega) (by simp) (by simp; exact hts _ hmem) (fun t ht => ?_) rfl
   obtain ⟨t', ht', rfl⟩ := List.mem_map.1 ht
   exact h.sub _ hmem t' ht'
  ·have hz : z2[j]? = some (rowRec st.2[j + 1] []) := by
    rw [h2, List.getElem?_append_right (by rw [List.length_take]; omega), List.length_take, Nat.min_eq_left (by omega), Nat.sub_self, List.getElem?_drop, Nat.add_zero, hrow]
   refine ⟨_,_,_,_,_,_,⟨by omega, hz⟩, ?_⟩
   refine hX _ ⟨j + 1, rfl, by omega, ?_⟩ (by dsimp only; omega)
   dsimp only
   rw [h2, Int.toNat_natCast]
   exact set_mid (by omega) (by omega) hrd
 ·have : j = k - 1 := by omega
  subst this
  rw [h2, List.take_of_length_le (by omega), List.drop_eq_nil_of_le (by omega), List.append_nil]
def LsOK (l : Ls) : Prop := l.length ≤ 100000 ∧ ∀ x, x ∈ l → wrdOK x.2 ∧ x.2 ≠ []
theorem terms_len {l : Ls} (hl : LsOK l) : ∀ (r : Ls) (k : Nat) (st st' : St8), (∀ x, x ∈ r → x ∈ l) → (∀ x, x ∈ st.2 → x.2.1.length ≤ 100000) → foldM k st r = .inr st' → ∀ x, x ∈ st'.2 → x.2.1.length ≤ 100000
 | [], k, st, st', hr, hs, h => by cases h; exact hs
 | (a, ws) :: r, k, st, st', hr, hs, h => by
  unfold foldM at h
  cases he : stepM k st ws with
  | inl e => rw [he] at h; cases h
  | inr st1 =>
   rw [he] at h
   refine terms_len hl r (k + 1) st1 st' (fun x hx => hr x (by simp [hx])) ?_ h
   unfold stepM at he
   split at he
   ·cases he
   ·rename_i x hx
    split at he
    ·cases he
    ·split at he
     ·cases he
     ·cases he
      intro y hy
      rcases List.mem_append.1 hy with hy | hy
      ·exact hs y hy
      ·simp at hy; subst hy
       have := line_len hx
       have := (hl.2 (a, ws) (hr _ (by simp))).1.1
       dsimp only at this; omega
theorem foldM_inl {k : Nat} {st : St8} {p : Int × Ws} {r : Ls} {e : Int} (h : stepM k st p.2 = .inl e) : foldM k st (p :: r) = .inl (p.1, e) := by
 obtain ⟨a, ws⟩ := p
 unfold foldM; dsimp only at h ⊢; rw [h]
theorem foldM_inr {k : Nat} {st st' : St8} {p : Int × Ws} {r : Ls} (h : stepM k st p.2 = .inr st') : foldM k st (p :: r) = foldM (k + 1) st' r := by
 obtain ⟨a, ws⟩ := p
 conv => lhs; unfold foldM
 dsimp only at h ⊢; rw [h]
theorem parse_loop (l : Ls) (hl : LsOK l) (hne : l ≠ []) : LoopP (model_Parse_L1 l (resMd (foldM 0 ([], []) l))) ((0 : Int), [], [], []) := by
 have hlen := hl.1
 have hpos : 1 ≤ l.length := Nat.pos_of_ne_zero fun e => hne (List.length_eq_zero_iff.1 e)
 refine LoopP.intro (fun z : MX => ∃ (k : Nat) (st : St8), z = ((k : Int), st.1, rowsM st.2, sumsM st.2) ∧ k ≤ l.length ∧ InvS k st ∧ foldM 0 ([], []) l = foldM k st (l.drop k)) (fun z => l.length - z.1.toNat) ⟨0, ([], []), rfl, by omega, InvS.zero, rfl⟩ ?_
 rintro X z ⟨k, st, rfl, hk, hi, hf⟩ hX
 rcases Nat.lt_or_ge k l.length with hkl | hkl
 ·have hd := List.drop_eq_getElem_cons hkl
  have hm := hl.2 _ (List.getElem_mem hkl)
  refine model_line (a := l[k].1) (ws := l[k].2) hkl rfl hl.1 hm.1 hm.2 hi.len hi.v60 (fun e he => ?_) (fun st' hs => ?_)
  ·rw [hf, hd, foldM_inl he]; rfl
  ·refine hX _ ⟨k + 1, st', rfl, by omega, hi.step hs, ?_⟩ (by dsimp only; omega)
   rw [hf, hd, foldM_inr hs]
 ·have e : k = l.length := by omega
  have hdn : l.drop k = [] := List.drop_eq_nil_of_le hkl
  rw [hdn] at hf
  have hts := terms_len hl l 0 ([], []) st (fun x hx => hx) (by simp) hf
  rw [hf]
  unfold model_Parse_L1
  dsimp only
  have hv := hi.v60
  refine IfB.dec (fun h => absurd h (by omega)) (fun _ => ?_)
  obtain ⟨x0, xs, hst⟩ : ∃ x0 xs, st.2 = x0 :: xs := by
   cases h : st.2 with
   | nil => have := hi.len; rw [h] at this; simp at this; omega
   | cons x0 xs => exact ⟨x0, xs, rfl⟩
  have hm0 : x0 ∈ st.2 := by rw [hst]; simp
  have hc : costT st = x0.2.1.map tmM := by unfold costT sumsM; rw [hst]; rfl
  refine ⟨x0.2.1.map tmM, by rw [hst]; exact idx0 _ _,⟨by omega, by unfold Fits; simp; omega, by unfold Fits; simp; omega⟩, ?_⟩
  refine zeroLoop (n := st.1.length) (E := fun s657 => LoopP (model_Parse_L6 st.1 (rowsM st.2) (sumsM st.2) (x0.2.1.map tmM) (resMd (.inr st))) ((0 : Int), s657)) (by omega) ?_
  refine writeLoop (vars := st.1) (ts := x0.2.1.map tmM) (d0 := List.replicate st.1.length zeroF) (E := fun s757 => LoopP (model_Parse_L7 st.1 (rowsM st.2) (sumsM st.2) s757 (resMd (.inr st))) ((0 : Int), rowsM st.2)) (by omega) (by simp) (by simp; exact hts _ hm0) (fun t ht => ?_) ?_
  ·obtain ⟨t', ht', rfl⟩ := List.mem_map.1 ht
   exact hi.sub _ hm0 t' ht'
  ·show LoopP (model_Parse_L7 st.1 (rowsM st.2) (sumsM st.2) (denseF st.1 (x0.2.1.map tmM)) (st.1, denseF st.1 (costT st), rowsD st, 0, 0)) ((0 : Int), rowsM st.2)
   rw [hc]
   exact rows_fill hi (by omega) hts
noncomputable def saysM (s : By) : (Int × Int) ⊕ St8 := if allL s = [] then .inl (0, 2) else foldM 0 ([], []) (allL s)
theorem wlen_mem8 : ∀ {l : Ws} {w : By}, w ∈ l → w.length + 1 ≤ wlen l
 | x :: l, w, h => by
  have e : wlen (x :: l) = x.length + 1 + wlen l := by simp [wlen]
  rw [e]
  rcases List.mem_cons.1 h with rfl | h
  ·omega
  ·have := wlen_mem8 h; omega
theorem allLs_ok {s : By} (hl : s.length ≤ 65536) : LsOK (allL s) := by
 constructor
 ·have := linesFrom_length (splitC 10 s) 0
  have h2 : (splitC 10 s).length = s.count 10 + 1 := split_len
  have h3 : s.count 10 ≤ s.length := List.count_le_length
  unfold allL; omega
 ·intro x hx
  have hw := all_wlen s x hx
  have h0 := wlen_len x.2
  refine ⟨⟨by omega, fun w hw' => ?_⟩, ?_⟩
  ·have := wlen_mem8 hw'
   omega
  ·have hr := linesFrom_rising (splitC 10 s) 0
   obtain ⟨i, hi, e⟩ := List.mem_iff_getElem.1 hx
   have := (hr.at (i := i) (x := x) (by unfold allL at hi e; rw [List.getElem?_eq_getElem hi, e])).1
   exact fun e => by rw [e] at this; simp at this
theorem model_Parse_says {s : By} (hl : s.length ≤ 65536) (hr : RightP s) : model_Parse s (resMd (saysM s)) := by
 unfold model_Parse
 refine ⟨_,_,lines_All_says hl hr, IfB.nei (fun h => absurd rfl h) (fun _ => ?_)⟩
 unfold saysM
 by_cases he : allL s = []
 ·rw [if_pos he]
  exact IfB.eqi (fun _ => rfl) (fun h => absurd (by rw [he]; rfl) h)
 ·rw [if_neg he]
  exact IfB.eqi (fun h => absurd (List.length_eq_zero_iff.1 (by omega)) he) (fun _ => parse_loop _ (allLs_ok hl) he)
theorem model_Parse_wrong {s : By} (hl : s.length ≤ 65536) (hr : ¬ RightP s) : model_Parse s (errM 0 2) := by
 unfold model_Parse
 exact ⟨_,_,lines_All_form hl hr, IfB.nei (fun _ => rfl) (fun h => absurd h (by decide))⟩
end Go.Abs
namespace Go.Abs
open Go
open Classical
end Go.Abs
namespace Go.Abs
open Go
open Classical
abbrev MRow := By × List Fr × Int × Bool × List Int × List Int
def NamesP (l : Ws) : Prop := l.Nodup ∧ ∀ v, v ∈ l → NameP v
theorem idx_take {l : Ws} {k : Nat} (hk : k < l.length) : l.idxOf l[k] = k ↔ l[k] ∉ l.take k := by
 have hlt : l.idxOf l[k] < l.length := List.idxOf_lt_length_of_mem (List.getElem_mem hk)
 have he : l[l.idxOf l[k]] = l[k] := List.getElem_idxOf hlt
 constructor
 ·intro h hm
  obtain ⟨i, hi, e⟩ := List.mem_take_iff_getElem.1 hm
  have hik : i < k := by omega
  have hil : i < l.length := by omega
  have := List.not_of_lt_findIdx (p := (· == l[k])) (xs := l) (i := i) (by show i < l.idxOf l[k]; omega)
  rw [e] at this
  simp at this
 ·intro h
  rcases Nat.lt_or_ge (l.idxOf l[k]) k with h1 | h1
  ·exact absurd (List.mem_take_iff_getElem.2 ⟨l.idxOf l[k], by omega, he⟩) h
  ·rcases Nat.lt_or_ge k (l.idxOf l[k]) with h2 | h2
   ·have := List.not_of_lt_findIdx (p := (· == l[k])) (xs := l) (i := k) h2
    simp at this
   ·omega
theorem idx_nodup {l : Ws} {k : Nat} (hk : k < l.length) (hn : l.Nodup) : l.idxOf l[k] = k := (idx_take hk).2 ((nodup_succ hk).1 (hn.sublist (List.take_sublist _ _))).2
theorem model_names_says (l : Ws) (hl : l.length ≤ 1000000) : model_names l (decide (NamesP l)) := by
 unfold model_names
 refine LoopP.intro (fun z : Int => ∃ k : Nat, z = k ∧ k ≤ l.length ∧ (l.take k).Nodup ∧ ∀ v, v ∈ l.take k → NameP v) (fun z => l.length - z.toNat) ⟨0, rfl, by omega, by simp, by simp⟩ ?_
 rintro X z ⟨k, rfl, hk, hn, hm⟩ hX
 unfold model_names_L1
 dsimp only
 refine IfB.dec (fun h => ?_) (fun h => ?_)
 ·have hkl : k < l.length := by omega
  refine ⟨_,Idx.nat hkl, _,lines_Name_says (nameB_iff _), IfB.bool (fun hN => ?_) (fun hN => ?_)⟩
  ·have hN := (nameB_iff _).1 hN
   refine ⟨_,lines_Index_says l _ (by omega), ?_⟩
   rw [(idxN_at (List.getElem_mem hkl)).1]
   refine IfB.nei (fun he => ?_) (fun he => ?_)
   ·refine decide_eq_false fun hp => he ?_
    rw [idx_nodup hkl hp.1]
   ·rw [wrap64' (by omega) (by omega)]
    have := (idx_take hkl).1 (by omega)
    refine hX _ ⟨k + 1, by omega, by omega, (nodup_succ hkl).2 ⟨hn, this⟩, fun v hv => ?_⟩ (by omega)
    rw [take_succ hkl, List.mem_append] at hv
    rcases hv with hv | hv
    ·exact hm v hv
    ·simp at hv; subst hv; exact hN
  ·refine decide_eq_false fun hp => ?_
   rw [(nameB_iff _).2 (hp.2 _ (List.getElem_mem hkl))] at hN; cases hN
 ·have e : k = l.length := by omega
  subst e
  rw [List.take_length] at hn hm
  exact decide_eq_true ⟨hn, hm⟩
def MayM (V : Ws) (C : List Fr) (R : List MRow) : Prop := V.length ≤ 60 ∧ C.length = V.length ∧ R.length ≤ 60 ∧ NamesP V ∧ NamesP (R.map (·.1)) ∧ ∀ r, r ∈ R → r.2.1.length = V.length ∧ -1 ≤ r.2.2.1 ∧ r.2.2.1 ≤ 1
theorem model_Right_says (V : Ws) (C : List Fr) (R : List MRow) : model_Right V C R (decide (MayM V C R)) := by
 unfold model_Right
 refine IfB.dec (fun h1 => ?_) (fun h1 => decide_eq_false fun h => h1 (by have := h.1; omega))
 refine IfB.eqi (fun h2 => ?_) (fun h2 => decide_eq_false fun h => h2 (by have := h.2.1; omega))
 refine IfB.dec (fun h3 => ?_) (fun h3 => decide_eq_false fun h => h3 (by have := h.2.2.1; omega))
 refine ⟨_,model_names_says V (by omega), IfB.dec (fun h4 => ?_) (fun h4 => decide_eq_false fun h => h4 h.2.2.2.1)⟩
 refine LoopP.intro (fun z : Int × Ws => ∃ k : Nat, z.1 = k ∧ k ≤ R.length ∧ z.2 = (R.map (·.1)).take k) (fun z => R.length - z.1.toNat) ⟨0, rfl, by omega, by simp⟩ ?_
 rintro X ⟨z1, z2⟩ ⟨k, e1, hk, e2⟩ hX
 simp only at e1 e2
 subst e1
 unfold model_Right_L1
 dsimp only
 refine IfB.dec (fun h => ?_) (fun h => ?_)
 ·have hkl : k < R.length := by omega
  refine ⟨R[k].1, R[k].2.1, R[k].2.2.1, R[k].2.2.2.1, R[k].2.2.2.2.1, R[k].2.2.2.2.2, Idx.nat hkl, by unfold Fits; rw [e2]; simp; omega, ?_⟩
  rw [wrap64' (by omega) (by omega)]
  refine hX _ ⟨k + 1, by dsimp only; omega, by omega, ?_⟩ (by dsimp only; omega)
  dsimp only
  rw [take_succ (by simpa using hkl), e2]; simp
 ·have e : k = R.length := by omega
  subst e
  rw [List.take_of_length_le (by simp)] at e2
  refine ⟨_,model_names_says z2 (by rw [e2]; simp; omega), ?_⟩
  rw [e2]
  refine IfB.dec (fun h5 => ?_) (fun h5 => decide_eq_false fun h => h5 h.2.2.2.2.1)
  refine LoopP.intro (fun z : Int => ∃ k : Nat, z = k ∧ k ≤ R.length ∧ ∀ r, r ∈ R.take k → r.2.1.length = V.length ∧ -1 ≤ r.2.2.1 ∧ r.2.2.1 ≤ 1) (fun z => R.length - z.toNat) ⟨0, rfl, by omega, by simp⟩ ?_
  rintro Y z ⟨k, rfl, hk, hm⟩ hY
  unfold model_Right_L2
  dsimp only
  refine IfB.dec (fun h => ?_) (fun h => ?_)
  ·have hkl : k < R.length := by omega
   have hmem := List.getElem_mem hkl
   have no : ∀ p : Prop, p → ¬ (R[k].2.1.length = V.length ∧ -1 ≤ R[k].2.2.1 ∧ R[k].2.2.1 ≤ 1) → IfB (decide ((k : Int) ≥ 0)) (decide (MayM V C R) = false) (decide (MayM V C R) = true) := fun _ _ hno =>
    IfB.dec (fun _ => decide_eq_false fun h => hno (h.2.2.2.2.2 _ hmem)) (fun h => absurd (by omega) h)
   refine ⟨R[k].1, R[k].2.1, R[k].2.2.1, R[k].2.2.2.1, R[k].2.2.2.2.1, R[k].2.2.2.2.2, Idx.nat hkl, IfB.nei (fun a => no True trivial (fun h => a (by omega))) (fun a => IfB.dec (fun b => no True trivial (fun h => by omega)) (fun b => IfB.dec (fun c => no True trivial (fun h => by omega)) (fun c => ?_)))⟩
   rw [wrap64' (by omega) (by omega)]
   refine hY _ ⟨k + 1, by omega, by omega, fun r hr => ?_⟩ (by omega)
   rw [take_succ hkl, List.mem_append] at hr
   rcases hr with hr | hr
   ·exact hm r hr
   ·simp at hr; subst hr; exact ⟨by omega, by omega, by omega⟩
  ·have e : k = R.length := by omega
   subst e
   rw [List.take_length] at hm
   exact decide_eq_true ⟨by omega, by omega, by omega, h4, h5, hm⟩
end Go.Abs
namespace Go.Abs
open Go
open Classical
def okL (l : List Fr) (k : Nat) : Prop := ∀ x, x ∈ l → okX x k
end Go.Abs
namespace Go.Abs
open Go
open Classical
def okR (R : List MRow) (k : Nat) : Prop := ∀ r, r ∈ R → okL r.2.1 k ∧ okX r.2.2.2 k
end Go.Abs
namespace Go.Abs
open Go
open Classical
def lastV (s : By) (ts : List Tm) (w : Fr) : Fr := ts.foldl (fun w t => if t.2.2 = s then tmV t else w) w
theorem idx_inj {l : Ws} {a b : By} (ha : a ∈ l) (hb : b ∈ l) (h : l.idxOf a = l.idxOf b) : a = b := by
 have h1 : l[l.idxOf a]'(List.idxOf_lt_length_of_mem ha) = a := List.getElem_idxOf _
 have h2 : l[l.idxOf b]'(List.idxOf_lt_length_of_mem hb) = b := List.getElem_idxOf _
 rw [← h1, ← h2]; simp only [h]
theorem denseW_at {vars : Ws} {s : By} (hs : s ∈ vars) : ∀ (ts : List Tm) (d : List Fr) (w : Fr), (∀ t, t ∈ ts → t.2.2 ∈ vars) → d.length = vars.length → d[vars.idxOf s]? = some w → (denseW vars (ts.map tmM) d)[vars.idxOf s]? = some (lastV s ts w)
 | [], d, w, hm, hl, hd => hd
 | t :: ts, d, w, hm, hl, hd => by
  have ht := hm t (by simp)
  show (denseW vars (ts.map tmM) (d.set (vars.idxOf t.2.2) (tmV t)))[vars.idxOf s]? = some (lastV s ts (if t.2.2 = s then tmV t else w))
  refine denseW_at hs ts _ _ (fun t ht => hm t (by simp [ht])) (by simp [hl]) ?_
  rw [List.getElem?_set]
  have hlt : vars.idxOf s < d.length := by rw [hl]; exact List.idxOf_lt_length_of_mem hs
  by_cases he : t.2.2 = s
  ·rw [if_pos (by rw [he]), if_pos (by rw [he]; exact hlt), if_pos he]
  ·rw [if_neg (fun e => he (idx_inj ht hs e)), if_neg he, hd]
theorem denseF_at {vars : Ws} {ts : List Tm} {k : Nat} (hk : k < vars.length) (hn : vars.Nodup) (hm : ∀ t, t ∈ ts → t.2.2 ∈ vars) : (denseF vars (ts.map tmM))[k]? = some (lastV vars[k] ts zeroF) := by
 have := denseW_at (s := vars[k]) (List.getElem_mem hk) ts (List.replicate vars.length zeroF) zeroF hm (by simp) (by rw [idx_nodup hk hn]; simp [hk])
 rwa [idx_nodup hk hn] at this
theorem lastV_ok (s : By) : ∀ (ts : List Tm) (w : Fr), okX w 403 → okX (lastV s ts w) 403
 | [], w, h => h
 | t :: ts, w, h => by
  show okX (lastV s ts (if t.2.2 = s then tmV t else w)) 403
  refine lastV_ok s ts _ ?_
  split
  ·exact tmV_ok t
  ·exact h
theorem stepM_err {k : Nat} {st : St8} {ws : Ws} {e : Int} (h : stepM k st ws = .inl e) : e ≠ 0 := by
 unfold stepM at h
 split at h
 ·cases h; decide
 ·split at h
  ·cases h; decide
  ·split at h
   ·cases h; decide
   ·cases h
theorem foldM_err : ∀ (l : Ls) (k : Nat) (st : St8) {a e : Int}, foldM k st l = .inl (a, e) → e ≠ 0
 | [], k, st, a, e, h => by cases h
 | p :: r, k, st, a, e, h => by
  cases he : stepM k st p.2 with
  | inl e' => rw [foldM_inl he] at h; cases h; exact stepM_err he
  | inr st' => rw [foldM_inr he] at h; exact foldM_err r _ _ h
theorem foldM_inv : ∀ (l : Ls) (k : Nat) (st st' : St8), InvS k st → foldM k st l = .inr st' → InvS (k + l.length) st'
 | [], k, st, st', hi, h => by cases h; exact hi
 | p :: r, k, st, st', hi, h => by
  cases he : stepM k st p.2 with
  | inl e' => rw [foldM_inl he] at h; cases h
  | inr st1 =>
   rw [foldM_inr he] at h
   have := foldM_inv r (k + 1) st1 st' (hi.step he) h
   rwa [List.length_cons, Nat.add_comm r.length 1, ← Nat.add_assoc]
theorem mayM_parsed {k : Nat} {st : St8} (h : InvS k st) (hk : 1 ≤ k) : MayM st.1 (denseF st.1 (costT st)) (rowsD st) := by
 have hl := h.len
 have h61 := h.r61
 refine ⟨h.v60, denseF_len _ _,by simp [rowsD]; omega, ⟨h.nd, h.nm⟩, ⟨?_, ?_⟩, ?_⟩
 ·have e : (rowsD st).map (·.1) = (st.2.drop 1).map (·.1) := by unfold rowsD; rw [List.map_map]; rfl
  rw [e]; exact h.rows
 ·intro v hv
  simp only [rowsD, rowRec, List.map_map, List.mem_map, Function.comp] at hv
  obtain ⟨x, hx, rfl⟩ := hv
  exact (h.rok x hx).1
 ·intro r hr
  obtain ⟨x, hx, rfl⟩ := List.mem_map.1 hr
  exact ⟨denseF_len _ _,(h.rok x hx).2.1.1, (h.rok x hx).2.1.2⟩
end Go.Abs
namespace Go.Abs
open Go
open Classical
theorem dense_ok {V : Ws} {ts : List Tm} (hn : V.Nodup) (hm : ∀ t, t ∈ ts → t.2.2 ∈ V) : okL (denseF V (ts.map tmM)) 403 := by
 intro x hx
 obtain ⟨k, hk, rfl⟩ := List.mem_iff_getElem.1 hx
 have hkV : k < V.length := by rw [denseF_len] at hk; exact hk
 have := denseF_at hkV hn hm
 rw [List.getElem?_eq_getElem hk] at this
 cases this' : (denseF V (ts.map tmM))[k] with
 | mk a b =>
  have e : (denseF V (ts.map tmM))[k] = lastV V[k] ts zeroF := Option.some.inj this
  rw [← this', e]
  exact lastV_ok _ _ _ (zeroR.2.2.mono (by omega))
end Go.Abs
namespace Go.Abs
open Go
open Classical
def cntR : List MRow → Nat
 | [] => 0
 | r :: R => (if r.2.2.1 = 0 then 0 else 1) + cntR R
theorem cntR_le : ∀ R : List MRow, cntR R ≤ R.length
 | [] => Nat.le_refl _
 | r :: R => by
  have := cntR_le R
  simp only [cntR, List.length_cons]; split <;> omega
def wideF (l : List Fr) (n : Nat) : List Fr := (l.map fun x => mulF x (sgF false)).take (Nat.min (l.map fun x => mulF x (sgF false)).length (List.replicate n zeroF).length) ++ (List.replicate n zeroF).drop (Nat.min (l.map fun x => mulF x (sgF false)).length (List.replicate n zeroF).length)
theorem wideF_len (l : List Fr) (n : Nat) : (wideF l n).length = n := by
 unfold wideF
 have h3 : Nat.min (l.map fun x => mulF x (sgF false)).length (List.replicate n zeroF).length ≤ n := Nat.le_trans (Nat.min_le_right _ _) (Nat.le_of_eq List.length_replicate)
 have h4 : Nat.min (l.map fun x => mulF x (sgF false)).length (List.replicate n zeroF).length ≤ l.length := Nat.le_trans (Nat.min_le_left _ _) (Nat.le_of_eq (List.length_map _))
 generalize Nat.min (l.map fun x => mulF x (sgF false)).length (List.replicate n zeroF).length = m at *
 rw [List.length_append, List.length_take, List.length_drop, List.length_replicate, List.length_map]
 omega
theorem wideF_ok {l : List Fr} {n k : Nat} (h : okL l k) (hk : k ≤ 1000) : ∀ x, x ∈ wideF l n → okX x (k + 3) := fun x hx => by
 rcases List.mem_append.1 hx with hx | hx
 ·obtain ⟨y, hy, rfl⟩ := List.mem_map.1 (List.mem_of_mem_take hx)
  exact (mulR (h y hy) (sgF_ok false) (by omega) (by omega)).2.2
 ·rw [List.eq_of_mem_replicate (List.mem_of_mem_drop hx)]
  exact zeroR.2.2.mono (by omega)
def rowF (r : MRow) (at_ n : Nat) : List Fr := if r.2.2.1 = 0 then wideF r.2.1 n else (wideF r.2.1 n).set at_ (sgF (decide (0 < r.2.2.1)))
def rowsF : List MRow → Nat → Nat → List (List Fr)
 | [], _,_ => []
 | r :: R, at_, n => rowF r at_ n :: rowsF R (if r.2.2.1 = 0 then at_ else at_ + 1) n
theorem rowF_len (r : MRow) (a n : Nat) : (rowF r a n).length = n := by
 unfold rowF; split
 ·exact wideF_len _ _
 ·rw [List.length_set]; exact wideF_len _ _
theorem rowF_ok {r : MRow} {a n k : Nat} (h : okL r.2.1 k) (hk : k ≤ 1000) : ∀ x, x ∈ rowF r a n → okX x (k + 3) := fun x hx => by
 unfold rowF at hx
 split at hx
 ·exact wideF_ok h hk x hx
 ·rcases List.mem_or_eq_of_mem_set hx with hx | rfl
  ·exact wideF_ok h hk x hx
  ·exact (sgF_ok _).mono (by omega)
theorem rowsF_len : ∀ (R : List MRow) (a n : Nat), (rowsF R a n).length = R.length
 | [], _,_ => rfl
 | r :: R, a, n => by simp only [rowsF, List.length_cons, rowsF_len R]
theorem rowsF_mem : ∀ {R : List MRow} {a n : Nat} {l : List Fr}, l ∈ rowsF R a n → ∃ r a', r ∈ R ∧ l = rowF r a' n
 | r :: R, a, n, l, h => by
  simp only [rowsF, List.mem_cons] at h
  rcases h with rfl | h
  ·exact ⟨r, a, by simp, rfl⟩
  ·obtain ⟨r', a', h1, h2⟩ := rowsF_mem h
   exact ⟨r', a', by simp [h1], h2⟩
theorem shape_Of_says {V : Ws} {C : List Fr} {R : List MRow} {k : Nat} (hm : MayM V C R) (hC : okL C k) (hR : okR R k) (hk1 : 1 ≤ k) (hk : k ≤ 1000) :
  ∃ A B C', shape_Of V C R (A, B, C', 0) ∧ Sml A B C' (k + 3) := by
 obtain ⟨m1, m2, m3, m4, m5, m6⟩ := id hm
 have hc := cntR_le R
 generalize hn : V.length + cntR R = n at *
 refine ⟨rowsF R V.length n, R.map fun r => lowX r.2.2.2, wideF C n, ?_, ?_, ?_, ?_, ?_⟩
 ·unfold shape_Of
  have hr := model_Right_says V C R
  rw [decide_eq_true hm] at hr
  refine ⟨true, hr, IfB_true.2 ?_⟩
  refine LoopP.intro (fun z : Int × Int => ∃ i a : Nat, z = ((i : Int), (a : Int)) ∧ i ≤ R.length ∧ a + cntR (R.drop i) = n) (fun z => R.length - z.1.toNat) ⟨0, V.length, rfl, by omega, by rw [List.drop_zero]; exact hn⟩ ?_
  rintro X z ⟨i, a, rfl, hi, ha⟩ hX
  unfold shape_Of_L1
  refine IfB.dc (fun hlt => ?_) (fun hge => ?_)
  ·have hi' : i < R.length := by omega
   rw [List.drop_eq_getElem_cons hi'] at ha
   simp only [cntR] at ha
   rw [wrap64' (by omega) (by omega), wrap64' (by omega) (by omega)]
   refine ⟨_,_,_,_,_,_,Idx.nat hi', IfB.neI (fun h0 => ?_) (fun h0 => ?_)⟩
   ·rw [if_neg (show ¬ R[i].2.2.1 = 0 from h0)] at ha
    exact hX _ ⟨i + 1, a + 1, rfl, by omega, by omega⟩ (by dsimp only; omega)
   ·rw [if_pos (show R[i].2.2.1 = 0 from h0)] at ha
    exact hX _ ⟨i + 1, a, rfl, by omega, by omega⟩ (by dsimp only; omega)
  ·have : i = R.length := by omega
   subst this
   rw [List.drop_length] at ha
   simp only [cntR, Nat.add_zero] at ha
   subst ha
   refine ⟨⟨by omega, fits_of (by omega) (by omega), fits_of (by omega) (by omega)⟩, ?_⟩
   have sc : ∀ l : List Fr, l.length ≤ 60 → okL l k → vec_Scale l (sgF false).1 (sgF false).2.1 (sgF false).2.2 (l.map fun x => mulF x (sgF false)) := fun l h1 h2 => Scale_says ⟨by omega, h2⟩ ((sgF_ok false).mono hk1) (by omega)
   refine zeroLoop (n := a) (E := fun s => ∃ (x23 : Bool) (x24 : List Int) (x25 : List Int), rat_Int (1 : Int) (x23, x24, x25) ∧ ∃ (x27 : List Fr), vec_Scale C x23 x24 x25 x27 ∧ LoopP (shape_Of_L3 R (a : Int) s x27 (rowsF R V.length a, R.map (fun r => lowX r.2.2.2), wideF C a, 0)) ((V.length : Int), (0 : Int), ([] : List (List Fr)), ([] : List Fr))) (by omega) ?_
   refine ⟨_,_,_,sg1 false, _,sc C (by omega) hC, ?_⟩
   clear hX
   refine LoopP.intro (fun z : Int × Int × List (List Fr) × List Fr => ∃ i p : Nat, ∃ A B, z = ((p : Int), (i : Int), A, B) ∧ i ≤ R.length ∧ p + cntR (R.drop i) = a ∧ A.length = i ∧ B.length = i ∧ A ++ rowsF (R.drop i) p a = rowsF R V.length a ∧ B ++ (R.drop i).map (fun r => lowX r.2.2.2) = R.map fun r => lowX r.2.2.2) (fun z => R.length - z.2.1.toNat) ⟨0, V.length, [], [], rfl, by omega, by rw [List.drop_zero]; exact hn, rfl, rfl, by simp, by simp⟩ ?_
   rintro X z ⟨i, p, A, B, rfl, hi, hp, lA, lB, eA, eB⟩ hX
   unfold shape_Of_L3
   refine IfB.dc (fun hlt => ?_) (fun hge => ?_)
   ·have hi' : i < R.length := by omega
    have hmem := List.getElem_mem hi'
    have hd := List.drop_eq_getElem_cons hi'
    rw [hd] at hp eA eB
    simp only [cntR, rowsF, List.map_cons] at hp eA eB
    have hrl := (m6 _ hmem).1
    have hrel := (m6 _ hmem).2
    obtain ⟨mk1, _,_⟩ := makeR (hR _ hmem).2 (by omega)
    rw [List.append_cons] at eA eB
    refine ⟨_,_,_,_,_,_,Idx.nat hi', ⟨by omega, fits_of (by omega) (by omega), fits_of (by omega) (by omega)⟩, ?_⟩
    refine zeroLoop (n := a) (E := fun s => ∃ (x48 : Bool) (x49 : List Int) (x50 : List Int), rat_Int (1 : Int) (x48, x49, x50) ∧
         ∃ (x52 : List Fq), vec_Scale R[i].2.1 x48 x49 x50 x52 ∧
         IfB (R[i].2.2.1 != (0 : Int))
         (∃ (x55 : Bool) (x56 : List Int) (x57 : List Int), rat_Int (IntKind.i64.wrap (0 - R[i].2.2.1)) (x55, x56, x57) ∧
         ∃ (x59 : Bool) (x60 : List Int) (x61 : List Int), Idx (x52.take (Nat.min x52.length s.length) ++ s.drop (Nat.min x52.length s.length)) (p : Int) (x59, x60, x61) ∧
         Fits (A.length + [((x52.take (Nat.min x52.length s.length) ++ s.drop (Nat.min x52.length s.length)).set (Int.toNat (p : Int)) (x55, x56, x57))].length) 24 ∧
         ∃ (x64 : Bool) (x65 : List Int) (x66 : List Int), rat_Make R[i].2.2.2.1 R[i].2.2.2.2.1 R[i].2.2.2.2.2 (x64, x65, x66) ∧
         Fits (B.length + [(x64, x65, x66)].length) 56 ∧
         X ((IntKind.i64.wrap ((p : Int) + 1)), (IntKind.i64.wrap ((i : Int) + 1)), (A ++ [((x52.take (Nat.min x52.length s.length) ++ s.drop (Nat.min x52.length s.length)).set (Int.toNat (p : Int)) (x55, x56, x57))]), (B ++ [(x64, x65, x66)])))
         (Fits (A.length + [(x52.take (Nat.min x52.length s.length) ++ s.drop (Nat.min x52.length s.length))].length) 24 ∧
         ∃ (x70 : Bool) (x71 : List Int) (x72 : List Int), rat_Make R[i].2.2.2.1 R[i].2.2.2.2.1 R[i].2.2.2.2.2 (x70, x71, x72) ∧
         Fits (B.length + [(x70, x71, x72)].length) 56 ∧
         X ((p : Int), (IntKind.i64.wrap ((i : Int) + 1)), (A ++ [(x52.take (Nat.min x52.length s.length) ++ s.drop (Nat.min x52.length s.length))]), (B ++ [(x70, x71, x72)])))) (by omega) ?_
    refine ⟨_,_,_,sg1 false, _,sc _ (by omega) (hR _ hmem).1, IfB.neI (fun h0 => ?_) (fun h0 => ?_)⟩
    ·replace h0 : ¬ R[i].2.2.1 = 0 := h0
     rw [if_neg h0] at hp eA
     have hpl : p < (wideF R[i].2.1 a).length := by rw [wideF_len]; omega
     have e1 : IntKind.i64.wrap (0 - R[i].2.2.1) = if (decide (0 < R[i].2.2.1)) then -1 else 1 := by
      rw [wrap64' (by omega) (by omega)]
      by_cases h : 0 < R[i].2.2.1
      ·rw [decide_eq_true h, if_pos rfl]; omega
      ·rw [decide_eq_false h, if_neg (by simp)]; omega
     have s1 := sg1 (decide (0 < R[i].2.2.1))
     rw [← e1] at s1
     refine ⟨_,_,_,s1, _,_,_,Idx.nat hpl, by unfold Fits; simp; omega, _,_,_,mk1, by unfold Fits; simp; omega, ?_⟩
     rw [wrap64' (by omega) (by omega), wrap64' (by omega) (by omega)]
     refine hX _ ⟨i + 1, p + 1, _,_,rfl, by omega, by omega, by simp [lA], by simp [lB], ?_, eB⟩ (by dsimp only; omega)
     rw [← eA]
     unfold rowF
     rw [if_neg h0]; rfl
    ·replace h0 : R[i].2.2.1 = 0 := h0
     rw [if_pos h0] at hp eA
     refine ⟨by unfold Fits; simp; omega, _,_,_,mk1, by unfold Fits; simp; omega, ?_⟩
     rw [wrap64' (by omega) (by omega)]
     refine hX _ ⟨i + 1, p, _,_,rfl, by omega, by omega, by simp [lA], by simp [lB], ?_, eB⟩ (by dsimp only; omega)
     rw [← eA]
     unfold rowF
     rw [if_pos h0]; rfl
   ·have : i = R.length := by omega
    subst this
    rw [List.drop_length] at eA eB
    simp only [rowsF, List.map_nil, List.append_nil] at eA eB
    rw [eA, eB]; rfl
 ·rw [rowsF_len]; omega
 ·intro l hl
  obtain ⟨r, a', h1, rfl⟩ := rowsF_mem hl
  exact ⟨by rw [rowF_len]; omega, rowF_ok (hR r h1).1 hk⟩
 ·refine ⟨by rw [List.length_map]; omega, fun x hx => ?_⟩
  obtain ⟨r, h1, rfl⟩ := List.mem_map.1 hx
  exact (makeR (hR r h1).2 (by omega)).2.2.mono (by omega)
 ·exact ⟨by rw [wideF_len]; omega, wideF_ok hC hk⟩
theorem model_total {s : By} (hl : s.length ≤ 1500) : ∃ V C R a e, model_Parse s (V, C, R, a, e) ∧ (e ≠ 0 ∨ e = 0 ∧ MayM V C R ∧ okL C 403 ∧ okR R 403) := by
 have hs : s.length ≤ 65536 := by omega
 by_cases hr : RightP s
 ·have h := model_Parse_says hs hr
  cases hm : saysM s with
  | inl p =>
   obtain ⟨a, e⟩ := p
   have he : e ≠ 0 := by
    unfold saysM at hm
    split at hm
    ·cases hm; decide
    ·exact foldM_err _ _ _ hm
   rw [hm] at h
   exact ⟨_,_,_,_,_,h, .inl he⟩
  | inr st =>
   rw [hm] at h
   have hne : allL s ≠ [] := fun e => by unfold saysM at hm; rw [if_pos e] at hm; cases hm
   have hf : foldM 0 ([], []) (allL s) = .inr st := by unfold saysM at hm; rwa [if_neg hne] at hm
   have hi := foldM_inv _ 0 ([], []) st InvS.zero hf
   rw [Nat.zero_add] at hi
   have hpos : 1 ≤ (allL s).length := Nat.pos_of_ne_zero fun e => hne (List.length_eq_zero_iff.1 e)
   obtain ⟨x0, xs, hst⟩ : ∃ x0 xs, st.2 = x0 :: xs := by
    cases h : st.2 with
    | nil => have := hi.len; rw [h] at this; simp at this; omega
    | cons x0 xs => exact ⟨x0, xs, rfl⟩
   have hm0 : x0 ∈ st.2 := by rw [hst]; simp
   have hcT : costT st = x0.2.1.map tmM := by unfold costT sumsM; rw [hst]; rfl
   have hdr : ∀ x, x ∈ st.2.drop 1 → x ∈ st.2 := fun x hx => List.mem_of_mem_drop hx
   refine ⟨_,_,_,_,_,h, .inr ⟨rfl, mayM_parsed hi hpos, ?_, fun r hr => ?_⟩⟩
   ·rw [hcT]; exact dense_ok hi.nd (hi.sub x0 hm0)
   ·obtain ⟨x, hx, rfl⟩ := List.mem_map.1 hr
    exact ⟨dense_ok hi.nd (hi.sub x (hdr x hx)), (numOf_okX _).mono (by omega)⟩
 ·exact ⟨_,_,_,_,_,model_Parse_wrong hs hr, .inl (by decide)⟩
theorem lnR21 : ∀ {ks : List Bz} {a : Int} {l : Ln} {o : List (List By)}, lnR ks a l = .inr o → ∀ x, x ∈ o → x.length ≤ 180
 | [], a, l, o, h, x, hx => by
  cases l <;> simp only [lnR] at h <;> cases h
  cases hx
 | k :: ks, a, [], o, h, x, hx => by simp only [lnR] at h; cases h
 | k :: ks, a, (a', ws) :: r, o, h, x, hx => by
  simp only [lnR] at h
  split at h
  ·rename_i hok
   split at h
   ·cases h
   ·rename_i l' hl'
    cases h
    rcases List.mem_cons.1 hx with rfl | hx
    ·have := hok.2.1
     rw [List.length_tail]; omega
    ·exact lnR21 hl' x hx
  ·cases h
theorem getD21 {o : List (List By)} (h : ∀ x, x ∈ o → x.length ≤ 180) (n : Nat) : okV ((o.getD n []).map numOf) 400 := by
 refine ⟨?_, fun x hx => ?_⟩
 ·rw [List.length_map, List.getD_eq_getElem?_getD]
  cases hn : o[n]? with
  | none => simp
  | some y => exact h y (List.mem_of_getElem? hn)
 ·obtain ⟨w, _,rfl⟩ := List.mem_map.1 hx
  exact numOf_okX w
theorem nil_ok : okV [] 400 := ⟨by simp, fun x hx => by cases hx⟩
theorem proof_total {s : By} (hl : s.length ≤ 1500) : ∃ v x y z a e, proof_Parse s (v, x, y, z, a, e) ∧ (e ≠ 0 ∨ e = 0 ∧ okV x 400 ∧ okV y 400 ∧ okV z 400) := by
 by_cases hr : RightP s
 ·have h := proof_Parse_says s (by omega) hr (allL_ok (by omega)).1
  by_cases hn : allL s = []
  ·rw [if_pos hn] at h
   exact ⟨_,_,_,_,_,_,h, .inl (by decide)⟩
  ·rw [if_neg hn] at h
   cases hs : says13 (allL s) with
   | inl e =>
    rw [hs] at h
    exact ⟨_,_,_,_,_,_,h, .inl (by decide)⟩
   | inr p =>
    obtain ⟨v, x, y, z⟩ := p
    rw [hs] at h
    refine ⟨_,_,_,_,_,_,h, .inr ⟨rfl, ?_⟩⟩
    cases ha : allL s with
    | nil => exact absurd ha hn
    | cons q r =>
     obtain ⟨a, w⟩ := q
     rw [ha, says13_cons] at hs
     split at hs
     ·cases hs
     ·split at hs
      ·cases hs
      ·rename_i o ho
       have hk := lnR21 ho
       have e := Sum.inr.inj hs
       split at e
       ·cases e; exact ⟨getD21 hk 0, getD21 hk 1, nil_ok⟩
       ·split at e
        ·cases e; exact ⟨nil_ok, getD21 hk 0, nil_ok⟩
        ·cases e; exact ⟨getD21 hk 0, nil_ok, getD21 hk 1⟩
 ·exact ⟨_,_,_,_,_,_,proof_Parse_wrong s (by omega) hr, .inl (by decide)⟩
theorem awk21 (A B : Prop) (h : A) : ∃ x : Bool, offcutlaw21_awake x ∧ IfB x A B := ⟨true, rfl, IfB_true.2 h⟩
theorem mayP_pos {v : Int} {x y z : List Q3} (h : mayP v x y z) : v ≥ 1 := by
 rcases h with ⟨h, _⟩ | ⟨h, _⟩ | ⟨h, _⟩ <;> omega
theorem law_done (s p q : By) : offcutlaw21_DriveOne s p q true := by
 unfold offcutlaw21_DriveOne
 refine IfB.dc (fun _ => awk21 _ _ rfl) (fun hs => IfB.dc (fun _ => awk21 _ _ rfl) (fun hp => IfB.dc (fun _ => awk21 _ _ rfl) (fun hq => ?_)))
 obtain ⟨V, C, R, a, e, hM, hme⟩ := model_total (s := s) (by omega)
 rcases hme with he | ⟨rfl, hmay, oC, oR⟩
 ·exact ⟨e, ⟨_,_,_,_,_,hM, IfB.neI (fun _ => rfl) (fun h => absurd h he)⟩, IfB.neI (fun _ => awk21 _ _ rfl) (fun h => absurd h he)⟩
 ·obtain ⟨A, B, C', hO, hS⟩ := shape_Of_says hmay oC oR (by omega) (by omega)
  have chk : ∀ t : By, t.length ≤ 1500 → ∃ v x y z b f, proof_Parse t (v, x, y, z, b, f) ∧ ∃ c, drive_Check s t c ∧ (c ≠ 0 ∨ c = 0 ∧ mayP v x y z ∧ HoldsQ A B C' v x y z) := fun t ht => by
   obtain ⟨v, x, y, z, b, f, hP, hpf⟩ := proof_total ht
   refine ⟨v, x, y, z, b, f, hP, ?_⟩
   rcases hpf with hf | ⟨rfl, ox, oy, oz⟩
   ·exact ⟨f, ⟨_,_,_,_,_,hM, IfB.neI (fun h => absurd rfl h) (fun _ => ⟨_,_,_,_,_,_,hP, IfB.neI (fun _ => rfl) (fun h => absurd h hf)⟩)⟩, .inl hf⟩
   ·have hK := Check_says (v := v) hS (ox.mono (by omega)) (oy.mono (by omega)) (oz.mono (by omega)) (by omega) (by omega)
    refine ⟨_,⟨_,_,_,_,_,hM, IfB.neI (fun h => absurd rfl h) (fun _ => ⟨_,_,_,_,_,_,hP, IfB.neI (fun h => absurd rfl h) (fun _ => ⟨_,_,_,_,hO, IfB.neI (fun h => absurd rfl h) (fun _ => ⟨_,hK, rfl⟩)⟩)⟩)⟩, ?_⟩
    split
    ·rename_i h1
     split
     ·rename_i h2; exact .inr ⟨rfl, h1.2, h2⟩
     ·exact .inl (by decide)
    ·exact .inl (by decide)
  obtain ⟨v, x, y, z, b, f, hP, c, hc, h1⟩ := chk p (by omega)
  obtain ⟨v', x', y', z', b', f', hP', c', hc', h2⟩ := chk q (by omega)
  rcases h1 with h1 | ⟨rfl, m1, h1⟩
  ·exact ⟨c, hc, IfB.neI (fun _ => awk21 _ _ rfl) (fun h => absurd h h1)⟩
  ·rcases h2 with h2 | ⟨rfl, m2, h2⟩
   ·exact ⟨0, hc, IfB.neI (fun h => absurd rfl h) (fun _ => ⟨c', hc', IfB.neI (fun _ => awk21 _ _ rfl) (fun h => absurd h h2)⟩)⟩
   ·exact ⟨0, hc, IfB.neI (fun h => absurd rfl h) (fun _ => ⟨0, hc', IfB.neI (fun h => absurd rfl h) (fun _ => ⟨_,_,_,_,_,_,hP, _,_,_,_,_,_,hP', IfB.eqI (fun _ => IfB.dc (fun _ => awk21 _ _ rfl) (fun h => absurd (mayP_pos m1) h)) (fun h => absurd (sameV m1 m2 h1 h2) h)⟩)⟩)⟩
end Go.Abs
