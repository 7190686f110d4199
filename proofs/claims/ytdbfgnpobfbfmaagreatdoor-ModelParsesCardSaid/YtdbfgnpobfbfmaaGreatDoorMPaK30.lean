/- Part of a proof, in few files: Abs31. -/
import Derived.Test.YtdbfgnpobfbfmaaGreatDoorMPaK29

section
namespace Go.Abs
open Go.RowKit
set_option linter.unusedVariables false
set_option linter.unusedSimpArgs false
variable {P : Program} {GT : Tabs} {ro : Option Nat} {Q : Exit → S → Prop}
theorem mpEntL_app : ∀ (l : List (List UInt8 × Int)) (p : List UInt8 × Int) (n : Nat), mpEntL n (l ++ [p]) = mpEntL n l ++ [{ key := strV p.1, val := .int .i64 p.2, born := n + l.length }]
  | [], p, n => rfl
  | q :: l, p, n => by
    rw [List.cons_append, mpEntL, mpEntL_app l p (n + 1), mpEntL, List.cons_append, List.length_cons, show n + 1 + l.length = n + (l.length + 1) from by omega]
theorem mpEnt_push (l : List (List UInt8 × Int)) (p : List UInt8 × Int) : (mpEnt l).push { key := strV p.1, val := .int .i64 p.2, born := l.length } = mpEnt (l ++ [p]) := by
  unfold mpEnt; rw [mpEntL_app]; simp
theorem run_ins {t k e : TypeId} {w : World} {r : Nat} {l : List (List UInt8 × Int)} {s : List UInt8} {v : Int} (ht : P.underlying t = some (.map k e)) (hk : P.underlying k = some .string) (hw : w.heap[r]? = some (.map (mpEnt l) l.length)) (hn : (l.find? fun p => p.1 == s) = none) :
    (Instr.mapUpdate t (.map (some r)) (strV s) (.int .i64 v)).run P w = .ok () { w with heap := w.heap.setIfInBounds r (.map (mpEnt (l ++ [(s, v)])) (l ++ [(s, v)]).length) } := by
  obtain ⟨j, hj⟩ := find_mp s l 0 0
  rw [hn] at hj
  have hf : (Instr.findKey k (strV s) (mpEnt l).toList).run P w = .ok none w := MapKept.run_findKey hk (by simpa [mpEnt] using hj)
  have hc : ∀ em, (Instr.checkKey em 10000 k (strV s)).run P w = .ok () w := fun em => MapKept.run_checkKey (n := 9999) hk (by simp [strV, MapKept.IsKey]) em
  simp [Instr.mapUpdate, run_underlying ht, MapKept.run_getObj_map hw, hc, hf, Result.andThen, MapKept.run_setObj_map _ hw, ← mpEnt_push]
def insOf (t : TypeId) (d : Tmp) : List Oper → Option (List (List UInt8 × Int))
  | [] => some []
  | o :: r =>
    match o.guard, o.dst, o.op with
    | none, none, .insert t' (.tmp d') (.const (.string s)) (.const (.int .i64 v)) => if t' = t ∧ d' = d then (insOf t d r).map ((s.data.toList, v) :: ·) else none
    | _, _, _ => none
theorem wanted_none {o : Oper} {T : Array Value} (h : o.guard = none) {ops : Array Oper} : Region.wanted o (yielded ops T) = true := by
  simp [Region.wanted, h]
theorem ins_run {F : Fence} {n : Nat} {ops : Array Oper} {QQ : Exit → Act → World → Prop} {t k e : TypeId} {d : Tmp} {r : Nat} (hF : ∀ f, F.fn f) (ht : P.underlying t = some (.map k e)) (hk : P.underlying k = some .string) (rest : List Oper) : ∀ (is : List Oper) (m l : List (List UInt8 × Int)) (a : Act) (w : World), insOf t d is = some m →
    a.eval (.tmp d) = .map (some r) → w.heap[r]? = some (.map (mpEnt l) l.length) → ((l ++ m).map (·.1)).Nodup →
    (∀ w' : World, w'.heap[r]? = some (.map (mpEnt (l ++ m)) (l ++ m).length) → (∀ b, b ≠ r → w'.heap[b]? = w.heap[b]?) → w'.heap.size = w.heap.size → w'.os = w.os → w'.tape = w.tape → w'.output = w.output → wpListIn F n P ops QQ rest a w') → wpListIn F n P ops QQ (is ++ rest) a w
  | [], m, l, a, w, hi, ha, hw, hnd, h => by
    simp only [insOf, Option.some.injEq] at hi
    subst hi
    rw [List.append_nil] at h
    exact h w hw (fun _ _ => rfl) rfl rfl rfl rfl
  | o :: is, m, l, a, w, hi, ha, hw, hnd, h => by
    unfold insOf at hi
    split at hi
    · rename_i t' d' s v hg hd ho
      split at hi
      · rename_i hc
        obtain ⟨rfl, rfl⟩ := hc
        rw [Option.map_eq_some_iff] at hi
        obtain ⟨m', hm, rfl⟩ := hi
        have hs : strV s.data.toList = .string s := by obtain ⟨x⟩ := s; simp [strV]
        have hfind : (l.find? fun p => p.1 == s.data.toList) = none := by
          rw [List.find?_eq_none]
          intro p hp hps
          have hps : p.1 = s.data.toList := by simpa using hps
          rw [List.map_append, List.nodup_append] at hnd
          exact hnd.2.2 p.1 (List.mem_map_of_mem hp) p.1 (by simp [hps]) rfl
        have hrun := run_ins (v := v) ht hk hw hfind
        rw [hs] at hrun
        have hlt : r < w.heap.size := (Array.getElem?_eq_some_iff.1 hw).1
        rw [List.cons_append]
        unfold wpListIn
        rw [wanted_none hg, if_pos rfl]
        have e1 : (o.semAt F.round a.eval).run P w = .ok .skip { w with heap := w.heap.setIfInBounds r (.map (mpEnt (l ++ [(s.data.toList, v)])) (l ++ [(s.data.toList, v)]).length) } := by
          rw [Oper.semAt_eq _ _ _ (by intro k e; rw [e] at ho; cases ho)]
          have ec : a.eval (.const (.string s)) = .string s := rfl
          have ec2 : a.eval (.const (.int .i64 v)) = .int .i64 v := rfl
          simp [execOp, ho, ha, ec, ec2, hrun]
        refine ⟨fun f _ => hF f, ?_⟩
        rw [e1]
        have ea : a.put o.dst undef = a := by rw [hd]; rfl
        have ih := ins_run (QQ := QQ) (n := n) (ops := ops) hF ht hk rest is m' (l ++ [(s.data.toList, v)]) a { w with heap := w.heap.setIfInBounds r (.map (mpEnt (l ++ [(s.data.toList, v)])) (l ++ [(s.data.toList, v)]).length) } hm ha (by simp [hlt]) (by simpa using hnd) (fun w' h1 h2 h3 h4 h5 h6 => by
          refine h w' (by simpa using h1) (fun b hb => ?_) (by rw [h3]; simp) h4 h5 h6
          rw [h2 b hb]
          simp [Ne.symm hb])
        simpa [Oper.uponIn, ea] using ih
      · cases hi
    · cases hi
theorem AL_mkmap {ops : Array Oper} {o : Oper} {is rest : List Oper} {t k e : TypeId} {d : Tmp} {m : List (List UInt8 × Int)} {s : S} (hg : o.guard = none) (hd : o.dst = some d) (ho : o.op = .makeMap t none) (hi : insOf t d is = some m) (ht : P.underlying t = some (.map k e)) (hk : P.underlying k = some .string) (hnd : (m.map (·.1)).Nodup)
    (hdT : d < s.T.length) (h : AL P GT ro ops rest ⟨aput s.T (some d) (.pd (.mp m)), s.M, s.D⟩ Q) : AL P GT ro ops (o :: (is ++ rest)) s Q := by
  intro B I0 c a w n hR hob
  unfold wpListIn
  rw [wanted_none hg, if_pos rfl]
  have e1 : (o.semAt (fen c ro).round a.eval).run P w = .ok (.value (.map (some w.heap.size))) (w.alloc (.map #[] 0)) := by
    rw [Oper.semAt_eq _ _ _ (by intro k e; rw [e] at ho; cases ho)]
    simp [execOp, ho, Instr.makeMap, Result.andThen]
  refine ⟨fun f _ => fen_fn _ _ _, ?_⟩
  rw [e1]
  simp only [Oper.uponIn]
  rw [hd]
  show wpListIn (fen c ro) n P ops _ (is ++ rest) (a.put (some d) (.map (some w.heap.size))) (w.alloc (.map #[] 0))
  have hsz := hR.tmps.1
  have ha : (a.put (some d) (.map (some w.heap.size))).eval (.tmp d) = .map (some w.heap.size) := by
    have : d < a.tmps.size := Nat.lt_of_lt_of_le hdT hsz
    simp [Act.put, Act.eval, this]
  refine ins_run (l := []) (fun f => fen_fn _ _ _) ht hk rest is m (a.put (some d) (.map (some w.heap.size))) _ hi ha (by exact World.alloc_heap_new _ _) (by simpa using hnd) ?_
  intro w' h1 h2 h3 h4 h5 h6
  have hal : (w.alloc (.map #[] 0)).heap.size = w.heap.size + 1 := by show (w.heap.push _).size = _; simp
  have hbel : Below w.heap.size w w' := ⟨h4, h5, h6, by omega, fun b hb => by
    rw [h2 b (by omega)]
    show (w.heap.push _)[b]? = _
    rw [Array.getElem?_push, if_neg (by omega)]⟩
  have hG := hR.sim.grown hbel
  have he : Ext c s.M (c.grown w w') s.M := Ext.grown _ _ _
  have hs := Stp.grown hR.sim.hB hR.sim.immlt hbel
  have hv : ARep (c.grown w w') s.M w' (.map (some w.heap.size)) (.pd (.mp m)) := .pd _ _ (.mp _ _ (.inr ⟨Nat.le_refl _, by omega⟩) (by simpa using h1))
  have hR' := hR.step hG he hs (some d) hv
  have := h B I0 (c.grown w w') _ w' n hR' (fun l hl => he.obj l (hob l hl))
  rw [fen_ext he hob] at this
  exact wpListIn_mono2 (fun e a u h => Aft.from he hs h) _ _ _ this
end Go.Abs
end
