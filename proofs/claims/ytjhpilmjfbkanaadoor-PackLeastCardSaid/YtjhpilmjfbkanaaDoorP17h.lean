/- Chapter 17: the law PackPacks, walked. -/
import Derived.Test.YtjhpilmjfbkanaaDoorP17g
namespace Go.Abs
set_option linter.unusedVariables false
set_option linter.unusedSimpArgs false
open Go.Proofs
set_option maxRecDepth 100000

theorem awake_runs : saysTrue Tryd.prog gt17 (fun _ _ _ => none) (fun _ => false) 400 7 [] = true := by kernel_rfl
theorem awake7 : ASpec Tryd.prog gt17 7 [] (· = .pd (.bool true)) := saysTrue_ok mixed17 names17 (fun _ _ _ _ h => by cases h) awake_runs

def okOne (roll : Int) (ws : List Int) (s : Int) : Bool := decide (0 < s) && fitsB roll ws s
def cnt (sets : List Int) (k : Nat) : Nat := (sets.filter fun s => inSet s k).length
def isB (roll : Int) (ws sets : List Int) : Bool := mayB roll ws && sets.all (okOne roll ws) && (List.range ws.length).all fun k => cnt sets k == 1

theorem cnt_take {sets : List Int} {i : Nat} (h : i < sets.length) (k : Nat) : cnt (sets.take (i + 1)) k = cnt (sets.take i) k + if inSet sets[i] k then 1 else 0 := by
  simp only [cnt, List.take_succ_eq_append_getElem h, List.filter_append, List.length_append]
  cases hb : inSet sets[i] k <;> simp [hb]

theorem cnt_le (sets : List Int) (k : Nat) : cnt sets k ≤ sets.length := List.length_filter_le _ _

theorem packs4 (roll : Int) (ws sets : List Int) (hr : In64 roll) (hs : ∀ s, s ∈ sets → In64 s) (law : ws.length ≤ 20 → sets.length ≤ 20 → packsB roll ws sets = isB roll ws sets) : ASpec Tryd.prog gt17 4 [.pd (i64 roll), .pd (ints ws), .pd (ints sets)] (· = .pd (.bool true)) := by
  refine ASpec_tree Tryd.f4 mixed17 askIdx (by kernel_rfl) ?_
  refine H_split (decide ((20 : Int) < ((ws.map i64).length : Nat))) (by kernel_rfl) (fun h => ?_) (fun h => ?_)
  · refine H_val (.pd (.bool true)) (g := 7) (args := []) (M := []) (.inl (by kernel_rfl)) awake7 (by simp) (has17 7 (by kernel_rfl)) ?_
    exact H_end .ret (.pd (.bool true)) (by kernel_rfl) rfl (by kernel_rfl) rfl
  refine H_split (decide ((20 : Int) < ((sets.map i64).length : Nat))) (by kernel_rfl) (fun h2 => ?_) (fun h2 => ?_)
  · refine H_val (.pd (.bool true)) (g := 7) (args := []) (M := []) (.inl (by kernel_rfl)) awake7 (by simp) (has17 7 (by kernel_rfl)) ?_
    exact H_end .ret (.pd (.bool true)) (by kernel_rfl) rfl (by kernel_rfl) rfl
  have hn : ws.length ≤ 20 := by simp at h; omega
  have hm : sets.length ≤ 20 := by simp at h2; omega
  have law := law hn hm
  refine H_val (.pd (.bool (mayB roll ws))) (g := 10) (args := [.pd (i64 roll), .pd (ints ws)]) (M := []) (.inl (by kernel_rfl)) (may10 gt17 roll ws) pure_args2 (has17 10 (by kernel_rfl)) ?_
  refine H_loop2 79 (fun i : Nat => [(0, .pd (i64 roll)), (1, .pd (ints ws)), (2, .pd (ints sets)), (7, .pd (.bool (mayB roll ws && (sets.take i).all (okOne roll ws)))), (26, .pd (ints sets)), (27, .pd (i64 (sets.map i64).length)), (28, .pd (i64 i))]) (fun _ => []) [] (fun i => i ≤ sets.length) (fun i => sets.length - i) 0 mixed17 askIdx
    (by kernel_rfl) (by kernel_rfl) ?_ (by kernel_rfl) (by kernel_rfl) (by simp) ?_
  · rw [List.take_zero, List.all_nil, Bool.and_true]; kernel_rfl
  intro i hi
  generalize hb : (mayB roll ws && (sets.take i).all (okOne roll ws)) = b
  refine H_split (decide ((i : Int) < ((sets.map i64).length : Nat))) (by kernel_rfl) (fun h3 => ?_) (fun h3 => ?_)
  · have hlt : i < sets.length := by simpa using h3
    have step : (mayB roll ws && (sets.take (i + 1)).all (okOne roll ws)) = (b && okOne roll ws sets[i]) := by
      rw [List.take_succ_eq_append_getElem hlt, List.all_append, ← Bool.and_assoc, hb]; simp
    have wi : IntKind.i64.wrap ((i : Int) + 1) = ((i + 1 : Nat) : Int) := by rw [wrap64 (by constructor <;> omega)]; rfl
    refine H_ask (.rd [i64 sets[i]]) [] (t := (aIndexAddr Tryd.prog [] 22 (.pd (ints sets)) (.pd (i64 i))).map (·, [])) (by kernel_rfl) (ask_ints hlt 3 (by kernel_rfl) (by kernel_rfl)) ?_
    cases b with
    | false =>
      refine H_again (i + 1) [.pd (i64 roll), .pd (ints ws), .pd (ints sets), .pd (.bool false), .pd (ints sets), .pd (i64 (sets.map i64).length), .pd (i64 (IntKind.i64.wrap ((i : Int) + 1)))] (by kernel_rfl) (by kernel_rfl) (by kernel_rfl) (by kernel_rfl) (by kernel_rfl) hlt (by omega) ?_
      simp only [List.map_cons, List.map_nil, step, wi, Bool.false_and]
    | true =>
      refine H_split (decide (sets[i] > 0)) (by kernel_rfl) (fun h4 => ?_) (fun h4 => ?_)
      · refine H_val (.pd (.bool (fitsB roll ws sets[i]))) (g := 14) (args := [.pd (i64 roll), .pd (ints ws), .pd (i64 sets[i])]) (M := []) (.inl (by kernel_rfl)) (fits14 gt17 roll ws sets[i] (hs _ (List.getElem_mem hlt)) (by omega)) pure_args3 (has17 14 (by kernel_rfl)) ?_
        refine H_again (i + 1) [.pd (i64 roll), .pd (ints ws), .pd (ints sets), .pd (.bool (fitsB roll ws sets[i])), .pd (ints sets), .pd (i64 (sets.map i64).length), .pd (i64 (IntKind.i64.wrap ((i : Int) + 1)))] (by kernel_rfl) (by kernel_rfl) (by kernel_rfl) (by kernel_rfl) (by kernel_rfl) hlt (by omega) ?_
        have : okOne roll ws sets[i] = fitsB roll ws sets[i] := by simp only [gt_iff_lt] at h4; simp only [okOne, h4, Bool.true_and]
        simp only [List.map_cons, List.map_nil, step, wi, Bool.true_and, this]
      · refine H_again (i + 1) [.pd (i64 roll), .pd (ints ws), .pd (ints sets), .pd (.bool false), .pd (ints sets), .pd (i64 (sets.map i64).length), .pd (i64 (IntKind.i64.wrap ((i : Int) + 1)))] (by kernel_rfl) (by kernel_rfl) (by kernel_rfl) (by kernel_rfl) (by kernel_rfl) hlt (by omega) ?_
        have : okOne roll ws sets[i] = false := by simp only [gt_iff_lt] at h4; simp only [okOne, h4, Bool.false_and]
        simp only [List.map_cons, List.map_nil, step, wi, Bool.true_and, this]
  · have hk' : i = sets.length := by simp at h3; omega
    subst hk'
    rw [List.take_length] at hb
    refine H_leave (.exit 0) (by kernel_rfl) rfl ?_
    refine H_loop2 79 (fun k : Nat => [(0, .pd (i64 roll)), (1, .pd (ints ws)), (2, .pd (ints sets)), (7, .pd (.bool (b && (List.range k).all fun k => cnt sets k == 1))), (45, .pd (i64 (ws.map i64).length)), (46, .pd (i64 k))]) (fun _ => []) [] (fun k => k ≤ ws.length) (fun k => ws.length - k) 0 mixed17 askIdx
      (by kernel_rfl) (by kernel_rfl) ?_ (by kernel_rfl) (by kernel_rfl) (by simp) ?_
    · rw [List.range_zero, List.all_nil, Bool.and_true]; kernel_rfl
    intro k hk
    generalize hc : (b && (List.range k).all fun k => cnt sets k == 1) = c
    refine H_split (decide ((k : Int) < ((ws.map i64).length : Nat))) (by kernel_rfl) (fun h4 => ?_) (fun h4 => ?_)
    · have hlt : k < ws.length := by simpa using h4
      have step : (b && (List.range (k + 1)).all fun k => cnt sets k == 1) = (c && (cnt sets k == 1)) := by
        rw [List.range_succ, List.all_append, ← Bool.and_assoc, hc]; simp
      have wk : IntKind.i64.wrap ((k : Int) + 1) = ((k + 1 : Nat) : Int) := by rw [wrap64 (by constructor <;> omega)]; rfl
      refine H_loop2 79 (fun i : Nat => [(0, .pd (i64 roll)), (1, .pd (ints ws)), (2, .pd (ints sets)), (7, .pd (.bool c)), (10, .pd (i64 k)), (11, .pd (i64 (if c then (cnt (sets.take i) k : Int) else 0))), (45, .pd (i64 (ws.map i64).length)), (46, .pd (i64 k)), (49, .pd (ints sets)), (50, .pd (i64 (sets.map i64).length)), (51, .pd (i64 i))]) (fun _ => []) [] (fun i => i ≤ sets.length) (fun i => sets.length - i) 0 mixed17 askIdx
        (by kernel_rfl) (by kernel_rfl) ?_ (by kernel_rfl) (by kernel_rfl) (by simp) ?_
      · cases c
        · kernel_rfl
        · kernel_rfl
      intro i hi
      have hcl := cnt_le (sets.take i) k
      have hcl2 : (sets.take i).length ≤ 20 := by simp; omega
      have hcl3 := cnt_le sets k
      refine H_split (decide ((i : Int) < ((sets.map i64).length : Nat))) (by kernel_rfl) (fun h5 => ?_) (fun h5 => ?_)
      · have hlt2 : i < sets.length := by simpa using h5
        have wi : IntKind.i64.wrap ((i : Int) + 1) = ((i + 1 : Nat) : Int) := by rw [wrap64 (by constructor <;> omega)]; rfl
        refine H_ask (.rd [i64 sets[i]]) [] (t := (aIndexAddr Tryd.prog [] 22 (.pd (ints sets)) (.pd (i64 i))).map (·, [])) (by kernel_rfl) (ask_ints hlt2 3 (by kernel_rfl) (by kernel_rfl)) ?_
        cases c with
        | false =>
          refine H_again (i + 1) [.pd (i64 roll), .pd (ints ws), .pd (ints sets), .pd (.bool false), .pd (i64 k), .pd (i64 0), .pd (i64 (ws.map i64).length), .pd (i64 k), .pd (ints sets), .pd (i64 (sets.map i64).length), .pd (i64 (IntKind.i64.wrap ((i : Int) + 1)))] (by kernel_rfl) (by kernel_rfl) (by kernel_rfl) (by kernel_rfl) (by kernel_rfl) hlt2 (by omega) ?_
          rw [wi]; rfl
        | true =>
          refine H_valB (inSet sets[i] k) (g := 15) (args := [.pd (i64 sets[i]), .pd (i64 k)]) (M := []) (.inl (by kernel_rfl)) (in15 gt17 sets[i] k (hs _ (List.getElem_mem hlt2)) (by omega)) pure_args2 (has17 15 (by kernel_rfl)) (fun h6 => ?_) (fun h6 => ?_)
          · refine H_again (i + 1) [.pd (i64 roll), .pd (ints ws), .pd (ints sets), .pd (.bool true), .pd (i64 k), .pd (i64 (IntKind.i64.wrap ((cnt (sets.take i) k : Int) + 1))), .pd (i64 (ws.map i64).length), .pd (i64 k), .pd (ints sets), .pd (i64 (sets.map i64).length), .pd (i64 (IntKind.i64.wrap ((i : Int) + 1)))] (by kernel_rfl) (by kernel_rfl) (by kernel_rfl) (by kernel_rfl) (by kernel_rfl) hlt2 (by omega) ?_
            rw [wi, wrap64 (by constructor <;> omega)]
            simp [cnt_take hlt2, h6]
          · refine H_again (i + 1) [.pd (i64 roll), .pd (ints ws), .pd (ints sets), .pd (.bool true), .pd (i64 k), .pd (i64 (cnt (sets.take i) k : Int)), .pd (i64 (ws.map i64).length), .pd (i64 k), .pd (ints sets), .pd (i64 (sets.map i64).length), .pd (i64 (IntKind.i64.wrap ((i : Int) + 1)))] (by kernel_rfl) (by kernel_rfl) (by kernel_rfl) (by kernel_rfl) (by kernel_rfl) hlt2 (by omega) ?_
            rw [wi]
            simp [cnt_take hlt2, h6]
      · have hk' : i = sets.length := by simp at h5; omega
        subst hk'
        refine H_leave (.exit 4) (by kernel_rfl) rfl ?_
        cases c with
        | false =>
          refine H_again (k + 1) [.pd (i64 roll), .pd (ints ws), .pd (ints sets), .pd (.bool false), .pd (i64 (ws.map i64).length), .pd (i64 (IntKind.i64.wrap ((k : Int) + 1)))] (by kernel_rfl) (by kernel_rfl) (by kernel_rfl) (by kernel_rfl) (by kernel_rfl) hlt (by omega) ?_
          simp only [List.map_cons, List.map_nil, step, wk, Bool.false_and]
        | true =>
          refine H_split (((cnt (sets.take sets.length) k : Nat) : Int) == 1) (by kernel_rfl) (fun h6 => ?_) (fun h6 => ?_)
          · refine H_again (k + 1) [.pd (i64 roll), .pd (ints ws), .pd (ints sets), .pd (.bool true), .pd (i64 (ws.map i64).length), .pd (i64 (IntKind.i64.wrap ((k : Int) + 1)))] (by kernel_rfl) (by kernel_rfl) (by kernel_rfl) (by kernel_rfl) (by kernel_rfl) hlt (by omega) ?_
            have : (cnt sets k == 1) = true := by rw [List.take_length] at h6; simp at h6; simp; omega
            simp only [List.map_cons, List.map_nil, step, wk, this, Bool.true_and]
          · refine H_again (k + 1) [.pd (i64 roll), .pd (ints ws), .pd (ints sets), .pd (.bool false), .pd (i64 (ws.map i64).length), .pd (i64 (IntKind.i64.wrap ((k : Int) + 1)))] (by kernel_rfl) (by kernel_rfl) (by kernel_rfl) (by kernel_rfl) (by kernel_rfl) hlt (by omega) ?_
            have : (cnt sets k == 1) = false := by rw [List.take_length] at h6; simp at h6; simp; omega
            simp only [List.map_cons, List.map_nil, step, wk, this, Bool.true_and]
    · have hk' : k = ws.length := by simp at h4; omega
      subst hk'
      have hfin : packsB roll ws sets = c := by rw [law, isB, hb, hc]
      refine H_leave (.exit 2) (by kernel_rfl) rfl ?_
      refine H_val (.pd (.bool c)) (g := 13) (args := [.pd (i64 roll), .pd (ints ws), .pd (ints sets)]) (M := []) (.inl (by kernel_rfl)) (hfin ▸ packs13 roll ws sets hs (by omega)) pure_args3 (has17 13 (by kernel_rfl)) ?_
      refine H_split (c == c) (by kernel_rfl) (fun h5 => ?_) (fun h5 => by simp at h5)
      refine H_val (.pd (.bool true)) (g := 7) (args := []) (M := []) (.inl (by kernel_rfl)) awake7 (by simp) (has17 7 (by kernel_rfl)) ?_
      exact H_end .ret (.pd (.bool true)) (by kernel_rfl) rfl (by kernel_rfl) rfl

end Go.Abs
