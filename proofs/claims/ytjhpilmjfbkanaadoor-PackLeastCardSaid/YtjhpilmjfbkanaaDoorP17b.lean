/- Chapter 17: the package's own functions that go through slices with a function. -/
import Derived.Test.YtjhpilmjfbkanaaDoorP17a
namespace Go.Abs
open Go.Proofs
set_option maxRecDepth 20000

/-- As askIdx, and loads, lengths too. -/
def askMem : Op → Bool
  | .load .. => true
  | .call { callee := .builtin b, .. } => match b with | .append | .copy | .len => true | _ => false
  | o => askIdx o

/-- A value that is a slice of these whole numbers. -/
structure SL (M : Mem) (x : AV) (l : List Int) : Prop where
  len : (aLen Tryd.prog M 22 x).map (·, M) = some (.pd (i64 l.length), M)
  at_ : ∀ i (h : i < l.length), ∃ a, (aIndexAddr Tryd.prog M 22 x (.pd (i64 i))).map (·, M) = some (a, M) ∧ (aLoad Tryd.prog M 3 a).map (·, M) = some (.pd (i64 l[i]), M)

theorem SL.ints (M : Mem) (l : List Int) : SL M (.pd (ints l)) l := by
  refine ⟨?_, fun i h => ⟨.rd [i64 l[i]], ask_ints h 3 (by kernel_rfl) (by kernel_rfl), by kernel_rfl⟩⟩
  have : (aLen Tryd.prog M 22 (.pd (Abs.ints l))).map (·, M) = some (.pd (i64 (l.map i64).length), M) := by kernel_rfl
  rw [this, List.length_map]

def findI (p : Int → Bool) (l : List Int) : Int := match l.findIdx? p with | some i => (i : Int) | none => -1

theorem index21 (GT : Tabs) (g : FuncId) (caps : List AV) (M : Mem) (p : Int → Bool) (x : AV) (l : List Int) (hx : SL M x l) (hl : l.length < 1000000) (he : Enters Tryd.prog g)
    (hc : ∀ y, y ∈ l → ACall Tryd.prog GT g (.pd (i64 y) :: caps) M fun r M' => r = .pd (.bool (p y)) ∧ M' = M) :
    ACall Tryd.prog GT 21 [x, .fn (.func g) [] caps] M fun r M' => r = .pd (i64 (findI p l)) ∧ M' = M := by
  refine ACall_tree Tryd.f21 mixed17 askMem (by kernel_rfl) ?_
  refine H_ask (.pd (i64 l.length)) M (t := (aLen Tryd.prog M 22 x).map (·, M)) (by kernel_rfl) hx.len ?_
  refine H_loop2 19 (fun i : Nat => [(0, x), (1, .fn (.func g) [] caps), (7, .pd (i64 l.length)), (8, .pd (i64 i))]) (fun _ => M) [] (fun i => i ≤ l.length ∧ (l.take i).findIdx? p = none) (fun i => l.length - i) 0 mixed17 askMem
    (by kernel_rfl) (by kernel_rfl) (by kernel_rfl) (by kernel_rfl) (by kernel_rfl) (by simp) ?_
  rintro i ⟨hi, hno⟩
  refine H_split (decide ((i : Int) < (l.length : Nat))) (by kernel_rfl) (fun h => ?_) (fun h => ?_)
  · have hlt : i < l.length := by simpa using h
    obtain ⟨a, h1, h2⟩ := hx.at_ i hlt
    refine H_ask a M (t := (aIndexAddr Tryd.prog M 22 x (.pd (i64 i))).map (·, M)) (by kernel_rfl) h1 ?_
    refine H_ask (.pd (i64 l[i])) M (t := (aLoad Tryd.prog M 3 a).map (·, M)) (by kernel_rfl) h2 ?_
    have step : (l.take (i + 1)).findIdx? p = if p l[i] then some i else none := by
      rw [List.take_succ_eq_append_getElem hlt, List.findIdx?_append, hno]
      simp [List.findIdx?_cons]
      split <;> simp [Nat.min_eq_left hi]
    refine H_callVB (p l[i]) (g := g) (args := .pd (i64 l[i]) :: caps) (M := M) (.inl (by kernel_rfl)) (hc _ (List.getElem_mem hlt)) he (fun h3 => ?_) (fun h3 => ?_)
    · refine H_leave .ret (by kernel_rfl) rfl (H_endM .ret (.pd (i64 i)) M (by kernel_rfl) rfl (by kernel_rfl) (by kernel_rfl) (by kernel_rfl) ⟨?_, rfl⟩)
      have : l.findIdx? p = some i := by
        rw [← List.take_append_drop (i + 1) l, List.findIdx?_append, step, if_pos h3]; rfl
      simp [findI, this]
    · refine H_again (i + 1) [x, .fn (.func g) [] caps, .pd (i64 l.length), .pd (i64 (IntKind.i64.wrap ((i : Int) + 1)))] (by kernel_rfl) (by kernel_rfl) (by kernel_rfl) (by kernel_rfl) (by kernel_rfl) ⟨hlt, by rw [step, h3]; rfl⟩ (by omega) ?_
      rw [wrap64 (by constructor <;> omega)]; rfl
  · have hk' : i = l.length := by simp at h; omega
    subst hk'
    refine H_leave (.exit 0) (by kernel_rfl) rfl (H_endM .ret (.pd (i64 (-1))) M (by kernel_rfl) rfl (by kernel_rfl) (by kernel_rfl) (by kernel_rfl) ⟨?_, rfl⟩)
    rw [List.take_length] at hno
    simp [findI, hno]

theorem contains23 (GT : Tabs) (g : FuncId) (caps : List AV) (M : Mem) (p : Int → Bool) (x : AV) (l : List Int) (hx : SL M x l) (hl : l.length < 1000000) (he : Enters Tryd.prog g)
    (hc : ∀ y, y ∈ l → ACall Tryd.prog GT g (.pd (i64 y) :: caps) M fun r M' => r = .pd (.bool (p y)) ∧ M' = M) :
    ACall Tryd.prog GT 23 [x, .fn (.func g) [] caps] M fun r M' => r = .pd (.bool (l.any p)) ∧ M' = M := by
  refine ACall_tree Tryd.f23 mixed17 askMem (by kernel_rfl) ?_
  refine H_callV (.pd (i64 (findI p l))) (g := 21) (args := [x, .fn (.func g) [] caps]) (M := M) (.inl (by kernel_rfl)) (index21 GT g caps M p x l hx hl he hc) (has17 21 (by kernel_rfl)) ?_
  have key : decide (0 ≤ findI p l) = l.any p := by
    unfold findI
    cases h : l.findIdx? p with
    | none =>
      have : l.any p = false := by
        rw [List.findIdx?_eq_none_iff] at h
        rw [List.any_eq_false]; intro y hy; simp [h y hy]
      rw [this]; rfl
    | some i =>
      have : l.any p = true := by
        rw [List.findIdx?_eq_some_iff_getElem] at h
        obtain ⟨h1, h2, _⟩ := h
        exact List.any_eq_true.2 ⟨l[i], List.getElem_mem h1, h2⟩
      rw [this]; simp
  refine H_split (decide (0 ≤ findI p l)) (by kernel_rfl) (fun h => ?_) (fun h => ?_)
  · exact H_endM .ret (.pd (.bool true)) M (by kernel_rfl) rfl (by kernel_rfl) (by kernel_rfl) (by kernel_rfl) ⟨by rw [← key, h], rfl⟩
  · exact H_endM .ret (.pd (.bool false)) M (by kernel_rfl) rfl (by kernel_rfl) (by kernel_rfl) (by kernel_rfl) ⟨by rw [← key, h], rfl⟩

/-! ### pack.May -/
theorem bad22 (GT : Tabs) (roll w : Int) : ACall Tryd.prog GT 22 [.pd (i64 w), .ptr 0 0 0] [.cells [.pd (i64 roll)] 1 0 false] fun r M' => r = .pd (.bool (!okW roll w)) ∧ M' = [.cells [.pd (i64 roll)] 1 0 false] := by
  refine ACall_tree Tryd.f22 mixed17 askIdx (by kernel_rfl) ?_
  refine H_split (decide (w < 1)) (by kernel_rfl) (fun h => ?_) (fun h => ?_)
  · exact H_endM .ret (.pd (.bool true)) [.cells [.pd (i64 roll)] 1 0 false] (by kernel_rfl) rfl (by kernel_rfl) (by kernel_rfl) (by kernel_rfl) ⟨by simp at h; simp [okW]; omega, rfl⟩
  refine H_split (decide (roll < w)) (by kernel_rfl) (fun h2 => ?_) (fun h2 => ?_)
  · exact H_endM .ret (.pd (.bool true)) [.cells [.pd (i64 roll)] 1 0 false] (by kernel_rfl) rfl (by kernel_rfl) (by kernel_rfl) (by kernel_rfl) ⟨by simp at h h2; simp [okW]; omega, rfl⟩
  · exact H_endM .ret (.pd (.bool false)) [.cells [.pd (i64 roll)] 1 0 false] (by kernel_rfl) rfl (by kernel_rfl) (by kernel_rfl) (by kernel_rfl) ⟨by simp at h h2; simp [okW]; omega, rfl⟩

theorem may9 (GT : Tabs) (roll : Int) (ws : List Int) : ASpec Tryd.prog GT 9 [.pd (i64 roll), .pd (ints ws)] (· = .pd (.bool (mayB roll ws))) := by
  refine ASpec_tree Tryd.f9 mixed17 askIdx (by kernel_rfl) ?_
  refine H_split (decide (1 ≤ roll)) (by kernel_rfl) (fun h => ?_) (fun h => ?_)
  · refine H_split (decide (roll ≤ 1048576)) (by kernel_rfl) (fun h2 => ?_) (fun h2 => ?_)
    · refine H_split (decide (((ws.map i64).length : Nat) ≤ (12 : Int))) (by kernel_rfl) (fun h3 => ?_) (fun h3 => ?_)
      · simp at h h2 h3
        refine H_callVB (ws.any fun w => !okW roll w) (g := 23) (args := [.pd (ints ws), .fn (.func 22) [] [.ptr 0 0 0]]) (M := [.cells [.pd (i64 roll)] 1 0 false]) (.inl (by kernel_rfl))
          (contains23 GT 22 [.ptr 0 0 0] _ _ _ ws (SL.ints _ ws) (by omega) (has17 22 (by kernel_rfl)) fun y _ => bad22 GT roll y) (has17 23 (by kernel_rfl)) (fun h4 => ?_) (fun h4 => ?_)
        · refine H_end .ret (.pd (.bool false)) (by kernel_rfl) rfl (by kernel_rfl) ?_
          have : ws.all (okW roll) = false := by
            rw [List.any_eq_true] at h4
            obtain ⟨y, h5, h6⟩ := h4
            rw [List.all_eq_false]; exact ⟨y, h5, by simpa using h6⟩
          simp [mayB, this]
        · refine H_end .ret (.pd (.bool true)) (by kernel_rfl) rfl (by kernel_rfl) ?_
          have : ws.all (okW roll) = true := by
            rw [List.any_eq_false] at h4
            rw [List.all_eq_true]; intro y hy; simpa using h4 y hy
          have : mayB roll ws = true := by simp only [mayB, this]; simp; omega
          rw [this]
      · exact H_end .ret (.pd (.bool false)) (by kernel_rfl) rfl (by kernel_rfl) (by simp [mayB] at *; omega)
    · exact H_end .ret (.pd (.bool false)) (by kernel_rfl) rfl (by kernel_rfl) (by simp [mayB] at *; omega)
  · exact H_end .ret (.pd (.bool false)) (by kernel_rfl) rfl (by kernel_rfl) (by simp [mayB] at *; omega)

end Go.Abs
