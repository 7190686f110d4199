/- Chapter 17: the items of a set, one by one. -/
import Derived.Test.YtjhpilmjfbkanaaDoorP17b
namespace Go.Abs
open Go.Proofs
set_option maxRecDepth 20000

def gt17 : Tabs := fun g => match g with | 0 => some (n32.map (PD.int .u8)) | 1 => some (n64.map (PD.int .u8)) | _ => none

def askTab : Op → Bool
  | .indexAddr .. | .load .. => true
  | _ => false

theorem tab_at {L : List Int} {k : Nat} (h : k < L.length) : ((((L.map (PD.int .u8)).drop (k * 1))[0]?).map AV.pd).map (·, ([] : Mem)) = some (.pd (.int .u8 (L.getD k 0)), []) := by
  rw [List.getElem?_drop]
  simp [h, List.getD_eq_getElem?_getD]

theorem tz34 (x : Int) (h0 : 0 < x) (h1 : x < 4096) : ASpec Tryd.prog gt17 34 [.pd (.int .u64 x)] (· = .pd (i64 (tzE x))) := by
  obtain ⟨a, b, _⟩ := chk_at (Int.le_of_lt h0) h1
  have hk : (idxE x).toNat < 64 := by omega
  refine ASpec_tree Tryd.f34 mixed17 askTab (by kernel_rfl) ?_
  refine H_split (x == 0) (by kernel_rfl) (fun h => by simp at h; omega) (fun _ => ?_)
  refine H_ask (.rd ((n64.map (PD.int .u8)).drop ((idxE x).toNat * 1))) [] (t := (aIndexAddr Tryd.prog [] 51 (.rd (n64.map (PD.int .u8))) (.pd (.int .u64 (idxE x)))).map (·, [])) (by kernel_rfl) ?_ ?_
  · have e : (aIndexAddr Tryd.prog [] 51 (.rd (n64.map (PD.int .u8))) (.pd (.int .u64 (idxE x)))).map (·, ([] : Mem)) = ((idx (idxE x) 64).map fun k => AV.rd ((n64.map (PD.int .u8)).drop (k * 1))).map (·, ([] : Mem)) := by kernel_rfl
    have e2 : idx (idxE x) 64 = some (idxE x).toNat := by simp [idx]; omega
    exact Eq.trans e (congrArg (fun o => (Option.map (fun k => AV.rd ((n64.map (PD.int .u8)).drop (k * 1))) o).map (·, ([] : Mem))) e2)
  refine H_ask (.pd (.int .u8 (n64.getD (idxE x).toNat 0))) [] (t := (aLoad Tryd.prog [] 5 (.rd ((n64.map (PD.int .u8)).drop ((idxE x).toNat * 1)))).map (·, [])) (by kernel_rfl) ?_ ?_
  · have e : (aLoad Tryd.prog [] 5 (.rd ((n64.map (PD.int .u8)).drop ((idxE x).toNat * 1)))).map (·, ([] : Mem)) = ((((n64.map (PD.int .u8)).drop ((idxE x).toNat * 1))[0]?).map AV.pd).map (·, ([] : Mem)) := by kernel_rfl
    have hl : (idxE x).toNat < n64.length := hk
    exact Eq.trans e (tab_at hl)
  · refine H_end .ret (.pd (i64 (IntKind.i64.wrap (tzE x)))) (by kernel_rfl) rfl (by kernel_rfl) ?_
    obtain ⟨c, d⟩ := tz_le (Int.le_of_lt h0) h1
    rw [wrap64 (by constructor <;> omega)]

theorem tz30 (x : Int) (h0 : 0 < x) (h1 : x < 4096) : ASpec Tryd.prog gt17 30 [.pd (.int .u64 x)] (· = .pd (i64 (tzE x))) := by
  refine ASpec_tree Tryd.f30 mixed17 askTab (by kernel_rfl) ?_
  refine H_val (.pd (i64 (tzE x))) (g := 34) (args := [.pd (.int .u64 x)]) (M := []) (.inl (by kernel_rfl)) (tz34 x h0 h1) pure_args1 (has17 34 (by kernel_rfl)) ?_
  exact H_end .ret (.pd (i64 (tzE x))) (by kernel_rfl) rfl (by kernel_rfl) rfl

def clears : Nat → Int → Int
  | 0, x => x
  | j + 1, x => clrE (clears j x)

theorem clears_in {x : Int} (h0 : 0 ≤ x) (h1 : x < 4096) (j : Nat) : 0 ≤ clears j x ∧ clears j x < 4096 := by
  induction j with
  | zero => exact ⟨h0, h1⟩
  | succ j ih =>
    obtain ⟨_, _, a, b, _⟩ := chk_at ih.1 ih.2
    refine ⟨a, ?_⟩
    show clrE (clears j x) < 4096
    rcases b with b | b
    · omega
    · rw [b]; decide

/-- The items of a set, gone through: each is handed to yield, as long as it says on. -/
theorem items29 (set : Int) (h0 : 0 ≤ set) (h1 : set < 4096) (l b : Nat) (J : Nat → Mem → Prop) (Done : Mem → Prop) (M0 : Mem) (hJ0 : J 0 M0) (hM0 : M0[b]? = some (.cells [.pd (i64 set)] 1 0 false))
    (hround : ∀ j M, J j M → 0 < clears j set → Rnd Tryd.prog gt17 l [.pd (i64 (tzE (clears j set)))] M fun c M' => if c then J (j + 1) M' else Done M') (hend : ∀ j M, J j M → clears j set = 0 → Done M) :
    ACall Tryd.prog gt17 29 [.yld l, .ptr b 0 0] M0 fun _ M' => Done M' := by
  refine ACall_tree Tryd.f29 mixed17 askTab (by kernel_rfl) ?_
  refine H_ask (.pd (i64 set)) M0 (t := (aLoad Tryd.prog M0 3 (.ptr b 0 0)).map (·, M0)) (by kernel_rfl) ?_ ?_
  · have e : aLoad Tryd.prog M0 3 (.ptr b 0 0) = (match M0[b]? with | some (.cells l _ ver' _) => if ver' = 0 then l[0]? else none | _ => none) := by kernel_rfl
    rw [e, hM0]; rfl
  refine H_loop2 17 (fun a : Nat × Mem => [(0, .yld l), (3, .pd (i64 (clears a.1 set)))]) (fun a => a.2) [] (fun a => J a.1 a.2) (fun a => (clears a.1 set).toNat) (0, M0) mixed17 askTab
    (by kernel_rfl) (by kernel_rfl) (by kernel_rfl) (by kernel_rfl) (by kernel_rfl) hJ0 ?_
  rintro ⟨j, M⟩ hJ
  obtain ⟨c0, c1⟩ := clears_in h0 h1 j
  refine H_split (decide (clears j set > 0)) (by kernel_rfl) (fun h => ?_) (fun h => ?_)
  · have hpos : 0 < clears j set := by simpa using h
    refine H_val (.pd (i64 (tzE (IntKind.u64.wrap (clears j set))))) (g := 30) (args := [.pd (.int .u64 (IntKind.u64.wrap (clears j set)))]) (M := M) (.inl (by kernel_rfl)) (tz30 _ ?_ ?_) pure_args1 (has17 30 (by kernel_rfl)) ?_
    · simp [IntKind.wrap, IntKind.bits, IntKind.signed]; omega
    · simp [IntKind.wrap, IntKind.bits, IntKind.signed]; omega
    have ew : IntKind.u64.wrap (clears j set) = clears j set := by simp [IntKind.wrap, IntKind.bits, IntKind.signed]; omega
    have hr := hround j M hJ hpos
    rw [← ew] at hr
    refine H_yld (l := l) (args := [.pd (i64 (tzE (IntKind.u64.wrap (clears j set))))]) (M := M) (by kernel_rfl) (hr.mono ?_)
    intro c M' hc
    cases c with
    | true =>
      refine H_again (j + 1, M') [.yld l, .pd (i64 (clrE (clears j set)))] (by kernel_rfl) (by kernel_rfl) (by kernel_rfl) (by kernel_rfl) (by kernel_rfl) hc ?_ rfl
      obtain ⟨_, _, a, b, _⟩ := chk_at c0 c1
      show (clrE (clears j set)).toNat < (clears j set).toNat
      omega
    | false =>
      exact H_leave .ret (by kernel_rfl) rfl (H_endM .ret (.tup []) M' (by kernel_rfl) rfl (by kernel_rfl) (by kernel_rfl) (by kernel_rfl) hc)
  · have hz : clears j set = 0 := by simp at h; omega
    exact H_leave (.exit 0) (by kernel_rfl) rfl (H_endM .normal (.tup []) M (by kernel_rfl) rfl (by kernel_rfl) (by kernel_rfl) (by kernel_rfl) (hend j M hJ hz))

end Go.Abs
