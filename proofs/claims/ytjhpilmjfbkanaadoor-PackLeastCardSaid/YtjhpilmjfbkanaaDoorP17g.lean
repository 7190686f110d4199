/- Chapter 17: pack.Packs. -/
import Derived.Test.YtjhpilmjfbkanaaDoorP17f
namespace Go.Abs
open Go.Proofs
set_option maxRecDepth 20000

def andE (a b : Int) : Int := IntKind.i64.wrap ((BitVec.ofInt IntKind.i64.bits a &&& BitVec.ofInt IntKind.i64.bits b).toNat)
def orE (a b : Int) : Int := IntKind.i64.wrap ((BitVec.ofInt IntKind.i64.bits a ||| BitVec.ofInt IntKind.i64.bits b).toNat)

def okSet (roll : Int) (ws : List Int) (all s : Int) : Bool := !(s == 0) && !(andE all s != 0) && fitsB roll ws s
/-- All sets so far, put together; none where one is amiss. -/
def packAll (roll : Int) (ws : List Int) : List Int → Int → Option Int
  | [], all => some all
  | s :: r, all => if okSet roll ws all s then packAll roll ws r (orE all s) else none
def packsB (roll : Int) (ws sets : List Int) : Bool := match packAll roll ws sets 0 with | none => false | some all => mayB roll ws && (all == 2 ^ ws.length - 1)

theorem packAll_append (roll : Int) (ws : List Int) : ∀ (l1 l2 : List Int) (all : Int), packAll roll ws (l1 ++ l2) all = (packAll roll ws l1 all).bind (packAll roll ws l2)
  | [], _, _ => rfl
  | s :: l1, l2, all => by
    simp only [List.cons_append, packAll]
    split
    · exact packAll_append roll ws l1 l2 _
    · rfl

theorem packs13 (roll : Int) (ws sets : List Int) (hs : ∀ s, s ∈ sets → In64 s) (hl : sets.length < 1000000) : ASpec Tryd.prog gt17 13 [.pd (i64 roll), .pd (ints ws), .pd (ints sets)] (· = .pd (.bool (packsB roll ws sets))) := by
  refine ASpec_tree Tryd.f13 mixed17 askIdx (by kernel_rfl) ?_
  refine H_loop2 46 (fun a : Nat × Int => [(0, .pd (i64 roll)), (1, .pd (ints ws)), (7, .pd (i64 a.2)), (10, .pd (ints sets)), (11, .pd (i64 (sets.map i64).length)), (12, .pd (i64 a.1))]) (fun _ => []) [] (fun a => a.1 ≤ sets.length ∧ packAll roll ws (sets.take a.1) 0 = some a.2) (fun a => sets.length - a.1) (0, 0) mixed17 askIdx
    (by kernel_rfl) (by kernel_rfl) (by kernel_rfl) (by kernel_rfl) (by kernel_rfl) (by simp [packAll]) ?_
  rintro ⟨i, all⟩ ⟨hi, hp⟩
  simp only at hi hp
  refine H_split (decide ((i : Int) < ((sets.map i64).length : Nat))) (by kernel_rfl) (fun h => ?_) (fun h => ?_)
  · have hlt : i < sets.length := by simpa using h
    have step : packAll roll ws (sets.take (i + 1)) 0 = if okSet roll ws all sets[i] then some (orE all sets[i]) else none := by
      rw [List.take_succ_eq_append_getElem hlt, packAll_append, hp]; rfl
    have bad : okSet roll ws all sets[i] = false → packsB roll ws sets = false := by
      intro hb
      rw [hb] at step
      have : packAll roll ws sets 0 = none := by
        rw [← List.take_append_drop (i + 1) sets, packAll_append, step]; rfl
      simp [packsB, this]
    refine H_ask (.rd [i64 sets[i]]) [] (t := (aIndexAddr Tryd.prog [] 22 (.pd (ints sets)) (.pd (i64 i))).map (·, [])) (by kernel_rfl) (ask_ints hlt 3 (by kernel_rfl) (by kernel_rfl)) ?_
    refine H_split (sets[i] == 0) (by kernel_rfl) (fun h2 => ?_) (fun h2 => ?_)
    · exact H_leave .ret (by kernel_rfl) rfl (H_end .ret (.pd (.bool false)) (by kernel_rfl) rfl (by kernel_rfl) (by rw [bad]; simp only [okSet, h2]; rfl))
    refine H_split (andE all sets[i] != 0) (by kernel_rfl) (fun h3 => ?_) (fun h3 => ?_)
    · exact H_leave .ret (by kernel_rfl) rfl (H_end .ret (.pd (.bool false)) (by kernel_rfl) rfl (by kernel_rfl) (by rw [bad]; simp only [okSet, h2, h3]; rfl))
    refine H_valB (fitsB roll ws sets[i]) (g := 24) (args := [.pd (i64 roll), .pd (ints ws), .pd (i64 sets[i])]) (M := []) (.inl (by kernel_rfl)) (fits24 roll ws sets[i] (hs _ (List.getElem_mem hlt))) pure_args3 (has17 24 (by kernel_rfl)) (fun h4 => ?_) (fun h4 => ?_)
    · refine H_again (i + 1, orE all sets[i]) [.pd (i64 roll), .pd (ints ws), .pd (i64 (orE all sets[i])), .pd (ints sets), .pd (i64 (sets.map i64).length), .pd (i64 (IntKind.i64.wrap ((i : Int) + 1)))] (by kernel_rfl) (by kernel_rfl) (by kernel_rfl) (by kernel_rfl) (by kernel_rfl) ⟨hlt, ?_⟩ (by show sets.length - (i + 1) < sets.length - i; omega) ?_
      · rw [step, if_pos (by simp only [okSet, h2, h3, h4]; rfl)]
      · rw [wrap64 (by constructor <;> omega)]; rfl
    · exact H_leave .ret (by kernel_rfl) rfl (H_end .ret (.pd (.bool false)) (by kernel_rfl) rfl (by kernel_rfl) (by rw [bad]; simp only [okSet, h2, h3, h4]; rfl))
  · have hk' : i = sets.length := by simp at h; omega
    subst hk'
    rw [List.take_length] at hp
    refine H_leave (.exit 0) (by kernel_rfl) rfl ?_
    refine H_valB (mayB roll ws) (g := 9) (args := [.pd (i64 roll), .pd (ints ws)]) (M := []) (.inl (by kernel_rfl)) (may9 gt17 roll ws) pure_args2 (has17 9 (by kernel_rfl)) (fun h3 => ?_) (fun h3 => ?_)
    · obtain ⟨_, _, hn, _⟩ := mayB_some h3
      refine H_ask (.pd (i64 (2 ^ ws.length))) [] (t := (aBin Tryd.prog .shl 3 (.pd (i64 1)) (.pd (i64 ((ws.map i64).length : Nat)))).map (·, [])) (by kernel_rfl) (by rw [List.length_map]; exact ask_shl1 (by omega)) ?_
      have hw : IntKind.i64.wrap ((2 : Int) ^ ws.length - 1) = 2 ^ ws.length - 1 := by
        have h1 := Nat.pow_le_pow_right (n := 2) (by omega) hn
        have h2 := Nat.two_pow_pos ws.length
        rw [wrap64]
        have h3 : (2 : Int) ^ ws.length ≤ 2 ^ 12 := by exact_mod_cast h1
        have h4 : (1 : Int) ≤ 2 ^ ws.length := by exact_mod_cast h2
        constructor <;> omega
      refine H_split (all == IntKind.i64.wrap ((2 : Int) ^ ws.length - 1)) (by kernel_rfl) (fun h6 => ?_) (fun h6 => ?_)
      · exact H_end .ret (.pd (.bool true)) (by kernel_rfl) rfl (by kernel_rfl) (by rw [hw] at h6; simp only [packsB, hp, h3, h6]; rfl)
      · exact H_end .ret (.pd (.bool false)) (by kernel_rfl) rfl (by kernel_rfl) (by rw [hw] at h6; simp only [packsB, hp, h3, h6]; rfl)
    · exact H_end .ret (.pd (.bool false)) (by kernel_rfl) rfl (by kernel_rfl) (by simp only [packsB, hp, h3]; rfl)

end Go.Abs
