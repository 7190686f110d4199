/- Part of a proof, in few files: QW. -/
import Derived.Test.YtdbfgnpobfbfmaaGreatDoorMSaK31
import Derived.Test.YtdbfgnpobfbfmaaGreatDoorMSaK27

section
/- The steps of a walk, said shortly. -/
namespace Go.Abs
open Go.RowKit Go.Proofs
variable {P : Program} {GT : Tabs} {w : W} {Q : Exit → S → Prop} {α : Type}

/-- n questions on, each of which the kernel answers. -/
def W.adv : Nat → W → W
  | 0, w => w
  | n + 1, .ask (some (x, M)) k => W.adv n (k x M)
  | _ + 1, _ => .fail
theorem QK (n : Nat) (h : (w.adv n).holds P GT Q) : w.holds P GT Q := by
  induction n generalizing w with
  | zero => exact h
  | succ n ih =>
    cases w with
    | ask t k =>
      cases t with
      | none => exact (fail_holds (Q := Q) h).elim
      | some z =>
        obtain ⟨x, M⟩ := z
        have e : W.holds P GT Q ((W.ask (some (x, M)) k).back x M) = W.holds P GT Q (k x M) := by kernel_rfl
        exact H_ask x M (by kernel_rfl) rfl (e ▸ ih (w := k x M) h)
    | _ => exact (fail_holds (Q := Q) h).elim
theorem QP (b : Bool) (h1 : b = true → (w.br true).holds P GT Q) (h2 : b = false → (w.br false).holds P GT Q) (hv : w.view = .split b := by kernel_rfl) : w.holds P GT Q := H_split b hv h1 h2
theorem QL (M : Mem) (t et : TypeId) (el : α → PD) (e : List α) (h : (w.back (.pd (.int .i64 (e.length : Int))) M).holds P GT Q) (hv : w.view = .ask ((aLen P M t (.pd (.sl (e.map el)))).map (·, M)) := by kernel_rfl) (hu : P.underlying t = some (.slice et) := by kernel_rfl) : w.holds P GT Q := H_ask _ _ hv (ask_len hu) h
theorem QI (M : Mem) (t et : TypeId) (k : IntKind) {el : α → PD} {lv : α → List PD} {s : Nat} (h1 : LVok lv s) (h2 : ELok el lv) {e : List α} {z : Int} {x : α} (h : Idx e z x) (hh : (w.back (.rd (lv x)) M).holds P GT Q) (hv : w.view = .ask ((aIndexAddr P M t (.pd (.sl (e.map el))) (.pd (.int k z))).map (·, M)) := by kernel_rfl) (hu : P.underlying t = some (.slice et) := by kernel_rfl) (hz : szOf P et = some s := by kernel_rfl) : w.holds P GT Q := H_ask _ _ hv (ask_idx h1 h2 hu hz h) hh
def cellsAt (M : Mem) (b : Nat) : List AV := match M[b]? with | some (.cells l _ _ _) => l | _ => []
theorem QC (M : Mem) (t : TypeId) (b off v n s : Nat) (xs : List AV) (x : AV) (hok : xs.all (·.okCell M) = true) (hh : (w.back .junk (M.set b (.cells ((cellsAt M b).take off ++ xs ++ (cellsAt M b).drop (off + n)) s v false))).holds P GT Q) (hv : w.view = .ask ((aStore P M t (.ptr b off v) x).map (AV.junk, ·)) := by kernel_rfl) (hb : M[b]? = some (.cells (cellsAt M b) s v false) := by kernel_rfl) (hn : szOf P t = some n := by kernel_rfl) (hx : x.cells = some xs := by kernel_rfl) (hl : (Nat.beq xs.length n && Nat.ble (off + n) (cellsAt M b).length) = true := by kernel_rfl) : w.holds P GT Q := H_ask _ _ hv (ask_storeC hb hn hx hl hok rfl) hh
theorem QV (M : Mem) {g : FuncId} {args : List AV} {x : AV} (hc : ASpec Tryz.prog GT g args (· = x)) (h : (w.back x M).holds Tryz.prog GT Q) (hv : w.view = .call g args M := by kernel_rfl) (hk : args.map wk = args := by kernel_rfl) (hp : args.all pur2 = true := by kernel_rfl) (he : hasBody Tryz.prog g = true := by kernel_rfl) : w.holds Tryz.prog GT Q := H_valW x (.inl hv) hk hc hp (hasT g he) h
theorem QVd (M : Mem) {g : FuncId} {args : List AV} {x : AV} (hc : ASpec Tryz.prog GT g args (· = x)) (h : (w.back x M).holds Tryz.prog GT Q) (hv : w.view = .dcall g args M := by kernel_rfl) (hk : args.map wk = args := by kernel_rfl) (hp : args.all pur2 = true := by kernel_rfl) (he : hasBody Tryz.prog g = true := by kernel_rfl) : w.holds Tryz.prog GT Q := H_valW x (.inr hv) hk hc hp (hasT g he) h
theorem QE {fn : Func} {x : AV} (e : Exit) (hv : w.view = .done e := by kernel_rfl) (he : endOk e = true := by kernel_rfl) (hr : endVal P fn w.stS = some x := by kernel_rfl) : w.holds P GT (EndQ P fn (· = x)) := H_end e x hv he hr rfl
variable {σ γ : Type} {w0 : W} {n m : Nat} {st : σ → γ → List (Nat × AV)} {mm : σ → γ → Mem} {I : σ → γ → Prop} {D : List Nat} {X : σ → Prop}
theorem QG {a : σ} (g : γ) (hX : X a) (hI : I a g) (hv : w.view = .done .normal := by kernel_rfl) (hn : w.stS.T.length = n := by kernel_rfl) (hT : pickW w.stS.T ((st a g).map (·.1)) = ((st a g).map fun p => some p.2) := by kernel_rfl) (hM : w.stS.M = mm a g := by kernel_rfl) (hD : w.stS.D = D := by kernel_rfl) : w.holds P GT (RndP P GT Q w0 n m st mm I D X) := H_againP a g hX hI hv hn hT hM hD
theorem QGC {a : σ} (g : γ) (hX : X a) (hI : I a g) (hb : (mm a g).all (belO m) = true) (hv : w.view = .done .normal := by kernel_rfl) (hn : w.stS.T.length = n := by kernel_rfl) (hT : pickW w.stS.T ((st a g).map (·.1)) = ((st a g).map fun p => some p.2) := by kernel_rfl) (hD : w.stS.D = D := by kernel_rfl) (hl : Nat.ble m w.stS.M.length = true := by kernel_rfl) (hM : w.stS.M.take m = mm a g := by kernel_rfl) (hs : (st a g).all (fun p => bel3 m p.2) = true := by kernel_rfl) (hd : D.all (fun d => Nat.blt d m) = true := by kernel_rfl) : w.holds P GT (RndP P GT Q w0 n m st mm I D X) := H_againC a g hX hI hv hn hT hD hl hM hb hs hd
def noN : Exit → Bool | .normal => false | _ => true
theorem QR (e : Exit) (h : (w0.go e w.stS).holds P GT Q) (hv : w.view = .done e := by kernel_rfl) (hne : noN e = true := by kernel_rfl) : w.holds P GT (RndP P GT Q w0 n m st mm I D X) := by
  cases e <;> first | exact H_leaveP _ hv rfl h | cases hne
theorem QD (h : w.on.holds P GT Q) (hv : w.view = .draw true := by kernel_rfl) : w.holds P GT Q := H_draw hv h
end Go.Abs
end
