/- Part of a proof, in few files: QW. -/
import Derived.Test.YtdbfgnpobfbfmaaGreatDoorMPaK30
import Derived.Test.YtdbfgnpobfbfmaaGreatDoorMPaK26

section
namespace Go.Abs
open Go.RowKit Go.Proofs
variable {P : Program} {GT : Tabs} {w : W} {Q : Exit → S → Prop} {α : Type}
def W.adv : Nat → W → W
  | 0, w => w
  | n + 1, .ask (some (x, M)) k => W.adv n (k x M)
  | _ + 1, _ => .fail
theorem QK (n : Nat) (h : (w.adv n).holds P GT Q) : w.holds P GT Q := by
  induction n generalizing w with
  | zero => exact h
  | succ n ih =>
    cases w with
    | ask t k =>
      cases t with
      | none => exact (fail_holds (Q := Q) h).elim
      | some z =>
        obtain ⟨x, M⟩ := z
        have e : W.holds P GT Q ((W.ask (some (x, M)) k).back x M) = W.holds P GT Q (k x M) := by kernel_rfl
        exact H_ask x M (by kernel_rfl) rfl (e ▸ ih (w := k x M) h)
    | _ => exact (fail_holds (Q := Q) h).elim
theorem QP (b : Bool) (h1 : b = true → (w.br true).holds P GT Q) (h2 : b = false → (w.br false).holds P GT Q) (hv : w.view = .split b := by kernel_rfl) : w.holds P GT Q := H_split b hv h1 h2
theorem QL (M : Mem) (t et : TypeId) (el : α → PD) (e : List α) (h : (w.back (.pd (.int .i64 (e.length : Int))) M).holds P GT Q) (hv : w.view = .ask ((aLen P M t (.pd (.sl (e.map el)))).map (·, M)) := by kernel_rfl) (hu : P.underlying t = some (.slice et) := by kernel_rfl) : w.holds P GT Q := H_ask _ _ hv (ask_len hu) h
theorem QI (M : Mem) (t et : TypeId) (k : IntKind) {el : α → PD} {lv : α → List PD} {s : Nat} (h1 : LVok lv s) (h2 : ELok el lv) {e : List α} {z : Int} {x : α} (h : Idx e z x) (hh : (w.back (.rd (lv x)) M).holds P GT Q) (hv : w.view = .ask ((aIndexAddr P M t (.pd (.sl (e.map el))) (.pd (.int k z))).map (·, M)) := by kernel_rfl) (hu : P.underlying t = some (.slice et) := by kernel_rfl) (hz : szOf P et = some s := by kernel_rfl) : w.holds P GT Q := H_ask _ _ hv (ask_idx h1 h2 hu hz h) hh
theorem QS (M : Mem) (t et : TypeId) (lo hi : Option Int) {el : α → PD} {lv : α → List PD} {s : Nat} (h1 : LVok lv s) (h2 : ELok el lv) {e : List α} (h : SubOk e (loOf lo) (hiOf e.length hi)) (hh : (w.back (.pd (.sl ((sub e (loOf lo) (hiOf e.length hi)).map el))) M).holds P GT Q) (hv : w.view = .ask ((aSlice P M t (.pd (.sl (e.map el))) (lo.map fun z => .pd (.int .i64 z)) (hi.map fun z => .pd (.int .i64 z)) none).map (·, M)) := by kernel_rfl) (hu : P.underlying t = some (.slice et) := by kernel_rfl) (hz : szOf P et = some s := by kernel_rfl) : w.holds P GT Q := H_ask _ _ hv (ask_sub h1 h2 hu hz h) hh
theorem QA (M : Mem) (b : Nat) (e e2 : List α) (ver sT xT by_ : Nat) {lv : α → List PD} {s n : Nat} {x : AV} (h1 : LVok lv s) (hs : Src M s x lv e2) (hn : n = e.length) (hf : Fits (e.length + e2.length) by_) (hh : (w.back (.own b (e ++ e2).length (vnext e e2 ver)) (M.set b (rowV lv s (e ++ e2) (vnext e e2 ver) false))).holds P GT Q) (hv : w.view = .ask (aAppend P M sT xT (.own b n ver) x) := by kernel_rfl) (hi : RowInfoOk P sT xT s by_ = true := by kernel_rfl) (hM : M[b]? = some (rowV lv s e ver false) := by kernel_rfl) : w.holds P GT Q := H_ask _ _ hv (ask_appV h1 hi hs hM hn hf) hh
def cellsAt (M : Mem) (b : Nat) : List AV := match M[b]? with | some (.cells l _ _ _) => l | _ => []
theorem QC (M : Mem) (t : TypeId) (b off v n s : Nat) (xs : List AV) (x : AV) (hok : xs.all (·.okCell M) = true) (hh : (w.back .junk (M.set b (.cells ((cellsAt M b).take off ++ xs ++ (cellsAt M b).drop (off + n)) s v false))).holds P GT Q) (hv : w.view = .ask ((aStore P M t (.ptr b off v) x).map (AV.junk, ·)) := by kernel_rfl) (hb : M[b]? = some (.cells (cellsAt M b) s v false) := by kernel_rfl) (hn : szOf P t = some n := by kernel_rfl) (hx : x.cells = some xs := by kernel_rfl) (hl : (Nat.beq xs.length n && Nat.ble (off + n) (cellsAt M b).length) = true := by kernel_rfl) : w.holds P GT Q := H_ask _ _ hv (ask_storeC hb hn hx hl hok rfl) hh
def W.cM : W → Mem | .call _ _ M _ => M | .dcall _ _ M _ => M | _ => []
theorem QV {g : FuncId} {args : List AV} {x : AV} (hc : ASpec Tryz.prog GT g args (· = x)) (h : (w.back x w.cM).holds Tryz.prog GT Q) (hv : w.view = .call g args w.cM := by kernel_rfl) (hk : args.map wk = args := by kernel_rfl) (hp : args.all pur2 = true := by kernel_rfl) (he : hasBody Tryz.prog g = true := by kernel_rfl) : w.holds Tryz.prog GT Q := H_valW x (.inl hv) hk hc hp (hasT g he) h
theorem QVd {g : FuncId} {args : List AV} {x : AV} (hc : ASpec Tryz.prog GT g args (· = x)) (h : (w.back x w.cM).holds Tryz.prog GT Q) (hv : w.view = .dcall g args w.cM := by kernel_rfl) (hk : args.map wk = args := by kernel_rfl) (hp : args.all pur2 = true := by kernel_rfl) (he : hasBody Tryz.prog g = true := by kernel_rfl) : w.holds Tryz.prog GT Q := H_valW x (.inr hv) hk hc hp (hasT g he) h
theorem QO (M : Mem) (t et : TypeId) (lv : α → List PD) (s b : Nat) (e : List α) (ver : Nat) {n : Nat} (hn : n = e.length) (h : (w.back (.pd (.int .i64 (e.length : Int))) M).holds P GT Q) (hv : w.view = .ask ((aLen P M t (.own b n ver)).map (·, M)) := by kernel_rfl) (hu : P.underlying t = some (.slice et) := by kernel_rfl) (hM : M[b]? = some (rowV lv s e ver false) := by kernel_rfl) : w.holds P GT Q := H_ask _ _ hv (ask_olen hu hM (rowIs_v' (z := false)) hn) h
theorem QOc (M : Mem) (t et : TypeId) (lv : α → List PD) (s b : Nat) (e : List α) (ver : Nat) {n : Nat} (hn : n = e.length) (h : (w.back (.pd (.int .i64 (e.length : Int))) M).holds P GT Q) (hv : w.view = .ask ((aLen P M t (.own b n ver)).map (·, M)) := by kernel_rfl) (hu : P.underlying t = some (.slice et) := by kernel_rfl) (hM : M[b]? = some (.cells (rowC lv e) s ver false) := by kernel_rfl) : w.holds P GT Q := H_ask _ _ hv (ask_olen hu hM (rowIs_c (z := false)) hn) h
theorem QJ (M : Mem) (t et : TypeId) (k : IntKind) (lv : α → List PD) (s b : Nat) (e : List α) (ver : Nat) {n : Nat} {i : Int} {x : α} (hn : n = e.length) (hx : Idx e i x) (h : (w.back (.ptr b (i.toNat * s) ver) M).holds P GT Q) (hv : w.view = .ask ((aIndexAddr P M t (.own b n ver) (.pd (.int k i))).map (·, M)) := by kernel_rfl) (hu : P.underlying t = some (.slice et) := by kernel_rfl) (hz : szOf P et = some s := by kernel_rfl) (hM : M[b]? = some (rowV lv s e ver false) := by kernel_rfl) : w.holds P GT Q := H_ask _ _ hv (ask_oidx hu hz hM (rowIs_v' (z := false)) hn hx) h
theorem QJc (M : Mem) (t et : TypeId) (k : IntKind) (lv : α → List PD) (s b : Nat) (e : List α) (ver : Nat) {n : Nat} {i : Int} {x : α} (hn : n = e.length) (hx : Idx e i x) (h : (w.back (.ptr b (i.toNat * s) ver) M).holds P GT Q) (hv : w.view = .ask ((aIndexAddr P M t (.own b n ver) (.pd (.int k i))).map (·, M)) := by kernel_rfl) (hu : P.underlying t = some (.slice et) := by kernel_rfl) (hz : szOf P et = some s := by kernel_rfl) (hM : M[b]? = some (.cells (rowC lv e) s ver false) := by kernel_rfl) : w.holds P GT Q := H_ask _ _ hv (ask_oidx hu hz hM (rowIs_c (z := false)) hn hx) h
theorem QZ {t : Option (AV × Mem)} {x : AV} {M : Mem} (ht : t = some (x, M)) (h : (w.back x M).holds P GT Q) (hv : w.view = .ask t := by kernel_rfl) : w.holds P GT Q := H_ask x M hv ht h
theorem QB {b : Bool} {A B : Prop} (hi : IfB b A B) (h1 : A → (w.br true).holds P GT Q) (h2 : B → (w.br false).holds P GT Q) (hv : w.view = .split b := by kernel_rfl) : w.holds P GT Q := H_split b hv (fun e => h1 (hi.t e)) (fun e => h2 (hi.f e))
theorem QBp {b : Bool} {A B : Prop} (hi : IfB b A B) (h1 : b = true → A → (w.br true).holds P GT Q) (h2 : b = false → B → (w.br false).holds P GT Q) (hv : w.view = .split b := by kernel_rfl) : w.holds P GT Q := H_split b hv (fun e => h1 e (hi.t e)) (fun e => h2 e (hi.f e))
theorem QE {fn : Func} {x : AV} (e : Exit) (hv : w.view = .done e := by kernel_rfl) (he : endOk e = true := by kernel_rfl) (hr : endVal P fn w.stS = some x := by kernel_rfl) : w.holds P GT (EndQ P fn (· = x)) := H_end e x hv he hr rfl
theorem QX {fn : Func} {x : AV} (e : Exit) (rv : AV) (M : Mem) (hp : pure3 M rv = some x) (hv : w.view = .done e := by kernel_rfl) (he : endOk e = true := by kernel_rfl) (hr : resOf P fn w.stS.T (shut w.stS.M w.stS.D) = some rv := by kernel_rfl) (hM : shut w.stS.M w.stS.D = M := by kernel_rfl) : w.holds P GT (EndQ P fn (· = x)) := H_endX e rv x M hv he hr hM hp rfl
theorem QT {fn : Func} {el : α → PD} {lv : α → List PD} {s n : Nat} {e : List α} {fl : Bool} (ex : Exit) (h1 : LVok lv s) (hg : ELg el lv s) (b ver : Nat) (hn : n = e.length) (hv : w.view = .done ex := by kernel_rfl) (he : endOk ex = true := by kernel_rfl) (hr : resOf P fn w.stS.T (shut w.stS.M w.stS.D) = some (.tup [.own b n ver, .pd (.bool fl)]) := by kernel_rfl) (hs : Nat.blt 0 s = true := by kernel_rfl) (hM : (shut w.stS.M w.stS.D)[b]? = some (rowV lv s e ver false) := by kernel_rfl) : w.holds P GT (EndQ P fn (· = .tup [.pd (.sl (e.map el)), .pd (.bool fl)])) :=
  H_endX ex _ _ _ hv he hr rfl (pure_tup (pl_cons (pure_1to2 (pure1_own h1 (Nat.le_of_ble_eq_true hs) hg hM rowIs_v' hn) rfl) (pl_cons rfl pl_nil))) rfl
variable {σ γ : Type} {w0 : W} {n m : Nat} {st : σ → γ → List (Nat × AV)} {mm : σ → γ → Mem} {I : σ → γ → Prop} {D : List Nat} {X : σ → Prop}
theorem QG {a : σ} (g : γ) (hX : X a) (hI : I a g) (hv : w.view = .done .normal := by kernel_rfl) (hn : w.stS.T.length = n := by kernel_rfl) (hT : pickW w.stS.T ((st a g).map (·.1)) = ((st a g).map fun p => some p.2) := by kernel_rfl) (hM : w.stS.M = mm a g := by kernel_rfl) (hD : w.stS.D = D := by kernel_rfl) : w.holds P GT (RndP P GT Q w0 n m st mm I D X) := H_againP a g hX hI hv hn hT hM hD
theorem QGC {a : σ} (g : γ) (hX : X a) (hI : I a g) (hb : (mm a g).all (belO m) = true) (hv : w.view = .done .normal := by kernel_rfl) (hn : w.stS.T.length = n := by kernel_rfl) (hT : pickW w.stS.T ((st a g).map (·.1)) = ((st a g).map fun p => some p.2) := by kernel_rfl) (hD : w.stS.D = D := by kernel_rfl) (hl : Nat.ble m w.stS.M.length = true := by kernel_rfl) (hM : w.stS.M.take m = mm a g := by kernel_rfl) (hs : (st a g).all (fun p => bel3 m p.2) = true := by kernel_rfl) (hd : D.all (fun d => Nat.blt d m) = true := by kernel_rfl) : w.holds P GT (RndP P GT Q w0 n m st mm I D X) := H_againC a g hX hI hv hn hT hD hl hM hb hs hd
def noN : Exit → Bool | .normal => false | _ => true
theorem QR (e : Exit) (h : (w0.go e w.stS).holds P GT Q) (hv : w.view = .done e := by kernel_rfl) (hne : noN e = true := by kernel_rfl) : w.holds P GT (RndP P GT Q w0 n m st mm I D X) := by
  cases e <;> first | exact H_leaveP _ hv rfl h | cases hne
theorem QD (h : w.on.holds P GT Q) (hv : w.view = .draw true := by kernel_rfl) : w.holds P GT Q := H_draw hv h
theorem ask_ofld {M : Mem} {st : TypeId} {f b off fo k s ver : Nat} {o : Ob} {lv : α → List PD} {e : List α} {z : Bool} (h1 : (fieldOf P st f).map (fun fl => (szOf P fl.type, fl.offset)) = some (some (k + 1), fo)) (hM : M[b]? = some o) (hr : RowIs o lv s e ver z) : (aFieldAddr P M st (.ptr b off ver) f).map (·, M) = some (.ptr b (off + fo) ver, M) := by
  have hv : verOf M b = ver := by rw [verOf_some hM, hr.ver]
  unfold aFieldAddr
  cases hf : fieldOf P st f with
  | none => rw [hf] at h1; cases h1
  | some fl =>
    rw [hf] at h1
    simp only [Option.map_some, Option.some.injEq, Prod.mk.injEq] at h1
    simp only [h1.1, h1.2, if_pos hv]; rfl
theorem po {M : Mem} {el : α → PD} {lv : α → List PD} {s : Nat} (h1 : LVok lv s) (hg : ELg el lv s) (b : Nat) (e : List α) (ver n : Nat) (hn : n = e.length) (hs : Nat.blt 0 s = true := by kernel_rfl) (hM : M[b]? = some (rowV lv s e ver false) := by kernel_rfl) : pure1 M (.own b n ver) = some (.pd (.sl (e.map el))) := pure1_own h1 (Nat.le_of_ble_eq_true hs) hg hM rowIs_v' hn
def Pre (M0 M : Mem) : Prop := ∃ RR : Mem, M = M0 ++ RR
theorem Dq : (∀ (p : Prop) [Decidable p], decide p = true ↔ p) ∧ (∀ (p : Prop) [Decidable p], decide p = false ↔ ¬ p) ∧ (∀ a b : Int, (a == b) = true ↔ a = b) ∧ (∀ a b : Int, (a == b) = false ↔ ¬ a = b) ∧ (∀ a b : Int, (a != b) = true ↔ ¬ a = b) ∧ (∀ a b : Int, (a != b) = false ↔ a = b) := by
  refine ⟨fun p _ => by simp, fun p _ => by simp, fun a b => by simp, fun a b => by simp, fun a b => by simp, fun a b => by simp⟩
end Go.Abs
end
