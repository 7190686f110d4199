/- Part of a proof, in few files: Abs10. -/
import Derived.Test.YtdbfgnpobfbfmaaGreatDoorMPaK6
import Derived.Laws.BytesString

section
namespace Go.Abs
open Go.RowKit
variable {P : Program} {B : Nat} {I0 : Nat → Prop} {c : Ctx} {M : Mem} {w : World}
def byteOf? : AV → Option UInt8
  | .pd (.int .u8 n) => some (UInt8.ofNat n.toNat)
  | _ => none
def aConv (P : Program) (M : Mem) (src dst : TypeId) (x : AV) : Option AV :=
  match P.underlying src, P.underlying dst with
  | some _, some (.int k) => match x with | .pd (.int _ n) => some (.pd (.int k (k.wrap n))) | _ => none
  | some .string, some .string => match x with | .pd (.str s) => some (.pd (.str s)) | _ => none
  | some (.int _), some .string => match x with | .pd (.int _ n) => some (.pd (.str (Utf8.encode n).data.toList)) | _ => none
  | some (.slice e), some .string =>
    match P.underlying e, srcCells M 1 x, lenSl M x with
    | some (.int .u8), some (xs, _), some _ => (xs.mapM byteOf?).map fun l => .pd (.str l)
    | _, _, _ => none
  | _, _ => none
theorem foldl_push (ns : List Int) : ∀ (r : ByteArray), ns.foldl (fun r n => r.push (UInt8.ofNat n.toNat)) r = ⟨r.data ++ (ns.map fun n => UInt8.ofNat n.toNat).toArray⟩ := by
  induction ns with
  | nil => intro r; simp
  | cons n ns ih =>
    intro r
    rw [List.foldl_cons, ih]
    congr 1
    simp only [List.map_cons]
    apply Array.ext'
    simp [ByteArray.push]
theorem byte_of {v : Value} {x : AV} {b : UInt8} (h : ARep c M w v x) (hb : byteOf? x = some b) : ∃ n, v = .int .u8 n ∧ b = UInt8.ofNat n.toNat := by
  unfold byteOf? at hb
  split at hb
  · cases hb
    cases h with
    | pd v p hp => cases hp; exact ⟨_, rfl, rfl⟩
  · cases hb
theorem bytes_of : ∀ (vs : List Value) (xs : List AV) (l : List UInt8), vs.length = xs.length → (∀ (j : Nat) (u : Value) (y : AV), vs[j]? = some u → xs[j]? = some y → ARep c M w u y) → xs.mapM byteOf? = some l →
    ∃ ns : List Int, vs = ns.map (Value.int .u8) ∧ l = ns.map fun n => UInt8.ofNat n.toNat
  | [], [], l, _, _, h => by simp at h; subst h; exact ⟨[], rfl, rfl⟩
  | v :: vs, x :: xs, l, hl, hr, h => by
    rw [List.mapM_cons] at h
    have h : ((byteOf? x).bind fun b => (xs.mapM byteOf?).bind fun r' => some (b :: r')) = some l := h
    rw [Option.bind_eq_some_iff] at h
    obtain ⟨b, hb, h⟩ := h
    rw [Option.bind_eq_some_iff] at h
    obtain ⟨r', hr', h⟩ := h
    cases h
    obtain ⟨n, rfl, rfl⟩ := byte_of (hr 0 v x rfl rfl) hb
    obtain ⟨ns, rfl, rfl⟩ := bytes_of vs xs r' (by simpa using hl) (fun j u y h1 h2 => hr (j + 1) u y (by simpa using h1) (by simpa using h2)) hr'
    exact ⟨n :: ns, rfl, rfl⟩
  | [], _ :: _, _, hl, _, _ => by simp at hl
  | _ :: _, [], _, hl, _, _ => by simp at hl
theorem aConv_ok {src dst : TypeId} {x y : AV} {v : Value} (hS : Sim B I0 c M w) (hx : ARep c M w v x) (h : aConv P M src dst x = some y) : Out P B I0 c M w (convert src dst v) y M := by
  unfold aConv at h
  split at h
  · rename_i d k hs hd
    split at h
    · cases h
      cases hx with
      | pd v x hx => cases hx; exact Out.val hS (by simp [convert, run_underlying hs, run_underlying hd, Conv.intToInt]) (.pd _ _ (.int _ _))
    · cases h
  · rename_i hs hd
    split at h
    · cases h
      cases hx with
      | pd v x hx => cases hx; exact Out.val hS (by simp [convert, strV, run_underlying hs, run_underlying hd]) (.pd _ _ (.str _))
    · cases h
  · rename_i k hs hd
    split at h
    · cases h
      cases hx with
      | pd v x hx => cases hx; exact Out.val hS (by simp [convert, Conv.intToString, strV, run_underlying hs, run_underlying hd]) (.pd _ _ (.str _))
    · cases h
  · rename_i e hs hd
    split at h
    · rename_i xs n m he hsrc hm
      rw [Option.map_eq_some_iff] at h
      obtain ⟨l, hl, rfl⟩ := h
      obtain ⟨a, cap, rfl⟩ := lenSl_ok hx hm
      have hL := srcCells_ok (P := P) hS hx hsrc
      obtain ⟨vs, q1, q2, q3⟩ := hL.cells
      obtain ⟨m1, m2⟩ := mapM_some hl
      have hmn : m = n := by have := hL.lenOf w; simp [Builtin.lenOf] at this; exact this
      subst hmn
      have hb := bytes_of vs xs l (by rw [q1, hL.len]) q3 hl
      obtain ⟨ns, rfl, rfl⟩ := hb
      refine Out.val hS (v' := strV (ns.map fun n => UInt8.ofNat n.toNat)) ?_ (.pd _ _ (.str _))
      have hf := q2 w rfl m (Nat.le_refl _)
      rw [List.take_of_length_le (by rw [q1]; exact Nat.le_refl _)] at hf
      have hconv : (convert src dst (.slice a m cap)).run P w = (Conv.bytesToString (.slice a m cap)).run P w := by
        cases a <;> simp [convert, run_underlying hs, run_underlying hd, run_underlying he]
      rw [hconv]
      cases a with
      | none =>
        simp [Builtin.firstCells] at hf
        subst hf
        simp [Conv.bytesToString, strV]
        try rfl
      | some ad =>
        have hf' : (loadCells ad m).run P w = .ok (ns.map (Value.int .u8)).toArray w := by simpa [Builtin.firstCells] using hf
        rw [run_bytesToString w ad m cap ns hf', foldl_push]
        simp [strV]
    · cases h
  · cases h
def aMin (x y : AV) : Option AV := match x, y with | .pd (.int k a), .pd (.int _ b) => some (.pd (.int k (if b < a then b else a))) | _, _ => none
def aMax (x y : AV) : Option AV := match x, y with | .pd (.int k a), .pd (.int _ b) => some (.pd (.int k (if b > a then b else a))) | _, _ => none
theorem aMin_ok {ts : Array TypeId} {t : TypeId} {x y z : AV} {v u : Value} (hS : Sim B I0 c M w) (hx : ARep c M w v x) (hy : ARep c M w u y) (h : aMin x y = some z) : Out P B I0 c M w (Builtin.min_ ts t #[v, u]) z M := by
  unfold aMin at h
  split at h
  · cases h
    cases hx with
    | pd v x hx => cases hx; cases hy with
      | pd u y hy => cases hy; exact Out.val hS (run_min_int2 _ _ _ _ _ _ _) (.pd _ _ (.int _ _))
  · cases h
theorem aMax_ok {ts : Array TypeId} {t : TypeId} {x y z : AV} {v u : Value} (hS : Sim B I0 c M w) (hx : ARep c M w v x) (hy : ARep c M w u y) (h : aMax x y = some z) : Out P B I0 c M w (Builtin.max_ ts t #[v, u]) z M := by
  unfold aMax at h
  split at h
  · cases h
    cases hx with
    | pd v x hx => cases hx; cases hy with
      | pd u y hy => cases hy; exact Out.val hS (run_max_int2 _ _ _ _ _ _ _) (.pd _ _ (.int _ _))
  · cases h
def aExtract (x : AV) (i : Nat) : Option AV := match x with | .tup l => l[i]? | _ => none
theorem aExtract_ok {x y : AV} {i : Nat} {v : Value} (hS : Sim B I0 c M w) (hx : ARep c M w v x) (h : aExtract x i = some y) : Out P B I0 c M w (Instr.extract v i) y M := by
  unfold aExtract at h
  split at h
  · cases hx with
    | tup vs l hs hr =>
      have hl := (List.getElem?_eq_some_iff.1 h).1
      have hv : i < vs.size := by omega
      refine Out.val hS (v' := vs[i]) ?_ (hr i _ y (Array.getElem?_eq_getElem hv) h)
      simp [Instr.extract, hv]
  · cases h
def aRange (P : Program) (M : Mem) (t : TypeId) (x : AV) : Option (AV × Mem) :=
  match P.underlying t, x with
  | some .string, .pd (.str s) => some (.it M.length, M ++ [.iter s 0])
  | _, _ => none
theorem aRange_ok {t : TypeId} {x y : AV} {v : Value} {M' : Mem} (hS : Sim B I0 c M w) (hx : ARep c M w v x) (h : aRange P M t x = some (y, M')) : Out P B I0 c M w (Instr.range t v) y M' := by
  unfold aRange at h
  split at h
  · rename_i s hu
    cases h
    cases hx with
    | pd v x hx =>
    cases hx
    have hS' := hS.push (.stringIter ⟨s.toArray⟩ 0) 0 (.iter s 0) (by
      show (w.alloc _).heap[upd c.blk M.length w.heap.size M.length]? = _
      rw [upd_self]; exact World.alloc_heap_new _ _)
    have hs : Stp B c w (c.push M w.heap.size 0) (w.alloc (.stringIter ⟨s.toArray⟩ 0)) := Stp.alloc hS.hB hS.immlt _ _ _
    refine ⟨.pointer (some ⟨w.heap.size, 0, none⟩), _, _, ?_, ?_, hS', Ext.push c M _ _ _, hs⟩
    · simp [Instr.range, run_underlying hu, strV]
    · have : ARep (c.push M w.heap.size 0) (M ++ [.iter s 0]) (w.alloc (.stringIter ⟨s.toArray⟩ 0)) (.pointer (some ⟨(c.push M w.heap.size 0).blk M.length, 0, none⟩)) (.it M.length) := .it _ ⟨.iter s 0, by simp, rfl⟩
      have e : (c.push M w.heap.size 0).blk M.length = w.heap.size := upd_self _ _ _
      rwa [e] at this
  · cases h
def aNext (M : Mem) (x : AV) (isS : Bool) : Option (AV × Mem) :=
  match x, isS with
  | .it b, true =>
    match M[b]? with
    | some (.iter s pos) =>
      if pos < s.length then
        some (.tup [.pd (.bool true), .pd (.int .i64 pos), .pd (.int .i32 (Utf8.decode ⟨s.toArray⟩ pos).1)], M.set b (.iter s (pos + (Utf8.decode ⟨s.toArray⟩ pos).2)))
      else some (.tup [.pd (.bool false)], M)
    | _ => none
  | _, _ => none
theorem tup3 {a1 a2 a3 : Value} {b1 b2 b3 : AV} (h1 : ARep c M w a1 b1) (h2 : ARep c M w a2 b2) (h3 : ARep c M w a3 b3) : ARep c M w (.tuple #[a1, a2, a3]) (.tup [b1, b2, b3]) := by
  refine .tup _ _ rfl fun i v x hv hx => ?_
  match i with
  | 0 => simp at hv hx; subst hv; subst hx; exact h1
  | 1 => simp at hv hx; subst hv; subst hx; exact h2
  | 2 => simp at hv hx; subst hv; subst hx; exact h3
  | i + 3 => simp at hx
theorem tup1 {a1 : Value} {b1 : AV} (h1 : ARep c M w a1 b1) : ARep c M w (.tuple #[a1]) (.tup [b1]) := by
  refine .tup _ _ rfl fun i v x hv hx => ?_
  match i with
  | 0 => simp at hv hx; subst hv; subst hx; exact h1
  | i + 1 => simp at hx
theorem aNext_ok {x y : AV} {isS : Bool} {ty : TypeId} {v : Value} {M' : Mem} (hS : Sim B I0 c M w) (hx : ARep c M w v x) (h : aNext M x isS = some (y, M')) : Out P B I0 c M w (Instr.next v isS ty) y M' := by
  unfold aNext at h
  split at h
  · rename_i b
    cases hx with
    | it b hb =>
    split at h
    · rename_i s pos hM
      have hO : w.heap[c.blk b]? = some (.stringIter ⟨s.toArray⟩ pos) := hS.obj b _ hM
      have hlt := (List.getElem?_eq_some_iff.1 hM).1
      split at h
      · rename_i hp
        cases h
        have hni : ¬ c.imm (c.blk b) := hS.sep b _ hM rfl rfl
        have hs : Stp B c w c (w.putObj (c.blk b) (.stringIter ⟨s.toArray⟩ (pos + (Utf8.decode ⟨s.toArray⟩ pos).2))) :=
          Stp.of_block hni (hS.blkB b ⟨_, hM, rfl⟩) rfl rfl rfl (by simp) fun k hk => World.putObj_heap_other hk
        have he : Ext c M c (M.set b (.iter s (pos + (Utf8.decode ⟨s.toArray⟩ pos).2))) := Ext.set hM rfl (Nat.le_refl _) fun _ => rfl
        refine ⟨.tuple #[.bool true, goInt pos, .int .i32 (Utf8.decode ⟨s.toArray⟩ pos).1], _, c, ?_, ?_, hS.put hM he hs (fun k hk => World.putObj_heap_other hk) ?_ rfl rfl, he, hs⟩
        · simp [Instr.next, getObj, setObj, Sem.run, hO, size_mk, hp, World.putObj]
        · exact tup3 (.pd _ _ (.bool _)) (.pd _ _ (.int _ _)) (.pd _ _ (.int _ _))
        · exact World.putObj_heap_same (Array.getElem?_eq_some_iff.1 hO).1
      · rename_i hp
        cases h
        refine Out.val hS (v' := .tuple #[.bool false]) ?_ (tup1 (.pd _ _ (.bool _)))
        simp [Instr.next, getObj, Sem.run, hO, size_mk, hp]
    · cases h
  · cases h
end Go.Abs
end
