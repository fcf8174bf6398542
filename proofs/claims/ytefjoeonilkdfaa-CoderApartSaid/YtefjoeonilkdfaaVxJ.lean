/- A part of the proof: what it shows stands in its theorems. No condition beyond those that they name. -/
import Derived.Test.YtefjoeonilkdfaaVxI
namespace Go.Vx
set_option linter.unusedSimpArgs false
set_option linter.unusedVariables false

/-! From the program's operations to instructions. -/

def szT (P : Program) (t : TypeId) : Option Nat := (P.info? t).map (·.size)
def byT (P : Program) (t : TypeId) : Option Nat := (P.info? t).map (·.bytes)
def zeroT (P : Program) (t : TypeId) : Option (List Value) :=
  match (P.info? t).map (·.zero) with
  | some (some z) => if z.cells.toList.all cOk then some z.cells.toList else none
  | _ => none

def eqK (P : Program) (t : TypeId) : Option EqK :=
  match P.underlying t with
  | some .bool => some .bool
  | some (.pointer _) => some .ptr
  | some (.slice _) => some .slice
  | some (.func _ _ _) => some .fn
  | some (.struct fs) =>
    if P.eqGuardType P.depth t = false ∧ P.stoodInHeld t = false ∧ fs.toList.all (fun f => f.name != "_" && (kindT P f.type).isSome) = true then
      some (.agg (fs.toList.map fun f => (f.offset, (kindT P f.type).getD 0))) else none
  | some (.array n e) =>
    match kindT P e with
    | some c => if P.eqGuardType P.depth t = false ∧ (P.info? e).map (·.size) = some 1 then some (.agg ((List.range n).map fun i => (i, c))) else none
    | none => none
  | _ => none

def compBin (P : Program) (op : BinOp) (t : TypeId) (x y : Operand) : Option IOp :=
  match P.underlying t with
  | some (.int _) | some .string => some (.bin op x y)
  | _ => match op with
    | .eql => (eqK P t).map fun k => .eqv false k x y
    | .neq => (eqK P t).map fun k => .eqv true k x y
    | _ => none

def compConv (P : Program) (src dst : TypeId) (x : Operand) : Option IOp :=
  match P.underlying src, P.underlying dst with
  | some (.int _), some (.int k) => some (.conv k x)
  | some (.slice e), some .string => if P.underlying e matches some (.int .u8) then some (.toStr x) else none
  | some .string, some (.slice e) => if P.underlying e matches some (.int .u8) then some (.toBytes e x) else none
  | some (.slice e), some (.slice _) => if P.underlying e matches some (.int .u8) then (if src = dst then some (.mark x) else none) else none
  | _, _ => none

def places (P : Program) (fs : Array Field) : Option (List (Nat × Nat)) := fs.toList.mapM fun f => (P.info? f.type).map fun i => (f.offset, i.size)

def partsS (pl : List (Nat × Nat)) : List (Nat × Operand) → Option (List (Nat × Nat × Operand))
  | [] => some []
  | (i, x) :: r => match pl[i]?, partsS pl r with
    | some (o, s), some r' => some ((o, s, x) :: r')
    | _, _ => none

def partsA (size : Nat) (ps : List (Nat × Operand)) : List (Nat × Nat × Operand) := ps.map fun p => (p.1 * size, size, p.2)

def compBuild (P : Program) (t : TypeId) (ps : List (Nat × Operand)) : Option IOp :=
  match zeroT P t, P.underlying t with
  | some z, some (.struct fs) => match places P fs with
    | some pl => (partsS pl ps).map fun l => .build z l
    | none => none
  | some z, some (.array _ e) => (szT P e).map fun size => .build z (partsA size ps)
  | _, _ => none

def compBslice (P : Program) (t : TypeId) (n : Nat) (ps : List (Nat × Operand)) : Option IOp :=
  match P.underlying t with
  | some (.slice e) => match zeroT P e, szT P e with
    | some z, some size => if z.length = size ∧ n * size ≤ 2 ^ 24 then some (.bslice size n z (partsA size ps)) else none
    | _, _ => none
  | _ => none

def compMk (P : Program) (t : TypeId) (x y : Operand) : Option IOp :=
  match P.underlying t with
  | some (.slice e) => match zeroT P e, szT P e, byT P e with
    | some z, some size, some bytes => if z.length = size then some (.mkslice size bytes z x y) else none
    | _, _, _ => none
  | _ => none

def compSlice (P : Program) (t : TypeId) (x : Operand) (lo hi mx : Option Operand) : Option IOp :=
  match P.underlying t with
  | some .string => if mx.isNone then some (.sliceStr x lo hi) else none
  | some (.slice e) => match szT P e with
    | some size => if 0 < size ∧ (mx.isSome = true → hi.isSome = true) then some (.slice size x lo hi mx) else none
    | none => none
  | some (.array n e) => match szT P e with
    | some size => if mx.isSome = true → hi.isSome = true then some (.sliceArr n size x lo hi mx) else none
    | none => none
  | _ => none

def compCall (P : Program) (c : Call) : Option IOp :=
  match c.callee with
  | .builtin .len => match c.args.toList, c.argTypes.toList with
    | [x], t :: _ => match P.underlying t with
      | some .string => some (.lenStr x)
      | some (.slice _) => some (.lenSl x)
      | some (.array n _) => some (.lenArr n)
      | some (.pointer r) => match P.underlying r with
        | some (.array n _) => some (.lenArr n)
        | _ => none
      | _ => none
    | _, _ => none
  | .builtin .append => match c.args.toList, c.argTypes.toList with
    | [x, y], [t, u] => match P.underlying t, P.underlying u with
      | some (.slice e), some (.slice _) | some (.slice e), some .string => match zeroT P e, szT P e, byT P e with
        | some z, some size, some bytes => if z.length = size ∧ 0 < bytes then some (.append size bytes x y) else none
        | _, _, _ => none
      | _, _ => none
    | _, _ => none
  | .builtin .copy => match c.args.toList, c.argTypes.toList with
    | [x, y], [t, _] => match P.underlying t with
      | some (.slice e) => (szT P e).map fun size => .copy size x y
      | _ => none
    | _, _ => none
  | .builtin .max => match c.args.toList with
    | x :: xs => some (.mm true x xs)
    | [] => none
  | .builtin .min => match c.args.toList with
    | x :: xs => some (.mm false x xs)
    | [] => none
  | .builtin _ => none
  | .invoke _ _ => none
  | .value (.func f) => match P.funcs[f]? with
    | some fn => if (fn.name == "runtime.NumGoroutine") = false ∧ fn.body.isSome = true then some (.call f c.args.toList) else none
    | none => none
  | .value x => some (.callv x c.args.toList)

def compileOp (P : Program) : Op → Option IOp
  | .move x => some (.mov x)
  | .assign x => some (.mov x)
  | .pick c x y => some (.pick c x y)
  | .binOp op t x y _ => compBin P op t x y
  | .unOp op _ x => some (.un op x)
  | .convert src dst x => compConv P src dst x
  | .call c => compCall P c
  | .extract x i => some (.extract x i)
  | .fieldAddr s x f => match P.underlying s with
    | some (.struct fs) => match fs[f]? with
      | some fd => if (P.info? fd.type).map (fun i => i.size != 0) = some true then some (.fieldAddr fd.offset x) else none
      | none => none
    | _ => none
  | .field t x f => match P.underlying t with
    | some (.struct fs) => match fs[f]? with
      | some fd => match aggT P fd.type with
        | some false => some (.fld fd.offset none x)
        | some true => (szT P fd.type).map fun n => .fld fd.offset (some n) x
        | none => none
      | none => none
    | _ => none
  | .indexAddr t x i => match P.underlying t with
    | some (.slice e) => (szT P e).map fun n => .idxSl n x i
    | some (.array n e) => (szT P e).map fun s => .idxArr n s x i
    | _ => none
  | .index t x i => match P.underlying t with
    | some .string => some (.idxStr x i)
    | some (.array n e) => match aggT P e with
      | some false => (szT P e).map fun s => .idxAgg n s x i
      | _ => none
    | _ => none
  | .load t x => match aggT P t with
    | some false => some (.load none x)
    | some true => (szT P t).map fun n => .load (some n) x
    | none => none
  | .store t x y => (szT P t).map fun n => .store n x y
  | .alloc t => (zeroT P t).map fun z => .alloc z
  | .box _ x => some (.box x)
  | .build t ps => compBuild P t ps.toList
  | .buildSlice t n ps => compBslice P t n ps.toList
  | .makeSlice t x y => compMk P t x y
  | .slice t x lo hi mx => compSlice P t x lo hi mx
  | .makeFunc (.func f) first caps => if first.size = 0 then some (.mkfunc f caps.toList) else none
  | .nilCheck x => some (.nilchk x)
  | _ => none

theorem zeroT_out {P : Program} {t : TypeId} {z : List Value} (h : zeroT P t = some z) : ∃ v, (P.info? t).map (·.zero) = some (some v) ∧ v.cells.toList.all cOk = true ∧ v.cells.toList = z := by
  unfold zeroT at h
  split at h
  · rename_i v hv
    split at h
    · rename_i hc; simp at h; exact ⟨v, hv, hc, h⟩
    · simp at h
  · simp at h

theorem eqK_out {P : Program} {t : TypeId} {k : EqK} (h : eqK P t = some k) : eqvOk P t k := by
  unfold eqK at h
  split at h
  · rename_i hu; simp at h; subst h; exact hu
  · rename_i e hu; simp at h; subst h; exact ⟨e, hu⟩
  · rename_i e hu; simp at h; subst h; exact ⟨e, hu⟩
  · rename_i p q r hu; simp at h; subst h; exact ⟨p, q, r, hu⟩
  · rename_i fs hu
    split at h
    · rename_i hc
      simp at h; subst h
      refine ⟨hc.1, .inl ⟨fs, hu, hc.2.1, fun f hf => ?_, rfl⟩⟩
      have := List.all_eq_true.1 hc.2.2 f hf
      simp only [Bool.and_eq_true, bne_iff_ne] at this
      obtain ⟨c, hc⟩ := Option.isSome_iff_exists.1 this.2
      exact ⟨this.1, c, hc⟩
    · simp at h
  · rename_i n e hu
    split at h
    · rename_i c hk
      split at h
      · rename_i hc; simp at h; subst h
        exact ⟨hc.1, .inr ⟨n, e, c, hu, hc.2, hk, rfl⟩⟩
      · simp at h
    · simp at h
  · simp at h

section
variable {P : Program} {γ : Nat → Option Nat} {o : Oper} {env : Env} {h : AHeap} {g : Bool} {K : Value → AHeap → Prop} {i : IOp}

theorem compBin_sound {op : BinOp} {t yt : TypeId} {x y : Operand} (ho : o.op = .binOp op t x y yt) (hc : compBin P op t x y = some i) (H : OpVC P γ env h g i K) : Good P γ o env h g K := by
  unfold compBin at hc
  split at hc
  · simp at hc; subst hc; exact s_bin ho H
  · simp at hc; subst hc; exact s_bin ho H
  · split at hc
    · cases hk : eqK P t with
      | none => simp [hk] at hc
      | some k => simp [hk] at hc; subst hc; exact s_eqv ho rfl (eqK_out hk) H
    · cases hk : eqK P t with
      | none => simp [hk] at hc
      | some k => simp [hk] at hc; subst hc; exact s_eqv ho rfl (eqK_out hk) H
    · simp at hc

theorem compConv_sound {src dst : TypeId} {x : Operand} (ho : o.op = .convert src dst x) (hc : compConv P src dst x = some i) (H : OpVC P γ env h g i K) : Good P γ o env h g K := by
  unfold compConv at hc
  split at hc
  · rename_i hs hd; simp at hc; subst hc; exact s_conv ho (by simp [hs]) hd H
  · rename_i e hs hd
    split at hc
    · rename_i he; simp at hc; subst hc
      exact s_toStr ho hs hd he H
    · simp at hc
  · rename_i e hs hd
    split at hc
    · rename_i he; simp at hc; subst hc
      exact s_toBytes ho hs hd he H
    · simp at hc
  · rename_i e e' hs hd
    split at hc
    · rename_i he
      by_cases hsd : src = dst
      · subst hsd; simp at hc; subst hc
        exact s_mark ho hs (by assumption) H
      · simp [hsd] at hc
    · simp at hc
  · simp at hc

theorem partsS_out {pl : List (Nat × Nat)} : ∀ {ps : List (Nat × Operand)} {ts : List (Nat × Nat × Operand)}, partsS pl ps = some ts → ts.length = ps.length ∧
    ∀ (i : Nat) p t, ps[i]? = some p → ts[i]? = some t → pl.toArray[p.1]? = some (t.1, t.2.1) ∧ t.2.2 = p.2
  | [], ts, h => by simp [partsS] at h; subst h; exact ⟨rfl, fun i p t hp => by simp at hp⟩
  | (j, x) :: r, ts, h => by
    simp only [partsS] at h
    split at h
    · rename_i o s r' hj hr
      simp at h; subst h
      obtain ⟨h1, h2⟩ := partsS_out hr
      refine ⟨by simp [h1], fun i p t hp ht => ?_⟩
      cases i with
      | zero => simp at hp ht; subst hp ht; exact ⟨by simpa using hj, rfl⟩
      | succ i => exact h2 i p t (by simpa using hp) (by simpa using ht)
    · simp at h

theorem partsA_out {size : Nat} (ps : List (Nat × Operand)) : (partsA size ps).length = ps.length ∧
    ∀ (i : Nat) p t, ps[i]? = some p → (partsA size ps)[i]? = some t → (some (p.1 * size, size) : Option (Nat × Nat)) = some (t.1, t.2.1) ∧ t.2.2 = p.2 := by
  refine ⟨by simp [partsA], fun i p t hp ht => ?_⟩
  simp [partsA, hp] at ht
  subst ht; exact ⟨rfl, rfl⟩

theorem places_out {fs : Array Field} {pl : List (Nat × Nat)} (h : places P fs = some pl) : fs.map (fun f => (P.info? f.type).map fun i => (f.offset, i.size)) = pl.toArray.map some := by
  have key : ∀ (l : List Field) (pl : List (Nat × Nat)), l.mapM (fun f => (P.info? f.type).map fun i => (f.offset, i.size)) = some pl → l.map (fun f => (P.info? f.type).map fun i => (f.offset, i.size)) = pl.map some := by
    intro l
    induction l with
    | nil => intro pl h; simp at h; subst h; rfl
    | cons f r ih =>
      intro pl h
      rw [List.mapM_cons] at h
      cases hi : P.info? f.type with
      | none => simp [hi] at h
      | some i =>
        cases hr : r.mapM (fun f => (P.info? f.type).map fun i => (f.offset, i.size)) with
        | none => simp [hi, hr] at h
        | some l =>
          simp [hi, hr] at h
          subst h
          simp [hi, ih _ hr]
  have := key fs.toList pl h
  apply Array.ext'
  simpa using this

theorem compBuild_sound {t : TypeId} {ps : Array (Nat × Operand)} (ho : o.op = .build t ps) (hc : compBuild P t ps.toList = some i) (H : OpVC P γ env h g i K) : Good P γ o env h g K := by
  unfold compBuild at hc
  split at hc
  · rename_i z fs hz hu
    obtain ⟨v, h1, h2, rfl⟩ := zeroT_out hz
    split at hc
    · rename_i pl hpl
      cases hp : partsS pl ps.toList with
      | none => simp [hp] at hc
      | some l =>
        simp [hp] at hc; subst hc
        obtain ⟨h3, h4⟩ := partsS_out hp
        exact s_buildS ho hu h1 h2 (places_out hpl) h3 h4 H
    · simp at hc
  · rename_i z n e hz hu
    obtain ⟨v, h1, h2, rfl⟩ := zeroT_out hz
    cases hn : szT P e with
    | none => simp [hn] at hc
    | some size =>
      simp [hn] at hc; subst hc
      obtain ⟨h3, h4⟩ := partsA_out (size := size) ps.toList
      exact s_buildA ho hu h1 h2 hn h3 h4 H
  · simp at hc

theorem compBslice_sound {t : TypeId} {n : Nat} {ps : Array (Nat × Operand)} (ho : o.op = .buildSlice t n ps) (hc : compBslice P t n ps.toList = some i) (H : OpVC P γ env h g i K) : Good P γ o env h g K := by
  unfold compBslice at hc
  split at hc
  · rename_i e hu
    split at hc
    · rename_i z size hz hn
      obtain ⟨v, h1, h2, rfl⟩ := zeroT_out hz
      split at hc
      · rename_i hq
        simp at hc; subst hc
        obtain ⟨h3, h4⟩ := partsA_out (size := size) ps.toList
        exact s_bslice ho hu h1 h2 hn (by simpa using hq.1) hq.2 h3 h4 H
      · simp at hc
    · simp at hc
  · simp at hc

theorem compMk_sound {t : TypeId} {x y : Operand} (ho : o.op = .makeSlice t x y) (hc : compMk P t x y = some i) (H : OpVC P γ env h g i K) : Good P γ o env h g K := by
  unfold compMk at hc
  split at hc
  · rename_i e hu
    split at hc
    · rename_i z size bytes hz hn hb
      obtain ⟨v, h1, h2, rfl⟩ := zeroT_out hz
      split at hc
      · rename_i hq
        simp at hc; subst hc
        exact s_mkslice ho hu h1 h2 hn hb (by simpa using hq) H
      · simp at hc
    · simp at hc
  · simp at hc

theorem compSlice_sound {t : TypeId} {x : Operand} {lo hi mx : Option Operand} (ho : o.op = .slice t x lo hi mx) (hc : compSlice P t x lo hi mx = some i) (H : OpVC P γ env h g i K) : Good P γ o env h g K := by
  unfold compSlice at hc
  split at hc
  · rename_i hu
    split at hc
    · rename_i hm
      simp at hc; subst hc
      cases mx with
      | none => exact s_sliceStr ho hu H
      | some m => simp at hm
    · simp at hc
  · rename_i e hu
    split at hc
    · rename_i size hn
      split at hc
      · rename_i hq; simp at hc; subst hc; exact s_slice ho hu hn hq.1 hq.2 H
      · simp at hc
    · simp at hc
  · rename_i n e hu
    split at hc
    · rename_i size hn
      split at hc
      · rename_i hq; simp at hc; subst hc; exact s_sliceArr ho hu hn hq H
      · simp at hc
    · simp at hc
  · simp at hc

theorem arr1 {α : Type} {a : Array α} {x : α} (h : a.toList = [x]) : a = #[x] := by cases a; simp_all
theorem arr2 {α : Type} {a : Array α} {x y : α} (h : a.toList = [x, y]) : a = #[x, y] := by cases a; simp_all

theorem compCall_sound {c : Call} (ho : o.op = .call c) (hc : compCall P c = some i) (H : OpVC P γ env h g i K) : Good P γ o env h g K := by
  obtain ⟨callee, args, ts⟩ := c
  unfold compCall at hc
  simp only at hc
  split at hc
  · -- len
    split at hc
    · rename_i x t r hx htl
      have ht0 : ts[0]? = some t := by rw [← Array.getElem?_toList, htl]; rfl
      rw [arr1 hx] at ho
      split at hc
      · rename_i hu; simp at hc; subst hc; exact s_lenStr ho ht0 hu H
      · rename_i e hu; simp at hc; subst hc; exact s_lenSl ho ht0 hu H
      · rename_i n e hu; simp at hc; subst hc; exact s_lenArr ho ht0 (.inl hu) H
      · rename_i r hu
        split at hc
        · rename_i n e hu2; simp at hc; subst hc; exact s_lenArr ho ht0 (.inr ⟨r, hu, hu2⟩) H
        · simp at hc
      · simp at hc
    · simp at hc
  · -- append
    split at hc
    · rename_i x y t u hx htl
      rw [arr2 hx, arr2 htl] at ho
      split at hc
      · rename_i e e' hu hu2
        split at hc
        · rename_i z size bytes hz hn hb
          obtain ⟨v, h1, h2, rfl⟩ := zeroT_out hz
          split at hc
          · rename_i hq; simp at hc; subst hc
            exact s_append ho hu (.inl ⟨_, hu2⟩) hn hb h1 (by simpa using hq.1) hq.2 H
          · simp at hc
        · simp at hc
      · rename_i e hu hu2
        split at hc
        · rename_i z size bytes hz hn hb
          obtain ⟨v, h1, h2, rfl⟩ := zeroT_out hz
          split at hc
          · rename_i hq; simp at hc; subst hc
            exact s_append ho hu (.inr hu2) hn hb h1 (by simpa using hq.1) hq.2 H
          · simp at hc
        · simp at hc
      · simp at hc
    · simp at hc
  · -- copy
    split at hc
    · rename_i x y t u hx htl
      rw [arr2 hx, arr2 htl] at ho
      split at hc
      · rename_i e hu
        cases hn : szT P e with
        | none => simp [hn] at hc
        | some size => simp [hn] at hc; subst hc; exact s_copy ho hu hn H
      · simp at hc
    · simp at hc
  · split at hc
    · rename_i x xs hx
      simp at hc; subst hc
      have : args = (x :: xs).toArray := by cases args; simp_all
      rw [this] at ho
      exact s_mm (b := .max) ho rfl H
    · simp at hc
  · split at hc
    · rename_i x xs hx
      simp at hc; subst hc
      have : args = (x :: xs).toArray := by cases args; simp_all
      rw [this] at ho
      exact s_mm (b := .min) ho rfl H
    · simp at hc
  · simp at hc
  · simp at hc
  · rename_i f
    split at hc
    · rename_i fn hf
      split at hc
      · rename_i hq; simp at hc; subst hc
        obtain ⟨b, hb⟩ := Option.isSome_iff_exists.1 hq.2
        exact s_call ho hf hq.1 hb H
      · simp at hc
    · simp at hc
  · simp at hc; subst hc; exact s_callv ho H

theorem compile_sound (hc : compileOp P o.op = some i) (H : OpVC P γ env h g i K) : Good P γ o env h g K := by
  unfold compileOp at hc
  split at hc
  · rename_i ho; simp at hc; subst hc; exact s_mov (.inl ho) H
  · rename_i ho; simp at hc; subst hc; exact s_mov (.inr ho) H
  · rename_i ho; simp at hc; subst hc; exact s_pick ho H
  · rename_i ho; exact compBin_sound ho hc H
  · rename_i ho; simp at hc; subst hc; exact s_un ho H
  · rename_i ho; exact compConv_sound ho hc H
  · rename_i ho; exact compCall_sound ho hc H
  · rename_i ho; simp at hc; subst hc; exact s_extract ho H
  · rename_i s x f ho
    split at hc
    · rename_i fs hu
      split at hc
      · rename_i fd hf
        split at hc
        · rename_i hz; simp at hc; subst hc; exact s_fieldAddr ho hu hf rfl hz H
        · simp at hc
      · simp at hc
    · simp at hc
  · rename_i t x f ho
    split at hc
    · rename_i fs hu
      split at hc
      · rename_i fd hf
        split at hc
        · rename_i ha; simp at hc; subst hc; exact s_fld1 ho hu hf rfl ha H
        · rename_i ha
          cases hn : szT P fd.type with
          | none => simp [hn] at hc
          | some n => simp [hn] at hc; subst hc; exact s_fldN ho hu hf rfl ha hn H
        · simp at hc
      · simp at hc
    · simp at hc
  · rename_i t x j ho
    split at hc
    · rename_i e hu
      cases hn : szT P e with
      | none => simp [hn] at hc
      | some n => simp [hn] at hc; subst hc; exact s_idxSl ho hu hn H
    · rename_i n e hu
      cases hn : szT P e with
      | none => simp [hn] at hc
      | some s => simp [hn] at hc; subst hc; exact s_idxArr ho hu hn H
    · simp at hc
  · rename_i t x j ho
    split at hc
    · rename_i hu; simp at hc; subst hc; exact s_idxStr ho hu H
    · rename_i n e hu
      split at hc
      · rename_i ha
        cases hn : szT P e with
        | none => simp [hn] at hc
        | some s => simp [hn] at hc; subst hc; exact s_idxAgg ho hu ha hn H
      · simp at hc
    · simp at hc
  · rename_i t x ho
    split at hc
    · rename_i ha; simp at hc; subst hc; exact s_load1 ho ha H
    · rename_i ha
      cases hn : szT P t with
      | none => simp [hn] at hc
      | some n => simp [hn] at hc; subst hc; exact s_loadN ho ha hn H
    · simp at hc
  · rename_i t x y ho
    cases hn : szT P t with
    | none => simp [hn] at hc
    | some n => simp [hn] at hc; subst hc; exact s_store ho hn H
  · rename_i t ho
    cases hz : zeroT P t with
    | none => simp [hz] at hc
    | some z =>
      simp [hz] at hc; subst hc
      obtain ⟨v, h1, h2, rfl⟩ := zeroT_out hz
      exact s_alloc (x := .const .nilFunc) ho h1 h2 H
  · rename_i ho; simp at hc; subst hc; exact s_box ho H
  · rename_i ho; exact compBuild_sound ho hc H
  · rename_i ho; exact compBslice_sound ho hc H
  · rename_i ho; exact compMk_sound ho hc H
  · rename_i ho; exact compSlice_sound ho hc H
  · rename_i f first caps ho
    split at hc
    · rename_i hq
      simp at hc; subst hc
      have : first = #[] := Array.size_eq_zero_iff.1 hq
      subst this
      exact s_mkfunc ho H
    · simp at hc
  · rename_i ho; simp at hc; subst hc; exact s_nilchk ho H
  · simp at hc

theorem compileBad_sound (hc : (compileOp P o.op).getD .bad = i) (H : OpVC P γ env h g i K) : Good P γ o env h g K := by
  cases hq : compileOp P o.op with
  | none => rw [hq] at hc; simp at hc; subst hc; exact False.elim H
  | some j => rw [hq] at hc; simp at hc; subst hc; exact compile_sound hq H

theorem compCall_inv {P : Program} {c : Call} {f : FuncId} {l : List Operand} (h : compCall P c = some (.call f l)) : ∃ fn b, c = { callee := .value (.func f), args := c.args, argTypes := c.argTypes } ∧ l = c.args.toList ∧ P.funcs[f]? = some fn ∧ (fn.name == "runtime.NumGoroutine") = false ∧ fn.body = some b := by
  obtain ⟨callee, args, ts⟩ := c
  unfold compCall at h
  simp only at h
  split at h
  all_goals try (exfalso; revert h; (repeat' split) <;> simp; done)
  · rename_i f' 
    split at h
    · rename_i fn hf
      split at h
      · rename_i hq
        simp only [Option.some.injEq, IOp.call.injEq] at h
        obtain ⟨rfl, rfl⟩ := h
        obtain ⟨b, hb⟩ := Option.isSome_iff_exists.1 hq.2
        exact ⟨fn, b, rfl, rfl, hf, hq.1, hb⟩
      · simp at h
    · simp at h

theorem compileOp_inv {P : Program} {op : Op} {f : FuncId} {l : List Operand} (h : compileOp P op = some (.call f l)) : ∃ c, op = .call c ∧ compCall P c = some (.call f l) := by
  unfold compileOp at h
  split at h
  all_goals first | exact ⟨_, rfl, h⟩ | (exfalso; revert h; (repeat' split) <;> simp; done) | skip
  · exfalso; revert h; unfold compBin; (repeat' split) <;> simp
  · exfalso; revert h; unfold compConv; (repeat' split) <;> simp
  · exfalso; revert h; unfold compBuild; (repeat' split) <;> simp
  · exfalso; revert h; unfold compBslice; (repeat' split) <;> simp
  · exfalso; revert h; unfold compMk; (repeat' split) <;> simp
  · exfalso; revert h; unfold compSlice; (repeat' split) <;> simp

/-- What is guarded, and changes the memory, is done, or left. -/
def eff : IOp → Bool
  | .toBytes _ _ | .mark _ | .store _ _ _ | .alloc _ | .box _ | .bslice _ _ _ _ | .mkslice _ _ _ _ _ | .append _ _ _ _ | .copy _ _ _ | .call _ _ | .callv _ _ | .callp _ _ | .calln _ _ => true
  | _ => false

/-- In the strict mode (true) a step whose guard fails is left; in the other one a step that only computes is told for either value of its guard. -/
def OpVC2 (md : Bool) (P : Program) (γ : Nat → Option Nat) (env : Env) (h : AHeap) (g : Bool) (op : IOp) (K : Value → AHeap → Prop) : Prop :=
  sel (md || eff op) (sel g (OpVC P γ env h true op K) (K undef h) .mk .mk) (OpVC P γ env h g op K) .mk .mk
theorem OpVC2_s {md : Bool} {P : Program} {γ : Nat → Option Nat} {env : Env} {h : AHeap} {g : Bool} {op : IOp} {K : Value → AHeap → Prop} : OpVC2 md P γ env h g op K =
    sel (md || eff op) (sel g (OpVC P γ env h true op K) (K (.tuple #[]) h) .mk .mk) (OpVC P γ env h g op K) .mk .mk := propext Iff.rfl

theorem OpVC2_t {md : Bool} {P : Program} {γ : Nat → Option Nat} {env : Env} {h : AHeap} {g : Bool} {op : IOp} {K : Value → AHeap → Prop} (hm : (md || eff op) = true) (hg : g = true) : OpVC2 md P γ env h g op K = OpVC P γ env h true op K := by
  unfold OpVC2; rw [hm, hg, sel_t, sel_t]
theorem OpVC2_f {md : Bool} {P : Program} {γ : Nat → Option Nat} {env : Env} {h : AHeap} {g : Bool} {op : IOp} {K : Value → AHeap → Prop} (hm : (md || eff op) = true) (hg : g = false) : OpVC2 md P γ env h g op K = K (.tuple #[]) h := by
  unfold OpVC2; rw [hm, hg, sel_t, sel_f]; rfl
theorem OpVC2_n {md : Bool} {P : Program} {γ : Nat → Option Nat} {env : Env} {h : AHeap} {g : Bool} {op : IOp} {K : Value → AHeap → Prop} (hm : (md || eff op) = false) : OpVC2 md P γ env h g op K = OpVC P γ env h g op K := by
  unfold OpVC2; rw [hm, sel_f]

theorem compile2_sound {md : Bool} (hc : (compileOp P o.op).getD .bad = i) (H : OpVC2 md P γ env h g i K) : Good P γ o env h g K := by
  unfold OpVC2 at H
  cases hm : (md || eff i) with
  | false => rw [hm, sel_f] at H; exact compileBad_sound hc H
  | true =>
    rw [hm, sel_t] at H
    cases g with
    | true => rw [sel_t] at H; exact compileBad_sound hc H
    | false => rw [sel_f] at H; exact good_skip ⟨rfl, H⟩
end
end Go.Vx
