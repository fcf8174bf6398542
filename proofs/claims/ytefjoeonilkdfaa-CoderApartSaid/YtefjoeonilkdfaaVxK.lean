/- A part of the proof: what it shows stands in its theorems. No condition beyond those that they name. -/
import Derived.Test.YtefjoeonilkdfaaVxJ
namespace Go.Vx
set_option linter.unusedSimpArgs false
set_option linter.unusedVariables false

/-! Rows of instructions; code. -/

structure Ins where
  guard : Option (Tmp × Bool)
  dst : Option Tmp
  q : Bool
  op : IOp

def guardVal (env : Env) : Option (Tmp × Bool) → Option Bool
  | none => some true
  | some (t, want) => match env.get t with
    | some (gt, .bool b) => some (gt && (b == want))
    | _ => none

def putE (env : Env) (d : Option Tmp) (g : Bool) (v : Value) : Env :=
  match d with
  | none => env
  | some d => (d, some (g, v)) :: env

/-- What there was is as it was. -/
def Quiet (h h' : AHeap) : Prop := ∃ t : AHeap, h' = h ++ t ∧ ∀ ob ∈ t, ob.own = true

def WPI (md : Bool) (P : Program) (γ : Nat → Option Nat) : List Ins → (St → Prop) → St → Prop
  | [], Q, s => Q s
  | i :: r, Q, s => match guardVal s.env i.guard with
    | none => False
    | some g => OpVC2 md P γ s.env s.heap g i.op fun v h' => (i.q = true → Quiet s.heap h') ∧ WPI md P γ r Q ⟨putE s.env i.dst g v, h'⟩

structure Rel (γ : Nat → Option Nat) (N : Nat) (β : LMap) (s : St) (a : Act) (w : World) : Prop where
  env : EnvRel β s.env a
  heap : HRel γ β s.heap w
  defers : a.defers = []
  size : a.tmps.size = N

def dstOk (N : Nat) (d : Option Tmp) : Bool :=
  match d with
  | some d => decide (d < N)
  | none => true

theorem dstOk_out {N : Nat} {d : Option Tmp} (h : dstOk N d = true) : ∀ t, d = some t → t < N := by
  intro t ht; subst ht; simpa [dstOk] using h

/-- The slot that a guard looks at, and whether all slots are there. -/
def compIns (P : Program) (N : Nat) (ops : Array Oper) (q : Bool) (o : Oper) : Option Ins :=
  if dstOk N o.dst = true then
    match o.guard with
    | none => some ⟨none, o.dst, q, (compileOp P o.op).getD .bad⟩
    | some (j, want) => match (ops[j]?).bind (·.dst) with
      | some t => some ⟨some (t, want), o.dst, q, (compileOp P o.op).getD .bad⟩
      | none => none
  else none

theorem EnvRel.mono {β β' : LMap} {env : Env} {a : Act} (h : EnvRel β env a) (hβ : ∀ id L, β id = some L → β' id = some L) : EnvRel β' env a :=
  fun i g v he => ⟨fun hg => ((h i g v he).1 hg).mono hβ, (h i g v he).2⟩

theorem Fr.mono {γ : Nat → Option Nat} {β β' : LMap} {h h' : AHeap} {w w' : World} (f : Fr β h w β' h' w') (H : HRel γ β h w) : ∀ id L, β id = some L → β' id = some L :=
  fun id L hl => by rw [f.ext id (H.dom _ _ hl)]; exact hl

theorem EnvRel.reads {γ : Nat → Option Nat} {β : LMap} {env : Env} {a : Act} {h : AHeap} {w : World} (H : EnvRel β env a) (hh : HRel γ β h w) (x : Operand) : Reads γ β env a x := by
  intro g v he hg
  cases x with
  | tmp t => exact (H t g v he).1 hg
  | const c =>
    simp only [ev] at he
    split at he
    · rename_i hc; simp at he; obtain ⟨_, rfl⟩ := he; exact cOk_rel hc
    · simp at he
  | global k =>
    simp only [ev] at he
    split at he
    · rename_i id hk
      simp at he; obtain ⟨_, rfl⟩ := he
      obtain ⟨L, h1, h2, h3⟩ := hh.glob k id hk
      exact .ptr ⟨L, h1, by simp [h2, h3]⟩
    · simp at he
  | func f =>
    simp [ev] at he
    obtain ⟨_, rfl⟩ := he
    exact .func _ rfl fun i x y h1 => by simp at h1

theorem getD_put (a : Act) (d : Option Tmp) (v : Value) (i : Nat) : (a.put d v).tmps.getD i undef = if d = some i ∧ i < a.tmps.size then v else a.tmps.getD i undef := by
  cases d with
  | none => simp [Act.put]
  | some d =>
    simp only [Act.put, Array.getD_eq_getD_getElem?, Option.some.injEq]
    by_cases h : d = i
    · subst h
      by_cases hs : d < a.tmps.size
      · simp [hs]
      · simp [hs]
    · rw [Array.getElem?_setIfInBounds_ne h, if_neg (fun hq => h hq.1)]

theorem put_size (a : Act) (d : Option Tmp) (v : Value) : (a.put d v).tmps.size = a.tmps.size := by cases d <;> simp [Act.put]
theorem put_defers (a : Act) (d : Option Tmp) (v : Value) : (a.put d v).defers = a.defers := by cases d <;> rfl

theorem EnvRel.put {β : LMap} {env : Env} {a : Act} {N : Nat} (H : EnvRel β env a) (hN : a.tmps.size = N) {d : Option Tmp} (hd : ∀ t, d = some t → t < N) {g : Bool} {v cv : Value} (h1 : g = true → VRel β v cv) (h2 : g = false → cv = undef) :
    EnvRel β (putE env d g v) (a.put d cv) := by
  intro i g' v' he
  rw [getD_put]
  cases d with
  | none => rw [if_neg (by simp)]; exact H i g' v' he
  | some t =>
    simp only [putE, Env.get] at he
    split at he
    · rename_i hi
      subst hi
      cases he
      have hd' : i < N := hd i rfl
      rw [if_pos ⟨rfl, by omega⟩]
      exact ⟨h1, h2⟩
    · rename_i hi
      rw [if_neg (fun hq => hi (by simpa using hq.1.symm))]
      exact H i g' v' he

/-- A slot is as it is told. -/
def SlotRel (β : LMap) (env : Env) (a : Act) (i : Nat) : Prop := ∀ g v, env.get i = some (g, v) → (g = true → VRel β v (a.tmps.getD i undef)) ∧ (g = false → a.tmps.getD i undef = undef)

variable {md : Bool}

theorem wanted_of {β : LMap} {env : Env} {a : Act} {P : Program} {N : Nat} {ops : Array Oper} {q : Bool} {o : Oper} {i : Ins} (hc : compIns P N ops q o = some i) (H : ∀ t want, i.guard = some (t, want) → SlotRel β env a t) {g : Bool} (hg : guardVal env i.guard = some g) :
    Region.wanted o (yielded ops a.tmps) = g := by
  unfold compIns at hc
  split at hc
  · split at hc
    · rename_i hgd
      simp at hc; subst hc
      simp [guardVal] at hg; subst hg
      simp [Region.wanted, hgd]
    · rename_i j want hgd
      split at hc
      · rename_i t ht
        simp at hc; subst hc
        simp only [guardVal] at hg
        split at hg
        · rename_i gt b he
          simp at hg; subst hg
          obtain ⟨h1, h2⟩ := H t want rfl gt _ he
          simp only [Region.wanted, hgd, yielded, ht, Option.bind_some]
          cases gt with
          | true =>
            have hv := scal_eq (h1 rfl) rfl
            have : a.tmps[t]? = some (.bool b) := by
              rw [Array.getD_eq_getD_getElem?] at hv
              cases hq : a.tmps[t]? with
              | none => rw [hq] at hv; simp [undef] at hv
              | some u => rw [hq] at hv; simpa using hv
            rw [this]; cases b <;> cases want <;> rfl
          | false =>
            have hv := h2 rfl
            have : a.tmps[t]? = none ∨ a.tmps[t]? = some undef := by
              rw [Array.getD_eq_getD_getElem?] at hv
              cases hq : a.tmps[t]? with
              | none => exact .inl rfl
              | some u => rw [hq] at hv; right; simpa using hv
            rcases this with hq | hq <;> rw [hq] <;> cases want <;> rfl
        · simp at hg
      · simp at hc
  · simp at hc

theorem compIns_out {P : Program} {N : Nat} {ops : Array Oper} {q : Bool} {o : Oper} {i : Ins} (hc : compIns P N ops q o = some i) : (compileOp P o.op).getD .bad = i.op ∧ i.dst = o.dst ∧ i.q = q ∧ ∀ t, o.dst = some t → t < N := by
  unfold compIns at hc
  split at hc
  · rename_i hd
    have hdd := dstOk_out hd
    split at hc
    · simp at hc; subst hc; exact ⟨rfl, rfl, rfl, hdd⟩
    · split at hc
      · simp at hc; subst hc; exact ⟨rfl, rfl, rfl, hdd⟩
      · simp at hc
  · simp at hc

/-- One instruction, with whatever it is guarded by. -/
theorem step_sound {P : Program} {γ : Nat → Option Nat} {N : Nat} {ops : Array Oper} {q : Bool} {o : Oper} {i : Ins} (hc : compIns P N ops q o = some i) {s : St} {r : List Ins} {Q : St → Prop} (H : WPI md P γ (i :: r) Q s) :
    ∃ g v h', guardVal s.env i.guard = some g ∧ (g = true → OpSem P γ o s.env s.heap v h') ∧ (g = true ∨ h' = s.heap) ∧ (i.q = true → Quiet s.heap h') ∧ WPI md P γ r Q ⟨putE s.env i.dst g v, h'⟩ := by
  simp only [WPI] at H
  split at H
  · exact H.elim
  · rename_i g hg
    obtain ⟨hop, _⟩ := compIns_out hc
    obtain ⟨v, h', ⟨h1, h2⟩, h3, h4⟩ := compile2_sound hop H
    exact ⟨g, v, h', hg, h3, h4, h1, h2⟩

theorem wpOp_sound {P : Program} {γ : Nat → Option Nat} {N : Nat} {ops : Array Oper} {q : Bool} {o : Oper} {i : Ins} (hc : compIns P N ops q o = some i) {k : Nat} (hk : ops[k]? = some o) {s : St} {g : Bool} {v : Value} {h' : AHeap}
    (hg : guardVal s.env i.guard = some g) (hsem : g = true → OpSem P γ o s.env s.heap v h') (hh' : g = true ∨ h' = s.heap) {β : LMap} {a : Act} {w : World} (hr : Rel γ N β s a w) {Kx : Act → World → Prop} {Qx : Exit → Act → World → Prop}
    (hK : ∀ β' a' w', Rel γ N β' ⟨putE s.env i.dst g v, h'⟩ a' w' → Fr β s.heap w β' h' w' → Kx a' w') : wpOp P ops Qx k Kx a w := by
  obtain ⟨hop, hdst, _, hlt⟩ := compIns_out hc
  have hw := wanted_of hc (fun t _ _ => hr.env t) hg
  unfold wpOp
  rw [hk]
  simp only [hw]
  cases g with
  | true =>
    simp only [if_true]
    refine .inl (hsem rfl β a w hr.heap (fun x _ => hr.env.reads hr.heap x) _ _ fun cv w' β' h1 h2 h3 => ?_)
    refine hK β' _ w' ⟨?_, h2, by rw [put_defers]; exact hr.defers, by rw [put_size]; exact hr.size⟩ h3
    rw [hdst]
    exact (hr.env.mono (h3.mono hr.heap)).put hr.size hlt (fun _ => h1) (fun h => by simp at h)
  | false =>
    simp only [Bool.false_eq_true, if_false]
    have : h' = s.heap := hh'.resolve_left (by simp)
    subst this
    refine hK β _ w ⟨?_, hr.heap, by rw [put_defers]; exact hr.defers, by rw [put_size]; exact hr.size⟩ (Fr.refl _ _ _)
    rw [hdst]
    exact hr.env.put hr.size hlt (fun h => by simp at h) (fun _ => rfl)

/-- A row in the order of the text. -/
theorem wpOps_sound {P : Program} {γ : Nat → Option Nat} {N : Nat} {ops : Array Oper} {q : Bool} {Qx : Exit → Act → World → Prop} : ∀ (l : List Nat) (is : List Ins), l.length = is.length →
    (∀ (j k : Nat) i, l[j]? = some k → is[j]? = some i → ∃ o, ops[k]? = some o ∧ compIns P N ops q o = some i) → ∀ {Q : St → Prop} {s : St} {β : LMap} {a : Act} {w : World}, WPI md P γ is Q s → Rel γ N β s a w →
    (∀ s' β' a' w', Q s' → Rel γ N β' s' a' w' → Fr β s.heap w β' s'.heap w' → Qx .normal a' w') → wpOps P ops Qx l a w
  | [], [], _, _, Q, s, β, a, w, H, hr, hQ => hQ s β a w H hr (Fr.refl _ _ _)
  | k :: l, i :: is, hl, hall, Q, s, β, a, w, H, hr, hQ => by
    obtain ⟨o, ho, hc⟩ := hall 0 k i rfl rfl
    obtain ⟨g, v, h', hg, hsem, hh', _, hrest⟩ := step_sound hc H
    rw [wpOps_cons]
    refine wpOp_sound hc ho hg hsem hh' hr fun β' a' w' hr' hf => ?_
    exact wpOps_sound l is (by simpa using hl) (fun j k' i' h1 h2 => hall (j + 1) k' i' (by simpa using h1) (by simpa using h2)) hrest hr' fun s'' β'' a'' w'' hq hr'' hf' => hQ s'' β'' a'' w'' hq hr'' (hf.trans hf')
  | [], _ :: _, hl, _, _, _, _, _, _, _, _, _ => by simp at hl
  | _ :: _, [], hl, _, _, _, _, _, _, _, _, _ => by simp at hl

/-- A call of which only so much is told. -/
def nIns (x : Ins) : Ins := match x.op with
  | .call f a => { x with op := .calln f a }
  | _ => x
theorem nIns_out (x : Ins) : (nIns x).guard = x.guard ∧ (nIns x).dst = x.dst := by
  unfold nIns; split <;> exact ⟨rfl, rfl⟩

theorem step_n {P : Program} {γ : Nat → Option Nat} {N : Nat} {ops : Array Oper} {q : Bool} {o : Oper} {i : Ins} (hc : compIns P N ops q o = some i) {s : St} {r : List Ins} {Q : St → Prop} (H : WPI md P γ (nIns i :: r) Q s) :
    ∃ g Post, guardVal s.env i.guard = some g ∧ (g = true → OpSemN P γ o s.env s.heap Post) ∧ (g = true → ∀ v h', Post v h' → WPI md P γ r Q ⟨putE s.env i.dst g v, h'⟩) ∧ (g = false → ∃ v, WPI md P γ r Q ⟨putE s.env i.dst g v, s.heap⟩) := by
  have plain : nIns i = i → ∃ g Post, guardVal s.env i.guard = some g ∧ (g = true → OpSemN P γ o s.env s.heap Post) ∧ (g = true → ∀ v h', Post v h' → WPI md P γ r Q ⟨putE s.env i.dst g v, h'⟩) ∧ (g = false → ∃ v, WPI md P γ r Q ⟨putE s.env i.dst g v, s.heap⟩) := by
    intro he
    rw [he] at H
    obtain ⟨g, v, h', hg, hsem, hh', _, hrest⟩ := step_sound hc H
    refine ⟨g, fun u k => u = v ∧ k = h', hg, fun ht β a w h1 h2 K Q' hK => hsem ht β a w h1 h2 K Q' fun cv w' β' a1 a2 a3 => hK v h' cv w' β' ⟨rfl, rfl⟩ a1 a2 a3, fun _ u k ⟨e1, e2⟩ => by subst e1 e2; exact hrest, fun hf => ⟨v, ?_⟩⟩
    rcases hh' with h | h
    · rw [h] at hf; simp at hf
    · rw [h] at hrest; exact hrest
  cases hop : i.op with
  | call f l =>
    have hn : nIns i = { i with op := .calln f l } := by unfold nIns; rw [hop]
    obtain ⟨hop2, _⟩ := compIns_out hc
    rw [hop] at hop2
    have hcc : compileOp P o.op = some (.call f l) := by
      cases hq : compileOp P o.op with
      | none => rw [hq] at hop2; simp at hop2
      | some j => rw [hq] at hop2; simp at hop2; rw [hop2]
    obtain ⟨c, ho, hcomp⟩ := compileOp_inv hcc
    obtain ⟨fn, b, hce, hl, hf, hname, hb⟩ := compCall_inv hcomp
    rw [hn] at H
    simp only [WPI] at H
    split at H
    · exact H.elim
    · rename_i g hg
      unfold OpVC2 at H
      have he : (md || eff (.calln f l)) = true := by simp [eff]
      rw [he, sel_t] at H
      cases g with
      | true =>
        rw [sel_t] at H
        rw [hl] at H
        obtain ⟨Post, h1, h2⟩ := s_calln (by rw [ho, hce]) hf hname hb H
        exact ⟨true, Post, hg, fun _ => h1, fun _ v h' hp => (h2 v h' hp).2, fun h => by simp at h⟩
      | false =>
        rw [sel_f] at H
        exact ⟨false, fun _ _ => False, hg, fun h => by simp at h, fun h => by simp at h, fun _ => ⟨_, H.2⟩⟩
  | _ => exact plain (by unfold nIns; rw [hop])

theorem wpOp_n {P : Program} {γ : Nat → Option Nat} {N : Nat} {ops : Array Oper} {q : Bool} {o : Oper} {i : Ins} (hc : compIns P N ops q o = some i) {k : Nat} (hk : ops[k]? = some o) {s : St} {g : Bool} {Post : Value → AHeap → Prop}
    (hg : guardVal s.env i.guard = some g) (hsem : g = true → OpSemN P γ o s.env s.heap Post) {β : LMap} {a : Act} {w : World} (hr : Rel γ N β s a w) {Kx : Act → World → Prop} {Qx : Exit → Act → World → Prop}
    (hK : g = true → ∀ v h' β' a' w', Post v h' → Rel γ N β' ⟨putE s.env i.dst g v, h'⟩ a' w' → Fr β s.heap w β' h' w' → Kx a' w')
    (hF : g = false → ∀ v β' a' w', Rel γ N β' ⟨putE s.env i.dst g v, s.heap⟩ a' w' → Fr β s.heap w β' s.heap w' → Kx a' w') : wpOp P ops Qx k Kx a w := by
  cases g with
  | false => exact wpOp_sound (v := undef) (h' := s.heap) hc hk hg (fun h => by simp at h) (.inr rfl) hr fun β' a' w' => hF rfl undef β' a' w'
  | true =>
    obtain ⟨hop, hdst, _, hlt⟩ := compIns_out hc
    have hw := wanted_of hc (fun t _ _ => hr.env t) hg
    unfold wpOp
    rw [hk]
    simp only [hw, if_true]
    refine .inl (hsem rfl β a w hr.heap (fun x _ => hr.env.reads hr.heap x) _ _ fun v h' cv w' β' hp h1 h2 h3 => ?_)
    refine hK rfl v h' β' _ w' hp ⟨?_, h2, by rw [put_defers]; exact hr.defers, by rw [put_size]; exact hr.size⟩ h3
    rw [hdst]
    exact (hr.env.mono (h3.mono hr.heap)).put hr.size hlt (fun _ => h1) (fun h => by simp at h)

theorem wpOps_n {P : Program} {γ : Nat → Option Nat} {N : Nat} {ops : Array Oper} {q : Bool} {Qx : Exit → Act → World → Prop} : ∀ (l : List Nat) (is : List Ins), l.length = is.length →
    (∀ (j k : Nat) i, l[j]? = some k → is[j]? = some i → ∃ o x, ops[k]? = some o ∧ compIns P N ops q o = some x ∧ i = nIns x) → ∀ {Q : St → Prop} {s : St} {β : LMap} {a : Act} {w : World}, WPI md P γ is Q s → Rel γ N β s a w →
    (∀ s' β' a' w', Q s' → Rel γ N β' s' a' w' → Fr β s.heap w β' s'.heap w' → Qx .normal a' w') → wpOps P ops Qx l a w
  | [], [], _, _, Q, s, β, a, w, H, hr, hQ => hQ s β a w H hr (Fr.refl _ _ _)
  | k :: l, i :: is, hl, hall, Q, s, β, a, w, H, hr, hQ => by
    obtain ⟨o, x, ho, hc, rfl⟩ := hall 0 k i rfl rfl
    obtain ⟨g, Post, hg, hsem, ht, hf⟩ := step_n hc H
    rw [wpOps_cons]
    have more : ∀ v h' β' a' w', WPI md P γ is Q ⟨putE s.env x.dst g v, h'⟩ → Rel γ N β' ⟨putE s.env x.dst g v, h'⟩ a' w' → Fr β s.heap w β' h' w' → wpOps P ops Qx l a' w' := fun v h' β' a' w' hrest hr' hf =>
      wpOps_n l is (by simpa using hl) (fun j k' i' h1 h2 => hall (j + 1) k' i' (by simpa using h1) (by simpa using h2)) hrest hr' fun s'' β'' a'' w'' hq hr'' hf' => hQ s'' β'' a'' w'' hq hr'' (hf.trans hf')
    refine wpOp_n hc ho hg hsem hr (fun hgt v h' β' a' w' hp hr' hfr => more v h' β' a' w' (ht hgt v h' hp) hr' hfr) (fun hgf v β' a' w' hr' hfr => ?_)
    obtain ⟨v', hv'⟩ := hf hgf
    refine more v' s.heap β' a' w' hv' ⟨fun i g' u he => ?_, hr'.heap, hr'.defers, hr'.size⟩ hfr
    have := hr'.env i
    subst hgf
    cases hd : x.dst with
    | none => rw [hd] at this he; exact this g' u he
    | some d =>
      rw [hd] at this he
      simp only [putE, Env.get] at this he
      split at he
      · rename_i hid
        cases he
        rw [if_pos hid] at this
        exact ⟨fun h => by simp at h, (this false v rfl).2⟩
      · rename_i hid
        rw [if_neg hid] at this
        exact this g' u he
  | [], _ :: _, hl, _, _, _, _, _, _, _, _, _ => by simp at hl
  | _ :: _, [], hl, _, _, _, _, _, _, _, _, _ => by simp at hl

/-- What is known, less of it. -/
def Le (s0 s : St) : Prop := s.heap = s0.heap ∧ ∀ i x, s0.env.get i = some x → s.env.get i = some x
theorem Le.refl (s : St) : Le s s := ⟨rfl, fun _ _ h => h⟩
theorem Le.trans {a b c : St} (h : Le a b) (k : Le b c) : Le a c := ⟨k.1.trans h.1, fun i x hx => k.2 i x (h.2 i x hx)⟩
def LeE : Env → Env → Prop
  | [], _ => True
  | (i, some x) :: r, e => e.get i = some x ∧ LeE r e
  | (_, none) :: r, e => LeE r e
theorem LeE.out {e : Env} : ∀ {e0 : Env}, LeE e0 e → ∀ i x, e0.get i = some x → e.get i = some x
  | [], _, i, x, hx => by simp [Env.get] at hx
  | (j, some y) :: r, h, i, x, hx => by
    simp only [Env.get] at hx
    split at hx
    · rename_i hij; subst hij; cases hx; exact h.1
    · exact LeE.out h.2 i x hx
  | (j, none) :: r, h, i, x, hx => by
    simp only [Env.get] at hx
    split at hx
    · simp at hx
    · exact LeE.out (e0 := r) h i x hx
theorem Le.mk' {s0 s : St} (hh : s.heap = s0.heap) (he : LeE s0.env s.env) : Le s0 s := ⟨hh, LeE.out he⟩
theorem Rel.le {γ : Nat → Option Nat} {N : Nat} {β : LMap} {s0 s : St} {a : Act} {w : World} (h : Le s0 s) (hr : Rel γ N β s a w) : Rel γ N β s0 a w :=
  ⟨fun i g v he => hr.env i g v (h.2 i _ he), by rw [← h.1]; exact hr.heap, hr.defers, hr.size⟩

end Go.Vx
