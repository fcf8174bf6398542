/- A part of the proof: what it shows stands in its theorems. No condition beyond those that they name. -/
import Derived.Test.YtefjoeonilkdfaaVxK
namespace Go.Vx
variable {md : Bool}
set_option linter.unusedSimpArgs false
set_option linter.unusedVariables false

/-! Rows whose order is drawn: a quiet part in any order, then the rest in the order of the text. -/

def bindsAny (o : Oper) : List Nat := o.after.toList.filterMap fun e => if Region.binds .any e then some e.on else none

def maskOf (acc : List Nat) (l : List Nat) : Nat := l.foldl (fun s j => s ||| 2 ^ j ||| acc.getD j 0) 0

def masksGo : List Oper → List Nat → List Nat
  | [], acc => acc
  | o :: r, acc => masksGo r (acc ++ [maskOf acc (bindsAny o)])

def masks (ops : Array Oper) : List Nat := masksGo ops.toList []

def opTmps (o : Op) : List Tmp := o.operands.toList.filterMap fun x => match x with | .tmp t => some t | _ => none

def guardTmp (ops : Array Oper) (o : Oper) : Option Tmp :=
  match o.guard with
  | none => none
  | some (j, _) => (ops[j]?).bind (·.dst)

def namesOp (ops : Array Oper) (o : Oper) : List Tmp := opTmps o.op ++ (guardTmp ops o).toList

def ssaOk (ops : Array Oper) (M : List Nat) (m : Nat) : Bool :=
  (List.range m).all fun i => match (ops[i]?).bind (·.dst) with
    | none => true
    | some d => (List.range m).all fun j => match ops[j]? with
      | none => true
      | some o => i == j || (decide (o.dst ≠ some d) && (!(namesOp ops o).contains d || (decide (i < j) && (M.getD j 0).testBit i)))

def drawOk (ops : Array Oper) (m : Nat) : Bool :=
  let M := masks ops
  decide (m ≤ ops.size) &&
  ((List.range ops.size).all fun i => match ops[i]? with | none => true | some o => (bindsAny o).all (fun j => decide (j < i))) &&
  ((List.range ops.size).all fun i => decide (i < m) || (List.range i).all fun j => (M.getD i 0).testBit j) &&
  ssaOk ops M m

/-! What the masks say. -/

def Closed (ops : Array Oper) (S : Nat → Prop) : Prop := ∀ i o, ops[i]? = some o → S i → ∀ j ∈ bindsAny o, S j

theorem maskOf_bit {acc : List Nat} : ∀ {l : List Nat} {j : Nat}, (maskOf acc l).testBit j = true → j ∈ l ∨ ∃ k ∈ l, (acc.getD k 0).testBit j = true := by
  have key : ∀ (l : List Nat) (s j : Nat), (l.foldl (fun s j => s ||| 2 ^ j ||| acc.getD j 0) s).testBit j = true → s.testBit j = true ∨ j ∈ l ∨ ∃ k ∈ l, (acc.getD k 0).testBit j = true := by
    intro l
    induction l with
    | nil => intro s j h; exact .inl h
    | cons a r ih =>
      intro s j h
      rw [List.foldl_cons] at h
      rcases ih _ j h with h | h | ⟨k, hk, h⟩
      · rw [Nat.testBit_or, Nat.testBit_or, Bool.or_eq_true, Bool.or_eq_true] at h
        rcases h with (h | h) | h
        · exact .inl h
        · rw [Nat.testBit_two_pow] at h
          exact .inr (.inl (by simp at h; simp [h]))
        · exact .inr (.inr ⟨a, by simp, h⟩)
      · exact .inr (.inl (by simp [h]))
      · exact .inr (.inr ⟨k, by simp [hk], h⟩)
  intro l j h
  rcases key l 0 j h with h | h
  · simp at h
  · exact h

theorem masksGo_sound {ops : Array Oper} {S : Nat → Prop} (hS : Closed ops S) : ∀ (l : List Oper) (acc : List Nat), ops.toList.drop acc.length = l → acc.length + l.length = ops.size →
    (∀ (i : Nat) o, ops[i]? = some o → i < acc.length → (∀ j ∈ bindsAny o, S j) → ∀ j, (acc.getD i 0).testBit j = true → S j) →
    ∀ (i : Nat) o, ops[i]? = some o → (∀ j ∈ bindsAny o, S j) → ∀ j, ((masksGo l acc).getD i 0).testBit j = true → S j
  | [], acc, hd, hl, H, i, o, ho, hb, j, hj => H i o ho (by have := (Array.getElem?_eq_some_iff.1 ho).1; simp at hl; omega) hb j hj
  | o' :: r, acc, hd, hl, H, i, o, ho, hb, j, hj => by
    refine masksGo_sound hS r (acc ++ [maskOf acc (bindsAny o')]) ?_ ?_ ?_ i o ho hb j hj
    · rw [List.length_append, List.length_singleton, ← List.drop_drop, hd]; rfl
    · simp at hl ⊢; omega
    · intro i o ho hi hb j hj
      simp at hi
      by_cases hlt : i < acc.length
      · rw [List.getD_eq_getElem?_getD, List.getElem?_append_left hlt, ← List.getD_eq_getElem?_getD] at hj
        exact H i o ho hlt hb j hj
      · have hie : i = acc.length := by omega
        subst hie
        have hoo : o = o' := by
          have h1 : (ops.toList.drop acc.length)[0]? = some o' := by rw [hd]; rfl
          rw [List.getElem?_drop] at h1
          simp at h1
          rw [ho] at h1; simpa using h1
        subst hoo
        rw [List.getD_eq_getElem?_getD, List.getElem?_append_right (Nat.le_refl _)] at hj
        simp at hj
        rcases maskOf_bit hj with h | ⟨k, hk, h⟩
        · exact hb j h
        · -- the way through k
          have hkS := hb k hk
          by_cases hka : k < acc.length
          · have hks : k < ops.size := by simp at hl; omega
            exact H k _ (Array.getElem?_eq_getElem hks) hka (hS k _ (Array.getElem?_eq_getElem hks) hkS) j h
          · rw [List.getD_eq_getElem?_getD, List.getElem?_eq_none (by omega)] at h; simp at h

theorem masks_sound {ops : Array Oper} {S : Nat → Prop} (hS : Closed ops S) {i : Nat} {o : Oper} (ho : ops[i]? = some o) (hb : ∀ j ∈ bindsAny o, S j) {j : Nat} (hj : ((masks ops).getD i 0).testBit j = true) : S j :=
  masksGo_sound hS ops.toList [] rfl (by simp) (fun i o ho hi => by simp at hi) i o ho hb j hj


structure DrawOk (ops : Array Oper) (m : Nat) : Prop where
  le : m ≤ ops.size
  back : ∀ (i : Nat) o, ops[i]? = some o → ∀ j ∈ bindsAny o, j < i
  tail : ∀ i, m ≤ i → i < ops.size → ∀ j, j < i → ((masks ops).getD i 0).testBit j = true
  ssa : ∀ i, i < m → ∀ oi d, ops[i]? = some oi → oi.dst = some d → ∀ j, j < m → j ≠ i → ∀ o, ops[j]? = some o → o.dst ≠ some d ∧ (d ∈ namesOp ops o → i < j ∧ ((masks ops).getD j 0).testBit i = true)

theorem drawOk_out {ops : Array Oper} {m : Nat} (h : drawOk ops m = true) : DrawOk ops m := by
  simp only [drawOk, Bool.and_eq_true, decide_eq_true_eq, List.all_eq_true, List.mem_range] at h
  obtain ⟨⟨⟨h1, h2⟩, h3⟩, h4⟩ := h
  refine ⟨h1, fun i o ho j hj => ?_, fun i hi hn j hj => ?_, fun i hi oi d ho hd j hj hne o hoj => ?_⟩
  · have := h2 i (Array.getElem?_eq_some_iff.1 ho).1
    rw [ho] at this
    simp only [List.all_eq_true, decide_eq_true_eq] at this
    exact this j hj
  · have := h3 i hn
    simp only [Bool.or_eq_true, decide_eq_true_eq, List.all_eq_true, List.mem_range] at this
    exact (this.resolve_left (by omega)) j hj
  · simp only [ssaOk, List.all_eq_true, List.mem_range] at h4
    have := h4 i hi
    simp only [ho, Option.bind_some, hd, List.all_eq_true, List.mem_range] at this
    have := this j hj
    simp only [hoj, Bool.or_eq_true, beq_iff_eq, Bool.and_eq_true, decide_eq_true_eq, Bool.not_eq_true', List.contains_eq_mem] at this
    rcases this with h | ⟨h5, h6⟩
    · exact absurd h.symm hne
    · refine ⟨h5, fun hm => ?_⟩
      rcases h6 with h6 | h6
      · simp [hm] at h6
      · exact h6

/-- The quiet part, once in the order of the text. -/
structure Chain (P : Program) (γ : Nat → Option Nat) (N : Nat) (ops : Array Oper) (is : List Ins) (m : Nat) (env0 : Env) (h0 : AHeap) (gs : Nat → Bool) (vs : Nat → Value) (hs : Nat → AHeap) (es : Nat → Env) : Prop where
  e0 : es 0 = env0
  z0 : hs 0 = h0
  step : ∀ i, i < m → ∃ o x, ops[i]? = some o ∧ is[i]? = some x ∧ compIns P N ops true o = some x ∧ guardVal (es i) x.guard = some (gs i) ∧ (gs i = true → OpSem P γ o (es i) (hs i) (vs i) (hs (i + 1))) ∧
    (gs i = true ∨ hs (i + 1) = hs i) ∧ Quiet (hs i) (hs (i + 1)) ∧ es (i + 1) = putE (es i) o.dst (gs i) (vs i)

theorem chain_exists {P : Program} {γ : Nat → Option Nat} {N : Nat} {ops : Array Oper} {is : List Ins} {Q : St → Prop} {s : St} (H : WPI md P γ is Q s) (m : Nat)
    (hm : ∀ i, i < m → ∃ o x, ops[i]? = some o ∧ is[i]? = some x ∧ compIns P N ops true o = some x) :
    ∃ gs vs hs es, Chain P γ N ops is m s.env s.heap gs vs hs es ∧ WPI md P γ (is.drop m) Q ⟨es m, hs m⟩ := by
  induction m with
  | zero => exact ⟨fun _ => true, fun _ => undef, fun _ => s.heap, fun _ => s.env, ⟨rfl, rfl, fun i hi => by omega⟩, by simpa using H⟩
  | succ m ih =>
    obtain ⟨gs, vs, hs, es, hc, hw⟩ := ih (fun i hi => hm i (by omega))
    obtain ⟨o, x, ho, hx, hcomp⟩ := hm m (by omega)
    have hlt := (List.getElem?_eq_some_iff.1 hx).1
    have hdrop : is.drop m = x :: is.drop (m + 1) := by
      rw [List.drop_eq_getElem_cons hlt, (List.getElem?_eq_some_iff.1 hx).2]
    rw [hdrop] at hw
    obtain ⟨g, v, h', hg, hsem, hh', hq, hrest⟩ := step_sound hcomp hw
    obtain ⟨_, hdst, hxq, _⟩ := compIns_out hcomp
    refine ⟨fun i => if i = m then g else gs i, fun i => if i = m then v else vs i, fun i => if i = m + 1 then h' else hs i, fun i => if i = m + 1 then putE (es m) x.dst g v else es i, ⟨by simp [hc.e0], by simp [hc.z0], fun i hi => ?_⟩, by simpa using hrest⟩
    by_cases him : i = m
    · subst him
      refine ⟨o, x, ho, hx, hcomp, ?_, ?_, ?_, ?_, ?_⟩
      · simp; exact hg
      · simpa using hsem
      · simpa using hh'
      · simpa using hq hxq
      · simp [hdst]
    · obtain ⟨o, x, q1, q2, q3, q4, q5, q6, q7, q8⟩ := hc.step i (by omega)
      refine ⟨o, x, q1, q2, q3, ?_, ?_, ?_, ?_, ?_⟩
      · simpa [him, show i ≠ m + 1 by omega] using q4
      · simpa [him, show i ≠ m + 1 by omega] using q5
      · simpa [him, show i ≠ m + 1 by omega] using q6
      · simpa [him, show i ≠ m + 1 by omega] using q7
      · simpa [him, show i ≠ m + 1 by omega] using q8

def LMap.cut (β : LMap) (n : Nat) : LMap := fun id => if id < n then β id else none

theorem LMap.cut_some {β : LMap} {n id : Nat} {L : Loc} : LMap.cut β n id = some L ↔ id < n ∧ β id = some L := by
  unfold LMap.cut
  by_cases h : id < n <;> simp [h]

section
variable {P : Program} {γ : Nat → Option Nat} {N : Nat} {ops : Array Oper} {is : List Ins} {m : Nat} {env0 : Env} {h0 : AHeap} {gs : Nat → Bool} {vs : Nat → Value} {hs : Nat → AHeap} {es : Nat → Env}

theorem Chain.len (C : Chain P γ N ops is m env0 h0 gs vs hs es) : ∀ {i k : Nat}, i ≤ k → k ≤ m → ∃ t : AHeap, hs k = hs i ++ t ∧ ∀ ob ∈ t, ob.own = true := by
  intro i k hik
  induction k with
  | zero =>
    intro _
    have : i = 0 := by omega
    subst this
    exact ⟨[], by simp, by simp⟩
  | succ k ih =>
    intro hk
    by_cases hi : i = k + 1
    · subst hi; exact ⟨[], by simp, by simp⟩
    · obtain ⟨t, h1, h2⟩ := ih (by omega) (by omega)
      obtain ⟨o, x, _, _, _, _, _, _, ⟨t', h3, h4⟩, _⟩ := C.step k (by omega)
      refine ⟨t ++ t', by rw [h3, h1, List.append_assoc], fun ob hob => ?_⟩
      rcases List.mem_append.1 hob with h | h
      · exact h2 ob h
      · exact h4 ob h

theorem Chain.le (C : Chain P γ N ops is m env0 h0 gs vs hs es) {i k : Nat} (hik : i ≤ k) (hk : k ≤ m) : (hs i).length ≤ (hs k).length := by
  obtain ⟨t, h, _⟩ := C.len hik hk
  rw [h]; simp

theorem Chain.get (C : Chain P γ N ops is m env0 h0 gs vs hs es) {i k id : Nat} (hik : i ≤ k) (hk : k ≤ m) (hid : id < (hs i).length) : (hs k)[id]? = (hs i)[id]? := by
  obtain ⟨t, h, _⟩ := C.len hik hk
  rw [h, List.getElem?_append_left hid]

theorem Chain.newOwn (C : Chain P γ N ops is m env0 h0 gs vs hs es) {i k id : Nat} (hik : i ≤ k) (hk : k ≤ m) (hid : (hs i).length ≤ id) {ob : AObj} (ho : (hs k)[id]? = some ob) : ob.own = true := by
  obtain ⟨t, h, h2⟩ := C.len hik hk
  rw [h, List.getElem?_append_right hid] at ho
  exact h2 ob (List.mem_of_getElem? ho)

/-- A slot that is written once, when it is read. -/
theorem Chain.slot (D : DrawOk ops m) (C : Chain P γ N ops is m env0 h0 gs vs hs es) {i t : Nat} {o : Oper} (hi : i < m) (ho : ops[i]? = some o) (hd : o.dst = some t) : ∀ {k : Nat}, i < k → k ≤ m → (es k).get t = some (gs i, vs i) := by
  intro k hik
  induction k with
  | zero => omega
  | succ k ih =>
    intro hk
    obtain ⟨o', x, ho', _, _, _, _, _, _, he⟩ := C.step k (by omega)
    rw [he]
    by_cases hik2 : i = k
    · subst hik2
      rw [ho] at ho'; cases ho'
      simp [putE, hd, Env.get]
    · have hne := (D.ssa i hi o t ho hd k (by omega) (Ne.symm hik2) o' ho').1
      have := ih (by omega) (by omega)
      cases hdo : o'.dst with
      | none => simpa [putE] using this
      | some d =>
        have hdt : t ≠ d := fun e => hne (by rw [hdo, e])
        simp [putE, Env.get, hdt, this]

theorem Chain.slot0 (C : Chain P γ N ops is m env0 h0 gs vs hs es) {t : Nat} : ∀ {k : Nat}, k ≤ m → (∀ i o, i < k → ops[i]? = some o → o.dst ≠ some t) → (es k).get t = env0.get t := by
  intro k
  induction k with
  | zero => intro _ _; rw [C.e0]
  | succ k ih =>
    intro hk hn
    obtain ⟨o', x, ho', _, _, _, _, _, _, he⟩ := C.step k (by omega)
    rw [he]
    have := ih (by omega) (fun i o hi => hn i o (by omega))
    have hne := hn k o' (by omega) ho'
    cases hdo : o'.dst with
    | none => simpa [putE] using this
    | some d =>
      have hdt : t ≠ d := fun e => hne (by rw [hdo, e])
      simp [putE, Env.get, hdt, this]

/-- What holds when just the operations S of the quiet part have been carried out. -/
structure Part (P : Program) (γ : Nat → Option Nat) (N : Nat) (ops : Array Oper) (m : Nat) (env0 : Env) (gs : Nat → Bool) (vs : Nat → Value) (hs : Nat → AHeap) (β0 : LMap) (w0 : World) (S : Nat → Prop) (β : LMap) (a : Act) (w : World) : Prop where
  defers : a.defers = []
  size : a.tmps.size = N
  heap : ∀ k, k ≤ m → HRel γ (LMap.cut β (hs k).length) (hs k) w
  dom : ∀ id L, β id = some L → id < (hs 0).length ∨ ∃ i, i < m ∧ S i ∧ (hs i).length ≤ id ∧ id < (hs (i + 1)).length
  env : ∀ t, (∀ i o, i < m → ops[i]? = some o → o.dst ≠ some t) → SlotRel (LMap.cut β (hs 0).length) env0 a t
  env' : ∀ t i o, i < m → ops[i]? = some o → o.dst = some t → ¬ S i → SlotRel (LMap.cut β (hs 0).length) env0 a t
  done : ∀ i o t, i < m → S i → ops[i]? = some o → o.dst = some t → (gs i = true → VRel (LMap.cut β (hs (i + 1)).length) (vs i) (a.tmps.getD t undef)) ∧ (gs i = false → a.tmps.getD t undef = undef)
  fr : Fr β0 (hs 0) w0 β (hs m) w


theorem cut_mono {β : LMap} {a b : Nat} (h : a ≤ b) : ∀ id L, LMap.cut β a id = some L → LMap.cut β b id = some L := by
  intro id L hl
  rw [LMap.cut_some] at hl ⊢
  exact ⟨by omega, hl.2⟩

theorem Part.slot (D : DrawOk ops m) (C : Chain P γ N ops is m env0 h0 gs vs hs es) {β0 : LMap} {w0 : World} {S : Nat → Prop} {β : LMap} {a : Act} {w : World} (p : Part P γ N ops m env0 gs vs hs β0 w0 S β a w) (hcl : Closed ops S)
    {j : Nat} {o : Oper} (hj : j < m) (ho : ops[j]? = some o) (hnS : ¬ S j) (hb : ∀ k ∈ bindsAny o, S k) {t : Nat} (ht : t ∈ namesOp ops o) : SlotRel (LMap.cut β (hs j).length) (es j) a t := by
  have mono0 : ∀ id L, LMap.cut β (hs 0).length id = some L → LMap.cut β (hs j).length id = some L := cut_mono (C.le (Nat.zero_le _) (by omega))
  by_cases hex : ∃ i oi, i < m ∧ ops[i]? = some oi ∧ oi.dst = some t
  · obtain ⟨i, oi, him, hoi, hdi⟩ := hex
    by_cases hij : i = j
    · subst hij
      rw [ho] at hoi; cases hoi
      intro g v he
      rw [C.slot0 (by omega) (fun k ok hk hok hdk => (D.ssa i him o t ho hdi k (by omega) (by omega) ok hok).1 hdk)] at he
      obtain ⟨h1, h2⟩ := p.env' t i o him ho hdi hnS g v he
      exact ⟨fun hg => (h1 hg).mono mono0, h2⟩
    · obtain ⟨_, h2⟩ := D.ssa i him oi t hoi hdi j hj (Ne.symm hij) o ho
      obtain ⟨hlt, hbit⟩ := h2 ht
      have hSi := masks_sound hcl ho hb hbit
      intro g v he
      rw [C.slot D him hoi hdi hlt (by omega)] at he
      cases he
      obtain ⟨h3, h4⟩ := p.done i oi t him hSi hoi hdi
      exact ⟨fun hg => (h3 hg).mono (cut_mono (C.le (by omega) (by omega))), h4⟩
  · have hno : ∀ i oi, i < m → ops[i]? = some oi → oi.dst ≠ some t := fun i oi h1 h2 h3 => hex ⟨i, oi, h1, h2, h3⟩
    intro g v he
    rw [C.slot0 (by omega) (fun k ok hk => hno k ok (by omega))] at he
    obtain ⟨h1, h2⟩ := p.env t hno g v he
    exact ⟨fun hg => (h1 hg).mono mono0, h2⟩

theorem Part.step (D : DrawOk ops m) (C : Chain P γ N ops is m env0 h0 gs vs hs es) {β0 : LMap} {w0 : World} {S : Nat → Prop} {β : LMap} {a : Act} {w : World} (p : Part P γ N ops m env0 gs vs hs β0 w0 S β a w) (hcl : Closed ops S)
    {j : Nat} {o : Oper} (hj : j < m) (ho : ops[j]? = some o) (hnS : ¬ S j) (hb : ∀ k ∈ bindsAny o, S k) {Kx : Act → World → Prop} {Qx : Exit → Act → World → Prop}
    (hK : ∀ β' a' w', Part P γ N ops m env0 gs vs hs β0 w0 (fun i => S i ∨ i = j) β' a' w' → Kx a' w') : wpOp P ops Qx j Kx a w := by
  obtain ⟨o', x, ho', hx, hcomp, hguard, hsem, hh', hquiet, hes⟩ := C.step j hj
  rw [ho] at ho'; cases ho'
  obtain ⟨hop, hdst, _, hlt⟩ := compIns_out hcomp
  have hHj := p.heap j (by omega)
  have hw := wanted_of (P := P) hcomp (fun t want hgd => Part.slot D C p hcl hj ho hnS hb (by
    simp only [namesOp, List.mem_append]
    right
    unfold compIns at hcomp
    split at hcomp
    · unfold guardTmp
      split at hcomp
      · simp at hcomp; rw [← hcomp] at hgd; simp at hgd
      · rename_i jj want' hg'
        split at hcomp
        · rename_i t' ht'
          simp at hcomp; rw [← hcomp] at hgd
          simp at hgd
          simp [hg', ht', hgd.1]
        · simp at hcomp
    · simp at hcomp)) hguard
  have hlen : (hs j).length ≤ (hs (j + 1)).length := C.le (by omega) (by omega)
  unfold wpOp
  rw [ho]
  simp only [hw]
  cases hg : gs j with
  | false =>
    simp only [Bool.false_eq_true, if_false]
    rw [hg] at hh'
    have hsame : hs (j + 1) = hs j := hh'.resolve_left (by simp)
    refine hK β _ w ⟨by rw [put_defers]; exact p.defers, by rw [put_size]; exact p.size, p.heap, fun id L hl => ?_, fun t hno => ?_, fun t i oi him hoi hdi hns => ?_, fun i oi t him hSi hoi hdi => ?_, p.fr⟩
    · rcases p.dom id L hl with h | ⟨i, h1, h2, h3, h4⟩
      · exact .inl h
      · exact .inr ⟨i, h1, .inl h2, h3, h4⟩
    · intro g v he
      rw [getD_put, if_neg (fun hq => hno j o hj ho hq.1)]
      exact p.env t hno g v he
    · have hne : i ≠ j := fun e => hns (.inr e)
      intro g v he
      rw [getD_put, if_neg (fun hq => (D.ssa i him oi t hoi hdi j hj (Ne.symm hne) o ho).1 hq.1)]
      exact p.env' t i oi him hoi hdi (fun h => hns (.inl h)) g v he
    · by_cases hij : i = j
      · subst hij
        rw [ho] at hoi; cases hoi
        have := hlt t hdi
        rw [getD_put, if_pos ⟨hdi, by rw [p.size]; exact this⟩, hg]
        exact ⟨fun h => by simp at h, fun _ => rfl⟩
      · rw [getD_put, if_neg (fun hq => (D.ssa i him oi t hoi hdi j hj (Ne.symm hij) o ho).1 hq.1)]
        exact p.done i oi t him (hSi.resolve_right hij) hoi hdi
  | true =>
    simp only [if_true]
    refine .inl (hsem hg (LMap.cut β (hs j).length) a w hHj (fun y hy => ?_) _ _ fun cv w' β' hv hH' hf => ?_)
    · -- what is read
      intro g v he hgt
      cases y with
      | tmp t => exact (Part.slot D C p hcl hj ho hnS hb (by simp only [namesOp, List.mem_append]; left; simp only [opTmps, List.mem_filterMap]; exact ⟨.tmp t, hy, rfl⟩) g v he).1 hgt
      | const c =>
        have := (EnvRel.reads (γ := γ) (a := a) (env := []) (fun i g v h => by simp [Env.get] at h) hHj (.const c)) g v (by simpa [ev] using he) hgt
        exact this
      | global k => exact (EnvRel.reads (γ := γ) (a := a) (env := []) (fun i g v h => by simp [Env.get] at h) hHj (.global k)) g v (by simpa [ev] using he) hgt
      | func f => exact (EnvRel.reads (γ := γ) (a := a) (env := []) (fun i g v h => by simp [Env.get] at h) hHj (.func f)) g v (by simpa [ev] using he) hgt
    · -- what comes of it
      obtain ⟨β2, hβ2⟩ : ∃ β2 : LMap, β2 = fun id => if id < (hs (j + 1)).length then β' id else β id := ⟨_, rfl⟩
      have hext : ∀ id, id < (hs j).length → β' id = β id := by
        intro id hid; rw [hf.ext id hid]; unfold LMap.cut; rw [if_pos hid]
      have hnone : ∀ id L, β id = some L → (hs j).length ≤ id → (hs (j + 1)).length ≤ id := by
        intro id L hl hle
        rcases Nat.lt_or_ge id (hs (j + 1)).length with h | h
        · exfalso
          rcases p.dom id L hl with h0 | ⟨i, h1, h2, h3, h4⟩
          · have := C.le (i := 0) (k := j) (by omega) (by omega); omega
          · have hij : i ≠ j := fun e => hnS (e ▸ h2)
            rcases Nat.lt_or_gt_of_ne hij with hq | hq
            · have := C.le (i := i + 1) (k := j) (by omega) (by omega); omega
            · have := C.le (i := j + 1) (k := i) (by omega) (by omega); omega
        · exact h
      have hsub : ∀ id L, β id = some L → β2 id = some L := by
        intro id L hl
        simp only [hβ2]
        by_cases hq : id < (hs j).length
        · rw [if_pos (by omega), hext id hq]; exact hl
        · have := hnone id L hl (by omega)
          rw [if_neg (by omega)]; exact hl
      have hblk : ∀ id L ob, β id = some L → (hs j).length ≤ id → (hs m)[id]? = some ob → ob.live = true → ob.real → w'.heap[L.blk]? = w.heap[L.blk]? := by
        intro id L ob hl hle hob hlive hreal
        have hHm := p.heap m (by omega)
        have hidm : id < (hs m).length := (List.getElem?_eq_some_iff.1 hob).1
        have hcl' : LMap.cut β (hs m).length id = some L := LMap.cut_some.2 ⟨hidm, hl⟩
        refine hf.keep L.blk ((hHm.live _ _ _ hob hlive hcl').lt hreal) ?_
        rintro ⟨id2, ob2, L2, h1, h2, h3, h4, h5⟩
        rw [LMap.cut_some] at h4
        have h1' : (hs m)[id2]? = some ob2 := by rw [C.get (by omega) (by omega) h4.1]; exact h1
        have hid2 : id2 < (hs m).length := (List.getElem?_eq_some_iff.1 h1').1
        exact hHm.sep id2 id ob2 ob L2 L h1' hob h2 hlive h3 hreal (by omega) (LMap.cut_some.2 ⟨hid2, h4.2⟩) hcl' h5
      have hsize := hf.size
      refine hK β2 _ w' ⟨by rw [put_defers]; exact p.defers, by rw [put_size]; exact p.size, fun k hk => ?_, fun id L hl => ?_, fun t hno => ?_, fun t i oi him hoi hdi hns => ?_, fun i oi t him hSi hoi hdi => ?_, ?_⟩
      · -- the memory
        have hHk := p.heap k hk
        by_cases hkj : k ≤ j
        · have hlk := C.le hkj (by omega : j ≤ m)
          have hcut : ∀ id, LMap.cut β2 (hs k).length id = LMap.cut β (hs k).length id := by
            intro id
            unfold LMap.cut
            by_cases hq : id < (hs k).length
            · rw [if_pos hq, if_pos hq]; simp only [hβ2]; rw [if_pos (by omega), hext id (by omega)]
            · rw [if_neg hq, if_neg hq]
          have hcut' : LMap.cut β2 (hs k).length = LMap.cut β (hs k).length := funext hcut
          rw [hcut']
          refine ⟨hHk.dom, fun id ob L hob hlive hl => ?_, hHk.sep, hHk.glob⟩
          have hl' := LMap.cut_some.1 hl
          have hob' : (hs (j + 1))[id]? = some ob := by rw [C.get (by omega) (by omega) hl'.1]; exact hob
          obtain ⟨s1, e1, hat1⟩ := hH'.live id ob L hob' hlive (by rw [hext id (by omega)]; exact hl'.2)
          obtain ⟨_, _, hat2⟩ := hHk.live id ob L hob hlive hl
          refine ⟨s1, e1, fun hreal => ?_⟩
          obtain ⟨c, e, fz, q1, q2, q3, q4⟩ := hat1 hreal
          obtain ⟨c', _, _, r1, r2, r3, r4⟩ := hat2 hreal
          refine ⟨c, e, fz, q1, q2, q3, fun i v hi => ?_⟩
          obtain ⟨cv1, t1, t2⟩ := q4 i v hi
          obtain ⟨cv2, t3, t4⟩ := r4 i v hi
          exact ⟨cv1, t1, t2.agree t4 fun id' L1 L2 hh1 hh2 => by
            have := LMap.cut_some.1 hh1
            rw [hext id' (by omega), this.2] at hh2
            cases hh2; exact hh1⟩
        · have hlk := C.le (by omega : j + 1 ≤ k) hk
          have hin : ∀ id L, LMap.cut β (hs k).length id = some L → LMap.cut β2 (hs k).length id = some L := fun id L hl => by
            rw [LMap.cut_some] at hl ⊢; exact ⟨hl.1, hsub _ _ hl.2⟩
          have hin' : ∀ id L, β' id = some L → LMap.cut β2 (hs k).length id = some L := fun id L hl => by
            have := hH'.dom id L hl
            rw [LMap.cut_some]; exact ⟨by omega, by simp only [hβ2]; rw [if_pos this]; exact hl⟩
          refine ⟨fun id L hl => ?_, fun id ob L hob hlive hl => ?_, fun i1 i2 o1 o2 L1 L2 ho1 ho2 l1 l2 own1 real2 hne hl1 hl2 => ?_, fun g id hgl => ?_⟩
          · rw [LMap.cut_some] at hl
            exact hl.1
          · rw [LMap.cut_some] at hl
            obtain ⟨hlk2, hl⟩ := hl
            simp only [hβ2] at hl
            split at hl
            · rename_i hq
              have hob' : (hs (j + 1))[id]? = some ob := by rw [← C.get (by omega : j + 1 ≤ k) hk hq]; exact hob
              exact (hH'.live id ob L hob' hlive hl).lift (fun _ => rfl) hin'
            · rename_i hq
              have hobm : (hs m)[id]? = some ob := by rw [C.get hk (Nat.le_refl _) hlk2]; exact hob
              exact (hHk.live id ob L hob hlive (LMap.cut_some.2 ⟨hlk2, hl⟩)).lift (fun hreal => hblk id L ob hl (by omega) hobm hlive hreal) hin
          · rw [LMap.cut_some] at hl1 hl2
            obtain ⟨hk1, hl1⟩ := hl1
            obtain ⟨hk2, hl2⟩ := hl2
            simp only [hβ2] at hl1 hl2
            -- a block of one's own behind the step is not one of those behind it
            have cross : ∀ (p1 p2 : Nat) (q1 q2 : AObj) (M1 M2 : Loc), (hs (j + 1))[p1]? = some q1 → (hs k)[p2]? = some q2 → q1.live = true → q2.live = true → q1.own = true → q2.real → β' p1 = some M1 → β p2 = some M2 → (hs (j + 1)).length ≤ p2 → p2 < (hs k).length → M1.blk ≠ M2.blk := by
              intro p1 p2 q1 q2 M1 M2 a1 a2 a3 a4 a5 ar a6 a7 a8 a9 heq
              have hown := hf.own M1.blk ⟨p1, q1, M1, a1, a3, a5, a6, rfl⟩
              rcases hown with ⟨id3, ob3, L3, b1, b2, b3, b4, b5⟩ | hfresh
              · rw [LMap.cut_some] at b4
                have b1' : (hs k)[id3]? = some ob3 := by rw [C.get (by omega : j ≤ k) hk b4.1]; exact b1
                exact hHk.sep id3 p2 ob3 q2 L3 M2 b1' a2 b2 a4 b3 ar (by omega) (LMap.cut_some.2 ⟨by omega, b4.2⟩) (LMap.cut_some.2 ⟨a9, a7⟩) (b5.trans heq)
              · have := (hHk.live p2 q2 M2 a2 a4 (LMap.cut_some.2 ⟨a9, a7⟩)).lt ar; omega
            split at hl1
            · rename_i hq1
              have ho1' : (hs (j + 1))[i1]? = some o1 := by rw [← C.get (by omega : j + 1 ≤ k) hk hq1]; exact ho1
              split at hl2
              · rename_i hq2
                have ho2' : (hs (j + 1))[i2]? = some o2 := by rw [← C.get (by omega : j + 1 ≤ k) hk hq2]; exact ho2
                exact hH'.sep i1 i2 o1 o2 L1 L2 ho1' ho2' l1 l2 own1 real2 hne hl1 hl2
              · exact cross i1 i2 o1 o2 L1 L2 ho1' ho2 l1 l2 own1 real2 hl1 hl2 (by omega) hk2
            · split at hl2
              · rename_i hq2
                have ho2' : (hs (j + 1))[i2]? = some o2 := by rw [← C.get (by omega : j + 1 ≤ k) hk hq2]; exact ho2
                by_cases hnew : i2 < (hs j).length
                · rw [hext i2 hnew] at hl2
                  exact hHk.sep i1 i2 o1 o2 L1 L2 ho1 ho2 l1 l2 own1 real2 hne (LMap.cut_some.2 ⟨hk1, hl1⟩) (LMap.cut_some.2 ⟨hk2, hl2⟩)
                · have hown2 := C.newOwn (i := j) (k := j + 1) (by omega) (by omega) (by omega) ho2'
                  exact Ne.symm (cross i2 i1 o2 o1 L2 L1 ho2' ho1 l2 l1 hown2 (.inl own1) hl2 hl1 (by omega) hk1)
              · exact hHk.sep i1 i2 o1 o2 L1 L2 ho1 ho2 l1 l2 own1 real2 hne (LMap.cut_some.2 ⟨hk1, hl1⟩) (LMap.cut_some.2 ⟨hk2, hl2⟩)
          · obtain ⟨L, g1, g2, g3⟩ := hHk.glob g id hgl
            exact ⟨L, hin _ _ g1, g2, g3⟩
      · simp only [hβ2] at hl
        split at hl
        · rename_i hq
          by_cases hq2 : id < (hs j).length
          · rw [hext id hq2] at hl
            rcases p.dom id L hl with h | ⟨i, h1, h2, h3, h4⟩
            · exact .inl h
            · exact .inr ⟨i, h1, .inl h2, h3, h4⟩
          · exact .inr ⟨j, hj, .inr rfl, by omega, hq⟩
        · rcases p.dom id L hl with h | ⟨i, h1, h2, h3, h4⟩
          · exact .inl h
          · exact .inr ⟨i, h1, .inl h2, h3, h4⟩
      · intro g v he
        rw [getD_put, if_neg (fun hq => hno j o hj ho hq.1)]
        obtain ⟨h1, h2⟩ := p.env t hno g v he
        refine ⟨fun hgt => (h1 hgt).mono fun id L hl => ?_, h2⟩
        rw [LMap.cut_some] at hl ⊢; exact ⟨hl.1, hsub _ _ hl.2⟩
      · have hne : i ≠ j := fun e => hns (.inr e)
        intro g v he
        rw [getD_put, if_neg (fun hq => (D.ssa i him oi t hoi hdi j hj (Ne.symm hne) o ho).1 hq.1)]
        obtain ⟨h1, h2⟩ := p.env' t i oi him hoi hdi (fun h => hns (.inl h)) g v he
        refine ⟨fun hgt => (h1 hgt).mono fun id L hl => ?_, h2⟩
        rw [LMap.cut_some] at hl ⊢; exact ⟨hl.1, hsub _ _ hl.2⟩
      · by_cases hij : i = j
        · subst hij
          rw [ho] at hoi; cases hoi
          have := hlt t hdi
          rw [getD_put, if_pos ⟨hdi, by rw [p.size]; exact this⟩, hg]
          refine ⟨fun _ => hv.mono fun id L hl => ?_, fun h => by simp at h⟩
          have hd := hH'.dom id L hl
          rw [LMap.cut_some]
          exact ⟨hd, by simp only [hβ2]; rw [if_pos hd]; exact hl⟩
        · rw [getD_put, if_neg (fun hq => (D.ssa i him oi t hoi hdi j hj (Ne.symm hij) o ho).1 hq.1)]
          obtain ⟨h1, h2⟩ := p.done i oi t him (hSi.resolve_right hij) hoi hdi
          refine ⟨fun hgt => (h1 hgt).mono fun id L hl => ?_, h2⟩
          rw [LMap.cut_some] at hl ⊢; exact ⟨hl.1, hsub _ _ hl.2⟩
      · -- the frame
        have fr := p.fr
        have hown0 : ∀ b, Owned (LMap.cut β (hs j).length) (hs j) b → Owned β (hs m) b := by
          rintro b ⟨id, ob, L, h1, h2, h3, h4, h5⟩
          rw [LMap.cut_some] at h4
          exact ⟨id, ob, L, by rw [C.get (by omega) (by omega) h4.1]; exact h1, h2, h3, h4.2, h5⟩
        refine ⟨hf.os.trans fr.os, hf.tape.trans fr.tape, hf.output.trans fr.output, Nat.le_trans fr.size hsize, fr.len, fun id hid => ?_, fun b hb hno => ?_, ?_⟩
        · have := C.le (i := 0) (k := j) (by omega) (by omega)
          simp only [hβ2]
          rw [if_pos (by omega), hext id (by omega)]
          exact fr.ext id hid
        · rw [hf.keep b (by have := fr.size; omega) (fun ho => ?_), fr.keep b hb hno]
          rcases fr.own b (hown0 b ho) with h | h
          · exact hno h
          · omega
        · rintro b ⟨id, ob, L, h1, h2, h3, h4, h5⟩
          simp only [hβ2] at h4
          split at h4
          · rename_i hq
            have h1' : (hs (j + 1))[id]? = some ob := by rw [← C.get (by omega : j + 1 ≤ m) (Nat.le_refl _) hq]; exact h1
            rcases hf.own b ⟨id, ob, L, h1', h2, h3, h4, h5⟩ with h | h
            · exact fr.own b (hown0 b h)
            · exact .inr (Nat.le_trans fr.size h)
          · exact fr.own b ⟨id, ob, L, h1, h2, h3, h4, h5⟩

theorem mem_ready_any {ops : Array Oper} {j : Nat} {listed : Array Bool} (h : j ∈ Region.ready .any ops listed) : listed.getD j true = false ∧ ∃ o, ops[j]? = some o ∧ ∀ k ∈ bindsAny o, listed.getD k false = true := by
  obtain ⟨h1, o, ho, h2⟩ := mem_ready.1 h
  refine ⟨h1, o, ho, fun k hk => ?_⟩
  simp only [bindsAny, List.mem_filterMap] at hk
  obtain ⟨e, he, hk⟩ := hk
  split at hk
  · rename_i hb
    simp at hk; subst hk
    exact h2 e (by simpa using he) hb
  · simp at hk

theorem ready_of {ops : Array Oper} {j : Nat} {listed : Array Bool} {o : Oper} (ho : ops[j]? = some o) (h1 : listed.getD j true = false) (h2 : ∀ k ∈ bindsAny o, listed.getD k false = true) : j ∈ Region.ready .any ops listed := by
  refine mem_ready.2 ⟨h1, o, ho, fun e he hb => h2 e.on ?_⟩
  simp only [bindsAny, List.mem_filterMap]
  exact ⟨e, by simpa using he, by simp [hb]⟩

/-- Behind the quiet part: in the order of the text. -/
theorem tail_any (D : DrawOk ops m) {is : List Ins} {Qx : Exit → Act → World → Prop} (hall : ∀ k, m ≤ k → k < ops.size → ∃ o x, ops[k]? = some o ∧ is[k]? = some x ∧ compIns P N ops false o = some x) (hlen : is.length = ops.size) :
    ∀ (fuel k : Nat), fuel + k = ops.size → m ≤ k → ∀ (listed : Array Bool), (∀ i, i < ops.size → listed.getD i true = decide (i < k) ∧ listed.getD i false = decide (i < k)) → ∀ {Q : St → Prop} {s : St} {β : LMap} {a : Act} {w : World}, WPI md P γ (is.drop k) Q s → Rel γ N β s a w →
    (∀ s' β' a' w', Q s' → Rel γ N β' s' a' w' → Fr β s.heap w β' s'.heap w' → Qx .normal a' w') → wpAny P .any ops Qx fuel listed a w
  | 0, k, hf, hm, listed, hl, Q, s, β, a, w, H, hr, hQ => by
    have hk : k = ops.size := by omega
    subst hk
    rw [List.drop_of_length_le (by omega)] at H
    refine ⟨?_, hQ s β a w H hr (Fr.refl _ _ _)⟩
    apply List.eq_nil_iff_forall_not_mem.2
    intro j hj
    obtain ⟨h1, o, ho, _⟩ := mem_ready_any hj
    have hlt := (Array.getElem?_eq_some_iff.1 ho).1
    rw [(hl j hlt).1] at h1
    simp [hlt] at h1
  | fuel + 1, k, hf, hm, listed, hl, Q, s, β, a, w, H, hr, hQ => by
    have hk : k < ops.size := by omega
    obtain ⟨o, x, ho, hx, hcomp⟩ := hall k hm hk
    have hlt := (List.getElem?_eq_some_iff.1 hx).1
    have hdrop : is.drop k = x :: is.drop (k + 1) := by
      rw [List.drop_eq_getElem_cons hlt, (List.getElem?_eq_some_iff.1 hx).2]
    rw [hdrop] at H
    have hrk : k ∈ Region.ready .any ops listed := ready_of ho (by rw [(hl k hk).1]; simp) (fun i hi => by
      have := D.back k o ho i hi
      rw [(hl i (by omega)).2]; simp [this])
    refine ⟨fun hnil => by rw [hnil] at hrk; simp at hrk, fun j hj => ?_⟩
    have hjk : j = k := by
      obtain ⟨h1, oj, hoj, h2⟩ := mem_ready_any hj
      have hjlt := (Array.getElem?_eq_some_iff.1 hoj).1
      rw [(hl j hjlt).1] at h1
      have hge : k ≤ j := by simpa using h1
      rcases Nat.lt_or_ge k j with h | h
      · exfalso
        have hcl : Closed ops (fun i => i < k ∨ ops.size ≤ i) := by
          intro i oi hoi hi n hn
          have h3 := D.back i oi hoi n hn
          have h4 := (Array.getElem?_eq_some_iff.1 hoi).1
          rcases hi with hi | hi
          · exact .inl (by omega)
          · omega
        have hbit := D.tail j (by omega) hjlt k h
        have := masks_sound hcl hoj (fun n hn => by
          have h3 := D.back j oj hoj n hn
          have h5 := h2 n hn
          rw [(hl n (by omega)).2] at h5
          exact .inl (by simpa using h5)) hbit
        rcases this with h6 | h6 <;> omega
      · omega
    subst hjk
    obtain ⟨g, v, h', hg, hsem, hh', _, hrest⟩ := step_sound hcomp H
    refine wpOp_sound hcomp ho hg hsem hh' hr fun β' a' w' hr' hfr => ?_
    refine tail_any D hall hlen fuel (j + 1) (by omega) (by omega) _ (fun i hi => ?_) hrest hr' fun s'' β'' a'' w'' hq hr'' hf' => hQ s'' β'' a'' w'' hq hr'' (hfr.trans hf')
    by_cases hij : j = i
    · subst hij
      have hsz : j < listed.size := by
        rcases Nat.lt_or_ge j listed.size with h | h
        · exact h
        · have := (hl j hi).1
          simp [Array.getElem?_eq_none h] at this
      simp [hsz]
    · rw [getD_set_ne _ hij, getD_set_ne _ hij, (hl i hi).1, (hl i hi).2]
      constructor <;> (congr 1; simp; omega)

/-- Any order of the quiet part. -/
theorem part_any (D : DrawOk ops m) (C : Chain P γ N ops is m env0 h0 gs vs hs es) {Qx : Exit → Act → World → Prop} {β0 : LMap} {w0 : World}
    (hfin : ∀ β a w, Part P γ N ops m env0 gs vs hs β0 w0 (fun i => i < m) β a w → ∀ listed : Array Bool, (∀ i, i < ops.size → listed.getD i true = decide (i < m) ∧ listed.getD i false = decide (i < m)) → wpAny P .any ops Qx (ops.size - m) listed a w) :
    ∀ (n : Nat) (listed : Array Bool), (∀ i, i < ops.size → listed.getD i true = listed.getD i false) → (∀ i, m ≤ i → i < ops.size → listed.getD i true = false) → Closed ops (fun i => listed.getD i false = true) → ((List.range m).filter fun i => listed.getD i false == false).length = n →
    ∀ {β : LMap} {a : Act} {w : World}, Part P γ N ops m env0 gs vs hs β0 w0 (fun i => listed.getD i false = true) β a w → wpAny P .any ops Qx (n + (ops.size - m)) listed a w
  | 0, listed, hsame, htail, hcl, hn, β, a, w, p => by
    have hall : ∀ i, i < m → listed.getD i false = true := by
      intro i hi
      have := List.length_eq_zero_iff.1 hn
      rw [List.filter_eq_nil_iff] at this
      have := this i (List.mem_range.2 hi)
      simpa using this
    rw [Nat.zero_add]
    have hle := D.le
    have hdec : ∀ i, i < ops.size → (listed.getD i true = decide (i < m) ∧ listed.getD i false = decide (i < m)) := by
      intro i hi
      by_cases him : i < m
      · rw [hsame i hi, hall i him]; simp [him]
      · rw [← hsame i hi, htail i (by omega) hi]; simp [him]
    refine hfin β a w ?_ listed hdec
    refine ⟨p.defers, p.size, p.heap, fun id L hl => ?_, p.env, fun t i o him ho hd hns => absurd him hns, fun i o t him _ => p.done i o t him (hall i him), p.fr⟩
    rcases p.dom id L hl with h | ⟨i, h1, h2, h3, h4⟩
    · exact .inl h
    · exact .inr ⟨i, h1, h1, h3, h4⟩
  | n + 1, listed, hsame, htail, hcl, hn, β, a, w, p => by
    have hle := D.le
    have hex : ∃ i, i < m ∧ listed.getD i false = false ∧ ∀ k, k < i → listed.getD k false = true := by
      have hne : ((List.range m).filter fun i => listed.getD i false == false) ≠ [] := by intro h; rw [h] at hn; simp at hn
      obtain ⟨i, hi⟩ := List.exists_mem_of_ne_nil _ hne
      rw [List.mem_filter, List.mem_range] at hi
      obtain ⟨hi1, hi2⟩ := hi
      replace hi2 : listed.getD i false = false := by simpa using hi2
      clear hne hn
      -- the least one
      induction i using Nat.strongRecOn with
      | _ i ih =>
        by_cases hq : ∃ k, k < i ∧ listed.getD k false = false
        · obtain ⟨k, hk1, hk2⟩ := hq
          exact ih k hk1 (by omega) hk2
        · refine ⟨i, hi1, hi2, fun k hk => ?_⟩
          cases hkv : listed.getD k false with
          | true => rfl
          | false => exact absurd ⟨k, hk, hkv⟩ hq
    obtain ⟨i0, hi0, hun, hmin⟩ := hex
    obtain ⟨o0, _, ho0, _⟩ := C.step i0 hi0
    have hr0 : i0 ∈ Region.ready .any ops listed := ready_of ho0 (by rw [hsame i0 (by omega)]; exact hun) (fun k hk => hmin k (D.back i0 o0 ho0 k hk))
    rw [show n + 1 + (ops.size - m) = (n + (ops.size - m)) + 1 by omega]
    refine ⟨fun hnil => by rw [hnil] at hr0; simp at hr0, fun j hj => ?_⟩
    obtain ⟨h1, oj, hoj, h2⟩ := mem_ready_any hj
    have hjlt := (Array.getElem?_eq_some_iff.1 hoj).1
    have hjm : j < m := by
      rcases Nat.lt_or_ge j m with h | h
      · exact h
      · exfalso
        have hbit := D.tail j h hjlt i0 (by omega)
        have hbad : listed.getD i0 false = true := masks_sound hcl hoj h2 hbit
        rw [hun] at hbad; simp at hbad
    have hjf : listed.getD j false = false := by rw [← hsame j hjlt]; exact h1
    refine Part.step D C p hcl hjm hoj (by simp [hjf]) h2 fun β' a' w' p' => ?_
    have hsz : j < listed.size := by
      rcases Nat.lt_or_ge j listed.size with h | h
      · exact h
      · simp [Array.getElem?_eq_none h] at h1
    have hset : ∀ i d, (listed.setIfInBounds j true).getD i d = if i = j then true else listed.getD i d := by
      intro i d
      by_cases hij : j = i
      · subst hij; simp [hsz]
      · rw [getD_set_ne d hij, if_neg (Ne.symm hij)]
    have hS : (fun i => (listed.setIfInBounds j true).getD i false = true) = fun i => listed.getD i false = true ∨ i = j := by
      funext i
      rw [hset]
      by_cases hij : i = j
      · simp [hij]
      · simp [hij]
    refine part_any D C hfin n _ (fun i hi => by rw [hset, hset, hsame i hi]) (fun i hi1 hi2 => by rw [hset, if_neg (by omega)]; exact htail i hi1 hi2) ?_ ?_ (by rw [hS]; exact p')
    · rw [hS]
      intro i o ho hi k hk
      rcases hi with hi | hi
      · exact .inl (hcl i o ho hi k hk)
      · subst hi
        rw [hoj] at ho; cases ho
        exact .inl (h2 k hk)
    · have hnd : (List.range m).Nodup := List.nodup_range
      have key : ∀ l : List Nat, l.Nodup → j ∈ l → (l.filter fun i => (listed.setIfInBounds j true).getD i false == false).length + 1 = (l.filter fun i => listed.getD i false == false).length := by
        intro l
        induction l with
        | nil => intro _ h; simp at h
        | cons b r ih =>
          intro hnd hmem
          rw [List.nodup_cons] at hnd
          by_cases hbj : b = j
          · subst hbj
            have hrest : (r.filter fun i => (listed.setIfInBounds b true).getD i false == false) = r.filter fun i => listed.getD i false == false := by
              apply List.filter_congr
              intro i hi
              rw [hset, if_neg (fun (e : i = b) => hnd.1 (e ▸ hi))]
            rw [List.filter_cons_of_neg (by rw [hset]; simp), List.filter_cons_of_pos (by rw [hjf]; rfl), hrest]; simp
          · have hjr : j ∈ r := by
              rcases List.mem_cons.1 hmem with h | h
              · exact absurd h.symm hbj
              · exact h
            have := ih hnd.2 hjr
            have hb : (listed.setIfInBounds j true).getD b false = listed.getD b false := by rw [hset, if_neg hbj]
            cases hv : listed.getD b false with
            | true => rw [List.filter_cons_of_neg (by rw [hb, hv]; simp), List.filter_cons_of_neg (by rw [hv]; simp)]; exact this
            | false => rw [List.filter_cons_of_pos (by rw [hb, hv]; rfl), List.filter_cons_of_pos (by rw [hv]; rfl), List.length_cons, List.length_cons, this]
      have := key (List.range m) hnd (List.mem_range.2 hjm)
      omega
end

/-- A row whose order is drawn. -/
theorem draw_sound {P : Program} {γ : Nat → Option Nat} {N id m : Nat} {ops : Array Oper} {is : List Ins} (hP : P.follows .mixedOrders = true) (hD : drawOk ops m = true) (hlen : is.length = ops.size)
    (hq : ∀ k, k < m → ∃ o x, ops[k]? = some o ∧ is[k]? = some x ∧ compIns P N ops true o = some x) (ht : ∀ k, m ≤ k → k < ops.size → ∃ o x, ops[k]? = some o ∧ is[k]? = some x ∧ compIns P N ops false o = some x)
    {Q : St → Prop} {s : St} (H : WPI md P γ is Q s) {β : LMap} {a : Act} {w : World} (hr : Rel γ N β s a w) {Qx : Exit → Act → World → Prop}
    (hQ : ∀ s' β' a' w', Q s' → Rel γ N β' s' a' w' → Fr β s.heap w β' s'.heap w' → Qx .normal a' w') : (Code.region id ops true).wp P Qx a w := by
  have D := drawOk_out hD
  obtain ⟨gs, vs, hs, es, C, hrest⟩ := chain_exists H m hq
  refine wp_region_any hP ?_
  obtain ⟨w1, hw1⟩ : ∃ w1 : World, w1 = { w with drawn := w.drawn + 1 } := ⟨_, rfl⟩
  rw [← hw1]
  have hcutself : ∀ k, k ≤ m → LMap.cut β (hs k).length = β := by
    intro k hk
    funext i
    unfold LMap.cut
    split
    · rfl
    · rename_i hlt
      cases hq : β i with
      | none => rfl
      | some L =>
        have := hr.heap.dom i L hq
        have h0 := C.le (i := 0) (k := k) (Nat.zero_le _) hk
        rw [C.z0] at h0; omega
  have hle := D.le
  have hfr0 : Fr β s.heap w β s.heap w1 := by rw [hw1]; exact Fr.drawn _
  have hstart : Part P γ N ops m s.env gs vs hs β w1 (fun i => (Array.replicate ops.size false).getD i false = true) β a w1 := by
    refine ⟨hr.defers, hr.size, fun k hk => ?_, fun i L hl => .inl (by rw [C.z0]; exact hr.heap.dom i L hl), fun t _ => ?_, fun t i o _ _ _ _ => ?_, fun i o t _ hS => ?_, ?_⟩
    · rw [hcutself k hk]
      obtain ⟨t, ht, _⟩ := C.len (i := 0) (k := k) (Nat.zero_le _) hk
      rw [C.z0] at ht
      have hh : HRel γ β s.heap w1 := hr.heap.of_heap (by rw [hw1])
      refine ⟨fun i L hl => ?_, fun i ob L hob hlive hl => ?_, fun i j oi oj Li Lj hi hj li lj own real hne hli hlj => ?_, hh.glob⟩
      · have := hh.dom i L hl
        rw [ht]; simp; omega
      · rw [ht, List.getElem?_append_left (hh.dom i L hl)] at hob
        exact hh.live i ob L hob hlive hl
      · rw [ht, List.getElem?_append_left (hh.dom i Li hli)] at hi
        rw [ht, List.getElem?_append_left (hh.dom j Lj hlj)] at hj
        exact hh.sep i j oi oj Li Lj hi hj li lj own real hne hli hlj
    · rw [hcutself 0 (Nat.zero_le _)]; exact hr.env t
    · rw [hcutself 0 (Nat.zero_le _)]; exact hr.env t
    · exfalso
      simp only [Array.getD_eq_getD_getElem?, Array.getElem?_replicate] at hS
      split at hS <;> simp at hS
    · rw [C.z0]
      obtain ⟨t, ht, _⟩ := C.len (i := 0) (k := m) (Nat.zero_le _) (Nat.le_refl _)
      rw [C.z0] at ht
      refine ⟨rfl, rfl, rfl, Nat.le_refl _, by rw [ht]; simp, fun _ _ => rfl, fun _ _ _ => rfl, ?_⟩
      rintro b ⟨i, ob, L, h1, h2, h3, h4, h5⟩
      rw [ht, List.getElem?_append_left (hr.heap.dom i L h4)] at h1
      exact .inl ⟨i, ob, L, h1, h2, h3, h4, h5⟩
  have hrep : ∀ i, i < ops.size → (Array.replicate ops.size false).getD i true = false ∧ (Array.replicate ops.size false).getD i false = false := by
    intro i hi; simp [hi]
  have hcount : ((List.range m).filter fun i => (Array.replicate ops.size false).getD i false == false).length = m := by
    rw [List.filter_eq_self.2]
    · simp
    · intro i hi; rw [(hrep i (by have := List.mem_range.1 hi; omega)).2]; rfl
  have hmain := part_any D C (Qx := Qx) (β0 := β) (w0 := w1) (fun β' a' w' p listed hl => ?_) m (Array.replicate ops.size false) (fun i hi => by rw [(hrep i hi).1, (hrep i hi).2]) (fun i _ hi => (hrep i hi).1) (fun i o ho hS => by
      have := (Array.getElem?_eq_some_iff.1 ho).1
      have hS' : (Array.replicate ops.size false).getD i false = true := hS
      rw [(hrep i this).2] at hS'; simp at hS') hcount hstart
  · rw [show m + (ops.size - m) = ops.size by omega] at hmain
    exact hmain
  · -- all of the quiet part is done
    have hcutm : ∀ i L, LMap.cut β' (hs m).length i = some L → β' i = some L := fun i L h => (LMap.cut_some.1 h).2
    have hcutm' : LMap.cut β' (hs m).length = β' := by
      funext i
      unfold LMap.cut
      split
      · rfl
      · rename_i hlt
        cases hq : β' i with
        | none => rfl
        | some L =>
          rcases p.dom i L hq with h | ⟨k, h1, _, _, h4⟩
          · have := C.le (i := 0) (k := m) (Nat.zero_le _) (Nat.le_refl _); omega
          · have := C.le (i := k + 1) (k := m) (by omega) (Nat.le_refl _); omega
    have hrel : Rel γ N β' ⟨es m, hs m⟩ a' w' := by
      refine ⟨fun t => ?_, by have := p.heap m (Nat.le_refl _); rw [hcutm'] at this; exact this, p.defers, p.size⟩
      by_cases hex : ∃ i oi, i < m ∧ ops[i]? = some oi ∧ oi.dst = some t
      · obtain ⟨i, oi, him, hoi, hdi⟩ := hex
        intro g v he
        rw [C.slot D him hoi hdi him (Nat.le_refl _)] at he
        cases he
        obtain ⟨h3, h4⟩ := p.done i oi t him him hoi hdi
        exact ⟨fun hg => (h3 hg).mono fun k L hl => (LMap.cut_some.1 hl).2, h4⟩
      · have hno : ∀ i oi, i < m → ops[i]? = some oi → oi.dst ≠ some t := fun i oi h1 h2 h3 => hex ⟨i, oi, h1, h2, h3⟩
        intro g v he
        rw [C.slot0 (Nat.le_refl _) (fun k ok hk => hno k ok hk)] at he
        obtain ⟨h1, h2⟩ := p.env t hno g v he
        exact ⟨fun hg => (h1 hg).mono fun k L hl => (LMap.cut_some.1 hl).2, h2⟩
    have hfr : Fr β s.heap w β' (hs m) w' := hfr0.trans (by have := p.fr; rw [C.z0] at this; exact this)
    exact tail_any D ht hlen (ops.size - m) m (by omega) (Nat.le_refl _) listed hl hrest hrel fun s' β'' a'' w'' hq hr'' hf' => hQ s' β'' a'' w'' hq hr'' (hfr.trans hf')
end Go.Vx
