/- A part of the proof: what it shows stands in its theorems. No condition beyond those that they name. -/
import Derived.Test.YtefjoeonilkdfaaVxL3
namespace Go.Vx
variable {md : Bool}
set_option linter.unusedSimpArgs false
set_option linter.unusedVariables false

/-! Code. -/

inductive C where
  | skip
  | ops (l : List Ins)
  | draw (l : List (Ins × List Nat))
  | seq (a b : C)
  | cond (c : Operand) (a b : C)
  | block (id : Nat) (a : C)
  | loop (a : C)
  | exit (id : Nat)
  | ret
  | scope (l : Nat) (a r : C)
  | label (l : Nat)
  | goto (l : Nat)
  | stop

def allSome {α : Type} : List (Option α) → Option (List α)
  | [] => some []
  | none :: _ => none
  | some x :: r => match allSome r with
    | some l => some (x :: l)
    | none => none

theorem allSome_out {α : Type} : ∀ {l : List (Option α)} {r : List α}, allSome l = some r → l = r.map some
  | [], r, h => by simp [allSome] at h; subst h; rfl
  | none :: _, r, h => by simp [allSome] at h
  | some x :: l, r, h => by
    simp only [allSome] at h
    split at h
    · rename_i l' hl
      simp at h; subst h
      simp [allSome_out hl]
    · simp at h

/-- The number of the quiet part's operations: the least that will do. -/
def drawAt (ops : Array Oper) : Option Nat := (List.range (ops.size + 1)).find? fun m => drawOk ops m

def compRow (P : Program) (N : Nat) (ops : Array Oper) (draw : Bool) : Option (List Ins) :=
  if draw then
    if P.follows .mixedOrders then
      if textOk P ops then (let cl := clsOf P ops; allSome (ops.toList.zipIdx.map fun p => (compIns P N ops false p.1).map (trIns (cl.getD p.2 2)))) else
      match drawAt ops with
      | some m => allSome (ops.toList.zipIdx.map fun p => compIns P N ops (decide (p.2 < m)) p.1)
      | none => none
    else none
  else allSome (ops.toList.map fun o => (compIns P N ops false o).map nIns)

def backOk (ops : Array Oper) : Bool := (List.range ops.size).all fun i => match ops[i]? with
  | none => true
  | some o => (bindsAny o).all fun j => decide (j < i)

def compRegion (P : Program) (N : Nat) (ops : Array Oper) (draw : Bool) : Option C :=
  match compRow P N ops draw with
  | some l => some (.ops l)
  | none => if (draw && P.follows .mixedOrders && backOk ops) = true then (allSome (ops.toList.map fun o => (compIns P N ops false o).map fun i => (i, bindsAny o))).map .draw else none

theorem compRegion_out {P : Program} {N : Nat} {ops : Array Oper} {draw : Bool} {c : C} (h : compRegion P N ops draw = some c) : (∃ l, compRow P N ops draw = some l ∧ c = .ops l) ∨
    ∃ l, c = .draw l ∧ draw = true ∧ P.follows .mixedOrders = true ∧ backOk ops = true ∧ allSome (ops.toList.map fun o => (compIns P N ops false o).map fun i => (i, bindsAny o)) = some l := by
  unfold compRegion at h
  split at h
  · rename_i l hl; simp at h; exact .inl ⟨l, hl, h.symm⟩
  · split at h
    · rename_i hd
      simp only [Option.map_eq_some_iff] at h
      obtain ⟨l, h1, h2⟩ := h
      simp only [Bool.and_eq_true] at hd
      exact .inr ⟨l, h2.symm, hd.1.1, hd.1.2, hd.2, h1⟩
    · simp at h

/-- What stands behind a label. -/
def behind : C → Nat → Option C
  | .seq a b, l => match behind a l with
    | some r => some (.seq r b)
    | none => behind b l
  | .label l', l => if l' == l then some .skip else none
  | _, _ => none

/-- The first label. -/
def firstLabel : C → Option Nat
  | .seq a b => match firstLabel a with
    | some l => some l
    | none => firstLabel b
  | .label l => some l
  | _ => none

def mkScope (a : C) : C := .scope ((firstLabel a).getD 0) a ((behind a ((firstLabel a).getD 0)).getD .stop)

def compile (P : Program) (N : Nat) : Code → Option C
  | .skip => some .skip
  | .region _ ops draw => compRegion P N ops draw
  | .seq a b => match compile P N a, compile P N b with
    | some a, some b => some (.seq a b)
    | _, _ => none
  | .cond c a b => match compile P N a, compile P N b with
    | some a, some b => some (.cond c a b)
    | _, _ => none
  | .block id a => (compile P N a).map (.block id)
  | .loop a => (compile P N a).map .loop
  | .exit id => some (.exit id)
  | .ret => some .ret
  | .label l => some (.label l)
  | .goto l => some (.goto l)
  | .scope a => (compile P N a).map mkScope
  | .rangeFunc .. => some .stop
  | .refuse _ => some .stop

theorem behind_out {P : Program} {N : Nat} : ∀ {a : Code} {a' : C} {l : Nat}, compile P N a = some a' → (∀ rest, findLabel a l = some rest → ∃ rest', behind a' l = some rest' ∧ compile P N rest = some rest') ∧ (findLabel a l = none → behind a' l = none)
  | .seq a b, a', l, h => by
    simp only [compile] at h
    split at h
    · rename_i x y hx hy
      simp at h; subst h
      obtain ⟨i1, i2⟩ := behind_out (l := l) hx
      obtain ⟨j1, j2⟩ := behind_out (l := l) hy
      cases ha : findLabel a l with
      | some r =>
        obtain ⟨r', h1, h2⟩ := i1 r ha
        refine ⟨fun rest hr => ?_, fun hr => by simp [findLabel, ha] at hr⟩
        simp [findLabel, ha] at hr; subst hr
        exact ⟨.seq r' y, by simp [behind, h1], by simp [compile, h2, hy]⟩
      | none =>
        have hn := i2 ha
        refine ⟨fun rest hr => ?_, fun hr => ?_⟩
        · simp [findLabel, ha] at hr
          obtain ⟨r', h1, h2⟩ := j1 rest hr
          exact ⟨r', by simp [behind, hn, h1], h2⟩
        · simp [findLabel, ha] at hr
          simp [behind, hn, j2 hr]
    · simp at h
  | .label l', a', l, h => by
    simp [compile] at h; subst h
    refine ⟨fun rest hr => ?_, fun hr => ?_⟩
    · simp only [findLabel] at hr
      split at hr
      · rename_i he; simp at hr; subst hr; exact ⟨.skip, by simp only [behind]; rw [if_pos he], rfl⟩
      · simp at hr
    · simp only [findLabel] at hr
      split at hr
      · simp at hr
      · rename_i he; simp only [behind]; rw [if_neg he]
  | .skip, a', l, h => by simp [compile] at h; subst h; exact ⟨fun _ hr => by simp [findLabel] at hr, fun _ => rfl⟩
  | .region _ ops d, a', l, h => by
    simp only [compile] at h
    rcases compRegion_out h with ⟨x, _, rfl⟩ | ⟨x, rfl, _⟩ <;> exact ⟨fun _ hr => by simp [findLabel] at hr, fun _ => rfl⟩
  | .cond _ _ _, a', l, h => by
    simp only [compile] at h
    split at h
    · simp at h; subst h; exact ⟨fun _ hr => by simp [findLabel] at hr, fun _ => rfl⟩
    · simp at h
  | .block _ _, a', l, h => by simp [compile] at h; obtain ⟨x, _, rfl⟩ := h; exact ⟨fun _ hr => by simp [findLabel] at hr, fun _ => rfl⟩
  | .loop _, a', l, h => by simp [compile] at h; obtain ⟨x, _, rfl⟩ := h; exact ⟨fun _ hr => by simp [findLabel] at hr, fun _ => rfl⟩
  | .scope _, a', l, h => by simp [compile] at h; obtain ⟨x, _, rfl⟩ := h; exact ⟨fun _ hr => by simp [findLabel] at hr, fun _ => rfl⟩
  | .exit _, a', l, h => by simp [compile] at h; subst h; exact ⟨fun _ hr => by simp [findLabel] at hr, fun _ => rfl⟩
  | .ret, a', l, h => by simp [compile] at h; subst h; exact ⟨fun _ hr => by simp [findLabel] at hr, fun _ => rfl⟩
  | .goto _, a', l, h => by simp [compile] at h; subst h; exact ⟨fun _ hr => by simp [findLabel] at hr, fun _ => rfl⟩
  | .rangeFunc _ _ _ _, a', l, h => by simp [compile] at h; subst h; exact ⟨fun _ hr => by simp [findLabel] at hr, fun _ => rfl⟩
  | .refuse _, a', l, h => by simp [compile] at h; subst h; exact ⟨fun _ hr => by simp [findLabel] at hr, fun _ => rfl⟩

/-- Which way. -/
def br (t : Bool) (A B : Prop) (_ : Keep A) (_ : Keep B) : Prop := (t = true → A) ∧ (t = false → B)
theorem br_t {t : Bool} {A B : Prop} {k : Keep A} {l : Keep B} (h : t = true) : br t A B k l = A := by unfold br; simp [h]
theorem br_f {t : Bool} {A B : Prop} {k : Keep A} {l : Keep B} (h : t = false) : br t A B k l = B := by unfold br; simp [h]
theorem br_s {t : Bool} {A B : Prop} {k : Keep A} {l : Keep B} : br t A B k l = ((t = true → A) ∧ (t = false → B)) := propext Iff.rfl
theorem br_tt {A B : Prop} {k : Keep A} {l : Keep B} : br true A B k l = A := by unfold br; simp
theorem br_ff {A B : Prop} {k : Keep A} {l : Keep B} : br false A B k l = B := by unfold br; simp
theorem br_i {b : Bool} {A B : Prop} {k : Keep A} {l : Keep B} (h1 : b = true → A) (h2 : b = false → B) : br b A B k l := ⟨h1, h2⟩
theorem br_d {p : Prop} [Decidable p] {A B : Prop} {k : Keep A} {l : Keep B} (h1 : p → A) (h2 : ¬ p → B) : br (decide p) A B k l := ⟨fun h => h1 (of_decide_eq_true h), fun h => h2 (of_decide_eq_false h)⟩

abbrev LoopK (W : (Exit → St → Prop) → St → Prop) (Q : Exit → St → Prop) (s : St) (_ : Keep (W, Q)) : Prop :=
  ∃ I : Nat → St → Prop, (∃ n s0, Le s0 s ∧ I n s0) ∧ ∀ n s, I n s → W (fun e s' => match e with | .normal => ∃ k s0, k < n ∧ Le s0 s' ∧ I k s0 | e => Q e s') s
abbrev ScopeK (l : Nat) (W R : (Exit → St → Prop) → St → Prop) (Q : Exit → St → Prop) (s : St) (_ : Keep (W, R, Q)) : Prop :=
  ∃ I : Nat → St → Prop, W (fun e s' => match e with | .goto l' => l' = l ∧ ∃ n s0, Le s0 s' ∧ I n s0 | e => Q e s') s ∧
      ∀ n s, I n s → R (fun e s' => match e with | .goto l' => l' = l ∧ ∃ k s0, k < n ∧ Le s0 s' ∧ I k s0 | e => Q e s') s
abbrev DrawK (W : Ins → (St → Prop) → St → Prop) (l : List (Ins × List Nat)) (Q : Exit → St → Prop) (s : St) (_ : Keep (W, l, Q)) : Prop :=
  ∃ Inv : (Nat → Bool) → St → Prop, Inv (fun _ => false) s ∧
      (∀ S s (i : Nat) x ds, l[i]? = some (x, ds) → S i = false → (∀ j ∈ ds, S j = true) → Inv S s → W x (fun s' => Inv (fun j => S j || j == i) s') s) ∧
      ∀ S s, (∀ i, i < l.length → S i = true) → Inv S s → Q .normal s

/-- What is to be shown of code. -/
def WP (md : Bool) (P : Program) (γ : Nat → Option Nat) : C → (Exit → St → Prop) → St → Prop
  | .skip, Q, s => Q .normal s
  | .ops l, Q, s => WPI md P γ l (Q .normal) s
  | .draw l, Q, s => DrawK (fun x => WPI md P γ [x]) l Q s .mk
  | .seq a b, Q, s => WP md P γ a (fun e s' => match e with | .normal => WP md P γ b Q s' | e => Q e s') s
  | .cond c a b, Q, s => match ev γ s.env c with
    | some (g, .bool t) => g = true ∧ br t (WP md P γ a Q s) (WP md P γ b Q s) .mk .mk
    | _ => False
  | .block id a, Q, s => WP md P γ a (fun e s' => match e with | .exit k => if k = id then Q .normal s' else Q (.exit k) s' | e => Q e s') s
  | .loop a, Q, s => LoopK (WP md P γ a) Q s .mk
  | .exit id, Q, s => Q (.exit id) s
  | .ret, Q, s => Q .ret s
  | .scope l a r, Q, s => ScopeK l (WP md P γ a) (WP md P γ r) Q s .mk
  | .label _, Q, s => Q .normal s
  | .goto l, Q, s => Q (.goto l) s
  | .stop, _, _ => False

section
variable {P : Program} {γ : Nat → Option Nat} {Q : Exit → St → Prop} {s : St}
theorem WP_skip : WP md P γ .skip Q s = Q .normal s := propext Iff.rfl
theorem WP_ops {l : List Ins} : WP md P γ (.ops l) Q s = WPI md P γ l (Q .normal) s := propext Iff.rfl
theorem WP_draw {l : List (Ins × List Nat)} : WP md P γ (.draw l) Q s = DrawK (fun x => WPI md P γ [x]) l Q s .mk := propext Iff.rfl
theorem WP_seq {a b : C} : WP md P γ (.seq a b) Q s = WP md P γ a (fun e s' => match e with | .normal => WP md P γ b Q s' | e => Q e s') s := propext Iff.rfl
theorem WP_cond {c : Operand} {a b : C} : WP md P γ (.cond c a b) Q s = match ev γ s.env c with
    | some (g, .bool t) => g = true ∧ br t (WP md P γ a Q s) (WP md P γ b Q s) .mk .mk
    | _ => False := propext Iff.rfl
theorem WP_block {id : Nat} {a : C} : WP md P γ (.block id a) Q s = WP md P γ a (fun e s' => match e with | .exit k => if k = id then Q .normal s' else Q (.exit k) s' | e => Q e s') s := propext Iff.rfl
theorem WP_loop {a : C} : WP md P γ (.loop a) Q s = LoopK (WP md P γ a) Q s .mk := propext Iff.rfl
theorem WP_exit {id : Nat} : WP md P γ (.exit id) Q s = Q (.exit id) s := propext Iff.rfl
theorem WP_ret : WP md P γ .ret Q s = Q .ret s := propext Iff.rfl
theorem WP_scope {l : Nat} {a r : C} : WP md P γ (.scope l a r) Q s = ScopeK l (WP md P γ a) (WP md P γ r) Q s .mk := propext Iff.rfl
theorem WP_label {l : Nat} : WP md P γ (.label l) Q s = Q .normal s := propext Iff.rfl
theorem WP_goto {l : Nat} : WP md P γ (.goto l) Q s = Q (.goto l) s := propext Iff.rfl
theorem WP_stop : WP md P γ .stop Q s = False := propext Iff.rfl
theorem WPI_nil {Q : St → Prop} : WPI md P γ [] Q s = Q s := propext Iff.rfl
theorem WPI_cons {i : Ins} {r : List Ins} {Q : St → Prop} : WPI md P γ (i :: r) Q s = match guardVal s.env i.guard with
    | none => False
    | some g => OpVC2 md P γ s.env s.heap g i.op fun v h' => (i.q = true → Quiet s.heap h') ∧ WPI md P γ r Q ⟨putE s.env i.dst g v, h'⟩ := propext Iff.rfl
end

/-- The exits that code may take. -/
def outOk : Exit → Prop
  | .panic _ | .outgrown => False
  | _ => True

def Done (γ : Nat → Option Nat) (N : Nat) (β : LMap) (h : AHeap) (w : World) (Q : Exit → St → Prop) (e : Exit) (a' : Act) (w' : World) : Prop :=
  ∃ s' β', Q e s' ∧ Rel γ N β' s' a' w' ∧ Fr β h w β' s'.heap w'

theorem allSome_get {α β : Type} {l : List α} {f : α → Option β} {r : List β} (h : allSome (l.map f) = some r) : r.length = l.length ∧ ∀ (i : Nat) y, r[i]? = some y → ∃ x, l[i]? = some x ∧ f x = some y := by
  have := allSome_out h
  refine ⟨by have := congrArg List.length this; simpa using this.symm, fun i y hy => ?_⟩
  have h1 : (l.map f)[i]? = (r.map some)[i]? := by rw [this]
  simp only [List.getElem?_map, hy, Option.map_some] at h1
  cases hx : l[i]? with
  | none => simp [hx] at h1
  | some x => simp [hx] at h1; exact ⟨x, rfl, h1⟩

theorem region_sound {P : Program} {γ : Nat → Option Nat} {N id : Nat} {ops : Array Oper} {draw : Bool} {is : List Ins} (hc : compRow P N ops draw = some is) {Q : St → Prop} {s : St} (H : WPI md P γ is Q s) {β : LMap} {a : Act} {w : World} (hr : Rel γ N β s a w)
    {Qx : Exit → Act → World → Prop} (hQ : ∀ s' β' a' w', Q s' → Rel γ N β' s' a' w' → Fr β s.heap w β' s'.heap w' → Qx .normal a' w') : (Code.region id ops draw).wp P Qx a w := by
  unfold compRow at hc
  cases draw with
  | true =>
    simp only [if_true] at hc
    split at hc
    · rename_i hP
      split at hc
      · rename_i hT
        obtain ⟨hl, hg⟩ := allSome_get hc
        have hlen : is.length = ops.size := by simpa using hl
        refine text_sound hP hT hlen (fun k hk => ?_) H hr hQ
        have hk' : k < is.length := by omega
        obtain ⟨p, hp, hpc⟩ := hg k _ (List.getElem?_eq_getElem hk')
        rw [List.getElem?_zipIdx] at hp
        simp only [Option.map_eq_some_iff] at hp hpc
        obtain ⟨o, ho, rfl⟩ := hp
        obtain ⟨x, hx, hxe⟩ := hpc
        simp only [Nat.zero_add] at hx hxe
        exact ⟨o, x, by simpa using ho, by rw [hxe]; exact List.getElem?_eq_getElem hk', hx⟩
      split at hc
      · rename_i m hm
        obtain ⟨hl, hg⟩ := allSome_get hc
        have hD : drawOk ops m = true := by
          unfold drawAt at hm
          simpa using List.find?_some hm
        have hlen : is.length = ops.size := by simpa using hl
        have key : ∀ k, k < ops.size → ∃ o x, ops[k]? = some o ∧ is[k]? = some x ∧ compIns P N ops (decide (k < m)) o = some x := by
          intro k hk
          have hk' : k < is.length := by omega
          obtain ⟨p, hp, hpc⟩ := hg k _ (List.getElem?_eq_getElem hk')
          rw [List.getElem?_zipIdx] at hp
          simp only [Option.map_eq_some_iff] at hp
          obtain ⟨o, ho, rfl⟩ := hp
          simp only [Nat.zero_add] at hpc
          exact ⟨o, _, by simpa using ho, List.getElem?_eq_getElem hk', hpc⟩
        have hle := (drawOk_out hD).le
        refine draw_sound hP hD hlen (fun k hk => ?_) (fun k hk1 hk2 => ?_) H hr hQ
        · obtain ⟨o, x, h1, h2, h3⟩ := key k (by omega)
          exact ⟨o, x, h1, h2, by simpa [hk] using h3⟩
        · obtain ⟨o, x, h1, h2, h3⟩ := key k hk2
          exact ⟨o, x, h1, h2, by simpa [show ¬ k < m by omega] using h3⟩
      · simp at hc
    · simp at hc
  | false =>
    simp only [Bool.false_eq_true, if_false] at hc
    obtain ⟨hl, hg⟩ := allSome_get hc
    refine wp_region (wpOps_n (q := false) (List.range ops.size) is (by simpa using hl.symm) (fun j k i hj hi => ?_) H hr hQ)
    obtain ⟨o, ho, hoc⟩ := hg j i hi
    have hjk : j = k := by
      rw [List.getElem?_range] at hj
      · simpa using hj
      · have := (List.getElem?_eq_some_iff.1 ho).1; simpa using this
    subst hjk
    simp only [Option.map_eq_some_iff] at hoc
    obtain ⟨x, hx, rfl⟩ := hoc
    exact ⟨o, x, by simpa using ho, hx, rfl⟩

theorem seqQ {γ : Nat → Option Nat} {N : Nat} {β β1 : LMap} {h h1 : AHeap} {w w1 : World} {Q : Exit → St → Prop} (f : Fr β h w β1 h1 w1) {e : Exit} {a' : Act} {w' : World} (H : Done γ N β1 h1 w1 Q e a' w') : Done γ N β h w Q e a' w' := by
  obtain ⟨s', β', h1, h2, h3⟩ := H
  exact ⟨s', β', h1, h2, f.trans h3⟩

def Snd (md : Bool) (P : Program) (γ : Nat → Option Nat) (N : Nat) (c : Code) : Prop := ∀ {c' : C}, compile P N c = some c' → ∀ {Q : Exit → St → Prop} {s : St}, WP md P γ c' Q s → ∀ {β : LMap} {a : Act} {w : World}, Rel γ N β s a w →
    c.wp P (Done γ N β s.heap w Q) a w

section
variable {P : Program} {γ : Nat → Option Nat} {N : Nat}

theorem snd_skip  : Snd md P γ N (.skip) := by
  intro c' hc Q s H β a w hr
  simp [compile] at hc; subst hc
  exact wp_skip ⟨s, β, H, hr, Fr.refl _ _ _⟩

theorem snd_region {id : Nat} {ops : Array Oper} {draw : Bool} : Snd md P γ N (.region id ops draw) := by
  intro c' hc Q s H β a w hr
  simp only [compile] at hc
  rcases compRegion_out hc with ⟨is, hc', rfl⟩ | ⟨l, rfl, rfl, hP, hb, hc⟩
  · exact region_sound hc' H hr fun s' β' a' w' h1 h2 h3 => ⟨s', β', h1, h2, h3⟩
  · obtain ⟨Inv, h0, hstep, hfin⟩ := H
    obtain ⟨hl, hg⟩ := allSome_get hc
    have hlen : l.length = ops.size := by simpa using hl
    refine wp_region_any hP ?_
    obtain ⟨w1, hw1⟩ : ∃ w1 : World, w1 = { w with drawn := w.drawn + 1 } := ⟨_, rfl⟩
    rw [← hw1]
    have hr1 : Rel γ N β s a w1 := ⟨hr.env, hr.heap.of_heap (by rw [hw1]), hr.defers, hr.size⟩
    have hf1 : Fr β s.heap w β s.heap w1 := by rw [hw1]; exact Fr.drawn _
    refine inv_any hlen (fun k hk => ?_) (fun k o ho j hj => ?_) hstep hfin ops.size _ (fun _ => false) s (fun i hi => by simp [hi]) (by rw [show ((List.range ops.size).filter fun _ => !false) = List.range ops.size from List.filter_eq_self.2 (fun _ _ => rfl), List.length_range]) h0 hr1 fun s' β' a' w' hq hr' hf' => ⟨s', β', hq, hr', hf1.trans hf'⟩
    · obtain ⟨o, ho, hoc⟩ := hg k _ (List.getElem?_eq_getElem (by omega))
      simp only [Option.map_eq_some_iff] at hoc
      obtain ⟨x, hx, he⟩ := hoc
      exact ⟨o, x, by simpa using ho, by rw [he]; exact List.getElem?_eq_getElem (by omega), hx⟩
    · have hk := (Array.getElem?_eq_some_iff.1 ho).1
      have := List.all_eq_true.1 hb k (List.mem_range.2 hk)
      rw [ho] at this
      simpa using List.all_eq_true.1 this j hj

theorem snd_seq {x y : Code} (ix : Snd md P γ N x) (iy : Snd md P γ N y) : Snd md P γ N (.seq x y) := by
  intro c' hc Q s H β a w hr
  simp only [compile] at hc
  split at hc
  · rename_i x' y' hx hy
    simp at hc; subst hc
    refine wp_seq (wp_mono (ix hx H hr) ?_)
    rintro e a1 w1 ⟨s1, β1, hq, hr1, hf1⟩
    cases e with
    | normal => exact wp_mono (iy hy hq hr1) fun e a' w' hd => seqQ hf1 hd
    | _ => exact ⟨s1, β1, hq, hr1, hf1⟩
  · simp at hc

theorem snd_cond {c : Operand} {x y : Code} (ix : Snd md P γ N x) (iy : Snd md P γ N y) : Snd md P γ N (.cond c x y) := by
  intro c' hc Q s H β a w hr
  simp only [compile] at hc
  split at hc
  · rename_i x' y' hx hy
    simp at hc; subst hc
    simp only [WP] at H
    split at H
    · rename_i g t he
      obtain ⟨hg, h1, h2⟩ := H
      have hv := scal_eq (hr.env.reads hr.heap c g _ he hg) rfl
      cases t with
      | true => exact wp_cond_true hv (ix hx (h1 rfl) hr)
      | false => exact wp_cond_false hv (iy hy (h2 rfl) hr)
    · exact H.elim
  · simp at hc

theorem snd_block {id : Nat} {x : Code} (ix : Snd md P γ N x) : Snd md P γ N (.block id x) := by
  intro c' hc Q s H β a w hr
  simp only [compile, Option.map_eq_some_iff] at hc
  obtain ⟨x', hx, rfl⟩ := hc
  refine wp_block (wp_mono (ix hx H hr) ?_)
  rintro e a1 w1 ⟨s1, β1, hq, hr1, hf1⟩
  cases e with
  | exit k =>
    simp only [Exit.inBlock] at hq ⊢
    split
    · rename_i hk; rw [if_pos hk] at hq; exact ⟨s1, β1, hq, hr1, hf1⟩
    · rename_i hk; rw [if_neg hk] at hq; exact ⟨s1, β1, hq, hr1, hf1⟩
  | _ => exact ⟨s1, β1, hq, hr1, hf1⟩

theorem snd_loop {x : Code} (ix : Snd md P γ N x) : Snd md P γ N (.loop x) := by
  intro c' hc Q s H β a w hr
  simp only [compile, Option.map_eq_some_iff] at hc
  obtain ⟨x', hx, rfl⟩ := hc
  obtain ⟨I, ⟨n0, s00, hle0, h0⟩, hround⟩ := H
  intro b k cs
  have key : ∀ n (s1 : St) (β1 : LMap) (a1 : Act) (w1 : World), I n s1 → Rel γ N β1 s1 a1 w1 → Fr β s.heap w β1 s1.heap w1 →
      ∃ e a' w', Done γ N β s.heap w Q e a' w' ∧ Arrives P (lone (b.at a1 (.code x :: .inLoop x :: k)) cs w1) b k cs e a' w' := by
    intro n
    induction n using Nat.strongRecOn with
    | _ n ih =>
      intro s1 β1 a1 w1 hI hr1 hf1
      obtain ⟨e, a2, w2, ⟨s2, β2, hq, hr2, hf2⟩, harr⟩ := ix hx (hround n s1 hI) hr1 b (.inLoop x :: k) cs
      cases e with
      | normal =>
        obtain ⟨m, s3, hlt, hle, hI2⟩ := hq
        obtain ⟨e2, a3, w3, hq2, harr2⟩ := ih m hlt s3 β2 a2 w2 hI2 (hr2.le hle) (by rw [← hle.1]; exact hf1.trans hf2)
        exact ⟨e2, a3, w3, hq2, .of_steps (Steps.trans harr (.one step_inLoop)) harr2⟩
      | exit id => exact ⟨_, a2, w2, ⟨s2, β2, hq, hr2, hf1.trans hf2⟩, .pass (x := .inLoop x) rfl (fun _ _ => .inl (by simp)) harr⟩
      | goto l => exact ⟨_, a2, w2, ⟨s2, β2, hq, hr2, hf1.trans hf2⟩, .pass (x := .inLoop x) rfl (fun _ _ => .inl (by simp)) harr⟩
      | ret => exact ⟨_, a2, w2, ⟨s2, β2, hq, hr2, hf1.trans hf2⟩, .pass (x := .inLoop x) rfl (fun _ _ => .inl (by simp)) harr⟩
      | panic ch => exact ⟨_, a2, w2, ⟨s2, β2, hq, hr2, hf1.trans hf2⟩, .pass (x := .inLoop x) rfl (fun _ _ => .inl (by simp)) harr⟩
      | outgrown => exact ⟨_, a2, w2, ⟨s2, β2, hq, hr2, hf1.trans hf2⟩, .pass (x := .inLoop x) rfl (fun _ _ => .inl (by simp)) harr⟩
  obtain ⟨e, a', w', hq, harr⟩ := key n0 s00 β a w h0 (hr.le hle0) (by rw [← hle0.1]; exact Fr.refl _ _ _)
  exact ⟨e, a', w', hq, .of_steps (.one step_loop) harr⟩

theorem snd_exit {id : Nat} : Snd md P γ N (.exit id) := by
  intro c' hc Q s H β a w hr
  simp [compile] at hc; subst hc
  exact wp_exit ⟨s, β, H, hr, Fr.refl _ _ _⟩

theorem snd_ret  : Snd md P γ N (.ret) := by
  intro c' hc Q s H β a w hr
  simp [compile] at hc; subst hc
  exact wp_ret ⟨s, β, H, hr, Fr.refl _ _ _⟩

theorem snd_label {l : Nat} : Snd md P γ N (.label l) := by
  intro c' hc Q s H β a w hr
  simp [compile] at hc; subst hc
  exact wp_label ⟨s, β, H, hr, Fr.refl _ _ _⟩

theorem snd_goto {l : Nat} : Snd md P γ N (.goto l) := by
  intro c' hc Q s H β a w hr
  simp [compile] at hc; subst hc
  exact wp_goto ⟨s, β, H, hr, Fr.refl _ _ _⟩

theorem snd_rangeFunc {p : Operand} {q : Array Tmp} {r t : Code} : Snd md P γ N (.rangeFunc p q r t) := by
  intro c' hc Q s H β a w hr
  simp [compile] at hc; subst hc; exact False.elim H

theorem snd_refuse {y : String} : Snd md P γ N (.refuse y) := by
  intro c' hc Q s H β a w hr
  simp [compile] at hc; subst hc; exact False.elim H

theorem snd_scope {x : Code} (ix : Snd md P γ N x) (ir : ∀ l rest, findLabel x l = some rest → Snd md P γ N rest) : Snd md P γ N (.scope x) := by
  intro c' hc Q s H β a w hr
  simp only [compile, Option.map_eq_some_iff] at hc
  obtain ⟨x', hx, rfl⟩ := hc
  simp only [mkScope, WP] at H
  obtain ⟨I, hfirst, hpass⟩ := H
  obtain ⟨l, hl⟩ : ∃ l, l = (firstLabel x').getD 0 := ⟨_, rfl⟩
  rw [← hl] at hfirst hpass
  obtain ⟨hb1, hb2⟩ := behind_out (l := l) hx
  intro b k cs
  have key : ∀ n (s1 : St) (β1 : LMap) (a1 : Act) (w1 : World), I n s1 → Rel γ N β1 s1 a1 w1 → Fr β s.heap w β1 s1.heap w1 →
      ∃ rest, findLabel x l = some rest ∧ ∃ e a' w', Done γ N β s.heap w Q e a' w' ∧ Arrives P (lone (b.at a1 (.code rest :: .inScope x :: k)) cs w1) b k cs e a' w' := by
    intro n
    induction n using Nat.strongRecOn with
    | _ n ih =>
      intro s1 β1 a1 w1 hI hr1 hf1
      have hp := hpass n s1 hI
      cases hfl : findLabel x l with
      | none => rw [hb2 hfl] at hp; exact False.elim hp
      | some rest =>
        obtain ⟨r', hr', hcr⟩ := hb1 rest hfl
        rw [hr'] at hp
        refine ⟨rest, rfl, ?_⟩
        obtain ⟨e, a2, w2, ⟨s2, β2, hq, hr2, hf2⟩, harr⟩ := ir l rest hfl hcr hp hr1 b (.inScope x :: k) cs
        cases e with
        | normal => exact ⟨.normal, a2, w2, ⟨s2, β2, hq, hr2, hf1.trans hf2⟩, Steps.trans harr (.one step_inScope)⟩
        | exit id => exact ⟨.exit id, a2, w2, ⟨s2, β2, hq, hr2, hf1.trans hf2⟩, fun k' hk => harr k' (by simp [exitTo, hk])⟩
        | goto l' =>
          obtain ⟨rfl, m, s3, hlt, hle, hI2⟩ := hq
          obtain ⟨rest2, hfl2, e2, a3, w3, hq2, harr2⟩ := ih m hlt s3 β2 a2 w2 hI2 (hr2.le hle) (by rw [← hle.1]; exact hf1.trans hf2)
          rw [hfl] at hfl2; cases hfl2
          have hg : gotoIn l' (.inScope x :: k) = some (.code rest :: .inScope x :: k) := by simp [gotoIn, hfl]
          exact ⟨e2, a3, w3, hq2, .of_steps (harr _ hg) harr2⟩
        | ret => exact ⟨_, a2, w2, ⟨s2, β2, hq, hr2, hf1.trans hf2⟩, harr⟩
        | panic ch => exact ⟨_, a2, w2, ⟨s2, β2, hq, hr2, hf1.trans hf2⟩, harr⟩
        | outgrown => exact ⟨_, a2, w2, ⟨s2, β2, hq, hr2, hf1.trans hf2⟩, harr⟩
  obtain ⟨e, a1, w1, ⟨s1, β1, hq, hr1, hf1⟩, harr⟩ := ix hx hfirst hr b (.inScope x :: k) cs
  cases e with
  | normal => exact ⟨.normal, a1, w1, ⟨s1, β1, hq, hr1, hf1⟩, .head step_scope (Steps.trans harr (.one step_inScope))⟩
  | exit id => exact ⟨.exit id, a1, w1, ⟨s1, β1, hq, hr1, hf1⟩, fun k' hk => .head step_scope (harr k' (by simp [exitTo, hk]))⟩
  | goto l' =>
    obtain ⟨rfl, n, s3, hle, hI⟩ := hq
    obtain ⟨rest, hfl, e2, a2, w2, hq2, harr2⟩ := key n s3 β1 a1 w1 hI (hr1.le hle) (by rw [← hle.1]; exact hf1)
    have hg : gotoIn l' (.inScope x :: k) = some (.code rest :: .inScope x :: k) := by simp [gotoIn, hfl]
    exact ⟨e2, a2, w2, hq2, .of_steps (.head step_scope (harr _ hg)) harr2⟩
  | ret => exact ⟨_, a1, w1, ⟨s1, β1, hq, hr1, hf1⟩, .of_steps (.one step_scope) harr⟩
  | panic ch => exact ⟨_, a1, w1, ⟨s1, β1, hq, hr1, hf1⟩, .of_steps (.one step_scope) harr⟩
  | outgrown => exact ⟨_, a1, w1, ⟨s1, β1, hq, hr1, hf1⟩, .of_steps (.one step_scope) harr⟩

theorem snd_all : ∀ c : Code, Snd md P γ N c ∧ ∀ l rest, findLabel c l = some rest → Snd md P γ N rest
  | .skip => ⟨snd_skip, fun l rest h => by simp [findLabel] at h⟩
  | .region id ops draw => ⟨snd_region, fun l rest h => by simp [findLabel] at h⟩
  | .seq x y => by
    obtain ⟨x1, x2⟩ := snd_all x
    obtain ⟨y1, y2⟩ := snd_all y
    refine ⟨snd_seq x1 y1, fun l rest h => ?_⟩
    simp only [findLabel] at h
    split at h
    · rename_i r hr; simp at h; subst h; exact snd_seq (x2 l r hr) y1
    · exact y2 l rest h
  | .cond c x y => ⟨snd_cond (snd_all x).1 (snd_all y).1, fun l rest h => by simp [findLabel] at h⟩
  | .block id x => ⟨snd_block (snd_all x).1, fun l rest h => by simp [findLabel] at h⟩
  | .loop x => ⟨snd_loop (snd_all x).1, fun l rest h => by simp [findLabel] at h⟩
  | .exit id => ⟨snd_exit, fun l rest h => by simp [findLabel] at h⟩
  | .ret => ⟨snd_ret, fun l rest h => by simp [findLabel] at h⟩
  | .label l' => ⟨snd_label, fun l rest h => by
      simp only [findLabel] at h
      split at h
      · simp at h; subst h; exact snd_skip
      · simp at h⟩
  | .goto l => ⟨snd_goto, fun l rest h => by simp [findLabel] at h⟩
  | .rangeFunc _ _ _ _ => ⟨snd_rangeFunc, fun l rest h => by simp [findLabel] at h⟩
  | .refuse _ => ⟨snd_refuse, fun l rest h => by simp [findLabel] at h⟩
  | .scope x => ⟨snd_scope (snd_all x).1 (snd_all x).2, fun l rest h => by simp [findLabel] at h⟩

theorem code_sound {c : Code} : Snd md P γ N c := (snd_all c).1
end

/-! Calls. -/

/-- The results, as they stand. -/
def resVal (γ : Nat → Option Nat) (P : Program) (s : St) : List ResultVar → (List Value → Prop) → Prop
  | [], K => K []
  | .tmp t :: r, K => (match s.env.get t with | some (true, v) => resVal γ P s r fun vs => K (v :: vs) | _ => False)
  | .cell t T :: r, K => (match s.env.get t with
    | some (true, .pointer (some ⟨id, o, none⟩)) => match s.heap[id]? with
      | some ob => ob.live = true ∧ (match aggT P T with
        | some false => o < ob.cells.length ∧ resVal γ P s r fun vs => K (ob.cells.getD o undef :: vs)
        | some true => match szT P T with
          | some n => o + n ≤ ob.cells.length ∧ resVal γ P s r fun vs => K (.agg ((ob.cells.drop o).take n).toArray :: vs)
          | none => False
        | none => False)
      | none => False
    | _ => False)

def resOne : List Value → Value
  | [v] => v
  | vs => .tuple vs.toArray

theorem resVal_out {P : Program} {γ : Nat → Option Nat} {N : Nat} {s : St} : ∀ {rs : List ResultVar} {K : List Value → Prop}, resVal γ P s rs K → ∃ vs, K vs ∧ vs.length = rs.length ∧
    ∀ (β : LMap) (a : Act) (w : World), Rel γ N β s a w → ∃ cvs : List Value, (rs.mapM fun r => match r with
      | .tmp t => pure (a.tmps.getD t undef)
      | .cell t T => do loadVar T (← asAddr (a.tmps.getD t undef)) : Sem (List Value)).run P w = .ok cvs w ∧ cvs.length = vs.length ∧ ∀ (i : Nat) v, vs[i]? = some v → ∃ cv, cvs[i]? = some cv ∧ VRel β v cv
  | [], K, H => ⟨[], H, rfl, fun β a w hr => ⟨[], by simp, rfl, fun i v hv => by simp at hv⟩⟩
  | .tmp t :: r, K, H => by
    simp only [resVal] at H
    split at H
    · rename_i v he
      obtain ⟨vs, hK, hl, hall⟩ := resVal_out (N := N) H
      refine ⟨v :: vs, hK, by simp [hl], fun β a w hr => ?_⟩
      obtain ⟨cvs, h1, h2, h3⟩ := hall β a w hr
      refine ⟨a.tmps.getD t undef :: cvs, ?_, by simp [h2], fun i u hu => ?_⟩
      · rw [List.mapM_cons]; simp only [Sem.run_bind, Sem.run_pure, Result.andThen_ok, h1]
      · cases i with
        | zero => simp at hu; subst hu; exact ⟨_, rfl, (hr.env t true v he).1 rfl⟩
        | succ i => exact h3 i u (by simpa using hu)
    · exact H.elim
  | .cell t T :: r, K, H => by
    simp only [resVal] at H
    split at H
    · rename_i id o he
      split at H
      · rename_i ob hid
        obtain ⟨hlive, H⟩ := H
        split at H
        · rename_i hT
          obtain ⟨ho, H⟩ := H
          obtain ⟨vs, hK, hl, hall⟩ := resVal_out (N := N) H
          refine ⟨_ :: vs, hK, by simp [hl], fun β a w hr => ?_⟩
          obtain ⟨cvs, h1, h2, h3⟩ := hall β a w hr
          obtain ⟨L, q1, q2, q3⟩ := ptr_at hr.heap ((hr.env t true _ he).1 rfl) hid hlive
          obtain ⟨cv, q4, q5⟩ := q3.load1 ho
          refine ⟨cv :: cvs, ?_, by simp [h2], fun i u hu => ?_⟩
          · have hld : (loadVar T ⟨L.blk, L.base + o, none⟩).run P w = .ok cv w := by
              simp only [loadVar, Sem.run_bind, run_isAgg hT, Result.andThen_ok, Bool.false_eq_true, if_false]
              simp only [load, Sem.run, q4]
            have had : (asAddr (a.tmps.getD t undef)).run P w = .ok ⟨L.blk, L.base + o, none⟩ w := by rw [q2]; rfl
            rw [List.mapM_cons]
            simp only [Sem.run_bind, had, Sem.run_pure, Result.andThen_ok, hld, h1]
          · cases i with
            | zero => simp at hu; subst hu; exact ⟨_, rfl, by simpa using q5⟩
            | succ i => exact h3 i u (by simpa using hu)
        · rename_i hT
          split at H
          · rename_i n hn
            obtain ⟨ho, H⟩ := H
            obtain ⟨vs, hK, hl, hall⟩ := resVal_out (N := N) H
            refine ⟨_ :: vs, hK, by simp [hl], fun β a w hr => ?_⟩
            obtain ⟨cvs, h1, h2, h3⟩ := hall β a w hr
            obtain ⟨L, q1, q2, q3⟩ := ptr_at hr.heap ((hr.env t true _ he).1 rfl) hid hlive
            obtain ⟨cs, q4, q5, q6⟩ := run_loadObj (P := P) q3 o n ho
            refine ⟨.agg cs :: cvs, ?_, by simp [h2], fun i u hu => ?_⟩
            · have hld : (loadVar T ⟨L.blk, L.base + o, none⟩).run P w = .ok (.agg cs) w := by
                simp only [loadVar, Sem.run_bind, run_isAgg hT, Result.andThen_ok, if_true, run_size hn, q4, Sem.run_pure]
              have had : (asAddr (a.tmps.getD t undef)).run P w = .ok ⟨L.blk, L.base + o, none⟩ w := by rw [q2]; rfl
              rw [List.mapM_cons]
              simp only [Sem.run_bind, had, Sem.run_pure, Result.andThen_ok, hld, h1]
            · cases i with
              | zero => simp at hu; subst hu; exact ⟨_, rfl, rel_agg (by simp [q5]; omega) q6⟩
              | succ i => exact h3 i u (by simpa using hu)
          · exact H.elim
        · exact H.elim
      · exact H.elim
    · exact H.elim

theorem results_run {P : Program} {γ : Nat → Option Nat} {N : Nat} {s : St} {fn : Func} {K : List Value → Prop} (H : resVal γ P s fn.results.toList K) : ∃ vs, K vs ∧
    ∀ (β : LMap) (a : Act) (w : World), Rel γ N β s a w → ∃ cv, (results fn a.tmps).run P w = .ok cv w ∧ VRel β (resOne vs) cv := by
  obtain ⟨vs, hK, hl, hall⟩ := resVal_out (N := N) H
  refine ⟨vs, hK, fun β a w hr => ?_⟩
  obtain ⟨cvs, h1, h2, h3⟩ := hall β a w hr
  have hm : (fn.results.mapM fun r => match r with
      | .tmp t => pure (a.tmps.getD t undef)
      | .cell t T => do loadVar T (← asAddr (a.tmps.getD t undef)) : Sem (Array Value)).run P w = .ok cvs.toArray w := by
    rw [Array.mapM_eq_mapM_toList]
    simp only [Sem.run_map, h1, Result.andThen_ok]
  have hrun : (results fn a.tmps).run P w = .ok (if h : cvs.toArray.size = 1 then cvs.toArray[0] else .tuple cvs.toArray) w := by
    unfold results
    simp only [Sem.run_bind]
    erw [hm]
    rfl
  refine ⟨_, hrun, ?_⟩
  rcases vs with _ | ⟨v, _ | ⟨v2, r⟩⟩
  · have : cvs = [] := List.length_eq_zero_iff.1 h2
    subst this
    exact .tuple rfl fun i x y hx => by simp at hx
  · obtain ⟨c, rfl⟩ := List.length_eq_one_iff.1 h2
    obtain ⟨cv, h4, h5⟩ := h3 0 v rfl
    simp at h4; subst h4
    simpa [resOne] using h5
  · have : ¬ (cvs.toArray.size = 1) := by simp at h2 ⊢; omega
    rw [dif_neg this]
    refine .tuple (by simp [h2]) fun i x y hx hy => ?_
    obtain ⟨cv, h4, h5⟩ := h3 i x (by simpa using hx)
    have : cvs[i]? = some y := by simpa using hy
    rw [this] at h4; cases h4; exact h5

def ren (n : Nat) (js : List Nat) (big : Nat) : Nat → Nat := fun id => if id < n then id else js.getD (id - n) big

def CellsR (ρ : Nat → Nat) (cs cs1 : List Value) : Prop := ∀ (j : Nat) v, cs[j]? = some v → ∃ u, cs1[j]? = some u ∧ RR ρ v u

/-- What a call leaves, told anew: of what it made only what is still wanted, under new numbers. -/
def ExitOk (h h1 : AHeap) (v1 v : Value) (h' : AHeap) : Prop :=
  ∃ js : List Nat, h'.length = h.length + js.length ∧ (∀ j ∈ js, h.length ≤ j) ∧ js.Nodup ∧ RR (ren h.length js h1.length) v v1 ∧
    ∀ id ob', h'[id]? = some ob' → ob'.live = true → ∃ ob1, h1[ren h.length js h1.length id]? = some ob1 ∧ ob1.live = true ∧ ob'.own = ob1.own ∧ ob'.slack = ob1.slack ∧ ob'.esz = ob1.esz ∧
      ((id < h.length ∧ h[id]? = some ob' ∧ ob1 = ob') ∨ CellsR (ren h.length js h1.length) ob'.cells ob1.cells)

theorem exit_sound {γ : Nat → Option Nat} {β β1 : LMap} {h h1 h' : AHeap} {v1 v cv : Value} {w w1 : World} (H0 : HRel γ β h w) (H1 : HRel γ β1 h1 w1) (f : Fr β h w β1 h1 w1) (hv : VRel β1 v1 cv) (hx : ExitOk h h1 v1 v h') :
    ∃ β', VRel β' v cv ∧ HRel γ β' h' w1 ∧ Fr β h w β' h' w1 := by
  obtain ⟨js, hlen, hge, hnd, hrv, hall⟩ := hx
  obtain ⟨ρ, hρ⟩ : ∃ ρ, ρ = ren h.length js h1.length := ⟨_, rfl⟩
  rw [← hρ] at hrv hall
  obtain ⟨β', hβ'⟩ : ∃ β' : LMap, β' = fun id => if id < h.length then β id else if id < h'.length then β1 (ρ id) else none := ⟨_, rfl⟩
  have hlt : ∀ id, id < h.length → ρ id = id := fun id hid => by rw [hρ]; unfold ren; rw [if_pos hid]
  have hbig : ∀ id, h'.length ≤ id → β1 (ρ id) = none := by
    intro id hid
    have : ρ id = h1.length := by rw [hρ]; unfold ren; rw [if_neg (by omega), List.getD_eq_getElem?_getD, List.getElem?_eq_none (by omega)]; rfl
    rw [this]
    cases hq : β1 h1.length with
    | none => rfl
    | some L => exact absurd (H1.dom _ _ hq) (by omega)
  have hnew : ∀ id, h.length ≤ id → id < h'.length → ∃ k, js[id - h.length]? = some k ∧ ρ id = k ∧ h.length ≤ k := by
    intro id h2 h3
    have hlt2 : id - h.length < js.length := by omega
    refine ⟨js[id - h.length], List.getElem?_eq_getElem hlt2, ?_, hge _ (List.getElem_mem hlt2)⟩
    rw [hρ]; unfold ren; rw [if_neg (by omega), List.getD_eq_getElem?_getD, List.getElem?_eq_getElem hlt2]; rfl
  have hpt : ∀ id L, β1 (ρ id) = some L → β' id = some L := by
    intro id L hl
    simp only [hβ']
    by_cases hq : id < h.length
    · rw [if_pos hq, ← f.ext id hq, ← hlt id hq, hlt id hq]; rw [hlt id hq] at hl; exact hl
    · rw [if_neg hq]
      by_cases hq2 : id < h'.length
      · rw [if_pos hq2]; exact hl
      · rw [hbig id (by omega)] at hl; simp at hl
  have hback : ∀ id L, β' id = some L → id < h'.length ∧ β1 (ρ id) = some L := by
    intro id L hl
    simp only [hβ'] at hl
    split at hl
    · rename_i hq
      exact ⟨by omega, by rw [hlt id hq, f.ext id hq]; exact hl⟩
    · split at hl
      · rename_i hq; exact ⟨hq, hl⟩
      · simp at hl
  have hinj : ∀ i j, i < h'.length → j < h'.length → i ≠ j → ρ i ≠ ρ j := by
    intro i j hi hj hne
    by_cases h2 : i < h.length
    · by_cases h3 : j < h.length
      · rw [hlt i h2, hlt j h3]; exact hne
      · obtain ⟨k, _, h5, h6⟩ := hnew j (by omega) hj
        rw [hlt i h2, h5]; omega
    · obtain ⟨k, h4, h5, h6⟩ := hnew i (by omega) hi
      by_cases h3 : j < h.length
      · rw [hlt j h3, h5]; omega
      · obtain ⟨k', h4', h5', h6'⟩ := hnew j (by omega) hj
        rw [h5, h5']
        intro hk; subst hk
        have h8 := (List.getElem?_eq_some_iff.1 h4)
        have h9 := (List.getElem?_eq_some_iff.1 h4')
        have := (List.getElem_inj (h₀ := h8.1) (h₁ := h9.1) hnd).1 (h8.2.trans h9.2.symm)
        omega
  refine ⟨β', hrv.rel hv hpt, ⟨fun id L hl => ?_, fun id ob' L ho hlive hl => ?_, fun i j oi oj Li Lj hi hj li lj own real hne hli hlj => ?_, fun g id hg => ?_⟩, ⟨f.os, f.tape, f.output, f.size, by omega, fun id hid => by simp only [hβ']; rw [if_pos hid], f.keep, ?_⟩⟩
  · exact (hback id L hl).1
  · obtain ⟨h2, h3⟩ := hback id L hl
    obtain ⟨ob1, q1, q2, q3, q4, q5, q6⟩ := hall id ob' ho hlive
    obtain ⟨s1, e1, hat1⟩ := H1.live _ ob1 L q1 q2 h3
    refine ⟨s1.trans q4.symm, e1.trans q5.symm, fun hreal => ?_⟩
    have hreal1 : ob1.real := by
      rcases hreal with hr | hr
      · exact .inl (q3.symm.trans hr)
      · right
        rcases q6 with ⟨_, _, rfl⟩ | hcr
        · exact hr
        · obtain ⟨u, t1, _⟩ := hcr 0 _ (List.getElem?_eq_getElem hr)
          exact (List.getElem?_eq_some_iff.1 t1).1
    obtain ⟨c, e, fz, r1, r2, r3, r4⟩ := hat1 hreal1
    refine ⟨c, e, fz, r1, r2, fun ho => r3 (q3.symm.trans ho), fun j x hj => ?_⟩
    rcases q6 with ⟨h4, h5, rfl⟩ | hcr
    · obtain ⟨cv1, t1, t2⟩ := r4 j x hj
      have hβid : β id = some L := by rw [← f.ext id h4, ← hlt id h4, hlt id h4]; rw [hlt id h4] at h3; exact h3
      obtain ⟨_, _, hat0⟩ := H0.live id ob1 L h5 hlive hβid
      obtain ⟨c0, _, _, _, _, _, k4⟩ := hat0 hreal1
      obtain ⟨cv0, t3, t4⟩ := k4 j x hj
      refine ⟨cv1, t1, t2.agree t4 fun id' L1 L2 m1 m2 => ?_⟩
      have hid' := H0.dom id' L1 m1
      simp only [hβ']
      rw [if_pos hid', ← f.ext id' hid']; exact m2
    · obtain ⟨u, t1, t2⟩ := hcr j x hj
      obtain ⟨cv1, t3, t4⟩ := r4 j u t1
      exact ⟨cv1, t3, t2.rel t4 hpt⟩
  · obtain ⟨a1, a2⟩ := hback i Li hli
    obtain ⟨b1, b2⟩ := hback j Lj hlj
    obtain ⟨o1, q1, q2, q3, _⟩ := hall i oi hi li
    obtain ⟨o2, q1', q2', q3', _, _, q6'⟩ := hall j oj hj lj
    have hreal2 : o2.real := by
      rcases real with hr | hr
      · exact .inl (q3'.symm.trans hr)
      · right
        rcases q6' with ⟨_, _, rfl⟩ | hcr
        · exact hr
        · obtain ⟨u, t1, _⟩ := hcr 0 _ (List.getElem?_eq_getElem hr)
          exact (List.getElem?_eq_some_iff.1 t1).1
    exact H1.sep _ _ o1 o2 Li Lj q1 q1' q2 q2' (q3.symm.trans own) hreal2 (hinj i j a1 b1 hne) a2 b2
  · obtain ⟨L, g1, g2, g3⟩ := H0.glob g id hg
    exact ⟨L, by simp only [hβ']; rw [if_pos (H0.dom _ _ g1)]; exact g1, g2, g3⟩
  · rintro b ⟨id, ob', L, m1, m2, m3, m4, m5⟩
    obtain ⟨_, a2⟩ := hback id L m4
    obtain ⟨o1, q1, q2, q3, _⟩ := hall id ob' m1 m2
    exact f.own b ⟨_, o1, L, q1, q2, q3.symm.trans m3, a2, m5⟩

def argEnv : Nat → List Value → Env
  | _, [] => []
  | k, v :: r => (k, some (true, v)) :: argEnv (k + 1) r

theorem argEnv_get : ∀ {l : List Value} {k i : Nat} {g : Bool} {v : Value}, (argEnv k l).get i = some (g, v) → g = true ∧ k ≤ i ∧ l[i - k]? = some v
  | [], k, i, g, v, h => by simp [argEnv, Env.get] at h
  | u :: r, k, i, g, v, h => by
    simp only [argEnv, Env.get] at h
    split at h
    · rename_i hi; subst hi; cases h; exact ⟨rfl, Nat.le_refl _, by simp⟩
    · rename_i hi
      obtain ⟨h1, h2, h3⟩ := argEnv_get h
      refine ⟨h1, by omega, ?_⟩
      obtain ⟨m, hm⟩ : ∃ m, i - k = m + 1 := ⟨i - k - 1, by omega⟩
      rw [hm, List.getElem?_cons_succ, show m = i - (k + 1) by omega]; exact h3

/-- A contract, out of its function's code. -/
theorem acall_intro {P : Program} {γ : Nat → Option Nat} {f : FuncId} {fn : Func} {c : Code} {c' : C} {args : List Value} {h h' : AHeap} {v : Value} (hf : P.funcs[f]? = some fn) (hb : fn.body = some c) (hc : compile P fn.ntmps c = some c') (hn : args.length ≤ fn.ntmps)
    (H : WP md P γ c' (fun e s' => (e = .normal ∨ e = .ret) ∧ resVal γ P s' fn.results.toList fun vs => ExitOk h s'.heap (resOne vs) v h') ⟨argEnv 0 args, h⟩) : ACall P γ f args h v h' := by
  intro β w cargs hh hsz hargs
  refine calls_of_wp hf hb (wp_mono (code_sound (N := fn.ntmps) hc H (β := β) (a := { tmps := cargs ++ Array.replicate (fn.ntmps - cargs.size) undef, defers := [] }) (w := w) ⟨?_, hh, rfl, by simp; omega⟩) ?_)
  · intro i g v he
    obtain ⟨h1, h2, h3⟩ := argEnv_get he
    refine ⟨fun _ => ?_, fun hg => by rw [h1] at hg; simp at hg⟩
    have hlt := (List.getElem?_eq_some_iff.1 h3).1
    have hget : (cargs ++ Array.replicate (fn.ntmps - cargs.size) undef).getD i undef = cargs[i]'(by omega) := by
      rw [Array.getD_eq_getD_getElem?, Array.getElem?_append_left (by omega), Array.getElem?_eq_getElem (by omega)]; rfl
    simp only [hget]
    exact hargs i v _ (by simpa using h3) (Array.getElem?_eq_getElem (by omega))
  · rintro e a' w' ⟨s', β1, ⟨hexit, hres⟩, hr1, hf1⟩
    obtain ⟨vs, hx, hrun⟩ := results_run (N := fn.ntmps) hres
    obtain ⟨cv, h1, h2⟩ := hrun β1 a' w' hr1
    obtain ⟨β', h3, h4, h5⟩ := exit_sound hh hr1.heap hf1 h2 hx
    rcases hexit with rfl | rfl
    · exact ⟨hr1.defers, cv, h1, cv, β', rfl, h3, h4, h5⟩
    · exact ⟨hr1.defers, cv, h1, cv, β', rfl, h3, h4, h5⟩

/-- A contract of which only so much is told, out of its function's code. -/
theorem acn_intro {P : Program} {γ : Nat → Option Nat} {f : FuncId} {fn : Func} {c : Code} {c' : C} {args : List Value} {h : AHeap} {Post : Value → AHeap → Prop} (hf : P.funcs[f]? = some fn) (hb : fn.body = some c) (hc : compile P fn.ntmps c = some c') (hn : args.length ≤ fn.ntmps)
    (H : WP md P γ c' (fun e s' => (e = .normal ∨ e = .ret) ∧ resVal γ P s' fn.results.toList fun vs => ∃ v h', Post v h' ∧ ExitOk h s'.heap (resOne vs) v h') ⟨argEnv 0 args, h⟩) : ACn P γ f args h Post := by
  intro β w cargs hh hsz hargs
  refine calls_of_wp hf hb (wp_mono (code_sound (N := fn.ntmps) hc H (β := β) (a := { tmps := cargs ++ Array.replicate (fn.ntmps - cargs.size) undef, defers := [] }) (w := w) ⟨?_, hh, rfl, by simp; omega⟩) ?_)
  · intro i g v he
    obtain ⟨h1, h2, h3⟩ := argEnv_get he
    refine ⟨fun _ => ?_, fun hg => by rw [h1] at hg; simp at hg⟩
    have hlt := (List.getElem?_eq_some_iff.1 h3).1
    have hget : (cargs ++ Array.replicate (fn.ntmps - cargs.size) undef).getD i undef = cargs[i]'(by omega) := by
      rw [Array.getD_eq_getD_getElem?, Array.getElem?_append_left (by omega), Array.getElem?_eq_getElem (by omega)]; rfl
    simp only [hget]
    exact hargs i v _ (by simpa using h3) (Array.getElem?_eq_getElem (by omega))
  · rintro e a' w' ⟨s', β1, ⟨hexit, hres⟩, hr1, hf1⟩
    obtain ⟨vs, ⟨v, h', hp, hx⟩, hrun⟩ := results_run (N := fn.ntmps) hres
    obtain ⟨cv, h1, h2⟩ := hrun β1 a' w' hr1
    obtain ⟨β', h3, h4, h5⟩ := exit_sound hh hr1.heap hf1 h2 hx
    rcases hexit with rfl | rfl
    · exact ⟨hr1.defers, cv, h1, v, h', cv, β', hp, rfl, h3, h4, h5⟩
    · exact ⟨hr1.defers, cv, h1, v, h', cv, β', hp, rfl, h3, h4, h5⟩

/-- Nothing that was there has turned, and a plain value comes back. -/
theorem exit_same {h t : AHeap} {v : Value} (hv : cOk v = true) : ExitOk h (h ++ t) v v h :=
  ⟨[], by simp, by simp, by simp, cOk_rel hv, fun id ob' ho hl => by
    have hlt := (List.getElem?_eq_some_iff.1 ho).1
    refine ⟨ob', ?_, hl, rfl, rfl, rfl, .inl ⟨hlt, ho, rfl⟩⟩
    unfold ren
    rw [if_pos hlt, List.getElem?_append_left hlt]; exact ho⟩
end Go.Vx
