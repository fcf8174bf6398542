/- A part of the proof: what it shows stands in its theorems. No condition beyond those that they name. -/
import Derived.Test.YtefjoeonilkdfaaVxL2
namespace Go.Vx
variable {md : Bool}
set_option linter.unusedSimpArgs false
set_option linter.unusedVariables false

/-! Rows whose order is drawn, and the order of the text is enough: of any two that are not in order one only computes. -/

/-- What only computes, whatever is in memory. -/
def isA : IOp → Bool
  | .mov _ | .bin _ _ _ | .un _ _ | .conv _ _ | .lenSl _ | .lenStr _ | .lenArr _ | .extract _ _ | .fieldAddr _ _ | .idxSl _ _ _ | .idxArr _ _ _ _ | .eqv _ _ _ _ | .pick _ _ _ | .idxStr _ _ | .sliceStr _ _ _ | .fld _ _ _ | .nilchk _ | .idxAgg _ _ _ _ => true
  | _ => false

theorem isA_eff {op : IOp} (h : isA op = true) : eff op = false := by cases op <;> first | rfl | simp [isA] at h

theorem use_some {γ : Nat → Option Nat} {env : Env} {g gx : Bool} {x : Operand} {v : Value} {K : Value → Prop} (h : ev γ env x = some (gx, v)) : Use γ env g x K = ((g = true → gx = true) ∧ K v) := by unfold Use; rw [h]
theorem use_none {γ : Nat → Option Nat} {env : Env} {g : Bool} {x : Operand} {K : Value → Prop} (h : ev γ env x = none) : Use γ env g x K = False := by unfold Use; rw [h]

theorem isA_out {P : Program} {γ : Nat → Option Nat} {env : Env} {h : AHeap} {g : Bool} {op : IOp} {K : Value → AHeap → Prop} (ha : isA op = true) (H : OpVC P γ env h g op K) :
    ∃ v, K v h ∧ ∀ h2, OpVC P γ env h2 g op (fun v' h' => v' = v ∧ h' = h2) := by
  cases op with
  | mov x =>
    simp only [OpVC] at H ⊢
    obtain ⟨gx, v, e1, c1, H⟩ := H.out
    exact ⟨v, H, fun h2 => by rw [use_some e1]; exact ⟨c1, rfl, by trivial⟩⟩
  | pick c a b =>
    simp only [OpVC] at H ⊢
    obtain ⟨gx, v, e1, c1, H⟩ := H.out
    simp only [use_some e1]
    split at H
    · split at H
      · exact ⟨_, H.2.2, fun h2 => ⟨c1, H.1, H.2.1, rfl, by trivial⟩⟩
      · exact H.elim
    · exact ⟨_, H.2, fun h2 => ⟨c1, H.1, rfl, by trivial⟩⟩
  | bin op x y =>
    simp only [OpVC] at H ⊢
    obtain ⟨gx, u, e1, c1, H⟩ := H.out
    obtain ⟨gy, v, e2, c2, H⟩ := H.out
    simp only [use_some e1, use_some e2]
    split at H
    · exact ⟨_, H.2, fun h2 => ⟨c1, c2, H.1, rfl, by trivial⟩⟩
    · exact ⟨_, H.2, fun h2 => ⟨c1, c2, H.1, rfl, by trivial⟩⟩
  | eqv neg k x y =>
    simp only [OpVC] at H ⊢
    obtain ⟨gx, u, e1, c1, H⟩ := H.out
    obtain ⟨gy, v, e2, c2, H⟩ := H.out
    simp only [use_some e1, use_some e2]
    split at H
    · exact ⟨_, H, fun h2 => ⟨c1, c2, rfl, by trivial⟩⟩
    · exact ⟨_, H.2, fun h2 => ⟨c1, c2, H.1, rfl, by trivial⟩⟩
  | un op x =>
    simp only [OpVC] at H ⊢
    obtain ⟨gx, u, e1, c1, H⟩ := H.out
    simp only [use_some e1]
    split at H
    · exact ⟨_, H, fun h2 => ⟨c1, rfl, by trivial⟩⟩
    · exact ⟨_, H, fun h2 => ⟨c1, rfl, by trivial⟩⟩
    · exact ⟨_, H.2, fun h2 => ⟨c1, H.1, rfl, by trivial⟩⟩
  | conv k x =>
    simp only [OpVC] at H ⊢
    obtain ⟨gx, u, e1, c1, H⟩ := H.out
    simp only [use_some e1]
    split at H
    · exact ⟨_, H, fun h2 => ⟨c1, rfl, by trivial⟩⟩
    · exact ⟨_, H.2, fun h2 => ⟨c1, H.1, rfl, by trivial⟩⟩
  | lenSl x =>
    simp only [OpVC] at H ⊢
    obtain ⟨gx, u, e1, c1, H⟩ := H.out
    simp only [use_some e1]
    split at H
    · exact ⟨_, H, fun h2 => ⟨c1, rfl, by trivial⟩⟩
    · exact ⟨_, H.2, fun h2 => ⟨c1, H.1, rfl, by trivial⟩⟩
  | lenStr x =>
    simp only [OpVC] at H ⊢
    obtain ⟨gx, u, e1, c1, H⟩ := H.out
    simp only [use_some e1]
    split at H
    · exact ⟨_, H, fun h2 => ⟨c1, rfl, by trivial⟩⟩
    · exact ⟨_, H.2, fun h2 => ⟨c1, H.1, rfl, by trivial⟩⟩
  | lenArr n =>
    simp only [OpVC] at H ⊢
    exact ⟨_, H, fun h2 => ⟨rfl, by trivial⟩⟩
  | extract x i =>
    simp only [OpVC] at H ⊢
    obtain ⟨gx, u, e1, c1, H⟩ := H.out
    simp only [use_some e1]
    split at H
    · split at H
      · exact ⟨_, H, fun h2 => ⟨c1, rfl, by trivial⟩⟩
      · exact ⟨_, H.2, fun h2 => ⟨c1, H.1, rfl, by trivial⟩⟩
    · exact ⟨_, H.2, fun h2 => ⟨c1, H.1, rfl, by trivial⟩⟩
  | fieldAddr off x =>
    simp only [OpVC] at H ⊢
    obtain ⟨gx, u, e1, c1, H⟩ := H.out
    simp only [use_some e1]
    split at H
    · exact ⟨_, H, fun h2 => ⟨c1, rfl, by trivial⟩⟩
    · exact ⟨_, H.2, fun h2 => ⟨c1, H.1, rfl, by trivial⟩⟩
  | idxSl esz x i =>
    simp only [OpVC] at H ⊢
    obtain ⟨gx, u, e1, c1, H⟩ := H.out
    obtain ⟨gy, v, e2, c2, H⟩ := H.out
    simp only [use_some e1, use_some e2]
    split at H
    · exact ⟨_, H.2, fun h2 => ⟨c1, c2, H.1, rfl, by trivial⟩⟩
    · exact ⟨_, H.2, fun h2 => ⟨c1, c2, H.1, rfl, by trivial⟩⟩
  | idxArr n esz x i =>
    simp only [OpVC] at H ⊢
    obtain ⟨gx, u, e1, c1, H⟩ := H.out
    obtain ⟨gy, v, e2, c2, H⟩ := H.out
    simp only [use_some e1, use_some e2]
    split at H
    · exact ⟨_, H.2, fun h2 => ⟨c1, c2, H.1, rfl, by trivial⟩⟩
    · exact ⟨_, H.2, fun h2 => ⟨c1, c2, H.1, rfl, by trivial⟩⟩
  | idxStr x i =>
    simp only [OpVC] at H ⊢
    obtain ⟨gx, u, e1, c1, H⟩ := H.out
    obtain ⟨gy, v, e2, c2, H⟩ := H.out
    simp only [use_some e1, use_some e2]
    split at H
    · exact ⟨_, H.2, fun h2 => ⟨c1, c2, H.1, rfl, by trivial⟩⟩
    · exact ⟨_, H.2, fun h2 => ⟨c1, c2, H.1, rfl, by trivial⟩⟩
  | fld off n x =>
    simp only [OpVC] at H ⊢
    obtain ⟨gx, u, e1, c1, H⟩ := H.out
    simp only [use_some e1]
    split at H
    · split at H
      · split at H
        · exact ⟨_, H, fun h2 => ⟨c1, rfl, by trivial⟩⟩
        · exact ⟨_, H.2, fun h2 => ⟨c1, H.1, rfl, by trivial⟩⟩
      · exact ⟨_, H, fun h2 => ⟨c1, rfl, by trivial⟩⟩
    · exact ⟨_, H.2, fun h2 => ⟨c1, H.1, rfl, by trivial⟩⟩
  | nilchk x =>
    simp only [OpVC] at H ⊢
    obtain ⟨gx, u, e1, c1, H⟩ := H.out
    simp only [use_some e1]
    split at H
    · exact ⟨_, H, fun h2 => ⟨c1, rfl, by trivial⟩⟩
    · exact ⟨_, H, fun h2 => ⟨c1, rfl, by trivial⟩⟩
    · exact ⟨_, H.2, fun h2 => ⟨c1, H.1, rfl, by trivial⟩⟩
  | idxAgg n esz x i =>
    simp only [OpVC] at H ⊢
    obtain ⟨gx, u, e1, c1, H⟩ := H.out
    obtain ⟨gy, v, e2, c2, H⟩ := H.out
    simp only [use_some e1, use_some e2]
    split at H
    · exact ⟨_, H.2, fun h2 => ⟨c1, c2, H.1, rfl, by trivial⟩⟩
    · exact ⟨_, H.2, fun h2 => ⟨c1, c2, H.1, rfl, by trivial⟩⟩
  | sliceStr x lo hi =>
    simp only [OpVC] at H ⊢
    obtain ⟨gx, u, e1, c1, H⟩ := H.out
    simp only [use_some e1]
    split at H
    · rename_i s
      have key : ∀ (y : Option Operand) (d : Int) (K : Int → Prop), optUse γ env g y d K → ∃ n, K n ∧ ∀ K' : Int → Prop, K' n → optUse γ env g y d K' := by
        intro y d K h
        cases y with
        | none => exact ⟨d, h, fun K' h' => h'⟩
        | some y =>
          simp only [optUse] at h ⊢
          obtain ⟨gy, v, e2, c2, h⟩ := h.out
          simp only [use_some e2]
          split at h
          · exact ⟨_, h, fun K' h' => ⟨c2, h'⟩⟩
          · exact h.elim
      obtain ⟨b, H, kb⟩ := key _ _ _ H
      obtain ⟨a, H, ka⟩ := key _ _ _ H
      exact ⟨_, H.2, fun h2 => ⟨c1, kb _ (ka _ ⟨H.1, rfl, by trivial⟩)⟩⟩
    · exact ⟨_, H.2, fun h2 => ⟨c1, H.1, rfl, by trivial⟩⟩
  | _ => simp [isA] at ha

/-- A step that only computes, told for any memory. -/
theorem stepA {P : Program} {γ : Nat → Option Nat} {N : Nat} {ops : Array Oper} {q : Bool} {o : Oper} {i : Ins} (hc : compIns P N ops q o = some i) (ha : isA i.op = true) {s : St} {r : List Ins} {Q : St → Prop} (H : WPI md P γ (i :: r) Q s) :
    ∃ g v, guardVal s.env i.guard = some g ∧ (∀ h2, g = true → OpSem P γ o s.env h2 v h2) ∧ WPI md P γ r Q ⟨putE s.env i.dst g v, s.heap⟩ := by
  simp only [WPI] at H
  split at H
  · exact H.elim
  · rename_i g hg
    obtain ⟨hop, _⟩ := compIns_out hc
    have key : ∃ v, ((i.q = true → Quiet s.heap s.heap) ∧ WPI md P γ r Q ⟨putE s.env i.dst g v, s.heap⟩) ∧ ∀ h2, OpVC2 md P γ s.env h2 g i.op (fun v' h' => v' = v ∧ h' = h2) := by
      unfold OpVC2 at H ⊢
      have he := isA_eff ha
      cases md with
      | false =>
        simp only [Bool.false_or, he, sel_f] at H ⊢
        exact isA_out ha H
      | true =>
        simp only [Bool.true_or, sel_t] at H ⊢
        cases g with
        | true => simp only [sel_t] at H ⊢; exact isA_out ha H
        | false => simp only [sel_f] at H ⊢; exact ⟨_, H, fun h2 => ⟨rfl, by trivial⟩⟩
    obtain ⟨v, h1, h2⟩ := key
    refine ⟨g, v, hg, fun h3 ht => ?_, h1.2⟩
    obtain ⟨v', h', ⟨rfl, rfl⟩, hs, _⟩ := compile2_sound hop (h2 h3)
    exact hs ht

/-- What only computes, but looks at what is in memory. -/
def isB : IOp → Bool
  | .load _ _ | .slice _ _ _ _ _ | .sliceArr _ _ _ _ _ _ | .callp _ _ => true
  | _ => false

theorem isB_out {P : Program} {γ : Nat → Option Nat} {env : Env} {h : AHeap} {g : Bool} {op : IOp} {K : Value → AHeap → Prop} (hb : isB op = true) (H : OpVC P γ env h g op K) :
    OpVC P γ env h g op (fun v h' => h' = h ∧ K v h') := by
  have key : ∀ (y : Option Operand) (d : Int) (K : Int → Prop), optUse γ env g y d K → ∃ n, K n ∧ ∀ K' : Int → Prop, K' n → optUse γ env g y d K' := by
    intro y d K h
    cases y with
    | none => exact ⟨d, h, fun K' h' => h'⟩
    | some y =>
      simp only [optUse] at h ⊢
      obtain ⟨gy, v, e2, c2, h⟩ := h.out
      simp only [use_some e2]
      split at h
      · exact ⟨_, h, fun K' h' => ⟨c2, h'⟩⟩
      · exact h.elim
  cases op with
  | load n x =>
    cases n with
    | none =>
      simp only [OpVC] at H ⊢
      obtain ⟨gx, u, e1, c1, H⟩ := H.out
      simp only [use_some e1]
      split at H
      · split at H
        · exact ⟨c1, H.1, by trivial, H.2⟩
        · exact ⟨c1, H.1, by trivial, H.2⟩
      · exact ⟨c1, H.1, by trivial, H.2⟩
    | some n =>
      simp only [OpVC] at H ⊢
      obtain ⟨gx, u, e1, c1, H⟩ := H.out
      simp only [use_some e1]
      split at H
      · split at H
        · exact ⟨c1, H.1, by trivial, H.2⟩
        · exact ⟨c1, H.1, by trivial, H.2⟩
      · exact ⟨c1, H.1, by trivial, H.2⟩
  | slice esz x lo hi mx =>
    simp only [OpVC] at H ⊢
    obtain ⟨gx, u, e1, c1, H⟩ := H.out
    simp only [use_some e1]
    refine ⟨c1, ?_⟩
    split at H
    · obtain ⟨a, H, ka⟩ := key _ _ _ H
      obtain ⟨b, H, kb⟩ := key _ _ _ H
      obtain ⟨m, H, km⟩ := key _ _ _ H
      exact ka _ (kb _ (km _ ⟨H.1, by trivial, H.2⟩))
    · split at H
      · obtain ⟨a, H, ka⟩ := key _ _ _ H
        obtain ⟨b, H, kb⟩ := key _ _ _ H
        obtain ⟨m, H, km⟩ := key _ _ _ H
        exact ka _ (kb _ (km _ ⟨H.1, by trivial, H.2⟩))
      · exact ⟨H.1, by trivial, H.2⟩
    · exact ⟨H.1, by trivial, H.2⟩
  | sliceArr n esz x lo hi mx =>
    simp only [OpVC] at H ⊢
    obtain ⟨gx, u, e1, c1, H⟩ := H.out
    simp only [use_some e1]
    refine ⟨c1, ?_⟩
    split at H
    · split at H
      · obtain ⟨a, H, ka⟩ := key _ _ _ H
        obtain ⟨b, H, kb⟩ := key _ _ _ H
        obtain ⟨m, H, km⟩ := key _ _ _ H
        exact ka _ (kb _ (km _ ⟨H.1, by trivial, H.2⟩))
      · exact ⟨H.1, by trivial, H.2⟩
    · exact ⟨H.1, by trivial, H.2⟩
  | callp f args =>
    have usk : ∀ (l : List Operand) (K K' : List Value → Prop), (∀ vs, K vs → K' vs) → Uses γ env g l K → Uses γ env g l K' := by
      intro l
      induction l with
      | nil => intro K K' hk h; exact hk _ h
      | cons x r ih =>
        intro K K' hk h
        simp only [Uses] at h ⊢
        obtain ⟨gx, u, e1, c1, h⟩ := h.out
        rw [use_some e1]
        exact ⟨c1, ih _ _ (fun vs => hk _) h⟩
    simp only [OpVC] at H ⊢
    exact usk _ _ _ (fun vs ⟨v, h', h1, h2, h3, h4⟩ => ⟨v, h', h1, h2, h3, h3, h4⟩) H
  | _ => simp [isB] at hb

/-- A call that is to leave everything as it is. -/
def pureIns (x : Ins) : Ins := match x.op with
  | .call f a => { x with op := .callp f a }
  | _ => x

theorem pureIns_out (x : Ins) : (pureIns x).guard = x.guard ∧ (pureIns x).dst = x.dst := by
  unfold pureIns; split <;> exact ⟨rfl, rfl⟩

/-- A step that leaves the memory as it is. -/
theorem stepB {P : Program} {γ : Nat → Option Nat} {N : Nat} {ops : Array Oper} {q : Bool} {o : Oper} {i : Ins} (hc : compIns P N ops q o = some i) (hb : isB (pureIns i).op = true) {s : St} {r : List Ins} {Q : St → Prop} (H : WPI md P γ (pureIns i :: r) Q s) :
    ∃ g v, guardVal s.env i.guard = some g ∧ (g = true → OpSem P γ o s.env s.heap v s.heap) ∧ WPI md P γ r Q ⟨putE s.env i.dst g v, s.heap⟩ := by
  simp only [WPI] at H
  rw [(pureIns_out i).1, (pureIns_out i).2] at H
  split at H
  · exact H.elim
  · rename_i g hg
    obtain ⟨hop, _⟩ := compIns_out hc
    obtain ⟨K, hK⟩ : ∃ K : Value → AHeap → Prop, K = fun v h' => ((pureIns i).q = true → Quiet s.heap h') ∧ WPI md P γ r Q ⟨putE s.env i.dst g v, h'⟩ := ⟨_, rfl⟩
    rw [← hK] at H
    have low : ∀ (op op' : IOp) (g : Bool), isB op = true → (∀ K' : Value → AHeap → Prop, OpVC P γ s.env s.heap g op (fun v h' => h' = s.heap ∧ K' v h') → OpVC P γ s.env s.heap g op' (fun v h' => h' = s.heap ∧ K' v h')) → eff op = eff op' →
        OpVC2 md P γ s.env s.heap g op K → OpVC2 md P γ s.env s.heap g op' (fun v h' => h' = s.heap ∧ K v h') := by
      intro op op' g hb himp he h
      unfold OpVC2 at h ⊢
      rw [← he]
      cases hm : (md || eff op) with
      | false => rw [hm] at h; rw [sel_f] at h ⊢; exact himp _ (isB_out hb h)
      | true =>
        rw [hm] at h
        rw [sel_t] at h ⊢
        cases g with
        | true => rw [sel_t] at h ⊢; exact himp _ (isB_out hb h)
        | false => rw [sel_f] at h ⊢; exact ⟨rfl, h⟩
    have key : OpVC2 md P γ s.env s.heap g i.op (fun v h' => h' = s.heap ∧ K v h') := by
      cases hop2 : i.op with
      | call f a =>
        have hp : (pureIns i).op = .callp f a := by unfold pureIns; rw [hop2]
        rw [hp] at H hb
        refine low (.callp f a) (.call f a) g rfl (fun K' h => ?_) rfl H
        simp only [OpVC] at h ⊢
        have usk : ∀ (l : List Operand) (K K' : List Value → Prop), (∀ vs, K vs → K' vs) → Uses γ s.env g l K → Uses γ s.env g l K' := by
          intro l
          induction l with
          | nil => intro K K' hk h; exact hk _ h
          | cons x r ih =>
            intro K K' hk h
            simp only [Uses] at h ⊢
            obtain ⟨gx, u, e1, c1, h⟩ := h.out
            rw [use_some e1]
            exact ⟨c1, ih _ _ (fun vs => hk _) h⟩
        exact usk _ _ _ (fun vs ⟨v, h', h1, h2, h3, h4⟩ => ⟨v, h', h1, h2, h4⟩) h
      | _ =>
        have hp : pureIns i = i := by unfold pureIns; rw [hop2]
        rw [hp, hop2] at H hb
        exact low _ _ g hb (fun K' h => h) rfl H
    obtain ⟨v, h', ⟨rfl, h2⟩, hs, _⟩ := compile2_sound hop key
    rw [hK] at h2
    exact ⟨g, v, hg, hs, h2.2⟩

theorem OpSem.env {P : Program} {γ : Nat → Option Nat} {o : Oper} {env env' : Env} {h h' : AHeap} {v : Value} (H : OpSem P γ o env h v h') (he : ∀ t ∈ opTmps o.op, env'.get t = env.get t) : OpSem P γ o env' h v h' := by
  intro β a w hh hr
  refine H β a w hh fun x hx => ?_
  intro g u he2 hg
  refine hr x hx g u ?_ hg
  cases x with
  | tmp t =>
    simp only [ev] at he2 ⊢
    rw [he t ?_]; exact he2
    simp only [opTmps, List.mem_filterMap]
    exact ⟨_, hx, rfl⟩
  | _ => exact he2

/-- 0: it only computes; 1: it only looks; 2: it changes; 3: a call. -/
def kindOf (P : Program) (o : Oper) : Nat := match compileOp P o.op with
  | some i => if isA i then 0 else if isB i then 1 else (match i with | .call _ _ => 3 | _ => 2)
  | none => 2
def kindsOf (P : Program) (ops : Array Oper) : List Nat := ops.toList.map (kindOf P)
def inOrder (M : List Nat) (i j : Nat) : Bool := (M.getD j 0).testBit i || (M.getD i 0).testBit j
/-- A call is to leave the memory as it is, if its place among what looks is not told. -/
def clsGo (ks M : List Nat) (i k : Nat) : Nat := if k = 3 then (if (List.range ks.length).any (fun j => j != i && !inOrder M i j && decide (ks.getD j 2 ≠ 0)) then 1 else 2) else k
def clsOf (P : Program) (ops : Array Oper) : List Nat :=
  let ks := kindsOf P ops
  let M := masks ops
  ks.zipIdx.map fun p => clsGo ks M p.2 p.1

/-- Of any two in order one; or neither names what the other one sets, and one only computes, or both only look. -/
def textOk (P : Program) (ops : Array Oper) : Bool :=
  let M := masks ops
  let cl := clsOf P ops
  let ks := kindsOf P ops
  ((List.range ops.size).all fun i => match ops[i]? with | none => true | some o => (bindsAny o).all (fun j => decide (j < i))) &&
  ((List.range ops.size).all fun i => match cl.getD i 2 with | 0 => ks.getD i 2 == 0 | 1 => ks.getD i 2 == 1 || ks.getD i 2 == 3 | _ => true) &&
  ((List.range ops.size).all fun j => (List.range j).all fun i => (M.getD j 0).testBit i || match ops[i]?, ops[j]? with
    | some oi, some oj => (match oi.dst with | some d => !(namesOp ops oj).contains d && decide (oj.dst ≠ some d) | none => true) && (match oj.dst with | some d => !(namesOp ops oi).contains d | none => true) &&
      (cl.getD i 2 == 0 || cl.getD j 2 == 0 || (cl.getD i 2 == 1 && cl.getD j 2 == 1))
    | _, _ => true)

structure TextOk (P : Program) (ops : Array Oper) (cl : Nat → Nat) : Prop where
  back : ∀ (i : Nat) o, ops[i]? = some o → ∀ j ∈ bindsAny o, j < i
  kind : ∀ (i : Nat) o, ops[i]? = some o → (cl i = 0 → kindOf P o = 0) ∧ (cl i = 1 → kindOf P o = 1 ∨ kindOf P o = 3)
  pair : ∀ (i j : Nat) oi oj, i < j → ops[i]? = some oi → ops[j]? = some oj → ((masks ops).getD j 0).testBit i = true ∨
    ((∀ d, oi.dst = some d → d ∉ namesOp ops oj ∧ oj.dst ≠ some d) ∧ (∀ d, oj.dst = some d → d ∉ namesOp ops oi) ∧ (cl i = 0 ∨ cl j = 0 ∨ (cl i = 1 ∧ cl j = 1)))

theorem textOk_out {P : Program} {ops : Array Oper} (h : textOk P ops = true) : TextOk P ops (fun i => (clsOf P ops).getD i 2) := by
  simp only [textOk, Bool.and_eq_true, List.all_eq_true, List.mem_range] at h
  obtain ⟨⟨h1, h3⟩, h2⟩ := h
  refine ⟨fun i o ho j hj => ?_, fun i o ho => ?_, fun i j oi oj hij hi hj => ?_⟩
  · have := h1 i (Array.getElem?_eq_some_iff.1 ho).1
    rw [ho] at this
    simp only [List.all_eq_true, decide_eq_true_eq] at this
    exact this j hj
  · have := h3 i (Array.getElem?_eq_some_iff.1 ho).1
    have hk : (kindsOf P ops).getD i 2 = kindOf P o := by
      have hl := (Array.getElem?_eq_some_iff.1 ho)
      unfold kindsOf
      rw [List.getD_eq_getElem?_getD, List.getElem?_map]
      have : ops.toList[i]? = some o := by simpa using ho
      rw [this]; rfl
    rw [hk] at this
    refine ⟨fun hc => ?_, fun hc => ?_⟩
    · simp only [hc] at this; simpa using this
    · simp only [hc] at this; simpa using this
  · have := h2 j (Array.getElem?_eq_some_iff.1 hj).1 i hij
    rw [Bool.or_eq_true] at this
    rcases this with h | h
    · exact .inl h
    · rw [hi, hj] at h
      simp only [Bool.and_eq_true, Bool.or_eq_true, beq_iff_eq] at h
      obtain ⟨⟨a, b⟩, c⟩ := h
      refine .inr ⟨fun d hd => ?_, fun d hd => ?_, by rcases c with (c | c) | c; exact .inl c; exact .inr (.inl c); exact .inr (.inr c)⟩
      · rw [hd] at a
        simp only [Bool.and_eq_true, Bool.not_eq_true', decide_eq_true_eq, List.contains_eq_mem, decide_eq_false_iff_not] at a
        exact a
      · rw [hd] at b
        simp only [Bool.not_eq_true', List.contains_eq_mem, decide_eq_false_iff_not] at b
        exact b

def trIns (c : Nat) (x : Ins) : Ins := if c = 1 then pureIns x else x
theorem trIns_out (c : Nat) (x : Ins) : (trIns c x).guard = x.guard ∧ (trIns c x).dst = x.dst := by
  unfold trIns; split
  · exact pureIns_out x
  · exact ⟨rfl, rfl⟩

/-- The order of the text. -/
structure TChain (P : Program) (γ : Nat → Option Nat) (N : Nat) (ops : Array Oper) (cl : Nat → Nat) (env0 : Env) (h0 : AHeap) (m : Nat) (gs : Nat → Bool) (vs : Nat → Value) (hs : Nat → AHeap) (es : Nat → Env) : Prop where
  e0 : es 0 = env0
  z0 : hs 0 = h0
  step : ∀ i, i < m → ∃ o x, ops[i]? = some o ∧ compIns P N ops false o = some x ∧ guardVal (es i) x.guard = some (gs i) ∧ (gs i = true → OpSem P γ o (es i) (hs i) (vs i) (hs (i + 1))) ∧
    (gs i = true ∨ hs (i + 1) = hs i) ∧ es (i + 1) = putE (es i) o.dst (gs i) (vs i) ∧ (cl i = 0 → hs (i + 1) = hs i ∧ ∀ h2, gs i = true → OpSem P γ o (es i) h2 (vs i) h2) ∧ (cl i = 1 → hs (i + 1) = hs i)

theorem tchain_exists {P : Program} {γ : Nat → Option Nat} {N : Nat} {ops : Array Oper} {cl : Nat → Nat} (T : TextOk P ops cl) {is : List Ins} {Q : St → Prop} {s : St} (H : WPI md P γ is Q s) (m : Nat)
    (hm : ∀ i, i < m → ∃ o x, ops[i]? = some o ∧ is[i]? = some (trIns (cl i) x) ∧ compIns P N ops false o = some x) :
    ∃ gs vs hs es, TChain P γ N ops cl s.env s.heap m gs vs hs es ∧ WPI md P γ (is.drop m) Q ⟨es m, hs m⟩ := by
  induction m with
  | zero => exact ⟨fun _ => true, fun _ => undef, fun _ => s.heap, fun _ => s.env, ⟨rfl, rfl, fun i hi => by omega⟩, by simpa using H⟩
  | succ m ih =>
    obtain ⟨gs, vs, hs, es, hc, hw⟩ := ih (fun i hi => hm i (by omega))
    obtain ⟨o, x, ho, hx, hcomp⟩ := hm m (by omega)
    have hlt := (List.getElem?_eq_some_iff.1 hx).1
    have hdrop : is.drop m = trIns (cl m) x :: is.drop (m + 1) := by
      rw [List.drop_eq_getElem_cons hlt, (List.getElem?_eq_some_iff.1 hx).2]
    rw [hdrop] at hw
    obtain ⟨hopc, hdst, hxq, _⟩ := compIns_out hcomp
    obtain ⟨k0, k1⟩ := T.kind m o ho
    have key : ∃ g v h', guardVal (es m) x.guard = some g ∧ (g = true → OpSem P γ o (es m) (hs m) v h') ∧ (g = true ∨ h' = hs m) ∧ WPI md P γ (is.drop (m + 1)) Q ⟨putE (es m) x.dst g v, h'⟩ ∧ (cl m = 0 → h' = hs m ∧ ∀ h2, g = true → OpSem P γ o (es m) h2 v h2) ∧ (cl m = 1 → h' = hs m) := by
      by_cases h0 : cl m = 0
      · have hk := k0 h0
        have hA' : isA x.op = true := by
          unfold kindOf at hk
          rw [← hopc]
          split at hk
          · rename_i i hi
            rw [hi]
            show isA i = true
            cases hq : isA i with
            | true => rfl
            | false =>
              rw [hq] at hk
              simp only [Bool.false_eq_true, if_false] at hk
              split at hk
              · simp at hk
              · split at hk <;> simp at hk
          · simp at hk
        have ht : trIns (cl m) x = x := by unfold trIns; rw [h0]; rfl
        rw [ht] at hw
        obtain ⟨g, v, hg, hsem, hrest⟩ := stepA hcomp hA' hw
        exact ⟨g, v, hs m, hg, hsem _, .inr rfl, hrest, fun _ => ⟨rfl, hsem⟩, fun h => by omega⟩
      · by_cases h1 : cl m = 1
        · have hk := k1 h1
          have hB' : isB (pureIns x).op = true := by
            unfold kindOf at hk
            split at hk
            · rename_i i hi
              rw [hi] at hopc
              have hxi : x.op = i := hopc.symm
              cases hq : isA i with
              | true => rw [hq] at hk; simp at hk
              | false =>
                rw [hq] at hk
                simp only [Bool.false_eq_true, if_false] at hk
                cases hb : isB i with
                | true =>
                  have : pureIns x = x := by
                    unfold pureIns; rw [hxi]
                    split
                    · simp [isB] at hb
                    · rfl
                  rw [this, hxi]; exact hb
                | false =>
                  rw [hb] at hk
                  simp only [Bool.false_eq_true, if_false] at hk
                  split at hk
                  · unfold pureIns; rw [hxi]; rfl
                  · simp at hk
            · simp at hk
          have ht : trIns (cl m) x = pureIns x := by unfold trIns; rw [h1]; rfl
          rw [ht] at hw
          obtain ⟨g, v, hg, hsem, hrest⟩ := stepB hcomp hB' hw
          exact ⟨g, v, hs m, hg, hsem, .inr rfl, hrest, fun h => by omega, fun _ => rfl⟩
        · have ht : trIns (cl m) x = x := by unfold trIns; rw [if_neg h1]
          rw [ht] at hw
          obtain ⟨g, v, h', hg, hsem, hh', hq, hrest⟩ := step_sound hcomp hw
          exact ⟨g, v, h', hg, hsem, hh', hrest, fun h => absurd h h0, fun h => absurd h h1⟩
    obtain ⟨g, v, h', hg, hsem, hh', hrest, hcA, hcB⟩ := key
    refine ⟨fun i => if i = m then g else gs i, fun i => if i = m then v else vs i, fun i => if i = m + 1 then h' else hs i, fun i => if i = m + 1 then putE (es m) x.dst g v else es i, ⟨by simp [hc.e0], by simp [hc.z0], fun i hi => ?_⟩, by simpa using hrest⟩
    by_cases him : i = m
    · subst him
      refine ⟨o, x, ho, hcomp, ?_, ?_, ?_, ?_, ?_, ?_⟩
      · simp; exact hg
      · simpa using hsem
      · simpa using hh'
      · simp [hdst]
      · simpa using hcA
      · simpa using hcB
    · obtain ⟨o, x, q1, q3, q4, q5, q6, q7, q8, q9⟩ := hc.step i (by omega)
      refine ⟨o, x, q1, q3, ?_, ?_, ?_, ?_, ?_, ?_⟩
      · simpa [him, show i ≠ m + 1 by omega] using q4
      · simpa [him, show i ≠ m + 1 by omega] using q5
      · simpa [him, show i ≠ m + 1 by omega] using q6
      · simpa [him, show i ≠ m + 1 by omega] using q7
      · simpa [him, show i ≠ m + 1 by omega] using q8
      · simpa [him, show i ≠ m + 1 by omega] using q9

section
variable {P : Program} {γ : Nat → Option Nat} {N : Nat} {ops : Array Oper} {cl : Nat → Nat} {env0 : Env} {h0 : AHeap} {m : Nat} {gs : Nat → Bool} {vs : Nat → Value} {hs : Nat → AHeap} {es : Nat → Env}

theorem TChain.slot (C : TChain P γ N ops cl env0 h0 m gs vs hs es) {t : Nat} {k : Nat} : ∀ d, k + d ≤ m → (∀ j o, k ≤ j → j < k + d → ops[j]? = some o → o.dst ≠ some t) → (es (k + d)).get t = (es k).get t := by
  intro d
  induction d with
  | zero => intro _ _; rfl
  | succ d ih =>
    intro hm hn
    obtain ⟨o, x, ho, _, _, _, _, he, _⟩ := C.step (k + d) (by omega)
    rw [show k + (d + 1) = k + d + 1 by omega, he, ← ih (by omega) (fun j o h1 h2 => hn j o h1 (by omega))]
    have hne := hn (k + d) o (by omega) (by omega) ho
    cases hdo : o.dst with
    | none => rfl
    | some u =>
      have : t ≠ u := fun e => hne (by rw [hdo, e])
      simp [putE, Env.get, this]

theorem TChain.same (C : TChain P γ N ops cl env0 h0 m gs vs hs es) {t k i : Nat} (hk : k ≤ m) (hi : i ≤ m) (h : ∀ (j : Nat) o, ops[j]? = some o → o.dst = some t → (j < k ↔ j < i)) : (es k).get t = (es i).get t := by
  rcases Nat.le_total k i with hki | hik
  · obtain ⟨d, rfl⟩ := Nat.exists_eq_add_of_le hki
    exact (C.slot d hi fun j o h1 h2 ho hd => by have := (h j o ho hd).2 h2; omega).symm
  · obtain ⟨d, rfl⟩ := Nat.exists_eq_add_of_le hik
    exact C.slot d hk fun j o h1 h2 ho hd => by have := (h j o ho hd).1 h2; omega

theorem TChain.heap (C : TChain P γ N ops cl env0 h0 m gs vs hs es) {k : Nat} : ∀ d, k + d ≤ m → (∀ j, k ≤ j → j < k + d → cl j = 0 ∨ cl j = 1) → hs (k + d) = hs k := by
  intro d
  induction d with
  | zero => intro _ _; rfl
  | succ d ih =>
    intro hm hn
    obtain ⟨o, x, ho, _, _, _, _, _, hA, hB⟩ := C.step (k + d) (by omega)
    rw [← ih (by omega) (fun j h1 h2 => hn j h1 (by omega))]
    rcases hn (k + d) (by omega) (by omega) with h | h
    · exact (hA h).1
    · exact hB h

theorem TChain.hsame (C : TChain P γ N ops cl env0 h0 m gs vs hs es) {k i : Nat} (hk : k ≤ m) (hi : i ≤ m) (h : ∀ (j : Nat), j < m → cl j ≠ 0 → cl j ≠ 1 → (j < k ↔ j < i)) : hs k = hs i := by
  rcases Nat.le_total k i with hki | hik
  · obtain ⟨d, rfl⟩ := Nat.exists_eq_add_of_le hki
    exact (C.heap d hi fun j h1 h2 => by
      by_cases h3 : cl j = 0
      · exact .inl h3
      · by_cases h4 : cl j = 1
        · exact .inr h4
        · have := (h j (by omega) h3 h4).2 h2; omega).symm
  · obtain ⟨d, rfl⟩ := Nat.exists_eq_add_of_le hik
    exact C.heap d hk fun j h1 h2 => by
      by_cases h3 : cl j = 0
      · exact .inl h3
      · by_cases h4 : cl j = 1
        · exact .inr h4
        · have := (h j (by omega) h3 h4).1 h2; omega

/-- What holds behind the operations S. -/
structure TInv (ops : Array Oper) (cl : Nat → Nat) (m : Nat) (hs : Nat → AHeap) (es : Nat → Env) (S : Nat → Bool) (s : St) : Prop where
  closed : ∀ i o, ops[i]? = some o → S i = true → ∀ j ∈ bindsAny o, S j = true
  env : ∀ t, ∃ k, k ≤ m ∧ s.env.get t = (es k).get t ∧ ∀ (j : Nat) o, ops[j]? = some o → o.dst = some t → (S j = true ↔ j < k)
  heap : ∃ k, k ≤ m ∧ s.heap = hs k ∧ ∀ (j : Nat), j < m → cl j ≠ 0 → cl j ≠ 1 → (S j = true ↔ j < k)

theorem text_step (C : TChain P γ N ops cl env0 h0 ops.size gs vs hs es) (T : TextOk P ops cl) {S : Nat → Bool} {s : St} {i : Nat} {x : Ins} {o : Oper} (ho : ops[i]? = some o) (hcx : compIns P N ops false o = some x) (hS : S i = false) (hd : ∀ j ∈ bindsAny o, S j = true)
    (I : TInv ops cl ops.size hs es S s) : ∃ g v h', guardVal s.env x.guard = some g ∧ (g = true → OpSem P γ o s.env s.heap v h') ∧ (g = true ∨ h' = s.heap) ∧ TInv ops cl ops.size hs es (fun j => S j || j == i) ⟨putE s.env x.dst g v, h'⟩ := by
  have hi := (Array.getElem?_eq_some_iff.1 ho).1
  obtain ⟨o', x', ho', hcomp, hg, hsem, hh', he, hA, hB⟩ := C.step i hi
  rw [ho] at ho'; cases ho'
  rw [hcx] at hcomp; cases hcomp
  have hcomp := hcx
  obtain ⟨_, hdst, _, _⟩ := compIns_out hcomp
  have hClo : Closed ops (fun j => S j = true) := fun k o' ho' hk => I.closed k o' ho' hk
  have anc : ∀ j, ((masks ops).getD i 0).testBit j = true → S j = true := fun j hj => masks_sound hClo ho hd hj
  have des : ∀ (j : Nat) oj, ops[j]? = some oj → ((masks ops).getD j 0).testBit i = true → S j = false := by
    intro j oj hoj hb
    cases hq : S j with
    | false => rfl
    | true =>
      have := masks_sound hClo hoj (I.closed j oj hoj hq) hb
      rw [hS] at this; simp at this
  -- what it names is as it is in the order of the text
  have slot : ∀ t, t ∈ namesOp ops o → s.env.get t = (es i).get t := by
    intro t ht
    obtain ⟨k, hk, e1, e2⟩ := I.env t
    rw [e1]
    refine C.same hk (by omega) fun j oj hoj hdj => ?_
    rcases Nat.lt_trichotomy j i with h | h | h
    · rcases T.pair j i oj o h hoj ho with hb | ⟨hb, _⟩
      · exact ⟨fun _ => h, fun _ => (e2 j oj hoj hdj).1 (anc j hb)⟩
      · exact absurd ht (hb t hdj).1
    · subst h
      refine ⟨fun h => ?_, fun h => absurd h (by omega)⟩
      have := (e2 j oj hoj hdj).2 h
      rw [hS] at this; simp at this
    · rcases T.pair i j o oj h ho hoj with hb | ⟨_, hb, _⟩
      · have := des j oj hoj hb
        refine ⟨fun h' => ?_, fun h' => absurd h' (by omega)⟩
        have := (e2 j oj hoj hdj).2 h'
        simp_all
      · exact absurd ht (hb t hdj)
  have hguard : guardVal s.env x.guard = some (gs i) := by
    rw [← hg]
    cases hgx : x.guard with
    | none => rfl
    | some p =>
      obtain ⟨t, want⟩ := p
      have : t ∈ namesOp ops o := by
        unfold compIns at hcomp
        split at hcomp
        · split at hcomp
          · simp at hcomp; subst hcomp; simp at hgx
          · rename_i j w hgo
            split at hcomp
            · rename_i t' ht'
              simp at hcomp; subst hcomp
              simp at hgx
              obtain ⟨rfl, rfl⟩ := hgx
              simp [namesOp, guardTmp, hgo, ht']
            · simp at hcomp
        · simp at hcomp
      simp only [guardVal]
      rw [slot t this]
  have hops : ∀ t ∈ opTmps o.op, s.env.get t = (es i).get t := fun t ht => slot t (by unfold namesOp; exact List.mem_append_left _ ht)
  -- the slots behind it
  have henv : ∀ t, ∃ k, k ≤ ops.size ∧ (putE s.env x.dst (gs i) (vs i)).get t = (es k).get t ∧ ∀ (j : Nat) o, ops[j]? = some o → o.dst = some t → ((S j || j == i) = true ↔ j < k) := by
    intro t
    by_cases hti : o.dst = some t
    · refine ⟨i + 1, by omega, ?_, fun j oj hoj hdj => ?_⟩
      · rw [he, hdst, hti]; simp [putE, Env.get]
      · rw [Bool.or_eq_true, beq_iff_eq]
        rcases Nat.lt_trichotomy j i with h | h | h
        · rcases T.pair j i oj o h hoj ho with hb | ⟨hb, _⟩
          · exact ⟨fun _ => by omega, fun _ => .inl (anc j hb)⟩
          · exact absurd hti (hb t hdj).2
        · subst h; exact ⟨fun _ => by omega, fun _ => .inr rfl⟩
        · rcases T.pair i j o oj h ho hoj with hb | ⟨hb, _⟩
          · have := des j oj hoj hb
            refine ⟨fun h' => ?_, fun h' => by omega⟩
            rcases h' with h' | h'
            · rw [this] at h'; simp at h'
            · omega
          · exact absurd hdj (hb t hti).2
    · obtain ⟨k, hk, e1, e2⟩ := I.env t
      refine ⟨k, hk, ?_, fun j oj hoj hdj => ?_⟩
      · rw [← e1, hdst]
        cases hdo : o.dst with
        | none => rfl
        | some u =>
          have : t ≠ u := fun e => hti (by rw [hdo, e])
          simp [putE, Env.get, this]
      · rw [← e2 j oj hoj hdj, Bool.or_eq_true, beq_iff_eq]
        refine ⟨fun h => h.resolve_right fun e => ?_, .inl⟩
        subst e; rw [ho] at hoj; cases hoj; exact hti hdj
  have hclosed : ∀ k o', ops[k]? = some o' → (S k || k == i) = true → ∀ j ∈ bindsAny o', (S j || j == i) = true := by
    intro k o' ho' hk j hj
    rw [Bool.or_eq_true, beq_iff_eq] at hk
    rcases hk with hk | hk
    · rw [I.closed k o' ho' hk j hj]; rfl
    · subst hk; rw [ho] at ho'; cases ho'
      rw [hd j hj]; rfl
  obtain ⟨k, hk, h1, h2⟩ := I.heap
  by_cases h0 : cl i = 0
  · refine ⟨gs i, vs i, s.heap, hguard, fun hgt => ((hA h0).2 _ hgt).env hops, .inr rfl, hclosed, henv, ⟨k, hk, h1, fun j hj hc0 hc1 => ?_⟩⟩
    rw [← h2 j hj hc0 hc1, Bool.or_eq_true, beq_iff_eq]
    refine ⟨fun h => h.resolve_right fun e => ?_, .inl⟩
    subst e; exact hc0 h0
  · have ord : ∀ (j : Nat), j < ops.size → j ≠ i → cl j ≠ 0 → cl j ≠ 1 → (S j = true ↔ j < i) := by
      intro j hj hne hc0 hc1
      have hoj : ops[j]? = some ops[j] := Array.getElem?_eq_getElem hj
      rcases Nat.lt_trichotomy j i with h | h | h
      · rcases T.pair j i _ o h hoj ho with hb | ⟨_, _, hb⟩
        · exact ⟨fun _ => h, fun _ => anc j hb⟩
        · omega
      · exact absurd h hne
      · rcases T.pair i j o _ h ho hoj with hb | ⟨_, _, hb⟩
        · rw [des j _ hoj hb]; simp; omega
        · omega
    have hki : s.heap = hs i := by
      rw [h1]
      exact C.hsame hk (by omega) fun j hj hc0 hc1 => by
        rw [← h2 j hj hc0 hc1]
        by_cases hji : j = i
        · subst hji; rw [hS]; simp
        · exact ord j hj hji hc0 hc1
    by_cases hb1 : cl i = 1
    · refine ⟨gs i, vs i, s.heap, hguard, fun hgt => ?_, .inr rfl, hclosed, henv, ⟨k, hk, h1, fun j hj hc0 hc1 => ?_⟩⟩
      · have := (hsem hgt).env hops
        rw [hB hb1] at this
        rw [hki]; exact this
      · rw [← h2 j hj hc0 hc1, Bool.or_eq_true, beq_iff_eq]
        refine ⟨fun h => h.resolve_right fun e => ?_, .inl⟩
        subst e; exact hc1 hb1
    · refine ⟨gs i, vs i, hs (i + 1), hguard, fun hgt => ?_, ?_, hclosed, henv, ⟨i + 1, by omega, rfl, fun j hj hc0 hc1 => ?_⟩⟩
      · rw [hki]; exact (hsem hgt).env hops
      · rw [hki]; exact hh'
      · rw [Bool.or_eq_true, beq_iff_eq]
        by_cases hji : j = i
        · subst hji; simp
        · rw [ord j hj hji hc0 hc1]; omega
end

theorem text_sound {P : Program} {γ : Nat → Option Nat} {N id : Nat} {ops : Array Oper} {is : List Ins} (hP : P.follows .mixedOrders = true) (hT : textOk P ops = true) (hlen : is.length = ops.size)
    (hq : ∀ k, k < ops.size → ∃ o x, ops[k]? = some o ∧ is[k]? = some (trIns ((clsOf P ops).getD k 2) x) ∧ compIns P N ops false o = some x)
    {Q : St → Prop} {s : St} (H : WPI md P γ is Q s) {β : LMap} {a : Act} {w : World} (hr : Rel γ N β s a w) {Qx : Exit → Act → World → Prop}
    (hQ : ∀ s' β' a' w', Q s' → Rel γ N β' s' a' w' → Fr β s.heap w β' s'.heap w' → Qx .normal a' w') : (Code.region id ops true).wp P Qx a w := by
  have T := textOk_out hT
  obtain ⟨cl, hcl⟩ : ∃ cl : Nat → Nat, cl = fun i => (clsOf P ops).getD i 2 := ⟨_, rfl⟩
  rw [← hcl] at T
  have hq' : ∀ k, k < ops.size → ∃ o x, ops[k]? = some o ∧ is[k]? = some (trIns (cl k) x) ∧ compIns P N ops false o = some x := by rw [hcl]; exact hq
  obtain ⟨gs, vs, hs, es, C, hrest⟩ := tchain_exists T H ops.size hq'
  rw [← hlen, List.drop_length] at hrest
  replace hrest : Q ⟨es ops.size, hs ops.size⟩ := by rw [← hlen]; exact hrest
  refine wp_region_any hP ?_
  obtain ⟨w1, hw1⟩ : ∃ w1 : World, w1 = { w with drawn := w.drawn + 1 } := ⟨_, rfl⟩
  rw [← hw1]
  have hr1 : Rel γ N β s a w1 := ⟨hr.env, hr.heap.of_heap (by rw [hw1]), hr.defers, hr.size⟩
  have hf1 : Fr β s.heap w β s.heap w1 := by rw [hw1]; exact Fr.drawn _
  obtain ⟨isd, hisd⟩ : ∃ isd : List (Ins × List Nat), isd = (List.range ops.size).map fun k => ((((ops[k]?).bind (compIns P N ops false)).getD ⟨none, none, false, .bad⟩), ((ops[k]?).map bindsAny).getD []) := ⟨_, rfl⟩
  have hisdl : isd.length = ops.size := by rw [hisd]; simp
  have hat : ∀ (k : Nat) (x : Ins) (ds : List Nat), isd[k]? = some (x, ds) → ∃ o, ops[k]? = some o ∧ compIns P N ops false o = some x ∧ ds = bindsAny o := by
    intro k x ds hk
    have hlt : k < ops.size := by rw [← hisdl]; exact (List.getElem?_eq_some_iff.1 hk).1
    rw [hisd, List.getElem?_map, List.getElem?_range hlt] at hk
    simp only [Option.map_some, Option.some.injEq, Prod.mk.injEq] at hk
    obtain ⟨h1, h2⟩ := hk
    obtain ⟨o, x', ho, _, hc⟩ := hq k hlt
    refine ⟨o, ho, ?_, ?_⟩
    · rw [← h1, ho]; simp only [Option.bind_some]; rw [hc]; rfl
    · rw [← h2, ho]; rfl
  refine inv_sem (is := isd) (Inv := TInv ops cl ops.size hs es) hisdl (fun k hk => ?_) (fun k o ho j hj => T.back k o ho j hj) (fun S s i x ds hx hS hd hI o ho => ?_) (Q := Q) (fun S s hall hI => ?_) ops.size _ (fun _ => false) s (fun i hi => by simp [hi]) (by rw [show ((List.range ops.size).filter fun _ => !false) = List.range ops.size from List.filter_eq_self.2 (fun _ _ => rfl), List.length_range]) ?_ hr1 fun s' β' a' w' hq hr' hf' => hQ s' β' a' w' hq hr' (hf1.trans hf')
  · obtain ⟨o, x, h1, h2, h3⟩ := hq k hk
    refine ⟨o, x, h1, ?_, h3⟩
    rw [hisd, List.getElem?_map, List.getElem?_range hk]
    simp only [Option.map_some, Option.some.injEq, Prod.mk.injEq]
    refine ⟨?_, by rw [h1]; rfl⟩
    rw [h1]; simp only [Option.bind_some]; rw [h3]; rfl
  · obtain ⟨o', h1, h2, rfl⟩ := hat i x ds hx
    rw [ho] at h1; cases h1
    exact text_step C T ho h2 hS hd hI
  · refine ⟨⟨es ops.size, hs ops.size⟩, ⟨?_, fun t y hy => ?_⟩, hrest⟩
    · obtain ⟨k, hk, h1, h2⟩ := hI.heap
      rw [h1]
      exact C.hsame hk (Nat.le_refl _) fun j hj hc0 hc1 => by
        rw [← h2 j hj hc0 hc1, hall j (by omega)]; simp [hj]
    · obtain ⟨k, hk, h1, h2⟩ := hI.env t
      rw [h1]
      have : (es k).get t = (es ops.size).get t := C.same hk (Nat.le_refl _) fun j oj hoj hdj => by
        have hj := (Array.getElem?_eq_some_iff.1 hoj).1
        rw [← h2 j oj hoj hdj, hall j (by omega)]; simp [hj]
      rw [this]; exact hy
  · refine ⟨fun i o _ h => by simp at h, fun t => ⟨0, by omega, by rw [C.e0], fun j o _ _ => by simp⟩, ⟨0, by omega, C.z0.symm, fun j _ _ _ => by simp⟩⟩
end Go.Vx
