/- A part of the proof: what it shows stands in its theorems. No condition beyond those that they name. -/
import Derived.Orders
import Derived.ScopeJumps
import Derived.Below
namespace Go.Vx
set_option linter.unusedVariables false

/-! A relation between two values that differ in their references alone. -/
inductive VR (rp : Addr → Addr → Prop) (rs : Addr → Nat → Addr → Nat → Prop) : Value → Value → Prop
  | bool (b : Bool) : VR rp rs (.bool b) (.bool b)
  | int (k : IntKind) (n : Int) : VR rp rs (.int k n) (.int k n)
  | string (s : ByteArray) : VR rp rs (.string s) (.string s)
  | ptrNil : VR rp rs (.pointer none) (.pointer none)
  | ptr {a b : Addr} : rp a b → VR rp rs (.pointer (some a)) (.pointer (some b))
  | sliceNil (l c : Nat) : VR rp rs (.slice none l c) (.slice none l c)
  | slice {a b : Addr} {l c c' : Nat} : rs a c b c' → VR rp rs (.slice (some a) l c) (.slice (some b) l c')
  | nilFunc : VR rp rs .nilFunc .nilFunc
  | func (fn : Fn) {xs ys : Array Value} : xs.size = ys.size → (∀ (i : Nat) x y, xs[i]? = some x → ys[i]? = some y → VR rp rs x y) → VR rp rs (.func fn #[] xs) (.func fn #[] ys)
  | nilIface : VR rp rs .nilIface .nilIface
  | iface (t : TypeId) {x y : Value} : VR rp rs x y → VR rp rs (.iface t x) (.iface t y)
  | agg {xs ys : Array Value} : xs.size = ys.size → (∀ (i : Nat) x y, xs[i]? = some x → ys[i]? = some y → VR rp rs x y) → VR rp rs (.agg xs) (.agg ys)
  | tuple {xs ys : Array Value} : xs.size = ys.size → (∀ (i : Nat) x y, xs[i]? = some x → ys[i]? = some y → VR rp rs x y) → VR rp rs (.tuple xs) (.tuple ys)

theorem VR.mono {rp rp' : Addr → Addr → Prop} {rs rs' : Addr → Nat → Addr → Nat → Prop} {v u : Value} (h : VR rp rs v u)
    (hp : ∀ a b, rp a b → rp' a b) (hs : ∀ a c b c', rs a c b c' → rs' a c b c') : VR rp' rs' v u := by
  induction h with
  | bool b => exact .bool b
  | int k n => exact .int k n
  | string s => exact .string s
  | ptrNil => exact .ptrNil
  | ptr h => exact .ptr (hp _ _ h)
  | sliceNil l c => exact .sliceNil l c
  | slice h => exact .slice (hs _ _ _ _ h)
  | nilFunc => exact .nilFunc
  | func fn he _ ih => exact .func fn he ih
  | nilIface => exact .nilIface
  | iface t _ ih => exact .iface t ih
  | agg he _ ih => exact .agg he ih
  | tuple he _ ih => exact .tuple he ih

theorem VR.comp {rp rp' : Addr → Addr → Prop} {rs rs' : Addr → Nat → Addr → Nat → Prop} {v u : Value} (h : VR rp rs v u) :
    ∀ {c : Value}, VR rp' rs' u c → VR (fun a c => ∃ b, rp a b ∧ rp' b c) (fun a n c m => ∃ b k, rs a n b k ∧ rs' b k c m) v c := by
  induction h with
  | bool b => intro c h; cases h; exact .bool b
  | int k n => intro c h; cases h; exact .int k n
  | string s => intro c h; cases h; exact .string s
  | ptrNil => intro c h; cases h; exact .ptrNil
  | ptr h => intro c h'; cases h' with | ptr h' => exact .ptr ⟨_, h, h'⟩
  | sliceNil l c => intro c h; cases h; exact .sliceNil _ _
  | slice h => intro c h'; cases h' with | slice h' => exact .slice ⟨_, _, h, h'⟩
  | nilFunc => intro c h; cases h; exact .nilFunc
  | func fn he _ ih =>
    intro c h'
    cases h' with
    | func _ he' h' =>
      refine .func fn (he.trans he') fun i x z hx hz => ?_
      have hi : i < _ := (Array.getElem?_eq_some_iff.1 hx).1
      obtain ⟨y, hy⟩ : ∃ y, _ = some y := ⟨_, Array.getElem?_eq_getElem (he ▸ hi)⟩
      exact ih i x y hx hy (h' i y z hy hz)
  | nilIface => intro c h; cases h; exact .nilIface
  | iface t _ ih => intro c h'; cases h' with | iface _ h' => exact .iface t (ih h')
  | agg he _ ih =>
    intro c h'
    cases h' with
    | agg he' h' =>
      refine .agg (he.trans he') fun i x z hx hz => ?_
      have hi : i < _ := (Array.getElem?_eq_some_iff.1 hx).1
      obtain ⟨y, hy⟩ : ∃ y, _ = some y := ⟨_, Array.getElem?_eq_getElem (he ▸ hi)⟩
      exact ih i x y hx hy (h' i y z hy hz)
  | tuple he _ ih =>
    intro c h'
    cases h' with
    | tuple he' h' =>
      refine .tuple (he.trans he') fun i x z hx hz => ?_
      have hi : i < _ := (Array.getElem?_eq_some_iff.1 hx).1
      obtain ⟨y, hy⟩ : ∃ y, _ = some y := ⟨_, Array.getElem?_eq_getElem (he ▸ hi)⟩
      exact ih i x y hx hy (h' i y z hy hz)

theorem VR.both {rp rp' : Addr → Addr → Prop} {rs rs' : Addr → Nat → Addr → Nat → Prop} {v u : Value} (h : VR rp rs v u) :
    ∀ {c : Value}, VR rp' rs' v c → VR (fun a b => rp a b ∧ ∃ b', rp' a b') (fun a n b m => rs a n b m ∧ ∃ b' m', rs' a n b' m') v u := by
  induction h with
  | bool b => intro c h; exact .bool b
  | int k n => intro c h; exact .int k n
  | string s => intro c h; exact .string s
  | ptrNil => intro c h; exact .ptrNil
  | ptr h => intro c h'; cases h' with | ptr h' => exact .ptr ⟨h, _, h'⟩
  | sliceNil l c => intro c h; exact .sliceNil _ _
  | slice h => intro c h'; cases h' with | slice h' => exact .slice ⟨h, _, _, h'⟩
  | nilFunc => intro c h; exact .nilFunc
  | func fn he _ ih =>
    intro c h'
    cases h' with
    | func _ he' h' =>
      refine .func fn he fun i x z hx hz => ?_
      have hi : i < _ := (Array.getElem?_eq_some_iff.1 hx).1
      obtain ⟨y, hy⟩ : ∃ y, _ = some y := ⟨_, Array.getElem?_eq_getElem (he' ▸ hi)⟩
      exact ih i x z hx hz (h' i x y hx hy)
  | nilIface => intro c h; exact .nilIface
  | iface t _ ih => intro c h'; cases h' with | iface _ h' => exact .iface t (ih h')
  | agg he _ ih =>
    intro c h'
    cases h' with
    | agg he' h' =>
      refine .agg he fun i x z hx hz => ?_
      have hi : i < _ := (Array.getElem?_eq_some_iff.1 hx).1
      obtain ⟨y, hy⟩ : ∃ y, _ = some y := ⟨_, Array.getElem?_eq_getElem (he' ▸ hi)⟩
      exact ih i x z hx hz (h' i x y hx hy)
  | tuple he _ ih =>
    intro c h'
    cases h' with
    | tuple he' h' =>
      refine .tuple he fun i x z hx hz => ?_
      have hi : i < _ := (Array.getElem?_eq_some_iff.1 hx).1
      obtain ⟨y, hy⟩ : ∃ y, _ = some y := ⟨_, Array.getElem?_eq_getElem (he' ▸ hi)⟩
      exact ih i x z hx hz (h' i x y hx hy)

/-! Where an abstract object lies. -/
structure Loc where
  blk : Nat
  base : Nat
  slack : Bool
  esz : Nat
  bcells : Nat

abbrev LMap := Nat → Option Loc

def PtrR (β : LMap) (a b : Addr) : Prop := ∃ L, β a.block = some L ∧ b = ⟨L.blk, L.base + a.off, none⟩
def SlR (β : LMap) (a : Addr) (c : Nat) (b : Addr) (c' : Nat) : Prop :=
  ∃ L, β a.block = some L ∧ b = ⟨L.blk, L.base + a.off, none⟩ ∧ (L.slack = false → c' = c) ∧ (L.slack = true → c ≤ c' ∧ L.base + a.off + c' * L.esz ≤ L.bcells)

abbrev VRel (β : LMap) : Value → Value → Prop := VR (PtrR β) (SlR β)

theorem VRel.mono {β β' : LMap} {v u : Value} (h : VRel β v u) (hβ : ∀ id L, β id = some L → β' id = some L) : VRel β' v u :=
  VR.mono h (fun _ _ ⟨L, h1, h2⟩ => ⟨L, hβ _ _ h1, h2⟩) (fun _ _ _ _ ⟨L, h1, h2⟩ => ⟨L, hβ _ _ h1, h2⟩)

/-- What is related by one map already is related by another one that agrees where the first is defined. -/
theorem VRel.agree {β β₀ β' : LMap} {v u u₀ : Value} (h : VRel β v u) (h₀ : VRel β₀ v u₀) (hβ : ∀ id L L', β₀ id = some L → β id = some L' → β' id = some L') : VRel β' v u :=
  VR.mono (VR.both h h₀) (fun _ _ ⟨⟨L, h1, h2⟩, _, L', h3, _⟩ => ⟨L, hβ _ _ _ h3 h1, h2⟩) (fun _ _ _ _ ⟨⟨L, h1, h2⟩, _, _, L', h3, _⟩ => ⟨L, hβ _ _ _ h3 h1, h2⟩)

/-- A renaming of objects. -/
abbrev RR (ρ : Nat → Nat) : Value → Value → Prop := VR (fun a b => b = ⟨ρ a.block, a.off, none⟩) (fun a c b c' => b = ⟨ρ a.block, a.off, none⟩ ∧ c' = c)

theorem RR.rel {ρ : Nat → Nat} {β β' : LMap} {v u c : Value} (h : RR ρ v u) (h' : VRel β u c) (hβ : ∀ id L, β (ρ id) = some L → β' id = some L) : VRel β' v c :=
  VR.mono (VR.comp h h') (fun _ _ ⟨_, h1, L, h2, h3⟩ => by subst h1; exact ⟨L, hβ _ _ h2, h3⟩) (fun _ _ _ _ ⟨_, _, h1, L, h2, h3⟩ => by obtain ⟨rfl, rfl⟩ := h1; exact ⟨L, hβ _ _ h2, h3⟩)

/-! Abstract objects. -/
structure AObj where
  cells : List Value
  live : Bool
  own : Bool
  slack : Bool
  esz : Nat

abbrev AHeap := List AObj

/-- An object that takes up memory. (One that came in and is empty may point anywhere.) -/
def AObj.real (ob : AObj) : Prop := ob.own = true ∨ 0 < ob.cells.length

structure ObjAt (β : LMap) (w : World) (L : Loc) (ob : AObj) : Prop where
  slack : L.slack = ob.slack
  esz : L.esz = ob.esz
  at_ : ob.real → ∃ c e fz, w.heap[L.blk]? = some (.cells c e fz) ∧ L.bcells = c.size ∧ (ob.own = true → fz.1 ≤ fz.2 ∧ ∀ k < c.size, ¬ (fz.1 ≤ k ∧ k < fz.2)) ∧
    ∀ j v, ob.cells[j]? = some v → ∃ cv, c[L.base + j]? = some cv ∧ VRel β v cv

structure HRel (γ : Nat → Option Nat) (β : LMap) (h : AHeap) (w : World) : Prop where
  dom : ∀ id L, β id = some L → id < h.length
  live : ∀ id ob L, h[id]? = some ob → ob.live = true → β id = some L → ObjAt β w L ob
  sep : ∀ i j oi oj Li Lj, h[i]? = some oi → h[j]? = some oj → oi.live = true → oj.live = true → oi.own = true → oj.real → i ≠ j → β i = some Li → β j = some Lj → Li.blk ≠ Lj.blk
  glob : ∀ g id, γ g = some id → ∃ L, β id = some L ∧ L.blk = g ∧ L.base = 0

theorem ObjAt.lt {β : LMap} {w : World} {L : Loc} {ob : AObj} (h : ObjAt β w L ob) (hr : ob.real) : L.blk < w.heap.size := by
  obtain ⟨c, e, fz, hc, _⟩ := h.at_ hr
  exact (Array.getElem?_eq_some_iff.1 hc).1

def Owned (β : LMap) (h : AHeap) (b : Nat) : Prop := ∃ id ob L, h[id]? = some ob ∧ ob.live = true ∧ ob.own = true ∧ β id = some L ∧ L.blk = b

structure Fr (β : LMap) (h : AHeap) (w : World) (β' : LMap) (h' : AHeap) (w' : World) : Prop where
  os : w'.os = w.os
  tape : w'.tape = w.tape
  output : w'.output = w.output
  size : w.heap.size ≤ w'.heap.size
  len : h.length ≤ h'.length
  ext : ∀ id, id < h.length → β' id = β id
  keep : ∀ b, b < w.heap.size → ¬ Owned β h b → w'.heap[b]? = w.heap[b]?
  own : ∀ b, Owned β' h' b → Owned β h b ∨ w.heap.size ≤ b

theorem Fr.refl (β : LMap) (h : AHeap) (w : World) : Fr β h w β h w :=
  ⟨rfl, rfl, rfl, Nat.le_refl _, Nat.le_refl _, fun _ _ => rfl, fun _ _ _ => rfl, fun _ h => .inl h⟩

theorem Fr.trans {β β' β'' : LMap} {h h' h'' : AHeap} {w w' w'' : World} (f : Fr β h w β' h' w') (g : Fr β' h' w' β'' h'' w'') : Fr β h w β'' h'' w'' where
  os := g.os.trans f.os
  tape := g.tape.trans f.tape
  output := g.output.trans f.output
  size := Nat.le_trans f.size g.size
  len := Nat.le_trans f.len g.len
  ext := fun id hi => (g.ext id (Nat.lt_of_lt_of_le hi f.len)).trans (f.ext id hi)
  keep := fun b hb ho => (g.keep b (Nat.lt_of_lt_of_le hb f.size) (fun h' => (f.own b h').elim ho (fun h'' => absurd hb (by omega)))).trans (f.keep b hb ho)
  own := fun b hb => (g.own b hb).elim (f.own b) (fun h => .inr (Nat.le_trans f.size h))

/-- As the world is drawn from. -/
theorem Fr.drawn {β : LMap} {h : AHeap} {w : World} (n : Nat) : Fr β h w β h { w with drawn := n } :=
  ⟨rfl, rfl, rfl, Nat.le_refl _, Nat.le_refl _, fun _ _ => rfl, fun _ _ _ => rfl, fun _ h => .inl h⟩

theorem HRel.of_heap {γ : Nat → Option Nat} {β : LMap} {h : AHeap} {w w' : World} (H : HRel γ β h w) (hw : w'.heap = w.heap) : HRel γ β h w' := by
  refine ⟨H.dom, fun id ob L h1 h2 h3 => ?_, H.sep, H.glob⟩
  obtain ⟨s, e, a⟩ := H.live id ob L h1 h2 h3
  exact ⟨s, e, by rw [hw]; exact a⟩

/-- The contract of a call. -/
def ACall (P : Program) (γ : Nat → Option Nat) (f : FuncId) (args : List Value) (h : AHeap) (v : Value) (h' : AHeap) : Prop :=
  ∀ (β : LMap) (w : World) (cargs : Array Value), HRel γ β h w → cargs.size = args.length → (∀ (i : Nat) x c, args[i]? = some x → cargs[i]? = some c → VRel β x c) →
    Calls P f cargs w fun e w' => ∃ cv β', e = .returned cv ∧ VRel β' v cv ∧ HRel γ β' h' w' ∧ Fr β h w β' h' w'

/-- The contract of a call, of which only so much is told. -/
def ACn (P : Program) (γ : Nat → Option Nat) (f : FuncId) (args : List Value) (h : AHeap) (Post : Value → AHeap → Prop) : Prop :=
  ∀ (β : LMap) (w : World) (cargs : Array Value), HRel γ β h w → cargs.size = args.length → (∀ (i : Nat) x c, args[i]? = some x → cargs[i]? = some c → VRel β x c) →
    Calls P f cargs w fun e w' => ∃ v h' cv β', Post v h' ∧ e = .returned cv ∧ VRel β' v cv ∧ HRel γ β' h' w' ∧ Fr β h w β' h' w'

theorem ACall.acn {P : Program} {γ : Nat → Option Nat} {f : FuncId} {args : List Value} {h h' : AHeap} {v : Value} (H : ACall P γ f args h v h') : ACn P γ f args h (fun u k => u = v ∧ k = h') := fun β w cargs h1 h2 h3 =>
  (H β w cargs h1 h2 h3).mono fun e w' ⟨cv, β', a, b, c, d⟩ => ⟨v, h', cv, β', ⟨rfl, rfl⟩, a, b, c, d⟩

end Go.Vx
