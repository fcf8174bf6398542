/- A part of the proof: what it shows stands in its theorems. No condition beyond those that they name. -/
import Derived.Test.YtefjoeonilkdfaaVxB
namespace Go.Vx
set_option linter.unusedSimpArgs false
set_option linter.unusedVariables false

/-! The abstract machine: slots, instructions, what each asks and gives. -/

abbrev Env := List (Nat × Option (Bool × Value))
def Env.get : Env → Nat → Option (Bool × Value)
  | [], _ => none
  | (j, x) :: e, i => if i = j then x else Env.get e i

structure St where
  env : Env
  heap : AHeap

def EnvRel (β : LMap) (env : Env) (a : Act) : Prop :=
  ∀ i g v, env.get i = some (g, v) → (g = true → VRel β v (a.tmps.getD i undef)) ∧ (g = false → a.tmps.getD i undef = undef)

def scal : Value → Bool
  | .bool _ | .int _ _ | .string _ | .pointer none | .slice none _ _ | .nilFunc | .nilIface => true
  | _ => false

def cOk : Value → Bool
  | .agg xs => xs.all scal
  | .tuple xs => xs.all scal
  | v => scal v

theorem scal_rel {rp : Addr → Addr → Prop} {rs : Addr → Nat → Addr → Nat → Prop} {v : Value} (h : scal v = true) : VR rp rs v v := by
  cases v with
  | bool b => exact .bool b
  | int k n => exact .int k n
  | string s => exact .string s
  | pointer a => cases a with
    | none => exact .ptrNil
    | some a => simp [scal] at h
  | slice a l c => cases a with
    | none => exact .sliceNil l c
    | some a => simp [scal] at h
  | nilFunc => exact .nilFunc
  | nilIface => exact .nilIface
  | _ => simp [scal] at h

theorem cOk_rel {rp : Addr → Addr → Prop} {rs : Addr → Nat → Addr → Nat → Prop} {v : Value} (h : cOk v = true) : VR rp rs v v := by
  cases v with
  | agg xs =>
    refine .agg rfl fun i x y hx hy => ?_
    rw [hx] at hy; cases hy
    exact scal_rel (Array.all_eq_true_iff_forall_mem.1 h x (Array.mem_of_getElem? hx))
  | tuple xs =>
    refine .tuple rfl fun i x y hx hy => ?_
    rw [hx] at hy; cases hy
    exact scal_rel (Array.all_eq_true_iff_forall_mem.1 h x (Array.mem_of_getElem? hx))
  | _ => exact scal_rel h

def ev (γ : Nat → Option Nat) (env : Env) : Operand → Option (Bool × Value)
  | .tmp t => env.get t
  | .const v => if cOk v then some (true, v) else none
  | .func f => some (true, .func (.func f) #[] #[])
  | .global g => match γ g with
    | some id => some (true, .pointer (some ⟨id, 0, none⟩))
    | none => none

def Reads (γ : Nat → Option Nat) (β : LMap) (env : Env) (a : Act) (x : Operand) : Prop :=
  ∀ g v, ev γ env x = some (g, v) → g = true → VRel β v (a.eval x)

def OpSemN (P : Program) (γ : Nat → Option Nat) (o : Oper) (env : Env) (h : AHeap) (Post : Value → AHeap → Prop) : Prop :=
  ∀ (β : LMap) (a : Act) (w : World), HRel γ β h w → (∀ x ∈ o.op.operands.toList, Reads γ β env a x) →
    ∀ (K : Act → World → Prop) (Q : Exit → Act → World → Prop),
      (∀ v h' cv w' β', Post v h' → VRel β' v cv → HRel γ β' h' w' → Fr β h w β' h' w' → K (a.put o.dst cv) w') → o.wp P a w K Q

def OpSem (P : Program) (γ : Nat → Option Nat) (o : Oper) (env : Env) (h : AHeap) (v : Value) (h' : AHeap) : Prop :=
  ∀ (β : LMap) (a : Act) (w : World), HRel γ β h w → (∀ x ∈ o.op.operands.toList, Reads γ β env a x) →
    ∀ (K : Act → World → Prop) (Q : Exit → Act → World → Prop),
      (∀ cv w' β', VRel β' v cv → HRel γ β' h' w' → Fr β h w β' h' w' → K (a.put o.dst cv) w') → o.wp P a w K Q

/-- What a use of a slot asks: it is known wherever the guard holds. -/
def Use (γ : Nat → Option Nat) (env : Env) (g : Bool) (x : Operand) (K : Value → Prop) : Prop :=
  match ev γ env x with
  | some (gx, v) => (g = true → gx = true) ∧ K v
  | none => False

theorem Use.out {γ : Nat → Option Nat} {env : Env} {g : Bool} {x : Operand} {K : Value → Prop} (h : Use γ env g x K) :
    ∃ gx v, ev γ env x = some (gx, v) ∧ (g = true → gx = true) ∧ K v := by
  unfold Use at h
  split at h
  · rename_i gx v he; exact ⟨gx, v, he, h⟩
  · exact h.elim

def Uses (γ : Nat → Option Nat) (env : Env) (g : Bool) : List Operand → (List Value → Prop) → Prop
  | [], K => K []
  | x :: r, K => Use γ env g x fun v => Uses γ env g r fun vs => K (v :: vs)

theorem Uses.out {γ : Nat → Option Nat} {env : Env} {g : Bool} : ∀ {xs : List Operand} {K : List Value → Prop}, Uses γ env g xs K →
    ∃ vs : List Value, vs.length = xs.length ∧ K vs ∧ ∀ (i : Nat) x v, xs[i]? = some x → vs[i]? = some v → ∃ gx, ev γ env x = some (gx, v) ∧ (g = true → gx = true)
  | [], K, h => ⟨[], rfl, h, fun i x v hx => by simp at hx⟩
  | x :: r, K, h => by
    obtain ⟨gx, v, he, hg, h⟩ := Use.out h
    obtain ⟨vs, hl, hK, hall⟩ := Uses.out h
    refine ⟨v :: vs, by simp [hl], hK, fun i y u hy hu => ?_⟩
    cases i with
    | zero => simp at hy hu; subst hy hu; exact ⟨gx, he, hg⟩
    | succ i => exact hall i y u (by simpa using hy) (by simpa using hu)

/-- Integers, strings: an operation's value, and what it asks. -/
def binV (op : BinOp) (x y : Value) : Option (Prop × Value) :=
  match op, x, y with
  | .shl, .int k a, .int _ b => some (0 ≤ b, .int k (k.wrap (a * 2 ^ (min b.toNat k.bits))))
  | .shr, .int k a, .int _ b => some (0 ≤ b, .int k (a.fdiv (2 ^ (min b.toNat k.bits))))
  | .add, .int k a, .int k' b => if k = k' then some (True, .int k (k.wrap (a + b))) else none
  | .sub, .int k a, .int k' b => if k = k' then some (True, .int k (k.wrap (a - b))) else none
  | .mul, .int k a, .int k' b => if k = k' then some (True, .int k (k.wrap (a * b))) else none
  | .quo, .int k a, .int k' b => if k = k' then some (b ≠ 0, .int k (k.wrap (a.tdiv b))) else none
  | .rem, .int k a, .int k' b => if k = k' then some (b ≠ 0, .int k (a.tmod b)) else none
  | .and, .int k a, .int k' b => if k = k' then some (True, .int k (k.wrap (BitVec.ofInt k.bits a &&& BitVec.ofInt k.bits b).toNat)) else none
  | .or, .int k a, .int k' b => if k = k' then some (True, .int k (k.wrap (BitVec.ofInt k.bits a ||| BitVec.ofInt k.bits b).toNat)) else none
  | .xor, .int k a, .int k' b => if k = k' then some (True, .int k (k.wrap (BitVec.ofInt k.bits a ^^^ BitVec.ofInt k.bits b).toNat)) else none
  | .andNot, .int k a, .int k' b => if k = k' then some (True, .int k (k.wrap (BitVec.ofInt k.bits a &&& ~~~BitVec.ofInt k.bits b).toNat)) else none
  | .eql, .int k a, .int k' b => if k = k' then some (True, .bool (a == b)) else none
  | .neq, .int k a, .int k' b => if k = k' then some (True, .bool (a != b)) else none
  | .lss, .int k a, .int k' b => if k = k' then some (True, .bool (a < b)) else none
  | .leq, .int k a, .int k' b => if k = k' then some (True, .bool (a ≤ b)) else none
  | .gtr, .int k a, .int k' b => if k = k' then some (True, .bool (a > b)) else none
  | .geq, .int k a, .int k' b => if k = k' then some (True, .bool (a ≥ b)) else none
  | .eql, .string a, .string b => some (True, .bool (a.toList == b.toList))
  | .neq, .string a, .string b => some (True, .bool (!(a.toList == b.toList)))
  | _, _, _ => none

/-- Equality of what is no number and no string. A part's kind: 0: a bool, 1: an integer, 2: a string. -/
inductive EqK where
  | bool | ptr | slice | fn
  | agg (places : List (Nat × Nat))

def eqS : Nat → Value → Value → Option Bool
  | 0, .bool a, .bool b => some (a == b)
  | 1, .int k a, .int k' b => if k = k' then some (a == b) else none
  | 2, .string a, .string b => some (a == b)
  | _, _, _ => none

def eqAt (xs ys : Array Value) : List (Nat × Nat) → Option Bool
  | [] => some true
  | (o, c) :: r => match xs[o]?, ys[o]? with
    | some x, some y => match eqS c x y, eqAt xs ys r with
      | some b, some b' => some (b && b')
      | _, _ => none
    | _, _ => none

def eqV : EqK → Value → Value → Option Bool
  | .bool, .bool a, .bool b => some (a == b)
  | .ptr, .pointer none, .pointer b => some b.isNone
  | .ptr, .pointer (some _), .pointer none => some false
  | .slice, .slice none _ _, .slice b _ _ => some b.isNone
  | .slice, .slice (some _) _ _, .slice none _ _ => some false
  | .fn, .nilFunc, .nilFunc => some true
  | .fn, .nilFunc, .func _ _ _ => some false
  | .fn, .func _ _ _, .nilFunc => some false
  | .agg l, .agg xs, .agg ys => eqAt xs ys l
  | _, _, _ => none

def byteOf : Value → UInt8
  | .int _ n => UInt8.ofNat n.toNat
  | _ => 0
def isByte : Value → Bool
  | .int .u8 _ => true
  | _ => false

def over : List Value → Nat → List Value → List Value
  | cs, _, [] => cs
  | cs, o, v :: r => over (cs.set o v) (o + 1) r

inductive IOp where
  | mov (x : Operand)
  | pick (c a b : Operand)
  | bin (op : BinOp) (x y : Operand)
  | eqv (neg : Bool) (k : EqK) (x y : Operand)
  | un (op : UnOp) (x : Operand)
  | conv (k : IntKind) (x : Operand)
  | toStr (x : Operand)
  | toBytes (e : TypeId) (x : Operand)
  | mark (x : Operand)
  | lenSl (x : Operand)
  | lenStr (x : Operand)
  | lenArr (n : Nat)
  | mm (isMax : Bool) (x : Operand) (xs : List Operand)
  | extract (x : Operand) (i : Nat)
  | fieldAddr (off : Nat) (x : Operand)
  | idxSl (esz : Nat) (x i : Operand)
  | idxArr (n esz : Nat) (x i : Operand)
  | idxStr (x i : Operand)
  | fld (off : Nat) (n : Option Nat) (x : Operand)
  | idxAgg (n esz : Nat) (x i : Operand)
  | load (n : Option Nat) (x : Operand)
  | store (n : Nat) (x v : Operand)
  | alloc (cells : List Value)
  | box (x : Operand)
  | build (zero : List Value) (parts : List (Nat × Nat × Operand))
  | bslice (esz n : Nat) (zero : List Value) (parts : List (Nat × Nat × Operand))
  | mkslice (esz bytes : Nat) (zero : List Value) (l c : Operand)
  | slice (esz : Nat) (x : Operand) (lo hi mx : Option Operand)
  | sliceStr (x : Operand) (lo hi : Option Operand)
  | sliceArr (n esz : Nat) (x : Operand) (lo hi mx : Option Operand)
  | append (esz bytes : Nat) (x y : Operand)
  | copy (esz : Nat) (x y : Operand)
  | call (f : FuncId) (args : List Operand)
  | callv (x : Operand) (args : List Operand)
  | callp (f : FuncId) (args : List Operand)
  | calln (f : FuncId) (args : List Operand)
  | mkfunc (f : FuncId) (caps : List Operand)
  | nilchk (x : Operand)
  | bad

def optUse (γ : Nat → Option Nat) (env : Env) (g : Bool) (x : Option Operand) (d : Int) (K : Int → Prop) : Prop :=
  match x with
  | none => K d
  | some x => Use γ env g x fun v => match v with | .int _ n => K n | _ => False

/-- The parts of a literal. -/
def partUses (γ : Nat → Option Nat) (env : Env) (g : Bool) : List (Nat × Nat × Operand) → List Value → (List Value → Prop) → Prop
  | [], cs, K => K cs
  | (off, size, x) :: r, cs, K => Use γ env g x fun v => v.cells.toList.length = size ∧ off + size ≤ cs.length ∧ partUses γ env g r (over cs off v.cells.toList) K

def zcells (zero : List Value) (n : Nat) : List Value := (List.replicate n zero).flatten

/-- The elements that an append takes. -/
def srcCells (h : AHeap) (esz : Nat) (y : Value) (K : Nat → List Value → Prop) : Prop :=
  match y with
  | .slice none n _ => n = 0 ∧ K 0 []
  | .slice (some ⟨id, off, none⟩) n _ => match h[id]? with
    | some ob => ob.live = true ∧ off + n * esz ≤ ob.cells.length ∧ K n ((ob.cells.drop off).take (n * esz))
    | none => False
  | .string s => esz = 1 ∧ K s.size (s.data.toList.map fun b => .int .u8 b.toNat)
  | _ => False

/-- The four ways of an append: whoever proves takes the one that is. -/
def appVC (h : AHeap) (esz bytes : Nat) (s : Value) (n : Nat) (new : List Value) (K : Value → AHeap → Prop) : Prop :=
  match s with
  | .slice none l c => (n = 0 ∧ l = 0 ∧ c = 0 ∧ K (.slice none 0 0) h) ∨
      (l = 0 ∧ c = 0 ∧ 0 < n ∧ n * bytes ≤ 2 ^ 46 ∧ K (.slice (some ⟨h.length, 0, none⟩) n n) (h ++ [⟨new, true, true, true, esz⟩]))
  | .slice (some ⟨id, off, none⟩) l c => match h[id]? with
    | some ob =>
      (n = 0 ∧ l ≤ c ∧ K (.slice (some ⟨id, off, none⟩) l c) h) ∨
      (ob.live = true ∧ ob.slack = false ∧ c < l + n ∧ l ≤ c ∧ off + l * esz ≤ ob.cells.length ∧ (l + n) * bytes ≤ 2 ^ 46 ∧
        K (.slice (some ⟨h.length, 0, none⟩) (l + n) (l + n)) (h ++ [⟨(ob.cells.drop off).take (l * esz) ++ new, true, true, true, esz⟩])) ∨
      (ob.live = true ∧ ob.own = true ∧ ob.slack = false ∧ l + n ≤ c ∧ off + (l + n) * esz ≤ ob.cells.length ∧ new.all flat = true ∧
        K (.slice (some ⟨id, off, none⟩) (l + n) c) (h.set id { ob with cells := over ob.cells (off + l * esz) new })) ∨
      (ob.live = true ∧ ob.own = true ∧ ob.slack = true ∧ ob.esz = esz ∧ off + l * esz ≤ ob.cells.length ∧ (l + n) * bytes ≤ 2 ^ 46 ∧ new.all flat = true ∧
        K (.slice (some ⟨h.length, 0, none⟩) (l + n) (l + n)) (h.set id ob.dead ++ [⟨(ob.cells.drop off).take (l * esz) ++ new, true, true, true, esz⟩]))
    | none => False
  | _ => False

/-- A mark: what stands before it is left as it is by whoever rewrites. -/
inductive Keep.{u} {α : Sort u} (a : α) : Type
  | mk
/-- One way or the other. -/
def sel (b : Bool) (A B : Prop) (_ : Keep A) (_ : Keep B) : Prop := (b = true → A) ∧ (b = false → B)
theorem sel_t {A B : Prop} {k : Keep A} {l : Keep B} : sel true A B k l = A := by simp [sel]
theorem sel_f {A B : Prop} {k : Keep A} {l : Keep B} : sel false A B k l = B := by simp [sel]
theorem sel_i {b : Bool} {A B : Prop} {k : Keep A} {l : Keep B} (h1 : b = true → A) (h2 : b = false → B) : sel b A B k l := ⟨h1, h2⟩
theorem sel_d {p : Prop} [Decidable p] {A B : Prop} {k : Keep A} {l : Keep B} (h1 : p → A) (h2 : ¬ p → B) : sel (decide p) A B k l := ⟨fun h => h1 (of_decide_eq_true h), fun h => h2 (of_decide_eq_false h)⟩

/-- What a call asks and gives. -/
abbrev CallK (P : Program) (γ : Nat → Option Nat) (g : Bool) (f : FuncId) (vs : List Value) (h : AHeap) (K : Value → AHeap → Prop) (_ : Keep K) : Prop :=
  ∃ v h', (g = true → ACall P γ f vs h v h') ∧ (g = true ∨ h' = h) ∧ K v h'
theorem callD {P : Program} {γ : Nat → Option Nat} {f : FuncId} {vs : List Value} {h h' : AHeap} {v : Value} {K : Value → AHeap → Prop} {k : Keep K} (hc : ACall P γ f vs h v h') (H : K v h') : CallK P γ true f vs h K k :=
  ⟨v, h', fun _ => hc, .inl rfl, H⟩
theorem callG {P : Program} {γ : Nat → Option Nat} {g : Bool} {f : FuncId} {vs : List Value} {h : AHeap} {v : Value} {K : Value → AHeap → Prop} {k : Keep K} (hc : g = true → ACall P γ f vs h v h) (H : K v h) : CallK P γ g f vs h K k :=
  ⟨v, h, hc, .inr rfl, H⟩

abbrev CallN (P : Program) (γ : Nat → Option Nat) (g : Bool) (f : FuncId) (vs : List Value) (h : AHeap) (K : Value → AHeap → Prop) (_ : Keep K) : Prop :=
  g = true ∧ ∃ Post, ACn P γ f vs h Post ∧ ∀ v h', Post v h' → K v h'
theorem callN {P : Program} {γ : Nat → Option Nat} {f : FuncId} {vs : List Value} {h : AHeap} {Post : Value → AHeap → Prop} {K : Value → AHeap → Prop} {k : Keep K} (hc : ACn P γ f vs h Post) (H : ∀ v h', Post v h' → K v h') : CallN P γ true f vs h K k :=
  ⟨rfl, Post, hc, H⟩
theorem callK {P : Program} {γ : Nat → Option Nat} {f : FuncId} {vs : List Value} {h h' : AHeap} {v : Value} {K : Value → AHeap → Prop} {k : Keep K} (hc : ACall P γ f vs h v h') (H : K v h') : CallN P γ true f vs h K k :=
  ⟨rfl, _, hc.acn, fun u h1 ⟨e1, e2⟩ => by subst e1 e2; exact H⟩

abbrev AppK (h : AHeap) (esz bytes : Nat) (s : Value) (n : Nat) (new : List Value) (K : Value → AHeap → Prop) (_ : Keep K) : Prop := appVC h esz bytes s n new K

def OpVC (P : Program) (γ : Nat → Option Nat) (env : Env) (h : AHeap) (g : Bool) (op : IOp) (K : Value → AHeap → Prop) : Prop :=
  match op with
  | .mov x => Use γ env g x fun v => K v h
  | .pick c a b => Use γ env g c fun vc => match vc with
      | .bool t => match ev γ env a, ev γ env b with
        | some (ga, va), some (gb, vb) => (g = true → t = true → ga = true) ∧ (g = true → t = false → gb = true) ∧ K (match va, vb with | .bool p, .bool q => .bool (bif t then p else q) | _, _ => if t then va else vb) h
        | _, _ => False
      | _ => g = false ∧ K undef h
  | .bin op x y => Use γ env g x fun u => Use γ env g y fun v => match binV op u v with
      | some (c, r) => (g = true → c) ∧ K r h
      | none => g = false ∧ K undef h
  | .eqv neg k x y => Use γ env g x fun u => Use γ env g y fun v => match eqV k u v with
      | some b => K (.bool (if neg then !b else b)) h
      | none => g = false ∧ K undef h
  | .un op x => Use γ env g x fun v => match op, v with
      | .not, .bool b => K (.bool !b) h
      | .neg, .int k n => K (.int k (k.wrap (0 - n))) h
      | _, _ => g = false ∧ K undef h
  | .conv k x => Use γ env g x fun v => match v with
      | .int _ n => K (.int k (k.wrap n)) h
      | _ => g = false ∧ K undef h
  | .toStr x => Use γ env g x fun v => match v with
      | .slice none _ _ => K (.string .empty) h
      | .slice (some ⟨id, off, none⟩) n _ => match h[id]? with
        | some ob => (g = true → ob.live = true ∧ off + n ≤ ob.cells.length ∧ ((ob.cells.drop off).take n).all isByte = true) ∧ K (.string ⟨(((ob.cells.drop off).take n).map byteOf).toArray⟩) h
        | none => g = false ∧ K undef h
      | _ => g = false ∧ K undef h
  | .toBytes _ x => Use γ env g x fun v => match v with
      | .string s => g = true ∧ s.size ≤ 2 ^ 46 ∧ K (.slice (some ⟨h.length, 0, none⟩) s.size s.size) (h ++ [⟨s.data.toList.map fun b => .int .u8 b.toNat, true, true, true, 1⟩])
      | _ => False
  | .mark x => Use γ env g x fun v => match v with
      | .slice (some ⟨id, off, none⟩) n c => match h[id]? with
        | some ob => g = true ∧ ob.live = true ∧ ob.own = true ∧ K (.slice (some ⟨id, off, none⟩) n c) h
        | none => False
      | _ => False
  | .lenSl x => Use γ env g x fun v => match v with
      | .slice _ n _ => K (.int .i64 n) h
      | _ => g = false ∧ K undef h
  | .lenStr x => Use γ env g x fun v => match v with
      | .string s => K (.int .i64 s.size) h
      | _ => g = false ∧ K undef h
  | .lenArr n => K (.int .i64 n) h
  | .mm isMax x xs => Use γ env g x fun v => Uses γ env g xs fun vs => match v with
      | .int k n => vs.all (fun u => match u with | .int k' _ => k' == k | _ => false) = true ∧
          K (.int k (vs.foldl (fun m u => match u with | .int _ q => if isMax then (if q > m then q else m) else (if q < m then q else m) | _ => m) n)) h
      | _ => g = false ∧ K undef h
  | .extract x i => Use γ env g x fun v => match v with
      | .tuple vs => match vs[i]? with
        | some u => K u h
        | none => g = false ∧ K undef h
      | _ => g = false ∧ K undef h
  | .fieldAddr off x => Use γ env g x fun v => match v with
      | .pointer (some ⟨id, o, none⟩) => K (.pointer (some ⟨id, o + off, none⟩)) h
      | _ => g = false ∧ K undef h
  | .idxSl esz x i => Use γ env g x fun v => Use γ env g i fun u => match v, u with
      | .slice (some ⟨id, o, none⟩) n _, .int _ j => (g = true → 0 ≤ j ∧ j < n) ∧ K (.pointer (some ⟨id, o + j.toNat * esz, none⟩)) h
      | _, _ => g = false ∧ K undef h
  | .idxArr n esz x i => Use γ env g x fun v => Use γ env g i fun u => match v, u with
      | .pointer (some ⟨id, o, none⟩), .int _ j => (g = true → 0 ≤ j ∧ j < (n : Int)) ∧ K (.pointer (some ⟨id, o + j.toNat * esz, none⟩)) h
      | _, _ => g = false ∧ K undef h
  | .idxStr x i => Use γ env g x fun v => Use γ env g i fun u => match v, u with
      | .string s, .int _ j => (g = true → 0 ≤ j ∧ j < s.size) ∧ K (.int .u8 (s.data.toList.getD j.toNat 0).toNat) h
      | _, _ => g = false ∧ K undef h
  | .fld off n x => Use γ env g x fun v => match v with
      | .agg xs => match n with
        | none => match xs[off]? with
          | some u => K u h
          | none => g = false ∧ K undef h
        | some k => K (.agg (xs.extract off (off + k))) h
      | _ => g = false ∧ K undef h
  | .idxAgg n esz x i => Use γ env g x fun v => Use γ env g i fun u => match v, u with
      | .agg xs, .int _ j => (g = true → 0 ≤ j ∧ j < (n : Int) ∧ j.toNat * esz < xs.size) ∧ K (xs.getD (j.toNat * esz) undef) h
      | _, _ => g = false ∧ K undef h
  | .load none x => Use γ env g x fun v => match v with
      | .pointer (some ⟨id, o, none⟩) => match h[id]? with
        | some ob => (g = true → ob.live = true ∧ o < ob.cells.length) ∧ K (ob.cells.getD o undef) h
        | none => g = false ∧ K undef h
      | _ => g = false ∧ K undef h
  | .load (some n) x => Use γ env g x fun v => match v with
      | .pointer (some ⟨id, o, none⟩) => match h[id]? with
        | some ob => (g = true → ob.live = true ∧ o + n ≤ ob.cells.length) ∧ K (.agg ((ob.cells.drop o).take n).toArray) h
        | none => g = false ∧ K undef h
      | _ => g = false ∧ K undef h
  | .store n x y => Use γ env g x fun v => Use γ env g y fun u => match v with
      | .pointer (some ⟨id, o, none⟩) => match h[id]? with
        | some ob => g = true ∧ ob.live = true ∧ ob.own = true ∧ u.cells.toList.length = n ∧ u.cells.toList.all flat = true ∧ o + n ≤ ob.cells.length ∧
            K undef (h.set id { ob with cells := over ob.cells o u.cells.toList })
        | none => False
      | _ => False
  | .alloc cs => g = true ∧ K (.pointer (some ⟨h.length, 0, none⟩)) (h ++ [⟨cs, true, true, false, 1⟩])
  | .box x => Use γ env g x fun v => g = true ∧ K (.pointer (some ⟨h.length, 0, none⟩)) (h ++ [⟨v.cells.toList, true, true, false, 1⟩])
  | .build zero parts => partUses γ env g parts zero fun cs => K (.agg cs.toArray) h
  | .bslice esz n zero parts => g = true ∧ partUses γ env g parts (zcells zero n) fun cs => K (.slice (some ⟨h.length, 0, none⟩) n n) (h ++ [⟨cs, true, true, false, esz⟩])
  | .mkslice esz bytes zero l c => Use γ env g l fun vl => Use γ env g c fun vc => match vl, vc with
      | .int _ nl, .int _ nc => g = true ∧ 0 ≤ nl ∧ nl ≤ nc ∧ nc * bytes ≤ 2 ^ 47 ∧ nc < 2 ^ 63 ∧
          K (.slice (some ⟨h.length, 0, none⟩) nl.toNat nc.toNat) (h ++ [⟨zcells zero nc.toNat, true, true, false, esz⟩])
      | _, _ => False
  | .slice esz x lo hi mx => Use γ env g x fun v => match v with
      | .slice none l c => optUse γ env g lo 0 fun a => optUse γ env g hi 0 fun b => optUse γ env g mx 0 fun m => (g = true → l = 0 ∧ c = 0 ∧ a = 0 ∧ b = 0 ∧ m = 0) ∧ K (.slice none 0 0) h
      | .slice (some ⟨id, o, none⟩) l c => match h[id]? with
        | some ob => optUse γ env g mx c fun m => optUse γ env g hi l fun b => optUse γ env g lo 0 fun a =>
            (g = true → 0 ≤ a ∧ a ≤ b ∧ b ≤ m ∧ m ≤ c ∧ ob.live = true ∧ (ob.slack = true → ob.esz = esz ∧ (a < m ∨ a = 0 ∨ mx.isSome = true))) ∧
            K (.slice (some ⟨id, if m = a then o else o + a.toNat * esz, none⟩) (b - a).toNat (m - a).toNat) h
        | none => g = false ∧ K undef h
      | _ => g = false ∧ K undef h
  | .sliceStr x lo hi => Use γ env g x fun v => match v with
      | .string s => optUse γ env g hi s.size fun b => optUse γ env g lo 0 fun a => (g = true → 0 ≤ a ∧ a ≤ b ∧ b ≤ s.size) ∧ K (.string (s.extract a.toNat b.toNat)) h
      | _ => g = false ∧ K undef h
  | .sliceArr n esz x lo hi mx => Use γ env g x fun v => match v with
      | .pointer (some ⟨id, o, none⟩) => match h[id]? with
        | some ob => optUse γ env g mx n fun m => optUse γ env g hi n fun b => optUse γ env g lo 0 fun a =>
            (g = true → 0 ≤ a ∧ a ≤ b ∧ b ≤ m ∧ m ≤ n ∧ ob.live = true ∧ ob.slack = false) ∧
            K (.slice (some ⟨id, if m = a then o else o + a.toNat * esz, none⟩) (b - a).toNat (m - a).toNat) h
        | none => g = false ∧ K undef h
      | _ => g = false ∧ K undef h
  | .append esz bytes x y => Use γ env g x fun s => Use γ env g y fun t => g = true ∧ srcCells h esz t fun n new => AppK h esz bytes s n new K .mk
  | .copy esz x y => Use γ env g x fun s => Use γ env g y fun t => match s, t with
      | .slice (some ⟨id, o, none⟩) l _, .slice (some ⟨id2, o2, none⟩) n _ => match h[id]?, h[id2]? with
        | some ob, some ob2 => g = true ∧ ob.live = true ∧ ob.own = true ∧ ob2.live = true ∧ o + l * esz ≤ ob.cells.length ∧ o2 + n * esz ≤ ob2.cells.length ∧
            ((ob2.cells.drop o2).take (Nat.min n l * esz)).all flat = true ∧
            K (.int .i64 (Nat.min n l)) (h.set id { ob with cells := over ob.cells o ((ob2.cells.drop o2).take (Nat.min n l * esz)) })
        | _, _ => False
      | _, _ => False
  | .call f args => Uses γ env g args fun vs => CallK P γ g f vs h K .mk
  | .callp f args => Uses γ env g args fun vs => CallK P γ g f vs h (fun v h' => h' = h ∧ K v h') .mk
  | .calln f args => Uses γ env g args fun vs => CallN P γ g f vs h K .mk
  | .callv x args => Use γ env g x fun u => Uses γ env g args fun vs => match u with
      | .func (.func f) first caps => first.size = 0 ∧ (∃ fn c, P.funcs[f]? = some fn ∧ (fn.name == "runtime.NumGoroutine") = false ∧ fn.body = some c) ∧
          CallK P γ g f (vs ++ caps.toList) h K .mk
      | _ => False
  | .mkfunc f caps => Uses γ env g caps fun vs => K (.func (.func f) #[] vs.toArray) h
  | .nilchk x => Use γ env g x fun v => match v with
      | .pointer (some a) => K (.pointer (some a)) h
      | .func (.func f) first caps => K (.func (.func f) first caps) h
      | _ => g = false ∧ K undef h
  | .bad => False

end Go.Vx
