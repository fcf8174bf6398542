/- A part of the proof: what it shows stands in its theorems. No condition beyond those that they name. -/
import Derived.Test.YtefjoeonilkdfaaVxN
namespace Go.Vx
set_option linter.unusedVariables false
set_option linter.unusedSimpArgs false

/-! Words for the runs that omega helps. -/

theorem d_lt_t {a b : Int} (h : a < b) : decide (a < b) = true := decide_eq_true h
theorem d_lt_f {a b : Int} (h : b ≤ a) : decide (a < b) = false := decide_eq_false (by omega)
theorem d_le_t {a b : Int} (h : a ≤ b) : decide (a ≤ b) = true := decide_eq_true h
theorem d_le_f {a b : Int} (h : b < a) : decide (a ≤ b) = false := decide_eq_false (by omega)
theorem q_t {a b : Int} (h : a = b) : (a == b) = true := by simpa using h
theorem q_f {a b : Int} (h : a < b ∨ b < a) : (a == b) = false := by simp; omega
theorem n_t {a b : Int} (h : a < b ∨ b < a) : (a != b) = true := by simp; omega
theorem n_f {a b : Int} (h : a = b) : (a != b) = false := by simpa using h
theorem p_lt {a b : Int} (h : a < b) : (a < b) = True := eq_true h
theorem p_le {a b : Int} (h : a ≤ b) : (a ≤ b) = True := eq_true h
theorem m_lt {a b : Nat} (h : a < b) : (a < b) = True := eq_true h
theorem m_le {a b : Nat} (h : a ≤ b) : (a ≤ b) = True := eq_true h
theorem min_l {a b : Nat} (h : a ≤ b) : min a b = a := Nat.min_eq_left h
theorem min_r {a b : Nat} (h : b ≤ a) : min a b = b := Nat.min_eq_right h
theorem nmin (a b : Nat) : Nat.min a b = min a b := rfl
theorem p_eq {a b : Int} (h : a = b) : (a = b) = True := eq_true h
theorem p_ne {a b : Int} (h : a < b ∨ b < a) : (a = b) = False := eq_false (by omega)
theorem fdiv_e {a b : Int} (h : 0 ≤ b) : a.fdiv b = a / b := Int.fdiv_eq_ediv_of_nonneg a h
theorem tdiv_e {a b : Int} (h : 0 ≤ a) : a.tdiv b = a / b := Int.tdiv_eq_ediv_of_nonneg h
theorem tmod_e {a b : Int} (h : 0 ≤ a) : a.tmod b = a % b := Int.tmod_eq_emod_of_nonneg h
theorem tn_add (a b : Nat) : ((a : Int) + b).toNat = a + b := by omega
theorem tn_one (a : Nat) : ((a : Int) + 1).toNat = a + 1 := by omega
theorem tn_sub {a b : Nat} (h : b ≤ a) : ((a : Int) - b).toNat = a - b := by omega
theorem bits_u8 : IntKind.u8.bits = 8 := Nat.le_antisymm (by decide) (by decide)
theorem bits_u32 : IntKind.u32.bits = 32 := Nat.le_antisymm (by decide) (by decide)
theorem bits_u64 : IntKind.u64.bits = 64 := Nat.le_antisymm (by decide) (by decide)
theorem bits_i64 : IntKind.i64.bits = 64 := Nat.le_antisymm (by decide) (by decide)
theorem u8_255 : (((255 : UInt8).toNat : Nat) : Int) = 255 := rfl
theorem u8_0 : (((0 : UInt8).toNat : Nat) : Int) = 0 := rfl
theorem pow_lit (a b : Nat) : ((a : Int) ^ b) = ((a ^ b : Nat) : Int) := by simp

theorem exit_eq {h H : AHeap} {v u : Value} (e : Ext h H) (hv : cOk u = true) (hu : v = u) : ExitOk h H v u h := by subst hu; exact exit_ext e hv
/-! A slot that is known. -/
abbrev sl (i : Nat) (v : Value) : Nat × Option (Bool × Value) := (i, some (true, v))

theorem loopK {W : (Exit → St → Prop) → St → Prop} {Q : Exit → St → Prop} {s : St} {k : Keep (W, Q)} (I : Nat → St → Prop) (h0 : ∃ n s0, Le s0 s ∧ I n s0)
    (h : ∀ n s, I n s → W (fun e s' => match e with | .normal => ∃ k s0, k < n ∧ Le s0 s' ∧ I k s0 | e => Q e s') s) : LoopK W Q s k := ⟨I, h0, h⟩

theorem take_succ_d {α : Type} {l : List α} {i : Nat} (hi : i < l.length) (d : α) : l.take (i + 1) = l.take i ++ [l.getD i d] := by
  rw [List.take_succ_eq_append_getElem hi, List.getD_eq_getElem?_getD, List.getElem?_eq_getElem hi]; rfl
theorem drop_d {α : Type} {l : List α} {i : Nat} (hi : i < l.length) (d : α) : l.drop i = l.getD i d :: l.drop (i + 1) := by
  rw [List.drop_eq_getElem_cons hi, List.getD_eq_getElem?_getD, List.getElem?_eq_getElem hi]; rfl

/-! Lists in memory. -/
def Sl {α : Type} (w : Nat) (f : α → List Value) (h : AHeap) (v : Value) (l : List α) : Prop :=
  (l = [] ∧ v = .slice none 0 0) ∨ ∃ id o c ob, v = .slice (some ⟨id, o, none⟩) l.length c ∧ h[id]? = some ob ∧ ob.live = true ∧ l.length ≤ c ∧ (ob.slack = true → ob.esz = w) ∧
    o + l.length * w ≤ ob.cells.length ∧ (ob.cells.drop o).take (l.length * w) = l.flatMap f

section
variable {α : Type} {w : Nat} {f : α → List Value} {h : AHeap} {v : Value} {l : List α}
theorem Sl.ext {K : AHeap} (e : Ext h K) (H : Sl w f h v l) : Sl w f K v l := by
  rcases H with H | ⟨id, o, c, ob, h1, h2, h3⟩
  · exact .inl H
  · exact .inr ⟨id, o, c, ob, h1, e.get h2, h3⟩
theorem Sl.app (H : Sl w f h v l) (t : AHeap) : Sl w f (h ++ t) v l := H.ext ((Ext.refl h).app t)
theorem Sl.val (H : Sl w f h v l) : ∃ a c, v = .slice a l.length c ∧ l.length ≤ c := by
  rcases H with ⟨rfl, rfl⟩ | ⟨id, o, c, ob, h1, _, _, h2, _⟩
  · exact ⟨none, 0, rfl, Nat.le_refl _⟩
  · exact ⟨_, c, h1, h2⟩

theorem flat_len (hf : ∀ x, (f x).length = w) : (l.flatMap f).length = l.length * w := by
  induction l with
  | nil => simp
  | cons a r ih => rw [List.flatMap_cons, List.length_append, ih, hf, List.length_cons, Nat.succ_mul, Nat.add_comm]

theorem flat_at (hf : ∀ x, (f x).length = w) : ∀ {l : List α} {i : Nat} (d : α), i < l.length → ((l.flatMap f).drop (i * w)).take w = f (l.getD i d)
  | [], i, d, hi => by simp at hi
  | a :: r, 0, d, _ => by
    rw [List.flatMap_cons, Nat.zero_mul, List.drop_zero, List.take_append_of_le_length (by rw [hf]; exact Nat.le_refl _), List.take_of_length_le (by rw [hf]; exact Nat.le_refl _)]; rfl
  | a :: r, i + 1, d, hi => by
    have := flat_at hf (l := r) (i := i) d (by simpa using hi)
    rw [List.flatMap_cons, show (i + 1) * w = (f a).length + i * w by rw [hf, Nat.succ_mul]; omega, ← List.drop_drop, List.drop_left' rfl, this]; simp

theorem Sl.at_ (H : Sl w f h v l) (hf : ∀ x, (f x).length = w) {i : Nat} (hi : i < l.length) (d : α) : ∃ id o c ob, v = .slice (some ⟨id, o, none⟩) l.length c ∧ h[id]? = some ob ∧ ob.live = true ∧
    o + i * w + w ≤ ob.cells.length ∧ (ob.cells.drop (o + i * w)).take w = f (l.getD i d) := by
  rcases H with ⟨rfl, _⟩ | ⟨id, o, c, ob, h1, h2, h3, h4, h5, h6, h7⟩
  · simp at hi
  · have hle : (i + 1) * w ≤ l.length * w := Nat.mul_le_mul_right _ hi
    rw [Nat.succ_mul] at hle
    refine ⟨id, o, c, ob, h1, h2, h3, by omega, ?_⟩
    rw [← flat_at hf d hi, ← h7, List.drop_take, List.drop_drop, List.take_take, Nat.min_eq_left (by omega)]
end

theorem Sl.get {α : Type} {g : α → Value} {h : AHeap} {v : Value} {l : List α} (H : Sl 1 (fun x => [g x]) h v l) {i : Nat} (hi : i < l.length) (d : α) : ∃ id o c ob, v = .slice (some ⟨id, o, none⟩) l.length c ∧ h[id]? = some ob ∧ ob.live = true ∧
    o + i < ob.cells.length ∧ ob.cells.getD (o + i) undef = g (l.getD i d) := by
  obtain ⟨id, o, c, ob, h1, h2, h3, h4, h5⟩ := H.at_ (fun _ => rfl) hi d
  rw [Nat.mul_one] at h4 h5
  refine ⟨id, o, c, ob, h1, h2, h3, by omega, ?_⟩
  rw [List.getD_eq_getElem?_getD, List.getElem?_eq_getElem (by omega)]
  rw [List.drop_eq_getElem_cons (by omega), List.take_succ_cons, List.take_zero] at h5
  exact (List.cons.inj h5).1

/-- A new list, all that there is anew. -/
def Fresh {α : Type} (w : Nat) (f : α → List Value) (h : AHeap) (v : Value) (h' : AHeap) (l : List α) : Prop :=
  (l = [] ∧ v = .slice none 0 0 ∧ h' = h) ∨ ∃ sk, v = .slice (some ⟨h.length, 0, none⟩) l.length l.length ∧ h' = h ++ [⟨l.flatMap f, true, true, sk, w⟩]

section
variable {α : Type} {w : Nat} {f : α → List Value} {h h' : AHeap} {v : Value} {l : List α}
theorem Fresh.ext (H : Fresh w f h v h' l) : Ext h h' := by
  rcases H with ⟨_, _, rfl⟩ | ⟨sk, _, rfl⟩
  · exact Ext.refl _
  · exact (Ext.refl _).app _
theorem Fresh.sl (H : Fresh w f h v h' l) (hf : ∀ x, (f x).length = w) : Sl w f h' v l := by
  rcases H with ⟨h1, h2, _⟩ | ⟨sk, h1, rfl⟩
  · exact .inl ⟨h1, h2⟩
  · refine .inr ⟨h.length, 0, l.length, _, h1, hp_self _ _, rfl, Nat.le_refl _, fun _ => rfl, ?_, ?_⟩
    · simp only; rw [flat_len hf]; omega
    · simp only [List.drop_zero]; rw [← flat_len hf (l := l), List.take_length]
end

/-- A list of ours, that we may set. -/
def Mut {α : Type} (w : Nat) (f : α → List Value) (h K : AHeap) (v : Value) (l : List α) (sk : Bool) : Prop :=
  (l = [] ∧ v = .slice none 0 0) ∨ ∃ j, v = .slice (some ⟨j, 0, none⟩) l.length l.length ∧ h.length ≤ j ∧ K[j]? = some ⟨l.flatMap f, true, true, sk, w⟩

section
variable {α : Type} {w : Nat} {f : α → List Value} {h K : AHeap} {v : Value} {l : List α} {sk : Bool}
theorem Mut.of_fresh {h' : AHeap} (H : Fresh w f h v h' l) : ∃ sk, Mut w f h h' v l sk := by
  rcases H with ⟨h1, h2, _⟩ | ⟨sk, h1, rfl⟩
  · exact ⟨true, .inl ⟨h1, h2⟩⟩
  · exact ⟨sk, .inr ⟨h.length, h1, Nat.le_refl _, hp_self _ _⟩⟩
theorem Mut.app (G : Mut w f h K v l sk) (t : AHeap) : Mut w f h (K ++ t) v l sk := by
  rcases G with G | ⟨j, h2, h3, h4⟩
  · exact .inl G
  · exact .inr ⟨j, h2, h3, hp_old h4⟩
theorem Mut.ext {K' : AHeap} (G : Mut w f h K v l sk) (e : Ext K K') : Mut w f h K' v l sk := by
  rcases G with G | ⟨j, h2, h3, h4⟩
  · exact .inl G
  · exact .inr ⟨j, h2, h3, e.get h4⟩
theorem Mut.sl (G : Mut w f h K v l sk) (hf : ∀ x, (f x).length = w) : Sl w f K v l := by
  rcases G with ⟨rfl, rfl⟩ | ⟨j, rfl, _, h4⟩
  · exact .inl ⟨rfl, rfl⟩
  · refine .inr ⟨j, 0, l.length, _, rfl, h4, rfl, Nat.le_refl _, fun _ => rfl, ?_, ?_⟩
    · simp only; rw [flat_len hf]; omega
    · simp only [List.drop_zero]; rw [← flat_len hf (l := l), List.take_length]
theorem Mut.val (G : Mut w f h K v l sk) : ∃ a, v = .slice a l.length l.length := by
  rcases G with ⟨rfl, rfl⟩ | ⟨j, rfl, _⟩
  · exact ⟨none, rfl⟩
  · exact ⟨_, rfl⟩
def exV (h : AHeap) (v : Value) (n : Nat) : Value := match v with
  | .slice none _ _ => .slice none 0 0
  | _ => .slice (some ⟨h.length, 0, none⟩) n n
def exH (h : AHeap) (v : Value) (w : Nat) (f : α → List Value) (l : List α) (sk : Bool) : AHeap := match v with
  | .slice none _ _ => h
  | _ => h ++ [⟨l.flatMap f, true, true, sk, w⟩]
theorem Mut.fresh (G : Mut w f h K v l sk) : Fresh w f h (exV h v l.length) (exH h v w f l sk) l := by
  rcases G with ⟨rfl, rfl⟩ | ⟨j, rfl, h3, h4⟩
  · exact .inl ⟨rfl, rfl, rfl⟩
  · exact .inr ⟨sk, rfl, rfl⟩
theorem Mut.exit (G : Mut w f h K v l sk) (E : Ext h K) (hf : ∀ x, ∀ u ∈ f x, cOk u = true) {g g' : Value} (hg : ∀ ρ, RR ρ (exV h v l.length) v → RR ρ g' g) : ExitOk h K g g' (exH h v w f l sk) := by
  rcases G with ⟨rfl, rfl⟩ | ⟨j, rfl, h3, h4⟩
  · exact exit_rr E (hg _ (rr_scal rfl))
  · refine exit_new E h3 h4 rfl ?_ (hg _ (rr_slice (ren_new _ _ _ _)))
    intro u hu
    simp only [List.mem_flatMap] at hu
    obtain ⟨x, _, hx⟩ := hu
    exact hf x u hx
end

theorem flat1_set {α : Type} (g : α → Value) (l : List α) (i : Nat) (x : α) : (l.flatMap fun x => [g x]).set i (g x) = (l.set i x).flatMap fun x => [g x] := by
  rw [← List.map_eq_flatMap, ← List.map_eq_flatMap, List.map_set]

theorem Mut.set1 {α : Type} {g : α → Value} {h K : AHeap} {v : Value} {l : List α} {sk : Bool} (G : Mut 1 (fun x => [g x]) h K v l sk) {i : Nat} (hi : i < l.length) (d : α) :
    ∃ j, v = .slice (some ⟨j, 0, none⟩) l.length l.length ∧ h.length ≤ j ∧ K[j]? = some ⟨l.flatMap fun x => [g x], true, true, sk, 1⟩ ∧ i < (l.flatMap fun x => [g x]).length ∧ (l.flatMap fun x => [g x]).getD i undef = g (l.getD i d) ∧
      (∀ x, (l.flatMap fun x => [g x]).set i (g x) = (l.set i x).flatMap fun x => [g x]) ∧ ∀ K' x, K'[j]? = some ⟨(l.set i x).flatMap fun x => [g x], true, true, sk, 1⟩ → Mut 1 (fun x => [g x]) h K' v (l.set i x) sk := by
  rcases G with ⟨rfl, rfl⟩ | ⟨j, rfl, h3, h4⟩
  · simp at hi
  · refine ⟨j, rfl, h3, h4, by rw [flat_len (w := 1) (fun _ => rfl)]; omega, ?_, fun x => flat1_set g l i x, fun K' x hx => .inr ⟨j, by simp, h3, hx⟩⟩
    rw [← List.map_eq_flatMap, List.getD_eq_getElem?_getD, List.getElem?_map, List.getElem?_eq_getElem hi, List.getD_eq_getElem?_getD, List.getElem?_eq_getElem hi]; rfl

/-! Appends. -/
theorem app_zero {h : AHeap} {id off esz bytes l c n : Nat} {ob : AObj} {new : List Value} {R : Value → AHeap → Prop} {k : Keep R} (hid : h[id]? = some ob) (hn : n = 0) (hc : l ≤ c) (H : R (.slice (some ⟨id, off, none⟩) l c) h) : AppK h esz bytes (.slice (some ⟨id, off, none⟩) l c) n new R k := by
  unfold AppK appVC; simp only [hid]
  exact .inl ⟨hn, hc, H⟩
theorem app_new {h : AHeap} {id off esz bytes l c n : Nat} {ob : AObj} {new : List Value} {R : Value → AHeap → Prop} {k : Keep R} (hid : h[id]? = some ob) (hl : ob.live = true) (hs : ob.slack = false) (hn : c < l + n) (hc : l ≤ c) (hle : off + l * esz ≤ ob.cells.length) (hb : (l + n) * bytes ≤ 2 ^ 46)
    (H : R (.slice (some ⟨h.length, 0, none⟩) (l + n) (l + n)) (h ++ [⟨(ob.cells.drop off).take (l * esz) ++ new, true, true, true, esz⟩])) : AppK h esz bytes (.slice (some ⟨id, off, none⟩) l c) n new R k := by
  unfold AppK appVC; simp only [hid]
  exact .inr (.inl ⟨hl, hs, hn, hc, hle, hb, H⟩)
theorem app_nil0 {h : AHeap} {esz bytes : Nat} {new : List Value} {R : Value → AHeap → Prop} {k : Keep R} (H : R (.slice none 0 0) h) : AppK h esz bytes (.slice none 0 0) 0 new R k := .inl ⟨rfl, rfl, rfl, H⟩
theorem app_niln {h : AHeap} {esz bytes n : Nat} {new : List Value} {R : Value → AHeap → Prop} {k : Keep R} (hn : 0 < n) (hb : n * bytes ≤ 2 ^ 46) (H : R (.slice (some ⟨h.length, 0, none⟩) n n) (h ++ [⟨new, true, true, true, esz⟩])) : AppK h esz bytes (.slice none 0 0) n new R k := .inr ⟨rfl, rfl, hn, hb, H⟩

/-! A list that grows. -/
def Grow {α : Type} (w : Nat) (f : α → List Value) (h K : AHeap) (v : Value) (l : List α) : Prop :=
  (l = [] ∧ v = .slice none 0 0) ∨ (l ≠ [] ∧ ∃ j, v = .slice (some ⟨j, 0, none⟩) l.length l.length ∧ h.length ≤ j ∧ K[j]? = some ⟨l.flatMap f, true, true, true, w⟩)

section
variable {α : Type} {w : Nat} {f : α → List Value} {h K : AHeap} {v : Value} {l : List α}
theorem Grow.nil : Grow w f h K (.slice none 0 0) ([] : List α) := .inl ⟨rfl, rfl⟩
theorem Grow.app (G : Grow w f h K v l) (t : AHeap) : Grow w f h (K ++ t) v l := by
  rcases G with G | ⟨h1, j, h2, h3, h4⟩
  · exact .inl G
  · exact .inr ⟨h1, j, h2, h3, hp_old h4⟩
theorem Grow.set (G : Grow w f h K v l) {q : Nat} {oq : AObj} (hq : K[q]? = some oq) (hs : oq.slack = false) (ob : AObj) : Grow w f h (K.set q ob) v l := by
  rcases G with G | ⟨h1, j, h2, h3, h4⟩
  · exact .inl G
  · refine .inr ⟨h1, j, h2, h3, ?_⟩
    rw [List.getElem?_set_ne]
    · exact h4
    · intro hqj; subst hqj; rw [h4] at hq; cases hq; simp at hs
theorem Grow.keep (G : Grow w f h K v l) {K' : AHeap} (hk : ∀ (q : Nat) (ob : AObj), K[q]? = some ob → ob.slack = true → K'[q]? = some ob) : Grow w f h K' v l := by
  rcases G with G | ⟨h1, j, h2, h3, h4⟩
  · exact .inl G
  · exact .inr ⟨h1, j, h2, h3, hk _ _ h4 rfl⟩
theorem Grow.val (G : Grow w f h K v l) : ∃ a, v = .slice a l.length l.length := by
  rcases G with ⟨rfl, rfl⟩ | ⟨_, j, rfl, _⟩
  · exact ⟨none, rfl⟩
  · exact ⟨_, rfl⟩
theorem Grow.sl (G : Grow w f h K v l) (hf : ∀ x, (f x).length = w) : Sl w f K v l := by
  rcases G with ⟨rfl, rfl⟩ | ⟨_, j, rfl, _, h4⟩
  · exact .inl ⟨rfl, rfl⟩
  · refine .inr ⟨j, 0, l.length, _, rfl, h4, rfl, Nat.le_refl _, fun _ => rfl, ?_, ?_⟩
    · simp only; rw [flat_len hf]; omega
    · simp only [List.drop_zero]; rw [← flat_len hf (l := l), List.take_length]

theorem grow_app {bytes : Nat} {ys : List α} (G : Grow w f h K v l) (hf : ∀ x, (f x).length = w) (hn : 0 < ys.length) (hb : (l.length + ys.length) * bytes ≤ 2 ^ 46) (hfl : (ys.flatMap f).all flat = true) (E : Ext h K) {R : Value → AHeap → Prop} {k : Keep R}
    (H : ∀ v' K', Grow w f h K' v' (l ++ ys) → Ext h K' → K'.length = K.length + 1 → (∀ (q : Nat) (ob : AObj), K[q]? = some ob → ob.slack = false → K'[q]? = some ob) →
      ((∀ q, q < K.length → (∀ n, v ≠ .slice (some ⟨q, 0, none⟩) n n) → K'[q]? = K[q]?) ∧ v' = .slice (some ⟨K.length, 0, none⟩) (l ++ ys).length (l ++ ys).length ∧ K'[K.length]? = some ⟨(l ++ ys).flatMap f, true, true, true, w⟩) → R v' K') : AppK K w bytes v ys.length (ys.flatMap f) R k := by
  rcases G with ⟨rfl, rfl⟩ | ⟨h1, j, rfl, h3, h4⟩
  · refine .inr ⟨rfl, rfl, hn, by simpa using hb, ?_⟩
    refine H _ _ (.inr ⟨by intro he; simp at he; subst he; simp at hn, K.length, ?_, E.len, ?_⟩) (E.app _) (by simp) (fun q ob hq _ => hp_old hq) ⟨fun q hq _ => by rw [List.getElem?_append_left hq], by simp, by rw [hp_self]; simp⟩
    · simp
    · rw [hp_self]; simp
  · unfold AppK appVC
    simp only [h4]
    have hlen : (l.flatMap f).length = l.length * w := flat_len hf
    refine .inr (.inr (.inr ⟨trivial, trivial, trivial, trivial, by omega, hb, hfl, ?_⟩))
    rw [List.drop_zero, ← hlen, List.take_length]
    have hlast : (List.set K j (AObj.dead ⟨l.flatMap f, true, true, true, w⟩) ++ [⟨l.flatMap f ++ ys.flatMap f, true, true, true, w⟩])[K.length]? = some ⟨(l ++ ys).flatMap f, true, true, true, w⟩ := by
      rw [List.getElem?_append_right (by simp)]; simp
    refine H _ _ (.inr ⟨by simp [h1], K.length, by simp, E.len, hlast⟩) ((E.set h3 _).app _) (by simp) (fun q ob hq hs => ?_) ⟨fun q hq hne => ?_, by simp, hlast⟩
    · refine hp_old ?_
      rw [List.getElem?_set_ne]
      · exact hq
      · intro e; subst e; rw [h4] at hq; cases hq; simp at hs
    · rw [List.getElem?_append_left (by simpa using hq), List.getElem?_set_ne]
      intro e; subst e; exact hne _ rfl

/-- It is handed on. -/
def newV (h : AHeap) (n : Nat) : Value := if n = 0 then .slice none 0 0 else .slice (some ⟨h.length, 0, none⟩) n n
def newH {α : Type} (w : Nat) (f : α → List Value) (h : AHeap) (l : List α) : AHeap := if l.length = 0 then h else h ++ [⟨l.flatMap f, true, true, true, w⟩]

theorem new_fresh : Fresh w f h (newV h l.length) (newH w f h l) l := by
  unfold newV newH
  by_cases hl : l.length = 0
  · rw [if_pos hl, if_pos hl]; exact .inl ⟨List.length_eq_zero_iff.1 hl, rfl, rfl⟩
  · rw [if_neg hl, if_neg hl]
    exact .inr ⟨true, rfl, rfl⟩

theorem exit_grow (G : Grow w f h K v l) (E : Ext h K) (hf : ∀ x, ∀ u ∈ f x, cOk u = true) {u u' : Value} (hg : ∀ ρ, RR ρ (newV h l.length) v → RR ρ u' u) :
    ExitOk h K u u' (newH w f h l) := by
  unfold newV at hg
  unfold newH
  rcases G with ⟨rfl, rfl⟩ | ⟨h1, j, rfl, h3, h4⟩
  · simp only [List.length_nil, if_true] at hg ⊢; exact exit_rr E (hg _ (rr_scal rfl))
  · have hl : ¬ l.length = 0 := fun e => h1 (List.length_eq_zero_iff.1 e)
    rw [if_neg hl]
    refine exit_new E h3 h4 rfl ?_ (hg _ ?_)
    · intro u hu
      simp only [List.mem_flatMap] at hu
      obtain ⟨x, _, hx⟩ := hu
      exact hf x u hx
    · rw [if_neg hl]; exact rr_slice (ren_new _ _ _ _)
end

/-- A copy: what is put behind nothing. -/
theorem src_nil {α : Type} {w : Nat} {f : α → List Value} {h : AHeap} {v : Value} {l : List α} {bytes : Nat} (H : Sl w f h v l) (hb : l.length * bytes ≤ 2 ^ 46) {R : Value → AHeap → Prop} (hR : R (newV h l.length) (newH w f h l)) :
    srcCells h w v fun n new => AppK h w bytes (.slice none 0 0) n new R .mk := by
  have happ : AppK h w bytes (.slice none 0 0) l.length (l.flatMap f) R .mk := by
    unfold newV newH at hR
    by_cases h0 : l.length = 0
    · rw [if_pos h0, if_pos h0] at hR
      rw [h0, List.length_eq_zero_iff.1 h0]; exact app_nil0 hR
    · rw [if_neg h0, if_neg h0] at hR
      exact app_niln (by omega) hb hR
  rcases H with ⟨rfl, rfl⟩ | ⟨id, o, c, ob, rfl, h2, h3, h4, h5, h6, h7⟩
  · exact ⟨rfl, happ⟩
  · unfold srcCells
    simp only [h2]
    refine ⟨h3, h6, ?_⟩
    rw [h7]; exact happ
theorem new_mut {α : Type} {w : Nat} {f : α → List Value} {h : AHeap} {l : List α} : Mut w f h (newH w f h l) (newV h l.length) l true := by
  unfold newV newH
  by_cases h0 : l.length = 0
  · rw [if_pos h0, if_pos h0]; exact .inl ⟨List.length_eq_zero_iff.1 h0, rfl⟩
  · rw [if_neg h0, if_neg h0]; exact .inr ⟨h.length, rfl, Nat.le_refl _, hp_self _ _⟩
theorem new_ext {α : Type} {w : Nat} {f : α → List Value} {h : AHeap} {l : List α} : Ext h (newH w f h l) := (new_fresh (w := w) (f := f) (h := h) (l := l)).ext
end Go.Vx
