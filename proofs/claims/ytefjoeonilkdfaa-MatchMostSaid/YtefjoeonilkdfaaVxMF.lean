/- A part of the proof: what it shows stands in its theorems. No condition beyond those that they name. -/
import Derived.Test.YtefjoeonilkdfaaVxME
namespace Go.Vx
open Go.Proofs
set_option linter.unusedSimpArgs false
set_option linter.unusedVariables false
set_option maxRecDepth 100000
set_option maxHeartbeats 1000000

/-! A text's tokens. -/
def tokStep (bs : List UInt8) (p : Nat) : Tok := if 3 ≤ (findB bs p).1 then tokOf (findB bs p) else ⟨bs.getD p 0, 0, 0⟩
def tokensF (bs : List UInt8) : Nat → Nat → List Tok
  | 0, _ => []
  | k + 1, p => if p < bs.length then tokStep bs p :: tokensF bs k (p + (tokStep bs p).size.toNat) else []
def tokensL (bs : List UInt8) : List Tok := tokensF bs bs.length 0
def cellsL (l : List Tok) : List Value := l.flatMap Tok.cells
def tObj (l : List Tok) : AObj := ⟨cellsL l, true, true, true, 3⟩

theorem cellsL_len (l : List Tok) : (cellsL l).length = l.length * 3 := by
  induction l with
  | nil => rfl
  | cons t r ih => rw [cellsL, List.flatMap_cons, List.length_append]; show _ + (cellsL r).length = _; rw [ih]; simp [Tok.cells]; omega
theorem cellsL_app (l : List Tok) (t : Tok) : cellsL (l ++ [t]) = cellsL l ++ t.cells := by simp [cellsL]

theorem findF_le (bs : List UInt8) (p : Nat) : ∀ d, (findF bs p d (0, 0)).1 ≤ 18 ∧ p - d ≤ bs.length → True := fun _ _ => trivial

theorem com_end (bs : List UInt8) (f a : Nat) (ha : a ≤ bs.length) : a + com bs f a ≤ bs.length := by
  have : ∀ k n, a + n ≤ bs.length → a + comF bs f a k n ≤ bs.length := by
    intro k
    induction k with
    | zero => intro n hn; exact hn
    | succ k ih =>
      intro n hn
      simp only [comF]; split
      · rename_i h; exact ih (n + 1) (by omega)
      · exact hn
  exact this 18 0 (by omega)

theorem findF_end (bs : List UInt8) (p : Nat) (hp : p ≤ bs.length) : ∀ d, p + (findF bs p d (0, 0)).1 ≤ bs.length
  | 0 => by simpa [findF] using hp
  | d + 1 => by
    simp only [findF]; split
    · exact com_end bs _ p hp
    · exact findF_end bs p hp d

theorem tokStep_size {bs : List UInt8} {p : Nat} (hp : p < bs.length) : 1 ≤ (tokStep bs p).size ∧ p + (tokStep bs p).size ≤ bs.length := by
  have h1 := findF_end bs p (by omega) (min 256 p)
  unfold tokStep Tok.size
  split
  · rename_i h
    have h2 : (tokOf (findB bs p)).len = ((findB bs p).1 : Int) := rfl
    rw [h2]
    unfold findB at *
    split <;> omega
  · simp; omega

theorem app_nil {K : AHeap} {esz bytes n : Nat} {new : List Value} {R : Value → AHeap → Prop} (hn : 0 < n) (hb : n * bytes ≤ 2 ^ 46) (H : R (.slice (some ⟨K.length, 0, none⟩) n n) (K ++ [⟨new, true, true, true, esz⟩])) : appVC K esz bytes (.slice none 0 0) n new R :=
  .inr ⟨rfl, rfl, hn, hb, H⟩
theorem app_slack {K : AHeap} {j esz bytes l n : Nat} {cells new : List Value} {R : Value → AHeap → Prop} (hK : K[j]? = some ⟨cells, true, true, true, esz⟩) (hl : cells.length = l * esz) (hb : (l + n) * bytes ≤ 2 ^ 46) (hf : new.all flat = true)
    (H : R (.slice (some ⟨K.length, 0, none⟩) (l + n) (l + n)) (K.set j (AObj.dead ⟨cells, true, true, true, esz⟩) ++ [⟨cells ++ new, true, true, true, esz⟩])) : appVC K esz bytes (.slice (some ⟨j, 0, none⟩) l l) n new R := by
  unfold appVC
  simp only [hK]
  refine .inr (.inr (.inr ⟨trivial, trivial, trivial, trivial, by omega, hb, hf, ?_⟩))
  rw [List.drop_zero, ← hl, List.take_length]
  exact H

/-- The tokens so far. -/
def Out (h K : AHeap) (v : Value) (l : List Tok) : Prop :=
  (l = [] ∧ v = .slice none 0 0) ∨ (l ≠ [] ∧ ∃ j, v = .slice (some ⟨j, 0, none⟩) l.length l.length ∧ h.length ≤ j ∧ K[j]? = some (tObj l))

theorem Out.app {h K : AHeap} {v : Value} {l : List Tok} (o : Out h K v l) (t : AHeap) : Out h (K ++ t) v l := by
  rcases o with o | ⟨h1, j, h2, h3, h4⟩
  · exact .inl o
  · exact .inr ⟨h1, j, h2, h3, hp_old h4⟩

theorem Out.set {h K : AHeap} {v : Value} {l : List Tok} (o : Out h K v l) {q : Nat} {oq : AObj} (hq : K[q]? = some oq) (hs : oq.slack = false) (ob : AObj) : Out h (K.set q ob) v l := by
  rcases o with o | ⟨h1, j, h2, h3, h4⟩
  · exact .inl o
  · refine .inr ⟨h1, j, h2, h3, ?_⟩
    rw [List.getElem?_set_ne]
    · exact h4
    · intro hqj; subst hqj; rw [h4] at hq; cases hq; simp [tObj] at hs

structure TS (h : AHeap) (bs : List UInt8) (a : Option Addr) (c p : Nat) (acc : List Tok) (s : St) : Prop where
  e0 : s.env.get 0 = some (true, .slice a bs.length c)
  e5 : s.env.get 5 = some (true, .int .i64 p)
  e4 : ∃ v, s.env.get 4 = some (true, v) ∧ Out h s.heap v acc
  ext : Ext h s.heap
  le : p ≤ bs.length
  all : acc ++ tokensF bs (bs.length - p) p = tokensL bs
  n : acc.length ≤ p

theorem tokensF_more (bs : List UInt8) : ∀ (k m p : Nat), bs.length - p ≤ k → k ≤ m → tokensF bs k p = tokensF bs m p
  | 0, m, p, h1, h2 => by
    cases m with
    | zero => rfl
    | succ m => simp only [tokensF]; rw [if_neg (by omega)]
  | k + 1, m, p, h1, h2 => by
    obtain ⟨m, rfl⟩ : ∃ m', m = m' + 1 := ⟨m - 1, by omega⟩
    simp only [tokensF]
    split
    · rename_i hp
      obtain ⟨h3, h4⟩ := tokStep_size hp
      rw [tokensF_more bs k m _ (by omega) (by omega)]
    · rfl

def Fin (h : AHeap) (bs : List UInt8) (s : St) : Prop := ∃ v, s.env.get 2 = some (true, v) ∧ s.env.get 3 = some (true, .int .i64 0) ∧ Ext h s.heap ∧ Out h s.heap v (tokensL bs)

/-- Behind any part of the row that puts a token behind, and goes on. -/
structure DI (h : AHeap) (bs : List UInt8) (a : Option Addr) (c q p : Nat) (acc : List Tok) (t : Tok) (S : Nat → Bool) (s : St) : Prop where
  e0 : s.env.get 0 = some (true, .slice a bs.length c)
  e6 : s.env.get 6 = some (true, .pointer (some ⟨q, 0, none⟩))
  hq : s.heap[q]? = some ⟨t.cells, true, true, false, 1⟩
  ext : Ext h s.heap
  e5a : S 9 = false → s.env.get 5 = some (true, .int .i64 p)
  e5b : S 9 = true → s.env.get 5 = some (true, .int .i64 (p + t.size))
  e4a : S 8 = false → ∃ v, s.env.get 4 = some (true, v) ∧ (S 3 = false → Out h s.heap v acc)
  e4b : S 8 = true → ∃ v, s.env.get 4 = some (true, v) ∧ Out h s.heap v (acc ++ [t])
  f0 : S 0 = true → ∃ v, s.env.get 30 = some (true, v) ∧ (S 3 = false → Out h s.heap v acc)
  f1 : S 1 = true → s.env.get 31 = some (true, .agg t.cells.toArray)
  f2 : S 2 = true → ∃ id ob, s.env.get 32 = some (true, .slice (some ⟨id, 0, none⟩) 1 1) ∧ (S 3 = false → s.heap[id]? = some ob ∧ ob.live = true ∧ ob.cells = t.cells)
  f3 : S 3 = true → ∃ v, s.env.get 33 = some (true, v) ∧ Out h s.heap v (acc ++ [t])
  f4 : S 4 = true → s.env.get 34 = some (true, .int .i64 p)
  f5 : S 5 = true → s.env.get 35 = some (true, .agg t.cells.toArray)
  f6 : S 6 = true → s.env.get 36 = some (true, .int .i64 t.size)
  f7 : S 7 = true → s.env.get 37 = some (true, .int .i64 (p + t.size))
  c8 : S 8 = true → S 0 = true ∧ S 3 = true
  c9 : S 9 = true → S 4 = true

theorem tok_draw {h : AHeap} {a : Option Addr} {bs : List UInt8} {c q p : Nat} {acc : List Tok} {t : Tok} {s : St} (e0 : s.env.get 0 = some (true, .slice a bs.length c)) (e6 : s.env.get 6 = some (true, .pointer (some ⟨q, 0, none⟩)))
    (hq : s.heap[q]? = some ⟨t.cells, true, true, false, 1⟩) (hE : Ext h s.heap) (e5 : s.env.get 5 = some (true, .int .i64 p)) (e4 : ∃ v, s.env.get 4 = some (true, v) ∧ Out h s.heap v acc)
    (hw : IntKind.i64.wrap (p + t.size) = p + t.size) (hacc : acc.length ≤ 65536) {Q : Exit → St → Prop} (hQ : ∀ s', DI h bs a c q p acc t (fun _ => true) s' → Q (.goto 0) s') : WP false Try.prog γ0 c23_3 Q s := by
  simp only [c23_3, WP]
  refine ⟨DI h bs a c q p acc t, ⟨e0, e6, hq, hE, fun _ => e5, by simp, fun _ => let ⟨v, h1, h2⟩ := e4; ⟨v, h1, fun _ => h2⟩, by simp, by simp, by simp, by simp, by simp, by simp, by simp, by simp, by simp, by simp, by simp⟩, ?_, ?_⟩
  · intro S s i x ds hx hS hd hI
    match i with
    | 0 =>
      simp only [List.getElem?_cons_zero, List.getElem?_cons_succ, Option.some.injEq, Prod.mk.injEq] at hx
      obtain ⟨rfl, rfl⟩ := hx
      have h8 : S 8 = false := by
        cases hq : S 8 with
        | false => rfl
        | true => have := (hI.c8 hq).1; rw [hS] at this; simp at this
      obtain ⟨v, e4, ho⟩ := hI.e4a h8
      simp only [e4, ↓WP, ↓WPI, ↓guardVal, ↓OpVC2_t, ↓OpVC2_f, ↓OpVC2_n, eff, ↓br_t, ↓br_f, br_s, ↓OpVC, ↓Use, ↓Uses, ↓optUse, ↓partUses, ↓srcCells, ↓ev, argEnv, Env.get, putE, ↓reduceIte, reduceCtorEq, if_true, if_false, Bool.false_eq_true, false_imp_iff, true_and, and_true, forall_const, true_implies, false_implies, implies_true, cOk, scal, Value.cells, List.getElem?_cons_zero, List.getElem?_cons_succ, List.append_assoc, List.cons_append, List.nil_append, List.length_append, List.length_cons, List.length_nil, Nat.zero_add, Nat.add_zero, Nat.reduceAdd, Nat.reduceMul, Nat.reduceLT, Nat.reduceLeDiff, hp_self, hp_add, hs_self, hs_add, List.set_cons_zero, List.set_cons_succ, quiet_refl, quiet_app1, binV, eqV, eqAt, eqS, over, List.size_toArray, List.getElem?_toArray, Bool.and_true, Bool.true_and, Bool.and_false, Bool.false_and, beq_self_eq_true, List.drop_zero, List.drop_succ_cons, List.take_succ_cons, List.take_zero, List.getD_cons_zero, List.getD_cons_succ, flat, List.all_cons, List.all_nil, resVal, resOne, true_or, or_true, Bool.true_eq_false, Bool.not_true, Bool.not_false, decide_true, decide_false, List.foldl_cons, List.foldl_nil, gt_iff_lt, ge_iff_le, not_false_eq_true, not_true_eq_false, Option.some.injEq, Prod.mk.injEq, exists_eq_left', List.cons.injEq, and_self, or_self, or_false, false_or, false_and, and_false, Exit.exit.injEq, Nat.reduceEqDiff, ite_true, ite_false, eq_self, AObj.dead, Nat.reduceSub, cond_true, cond_false, decide_eq_true_eq, decide_eq_false_iff_not, beq_iff_eq, beq_eq_false_iff_ne, ne_eq, bne_iff_ne, Bool.and_eq_true, Bool.or_eq_true, Int.toNat_natCast, Int.toNat_zero, Nat.zero_mul, Nat.mul_one, zcells_one, zcells_succ, zcells_zero, List.replicate_succ, List.replicate_zero, List.flatten_cons, List.flatten_nil, List.append_nil, Int.natCast_add, imp_self, Bool.cond_false_right, Bool.cond_true_left, beqT, beqF, bne_self_eq_false, Int.reduceEq, Int.reduceBEq, Int.reduceBNe, Int.reduceLT, Int.reduceLE, Int.reduceToNat, Int.reduceAdd, Int.reduceSub, Int.reduceMul, Int.reduceNeg, Nat.reduceBEq, Nat.reduceBNe, Int.natCast_one, Int.le_refl, Bool.or_false, Bool.or_true, Bool.false_or, Bool.true_or]
      refine ⟨by simpa [Env.get] using hI.e0, by simpa [Env.get] using hI.e6, by simpa [Env.get] using hI.hq, by simpa [Env.get] using hI.ext, by simpa [Env.get] using hI.e5a, by simpa [Env.get] using hI.e5b, by simpa [Env.get] using hI.e4a, by simpa [Env.get] using hI.e4b, fun _ => ⟨v, by simp [Env.get], by simpa using ho⟩, by simpa [Env.get] using hI.f1, by simpa [Env.get] using hI.f2, by simpa [Env.get] using hI.f3, by simpa [Env.get] using hI.f4, by simpa [Env.get] using hI.f5, by simpa [Env.get] using hI.f6, by simpa [Env.get] using hI.f7, by simp [h8], by simpa [Env.get] using hI.c9⟩
    | 1 =>
      simp only [List.getElem?_cons_zero, List.getElem?_cons_succ, Option.some.injEq, Prod.mk.injEq] at hx
      obtain ⟨rfl, rfl⟩ := hx
      simp only [hI.e6, hI.hq, Tok.cells, ↓WP, ↓WPI, ↓guardVal, ↓OpVC2_t, ↓OpVC2_f, ↓OpVC2_n, eff, ↓br_t, ↓br_f, br_s, ↓OpVC, ↓Use, ↓Uses, ↓optUse, ↓partUses, ↓srcCells, ↓ev, argEnv, Env.get, putE, ↓reduceIte, reduceCtorEq, if_true, if_false, Bool.false_eq_true, false_imp_iff, true_and, and_true, forall_const, true_implies, false_implies, implies_true, cOk, scal, Value.cells, List.getElem?_cons_zero, List.getElem?_cons_succ, List.append_assoc, List.cons_append, List.nil_append, List.length_append, List.length_cons, List.length_nil, Nat.zero_add, Nat.add_zero, Nat.reduceAdd, Nat.reduceMul, Nat.reduceLT, Nat.reduceLeDiff, hp_self, hp_add, hs_self, hs_add, List.set_cons_zero, List.set_cons_succ, quiet_refl, quiet_app1, binV, eqV, eqAt, eqS, over, List.size_toArray, List.getElem?_toArray, Bool.and_true, Bool.true_and, Bool.and_false, Bool.false_and, beq_self_eq_true, List.drop_zero, List.drop_succ_cons, List.take_succ_cons, List.take_zero, List.getD_cons_zero, List.getD_cons_succ, flat, List.all_cons, List.all_nil, resVal, resOne, true_or, or_true, Bool.true_eq_false, Bool.not_true, Bool.not_false, decide_true, decide_false, List.foldl_cons, List.foldl_nil, gt_iff_lt, ge_iff_le, not_false_eq_true, not_true_eq_false, Option.some.injEq, Prod.mk.injEq, exists_eq_left', List.cons.injEq, and_self, or_self, or_false, false_or, false_and, and_false, Exit.exit.injEq, Nat.reduceEqDiff, ite_true, ite_false, eq_self, AObj.dead, Nat.reduceSub, cond_true, cond_false, decide_eq_true_eq, decide_eq_false_iff_not, beq_iff_eq, beq_eq_false_iff_ne, ne_eq, bne_iff_ne, Bool.and_eq_true, Bool.or_eq_true, Int.toNat_natCast, Int.toNat_zero, Nat.zero_mul, Nat.mul_one, zcells_one, zcells_succ, zcells_zero, List.replicate_succ, List.replicate_zero, List.flatten_cons, List.flatten_nil, List.append_nil, Int.natCast_add, imp_self, Bool.cond_false_right, Bool.cond_true_left, beqT, beqF, bne_self_eq_false, Int.reduceEq, Int.reduceBEq, Int.reduceBNe, Int.reduceLT, Int.reduceLE, Int.reduceToNat, Int.reduceAdd, Int.reduceSub, Int.reduceMul, Int.reduceNeg, Nat.reduceBEq, Nat.reduceBNe, Int.natCast_one, Int.le_refl, Bool.or_false, Bool.or_true, Bool.false_or, Bool.true_or]
      refine ⟨by simpa [Env.get] using hI.e0, by simpa [Env.get] using hI.e6, by simpa [Env.get] using hI.hq, by simpa [Env.get] using hI.ext, by simpa [Env.get] using hI.e5a, by simpa [Env.get] using hI.e5b, by simpa [Env.get] using hI.e4a, by simpa [Env.get] using hI.e4b, by simpa [Env.get] using hI.f0, fun _ => by simp [Env.get, Tok.cells], by simpa [Env.get] using hI.f2, by simpa [Env.get] using hI.f3, by simpa [Env.get] using hI.f4, by simpa [Env.get] using hI.f5, by simpa [Env.get] using hI.f6, by simpa [Env.get] using hI.f7, by simpa [Env.get] using hI.c8, by simpa [Env.get] using hI.c9⟩
    | 2 =>
      simp only [List.getElem?_cons_zero, List.getElem?_cons_succ, Option.some.injEq, Prod.mk.injEq] at hx
      obtain ⟨rfl, rfl⟩ := hx
      have e31 := hI.f1 (hd 1 (by simp))
      simp only [e31, Tok.cells, ↓WP, ↓WPI, ↓guardVal, ↓OpVC2_t, ↓OpVC2_f, ↓OpVC2_n, eff, ↓br_t, ↓br_f, br_s, ↓OpVC, ↓Use, ↓Uses, ↓optUse, ↓partUses, ↓srcCells, ↓ev, argEnv, Env.get, putE, ↓reduceIte, reduceCtorEq, if_true, if_false, Bool.false_eq_true, false_imp_iff, true_and, and_true, forall_const, true_implies, false_implies, implies_true, cOk, scal, Value.cells, List.getElem?_cons_zero, List.getElem?_cons_succ, List.append_assoc, List.cons_append, List.nil_append, List.length_append, List.length_cons, List.length_nil, Nat.zero_add, Nat.add_zero, Nat.reduceAdd, Nat.reduceMul, Nat.reduceLT, Nat.reduceLeDiff, hp_self, hp_add, hs_self, hs_add, List.set_cons_zero, List.set_cons_succ, quiet_refl, quiet_app1, binV, eqV, eqAt, eqS, over, List.size_toArray, List.getElem?_toArray, Bool.and_true, Bool.true_and, Bool.and_false, Bool.false_and, beq_self_eq_true, List.drop_zero, List.drop_succ_cons, List.take_succ_cons, List.take_zero, List.getD_cons_zero, List.getD_cons_succ, flat, List.all_cons, List.all_nil, resVal, resOne, true_or, or_true, Bool.true_eq_false, Bool.not_true, Bool.not_false, decide_true, decide_false, List.foldl_cons, List.foldl_nil, gt_iff_lt, ge_iff_le, not_false_eq_true, not_true_eq_false, Option.some.injEq, Prod.mk.injEq, exists_eq_left', List.cons.injEq, and_self, or_self, or_false, false_or, false_and, and_false, Exit.exit.injEq, Nat.reduceEqDiff, ite_true, ite_false, eq_self, AObj.dead, Nat.reduceSub, cond_true, cond_false, decide_eq_true_eq, decide_eq_false_iff_not, beq_iff_eq, beq_eq_false_iff_ne, ne_eq, bne_iff_ne, Bool.and_eq_true, Bool.or_eq_true, Int.toNat_natCast, Int.toNat_zero, Nat.zero_mul, Nat.mul_one, zcells_one, zcells_succ, zcells_zero, List.replicate_succ, List.replicate_zero, List.flatten_cons, List.flatten_nil, List.append_nil, Int.natCast_add, imp_self, Bool.cond_false_right, Bool.cond_true_left, beqT, beqF, bne_self_eq_false, Int.reduceEq, Int.reduceBEq, Int.reduceBNe, Int.reduceLT, Int.reduceLE, Int.reduceToNat, Int.reduceAdd, Int.reduceSub, Int.reduceMul, Int.reduceNeg, Nat.reduceBEq, Nat.reduceBNe, Int.natCast_one, Int.le_refl, Bool.or_false, Bool.or_true, Bool.false_or, Bool.true_or]
      refine ⟨by simpa [Env.get] using hI.e0, by simpa [Env.get] using hI.e6, hp_old hI.hq, hI.ext.app _, by simpa [Env.get] using hI.e5a, by simpa [Env.get] using hI.e5b, fun h8 => let ⟨v, h1, h2⟩ := hI.e4a (by simpa using h8); ⟨v, by simpa [Env.get] using h1, fun h3 => (h2 (by simpa using h3)).app _⟩, fun h8 => let ⟨v, h1, h2⟩ := hI.e4b (by simpa using h8); ⟨v, by simpa [Env.get] using h1, h2.app _⟩, fun h8 => let ⟨v, h1, h2⟩ := hI.f0 (by simpa using h8); ⟨v, by simpa [Env.get] using h1, fun h3 => (h2 (by simpa using h3)).app _⟩, by simpa [Env.get] using hI.f1, fun _ => ⟨_, _, by simp [Env.get]; rfl, fun _ => ⟨by simp; rfl, rfl, rfl⟩⟩, fun h8 => let ⟨v, h1, h2⟩ := hI.f3 (by simpa using h8); ⟨v, by simpa [Env.get] using h1, h2.app _⟩, by simpa [Env.get] using hI.f4, by simpa [Env.get] using hI.f5, by simpa [Env.get] using hI.f6, by simpa [Env.get] using hI.f7, by simpa [Env.get] using hI.c8, by simpa [Env.get] using hI.c9⟩
    | 3 =>
      simp only [List.getElem?_cons_zero, List.getElem?_cons_succ, Option.some.injEq, Prod.mk.injEq] at hx
      obtain ⟨rfl, rfl⟩ := hx
      have h8 : S 8 = false := by
        cases hq : S 8 with
        | false => rfl
        | true => have := (hI.c8 hq).2; rw [hS] at this; simp at this
      obtain ⟨v, e30, ho⟩ := hI.f0 (hd 0 (by simp))
      obtain ⟨id, ob, e32, hid⟩ := hI.f2 (hd 2 (by simp))
      obtain ⟨hid, hlive, hcs⟩ := hid hS
      have ho := ho hS
      simp only [e30, e32, hid, hlive, hcs, Tok.cells, ↓WP, ↓WPI, ↓guardVal, ↓OpVC2_t, ↓OpVC2_f, ↓OpVC2_n, eff, ↓br_t, ↓br_f, br_s, ↓OpVC, ↓Use, ↓Uses, ↓optUse, ↓partUses, ↓srcCells, ↓ev, argEnv, Env.get, putE, ↓reduceIte, reduceCtorEq, if_true, if_false, Bool.false_eq_true, false_imp_iff, true_and, and_true, forall_const, true_implies, false_implies, implies_true, cOk, scal, Value.cells, List.getElem?_cons_zero, List.getElem?_cons_succ, List.append_assoc, List.cons_append, List.nil_append, List.length_append, List.length_cons, List.length_nil, Nat.zero_add, Nat.add_zero, Nat.reduceAdd, Nat.reduceMul, Nat.reduceLT, Nat.reduceLeDiff, hp_self, hp_add, hs_self, hs_add, List.set_cons_zero, List.set_cons_succ, quiet_refl, quiet_app1, binV, eqV, eqAt, eqS, over, List.size_toArray, List.getElem?_toArray, Bool.and_true, Bool.true_and, Bool.and_false, Bool.false_and, beq_self_eq_true, List.drop_zero, List.drop_succ_cons, List.take_succ_cons, List.take_zero, List.getD_cons_zero, List.getD_cons_succ, flat, List.all_cons, List.all_nil, resVal, resOne, true_or, or_true, Bool.true_eq_false, Bool.not_true, Bool.not_false, decide_true, decide_false, List.foldl_cons, List.foldl_nil, gt_iff_lt, ge_iff_le, not_false_eq_true, not_true_eq_false, Option.some.injEq, Prod.mk.injEq, exists_eq_left', List.cons.injEq, and_self, or_self, or_false, false_or, false_and, and_false, Exit.exit.injEq, Nat.reduceEqDiff, ite_true, ite_false, eq_self, AObj.dead, Nat.reduceSub, cond_true, cond_false, decide_eq_true_eq, decide_eq_false_iff_not, beq_iff_eq, beq_eq_false_iff_ne, ne_eq, bne_iff_ne, Bool.and_eq_true, Bool.or_eq_true, Int.toNat_natCast, Int.toNat_zero, Nat.zero_mul, Nat.mul_one, zcells_one, zcells_succ, zcells_zero, List.replicate_succ, List.replicate_zero, List.flatten_cons, List.flatten_nil, List.append_nil, Int.natCast_add, imp_self, Bool.cond_false_right, Bool.cond_true_left, beqT, beqF, bne_self_eq_false, Int.reduceEq, Int.reduceBEq, Int.reduceBNe, Int.reduceLT, Int.reduceLE, Int.reduceToNat, Int.reduceAdd, Int.reduceSub, Int.reduceMul, Int.reduceNeg, Nat.reduceBEq, Nat.reduceBNe, Int.natCast_one, Int.le_refl, Bool.or_false, Bool.or_true, Bool.false_or, Bool.true_or]
      rcases ho with ⟨rfl, rfl⟩ | ⟨hne, j, rfl, hj, hK⟩
      · refine app_nil (by omega) (by omega) ?_
        exact ⟨by simpa [Env.get] using hI.e0, by simpa [Env.get] using hI.e6, hp_old hI.hq, hI.ext.app _, by simpa [Env.get] using hI.e5a, by simpa [Env.get] using hI.e5b,
          fun h8 => let ⟨v, h1, _⟩ := hI.e4a (by simpa using h8); ⟨v, by simpa [Env.get] using h1, by simp⟩, by simp [h8], fun _ => ⟨_, by simpa [Env.get] using e30, by simp⟩, by simpa [Env.get] using hI.f1, fun _ => ⟨_, ob, by simpa [Env.get] using e32, by simp⟩,
          fun _ => ⟨.slice (some ⟨s.heap.length, 0, none⟩) 1 1, by simp [Env.get], .inr ⟨by simp, _, rfl, hI.ext.len, by simp [tObj, cellsL, Tok.cells]⟩⟩, by simpa [Env.get] using hI.f4, by simpa [Env.get] using hI.f5, by simpa [Env.get] using hI.f6, by simpa [Env.get] using hI.f7, by simp [h8], by simpa using hI.c9⟩
      · have hqj : q ≠ j := by
          intro hqj; subst hqj
          have := hI.hq; rw [hK] at this
          have := congrArg (Option.map AObj.slack) this; simp [tObj] at this
        refine app_slack hK (cellsL_len _) (by omega) (by rfl) ?_
        exact ⟨by simpa [Env.get] using hI.e0, by simpa [Env.get] using hI.e6, hp_old (by rw [List.getElem?_set_ne (Ne.symm hqj)]; exact hI.hq), (hI.ext.set hj _).app _, by simpa [Env.get] using hI.e5a, by simpa [Env.get] using hI.e5b,
          fun h8 => let ⟨v, h1, _⟩ := hI.e4a (by simpa using h8); ⟨v, by simpa [Env.get] using h1, by simp⟩, by simp [h8], fun _ => ⟨_, by simpa [Env.get] using e30, by simp⟩, by simpa [Env.get] using hI.f1, fun _ => ⟨_, ob, by simpa [Env.get] using e32, by simp⟩,
          fun _ => ⟨.slice (some ⟨s.heap.length, 0, none⟩) (acc.length + 1) (acc.length + 1), by simp [Env.get], .inr ⟨by simp, s.heap.length, by simp, hI.ext.len, by simp [tObj, cellsL, Tok.cells]⟩⟩, by simpa [Env.get] using hI.f4, by simpa [Env.get] using hI.f5, by simpa [Env.get] using hI.f6, by simpa [Env.get] using hI.f7, by simp [h8], by simpa using hI.c9⟩
    | 4 =>
      simp only [List.getElem?_cons_zero, List.getElem?_cons_succ, Option.some.injEq, Prod.mk.injEq] at hx
      obtain ⟨rfl, rfl⟩ := hx
      have h9 : S 9 = false := by
        cases hq : S 9 with
        | false => rfl
        | true => have := hI.c9 hq; rw [hS] at this; simp at this
      simp only [hI.e5a h9, ↓WP, ↓WPI, ↓guardVal, ↓OpVC2_t, ↓OpVC2_f, ↓OpVC2_n, eff, ↓br_t, ↓br_f, br_s, ↓OpVC, ↓Use, ↓Uses, ↓optUse, ↓partUses, ↓srcCells, ↓ev, argEnv, Env.get, putE, ↓reduceIte, reduceCtorEq, if_true, if_false, Bool.false_eq_true, false_imp_iff, true_and, and_true, forall_const, true_implies, false_implies, implies_true, cOk, scal, Value.cells, List.getElem?_cons_zero, List.getElem?_cons_succ, List.append_assoc, List.cons_append, List.nil_append, List.length_append, List.length_cons, List.length_nil, Nat.zero_add, Nat.add_zero, Nat.reduceAdd, Nat.reduceMul, Nat.reduceLT, Nat.reduceLeDiff, hp_self, hp_add, hs_self, hs_add, List.set_cons_zero, List.set_cons_succ, quiet_refl, quiet_app1, binV, eqV, eqAt, eqS, over, List.size_toArray, List.getElem?_toArray, Bool.and_true, Bool.true_and, Bool.and_false, Bool.false_and, beq_self_eq_true, List.drop_zero, List.drop_succ_cons, List.take_succ_cons, List.take_zero, List.getD_cons_zero, List.getD_cons_succ, flat, List.all_cons, List.all_nil, resVal, resOne, true_or, or_true, Bool.true_eq_false, Bool.not_true, Bool.not_false, decide_true, decide_false, List.foldl_cons, List.foldl_nil, gt_iff_lt, ge_iff_le, not_false_eq_true, not_true_eq_false, Option.some.injEq, Prod.mk.injEq, exists_eq_left', List.cons.injEq, and_self, or_self, or_false, false_or, false_and, and_false, Exit.exit.injEq, Nat.reduceEqDiff, ite_true, ite_false, eq_self, AObj.dead, Nat.reduceSub, cond_true, cond_false, decide_eq_true_eq, decide_eq_false_iff_not, beq_iff_eq, beq_eq_false_iff_ne, ne_eq, bne_iff_ne, Bool.and_eq_true, Bool.or_eq_true, Int.toNat_natCast, Int.toNat_zero, Nat.zero_mul, Nat.mul_one, zcells_one, zcells_succ, zcells_zero, List.replicate_succ, List.replicate_zero, List.flatten_cons, List.flatten_nil, List.append_nil, Int.natCast_add, imp_self, Bool.cond_false_right, Bool.cond_true_left, beqT, beqF, bne_self_eq_false, Int.reduceEq, Int.reduceBEq, Int.reduceBNe, Int.reduceLT, Int.reduceLE, Int.reduceToNat, Int.reduceAdd, Int.reduceSub, Int.reduceMul, Int.reduceNeg, Nat.reduceBEq, Nat.reduceBNe, Int.natCast_one, Int.le_refl, Bool.or_false, Bool.or_true, Bool.false_or, Bool.true_or]
      refine ⟨by simpa [Env.get] using hI.e0, by simpa [Env.get] using hI.e6, by simpa [Env.get] using hI.hq, by simpa [Env.get] using hI.ext, by simpa [Env.get] using hI.e5a, by simpa [Env.get] using hI.e5b, by simpa [Env.get] using hI.e4a, by simpa [Env.get] using hI.e4b, by simpa [Env.get] using hI.f0, by simpa [Env.get] using hI.f1, by simpa [Env.get] using hI.f2, by simpa [Env.get] using hI.f3, fun _ => by simp [Env.get], by simpa [Env.get] using hI.f5, by simpa [Env.get] using hI.f6, by simpa [Env.get] using hI.f7, by simpa [Env.get] using hI.c8, by simp⟩
    | 5 =>
      simp only [List.getElem?_cons_zero, List.getElem?_cons_succ, Option.some.injEq, Prod.mk.injEq] at hx
      obtain ⟨rfl, rfl⟩ := hx
      simp only [hI.e6, hI.hq, Tok.cells, ↓WP, ↓WPI, ↓guardVal, ↓OpVC2_t, ↓OpVC2_f, ↓OpVC2_n, eff, ↓br_t, ↓br_f, br_s, ↓OpVC, ↓Use, ↓Uses, ↓optUse, ↓partUses, ↓srcCells, ↓ev, argEnv, Env.get, putE, ↓reduceIte, reduceCtorEq, if_true, if_false, Bool.false_eq_true, false_imp_iff, true_and, and_true, forall_const, true_implies, false_implies, implies_true, cOk, scal, Value.cells, List.getElem?_cons_zero, List.getElem?_cons_succ, List.append_assoc, List.cons_append, List.nil_append, List.length_append, List.length_cons, List.length_nil, Nat.zero_add, Nat.add_zero, Nat.reduceAdd, Nat.reduceMul, Nat.reduceLT, Nat.reduceLeDiff, hp_self, hp_add, hs_self, hs_add, List.set_cons_zero, List.set_cons_succ, quiet_refl, quiet_app1, binV, eqV, eqAt, eqS, over, List.size_toArray, List.getElem?_toArray, Bool.and_true, Bool.true_and, Bool.and_false, Bool.false_and, beq_self_eq_true, List.drop_zero, List.drop_succ_cons, List.take_succ_cons, List.take_zero, List.getD_cons_zero, List.getD_cons_succ, flat, List.all_cons, List.all_nil, resVal, resOne, true_or, or_true, Bool.true_eq_false, Bool.not_true, Bool.not_false, decide_true, decide_false, List.foldl_cons, List.foldl_nil, gt_iff_lt, ge_iff_le, not_false_eq_true, not_true_eq_false, Option.some.injEq, Prod.mk.injEq, exists_eq_left', List.cons.injEq, and_self, or_self, or_false, false_or, false_and, and_false, Exit.exit.injEq, Nat.reduceEqDiff, ite_true, ite_false, eq_self, AObj.dead, Nat.reduceSub, cond_true, cond_false, decide_eq_true_eq, decide_eq_false_iff_not, beq_iff_eq, beq_eq_false_iff_ne, ne_eq, bne_iff_ne, Bool.and_eq_true, Bool.or_eq_true, Int.toNat_natCast, Int.toNat_zero, Nat.zero_mul, Nat.mul_one, zcells_one, zcells_succ, zcells_zero, List.replicate_succ, List.replicate_zero, List.flatten_cons, List.flatten_nil, List.append_nil, Int.natCast_add, imp_self, Bool.cond_false_right, Bool.cond_true_left, beqT, beqF, bne_self_eq_false, Int.reduceEq, Int.reduceBEq, Int.reduceBNe, Int.reduceLT, Int.reduceLE, Int.reduceToNat, Int.reduceAdd, Int.reduceSub, Int.reduceMul, Int.reduceNeg, Nat.reduceBEq, Nat.reduceBNe, Int.natCast_one, Int.le_refl, Bool.or_false, Bool.or_true, Bool.false_or, Bool.true_or]
      refine ⟨by simpa [Env.get] using hI.e0, by simpa [Env.get] using hI.e6, by simpa [Env.get] using hI.hq, by simpa [Env.get] using hI.ext, by simpa [Env.get] using hI.e5a, by simpa [Env.get] using hI.e5b, by simpa [Env.get] using hI.e4a, by simpa [Env.get] using hI.e4b, by simpa [Env.get] using hI.f0, by simpa [Env.get] using hI.f1, by simpa [Env.get] using hI.f2, by simpa [Env.get] using hI.f3, by simpa [Env.get] using hI.f4, fun _ => by simp [Env.get, Tok.cells], by simpa [Env.get] using hI.f6, by simpa [Env.get] using hI.f7, by simpa [Env.get] using hI.c8, by simpa [Env.get] using hI.c9⟩
    | 6 =>
      simp only [List.getElem?_cons_zero, List.getElem?_cons_succ, Option.some.injEq, Prod.mk.injEq] at hx
      obtain ⟨rfl, rfl⟩ := hx
      have e35 := hI.f5 (hd 5 (by simp))
      simp only [e35, ↓WP, ↓WPI, ↓guardVal, ↓OpVC2_t, ↓OpVC2_f, ↓OpVC2_n, eff, ↓br_t, ↓br_f, br_s, ↓OpVC, ↓Use, ↓Uses, ↓optUse, ↓partUses, ↓srcCells, ↓ev, argEnv, Env.get, putE, ↓reduceIte, reduceCtorEq, if_true, if_false, Bool.false_eq_true, false_imp_iff, true_and, and_true, forall_const, true_implies, false_implies, implies_true, cOk, scal, Value.cells, List.getElem?_cons_zero, List.getElem?_cons_succ, List.append_assoc, List.cons_append, List.nil_append, List.length_append, List.length_cons, List.length_nil, Nat.zero_add, Nat.add_zero, Nat.reduceAdd, Nat.reduceMul, Nat.reduceLT, Nat.reduceLeDiff, hp_self, hp_add, hs_self, hs_add, List.set_cons_zero, List.set_cons_succ, quiet_refl, quiet_app1, binV, eqV, eqAt, eqS, over, List.size_toArray, List.getElem?_toArray, Bool.and_true, Bool.true_and, Bool.and_false, Bool.false_and, beq_self_eq_true, List.drop_zero, List.drop_succ_cons, List.take_succ_cons, List.take_zero, List.getD_cons_zero, List.getD_cons_succ, flat, List.all_cons, List.all_nil, resVal, resOne, true_or, or_true, Bool.true_eq_false, Bool.not_true, Bool.not_false, decide_true, decide_false, List.foldl_cons, List.foldl_nil, gt_iff_lt, ge_iff_le, not_false_eq_true, not_true_eq_false, Option.some.injEq, Prod.mk.injEq, exists_eq_left', List.cons.injEq, and_self, or_self, or_false, false_or, false_and, and_false, Exit.exit.injEq, Nat.reduceEqDiff, ite_true, ite_false, eq_self, AObj.dead, Nat.reduceSub, cond_true, cond_false, decide_eq_true_eq, decide_eq_false_iff_not, beq_iff_eq, beq_eq_false_iff_ne, ne_eq, bne_iff_ne, Bool.and_eq_true, Bool.or_eq_true, Int.toNat_natCast, Int.toNat_zero, Nat.zero_mul, Nat.mul_one, zcells_one, zcells_succ, zcells_zero, List.replicate_succ, List.replicate_zero, List.flatten_cons, List.flatten_nil, List.append_nil, Int.natCast_add, imp_self, Bool.cond_false_right, Bool.cond_true_left, beqT, beqF, bne_self_eq_false, Int.reduceEq, Int.reduceBEq, Int.reduceBNe, Int.reduceLT, Int.reduceLE, Int.reduceToNat, Int.reduceAdd, Int.reduceSub, Int.reduceMul, Int.reduceNeg, Nat.reduceBEq, Nat.reduceBNe, Int.natCast_one, Int.le_refl, Bool.or_false, Bool.or_true, Bool.false_or, Bool.true_or]
      refine ⟨_, _, size_spec t _, ?_⟩
      refine ⟨by simpa [Env.get] using hI.e0, by simpa [Env.get] using hI.e6, by simpa [Env.get] using hI.hq, by simpa [Env.get] using hI.ext, by simpa [Env.get] using hI.e5a, by simpa [Env.get] using hI.e5b, by simpa [Env.get] using hI.e4a, by simpa [Env.get] using hI.e4b, by simpa [Env.get] using hI.f0, by simpa [Env.get] using hI.f1, by simpa [Env.get] using hI.f2, by simpa [Env.get] using hI.f3, by simpa [Env.get] using hI.f4, by simpa [Env.get] using hI.f5, fun _ => by simp [Env.get], by simpa [Env.get] using hI.f7, by simpa [Env.get] using hI.c8, by simpa [Env.get] using hI.c9⟩
    | 7 =>
      simp only [List.getElem?_cons_zero, List.getElem?_cons_succ, Option.some.injEq, Prod.mk.injEq] at hx
      obtain ⟨rfl, rfl⟩ := hx
      have e34 := hI.f4 (hd 4 (by simp))
      have e36 := hI.f6 (hd 6 (by simp))
      simp only [e34, e36, hw, ↓WP, ↓WPI, ↓guardVal, ↓OpVC2_t, ↓OpVC2_f, ↓OpVC2_n, eff, ↓br_t, ↓br_f, br_s, ↓OpVC, ↓Use, ↓Uses, ↓optUse, ↓partUses, ↓srcCells, ↓ev, argEnv, Env.get, putE, ↓reduceIte, reduceCtorEq, if_true, if_false, Bool.false_eq_true, false_imp_iff, true_and, and_true, forall_const, true_implies, false_implies, implies_true, cOk, scal, Value.cells, List.getElem?_cons_zero, List.getElem?_cons_succ, List.append_assoc, List.cons_append, List.nil_append, List.length_append, List.length_cons, List.length_nil, Nat.zero_add, Nat.add_zero, Nat.reduceAdd, Nat.reduceMul, Nat.reduceLT, Nat.reduceLeDiff, hp_self, hp_add, hs_self, hs_add, List.set_cons_zero, List.set_cons_succ, quiet_refl, quiet_app1, binV, eqV, eqAt, eqS, over, List.size_toArray, List.getElem?_toArray, Bool.and_true, Bool.true_and, Bool.and_false, Bool.false_and, beq_self_eq_true, List.drop_zero, List.drop_succ_cons, List.take_succ_cons, List.take_zero, List.getD_cons_zero, List.getD_cons_succ, flat, List.all_cons, List.all_nil, resVal, resOne, true_or, or_true, Bool.true_eq_false, Bool.not_true, Bool.not_false, decide_true, decide_false, List.foldl_cons, List.foldl_nil, gt_iff_lt, ge_iff_le, not_false_eq_true, not_true_eq_false, Option.some.injEq, Prod.mk.injEq, exists_eq_left', List.cons.injEq, and_self, or_self, or_false, false_or, false_and, and_false, Exit.exit.injEq, Nat.reduceEqDiff, ite_true, ite_false, eq_self, AObj.dead, Nat.reduceSub, cond_true, cond_false, decide_eq_true_eq, decide_eq_false_iff_not, beq_iff_eq, beq_eq_false_iff_ne, ne_eq, bne_iff_ne, Bool.and_eq_true, Bool.or_eq_true, Int.toNat_natCast, Int.toNat_zero, Nat.zero_mul, Nat.mul_one, zcells_one, zcells_succ, zcells_zero, List.replicate_succ, List.replicate_zero, List.flatten_cons, List.flatten_nil, List.append_nil, Int.natCast_add, imp_self, Bool.cond_false_right, Bool.cond_true_left, beqT, beqF, bne_self_eq_false, Int.reduceEq, Int.reduceBEq, Int.reduceBNe, Int.reduceLT, Int.reduceLE, Int.reduceToNat, Int.reduceAdd, Int.reduceSub, Int.reduceMul, Int.reduceNeg, Nat.reduceBEq, Nat.reduceBNe, Int.natCast_one, Int.le_refl, Bool.or_false, Bool.or_true, Bool.false_or, Bool.true_or]
      refine ⟨by simpa [Env.get] using hI.e0, by simpa [Env.get] using hI.e6, by simpa [Env.get] using hI.hq, by simpa [Env.get] using hI.ext, by simpa [Env.get] using hI.e5a, by simpa [Env.get] using hI.e5b, by simpa [Env.get] using hI.e4a, by simpa [Env.get] using hI.e4b, by simpa [Env.get] using hI.f0, by simpa [Env.get] using hI.f1, by simpa [Env.get] using hI.f2, by simpa [Env.get] using hI.f3, by simpa [Env.get] using hI.f4, by simpa [Env.get] using hI.f5, by simpa [Env.get] using hI.f6, fun _ => by simp [Env.get], by simpa [Env.get] using hI.c8, by simpa [Env.get] using hI.c9⟩
    | 8 =>
      simp only [List.getElem?_cons_zero, List.getElem?_cons_succ, Option.some.injEq, Prod.mk.injEq] at hx
      obtain ⟨rfl, rfl⟩ := hx
      obtain ⟨v, e33, ho⟩ := hI.f3 (hd 3 (by simp))
      have h0 := hd 0 (by simp)
      have h3 := hd 3 (by simp)
      simp only [e33, ↓WP, ↓WPI, ↓guardVal, ↓OpVC2_t, ↓OpVC2_f, ↓OpVC2_n, eff, ↓br_t, ↓br_f, br_s, ↓OpVC, ↓Use, ↓Uses, ↓optUse, ↓partUses, ↓srcCells, ↓ev, argEnv, Env.get, putE, ↓reduceIte, reduceCtorEq, if_true, if_false, Bool.false_eq_true, false_imp_iff, true_and, and_true, forall_const, true_implies, false_implies, implies_true, cOk, scal, Value.cells, List.getElem?_cons_zero, List.getElem?_cons_succ, List.append_assoc, List.cons_append, List.nil_append, List.length_append, List.length_cons, List.length_nil, Nat.zero_add, Nat.add_zero, Nat.reduceAdd, Nat.reduceMul, Nat.reduceLT, Nat.reduceLeDiff, hp_self, hp_add, hs_self, hs_add, List.set_cons_zero, List.set_cons_succ, quiet_refl, quiet_app1, binV, eqV, eqAt, eqS, over, List.size_toArray, List.getElem?_toArray, Bool.and_true, Bool.true_and, Bool.and_false, Bool.false_and, beq_self_eq_true, List.drop_zero, List.drop_succ_cons, List.take_succ_cons, List.take_zero, List.getD_cons_zero, List.getD_cons_succ, flat, List.all_cons, List.all_nil, resVal, resOne, true_or, or_true, Bool.true_eq_false, Bool.not_true, Bool.not_false, decide_true, decide_false, List.foldl_cons, List.foldl_nil, gt_iff_lt, ge_iff_le, not_false_eq_true, not_true_eq_false, Option.some.injEq, Prod.mk.injEq, exists_eq_left', List.cons.injEq, and_self, or_self, or_false, false_or, false_and, and_false, Exit.exit.injEq, Nat.reduceEqDiff, ite_true, ite_false, eq_self, AObj.dead, Nat.reduceSub, cond_true, cond_false, decide_eq_true_eq, decide_eq_false_iff_not, beq_iff_eq, beq_eq_false_iff_ne, ne_eq, bne_iff_ne, Bool.and_eq_true, Bool.or_eq_true, Int.toNat_natCast, Int.toNat_zero, Nat.zero_mul, Nat.mul_one, zcells_one, zcells_succ, zcells_zero, List.replicate_succ, List.replicate_zero, List.flatten_cons, List.flatten_nil, List.append_nil, Int.natCast_add, imp_self, Bool.cond_false_right, Bool.cond_true_left, beqT, beqF, bne_self_eq_false, Int.reduceEq, Int.reduceBEq, Int.reduceBNe, Int.reduceLT, Int.reduceLE, Int.reduceToNat, Int.reduceAdd, Int.reduceSub, Int.reduceMul, Int.reduceNeg, Nat.reduceBEq, Nat.reduceBNe, Int.natCast_one, Int.le_refl, Bool.or_false, Bool.or_true, Bool.false_or, Bool.true_or]
      refine ⟨by simpa [Env.get] using hI.e0, by simpa [Env.get] using hI.e6, by simpa [Env.get] using hI.hq, by simpa [Env.get] using hI.ext, by simpa [Env.get] using hI.e5a, by simpa [Env.get] using hI.e5b, by simp, fun _ => ⟨v, by simp [Env.get], ho⟩, by simpa [Env.get] using hI.f0, by simpa [Env.get] using hI.f1, by simpa [Env.get] using hI.f2, by simpa [Env.get] using hI.f3, by simpa [Env.get] using hI.f4, by simpa [Env.get] using hI.f5, by simpa [Env.get] using hI.f6, by simpa [Env.get] using hI.f7, by simp [h0, h3], by simpa [Env.get] using hI.c9⟩
    | 9 =>
      simp only [List.getElem?_cons_zero, List.getElem?_cons_succ, Option.some.injEq, Prod.mk.injEq] at hx
      obtain ⟨rfl, rfl⟩ := hx
      have e37 := hI.f7 (hd 7 (by simp))
      have h4 := hd 4 (by simp)
      simp only [e37, ↓WP, ↓WPI, ↓guardVal, ↓OpVC2_t, ↓OpVC2_f, ↓OpVC2_n, eff, ↓br_t, ↓br_f, br_s, ↓OpVC, ↓Use, ↓Uses, ↓optUse, ↓partUses, ↓srcCells, ↓ev, argEnv, Env.get, putE, ↓reduceIte, reduceCtorEq, if_true, if_false, Bool.false_eq_true, false_imp_iff, true_and, and_true, forall_const, true_implies, false_implies, implies_true, cOk, scal, Value.cells, List.getElem?_cons_zero, List.getElem?_cons_succ, List.append_assoc, List.cons_append, List.nil_append, List.length_append, List.length_cons, List.length_nil, Nat.zero_add, Nat.add_zero, Nat.reduceAdd, Nat.reduceMul, Nat.reduceLT, Nat.reduceLeDiff, hp_self, hp_add, hs_self, hs_add, List.set_cons_zero, List.set_cons_succ, quiet_refl, quiet_app1, binV, eqV, eqAt, eqS, over, List.size_toArray, List.getElem?_toArray, Bool.and_true, Bool.true_and, Bool.and_false, Bool.false_and, beq_self_eq_true, List.drop_zero, List.drop_succ_cons, List.take_succ_cons, List.take_zero, List.getD_cons_zero, List.getD_cons_succ, flat, List.all_cons, List.all_nil, resVal, resOne, true_or, or_true, Bool.true_eq_false, Bool.not_true, Bool.not_false, decide_true, decide_false, List.foldl_cons, List.foldl_nil, gt_iff_lt, ge_iff_le, not_false_eq_true, not_true_eq_false, Option.some.injEq, Prod.mk.injEq, exists_eq_left', List.cons.injEq, and_self, or_self, or_false, false_or, false_and, and_false, Exit.exit.injEq, Nat.reduceEqDiff, ite_true, ite_false, eq_self, AObj.dead, Nat.reduceSub, cond_true, cond_false, decide_eq_true_eq, decide_eq_false_iff_not, beq_iff_eq, beq_eq_false_iff_ne, ne_eq, bne_iff_ne, Bool.and_eq_true, Bool.or_eq_true, Int.toNat_natCast, Int.toNat_zero, Nat.zero_mul, Nat.mul_one, zcells_one, zcells_succ, zcells_zero, List.replicate_succ, List.replicate_zero, List.flatten_cons, List.flatten_nil, List.append_nil, Int.natCast_add, imp_self, Bool.cond_false_right, Bool.cond_true_left, beqT, beqF, bne_self_eq_false, Int.reduceEq, Int.reduceBEq, Int.reduceBNe, Int.reduceLT, Int.reduceLE, Int.reduceToNat, Int.reduceAdd, Int.reduceSub, Int.reduceMul, Int.reduceNeg, Nat.reduceBEq, Nat.reduceBNe, Int.natCast_one, Int.le_refl, Bool.or_false, Bool.or_true, Bool.false_or, Bool.true_or]
      refine ⟨by simpa [Env.get] using hI.e0, by simpa [Env.get] using hI.e6, by simpa [Env.get] using hI.hq, by simpa [Env.get] using hI.ext, by simp, fun _ => by simp [Env.get], by simpa [Env.get] using hI.e4a, by simpa [Env.get] using hI.e4b, by simpa [Env.get] using hI.f0, by simpa [Env.get] using hI.f1, by simpa [Env.get] using hI.f2, by simpa [Env.get] using hI.f3, by simpa [Env.get] using hI.f4, by simpa [Env.get] using hI.f5, by simpa [Env.get] using hI.f6, by simpa [Env.get] using hI.f7, by simpa [Env.get] using hI.c8, by simp [h4]⟩
    | n + 10 => simp at hx
  · intro S s hall hI
    refine hQ s ?_
    have : ∀ i, i < 10 → S i = true := fun i hi => hall i (by simpa using hi)
    exact ⟨hI.e0, hI.e6, hI.hq, hI.ext, by simp, fun _ => hI.e5b (this 9 (by omega)), by simp, fun _ => hI.e4b (this 8 (by omega)), fun _ => let ⟨v, h1, h2⟩ := hI.f0 (this 0 (by omega)); ⟨v, h1, by simp⟩, fun _ => hI.f1 (this 1 (by omega)),
      fun _ => let ⟨i, o, h1, h2⟩ := hI.f2 (this 2 (by omega)); ⟨i, o, h1, by simp⟩, fun _ => hI.f3 (this 3 (by omega)), fun _ => hI.f4 (this 4 (by omega)), fun _ => hI.f5 (this 5 (by omega)), fun _ => hI.f6 (this 6 (by omega)), fun _ => hI.f7 (this 7 (by omega)), by simp, by simp⟩

theorem tok_body {h : AHeap} {a : Option Addr} {bs : List UInt8} {c : Nat} (H : BSl h a bs) (hb : bs.length ≤ 65536) {p : Nat} {acc : List Tok} {s : St} (hs : TS h bs a c p acc s) {Q : Exit → St → Prop}
    (hgo : ∀ s', TS h bs a c (p + (tokStep bs p).size.toNat) (acc ++ [tokStep bs p]) s' → p < bs.length → Q (.goto 0) s') (hfin : ∀ s', Fin h bs s' → Q .ret s') : WP false Try.prog γ0 c23_6 Q s := by
  obtain ⟨e0, e5, ⟨v, e4, ho⟩, hE, hp, hall, hn⟩ := hs
  obtain ⟨env, K⟩ := s
  simp only at e0 e5 e4 ho hE
  by_cases hend : p = bs.length
  · have hend' : (p : Int) = bs.length := by omega
    have hacc : acc = tokensL bs := by rw [← hall, hend, Nat.sub_self]; simp [tokensF]
    simp only [c23_6, c23_1, e0, e5, e4, hend', ↓WP, ↓WPI, ↓guardVal, ↓OpVC2_t, ↓OpVC2_f, ↓OpVC2_n, eff, ↓br_t, ↓br_f, br_s, ↓OpVC, ↓Use, ↓Uses, ↓optUse, ↓partUses, ↓srcCells, ↓ev, argEnv, Env.get, putE, ↓reduceIte, reduceCtorEq, if_true, if_false, Bool.false_eq_true, false_imp_iff, true_and, and_true, forall_const, true_implies, false_implies, implies_true, cOk, scal, Value.cells, List.getElem?_cons_zero, List.getElem?_cons_succ, List.append_assoc, List.cons_append, List.nil_append, List.length_append, List.length_cons, List.length_nil, Nat.zero_add, Nat.add_zero, Nat.reduceAdd, Nat.reduceMul, Nat.reduceLT, Nat.reduceLeDiff, hp_self, hp_add, hs_self, hs_add, List.set_cons_zero, List.set_cons_succ, quiet_refl, quiet_app1, binV, eqV, eqAt, eqS, over, List.size_toArray, List.getElem?_toArray, Bool.and_true, Bool.true_and, Bool.and_false, Bool.false_and, beq_self_eq_true, List.drop_zero, List.drop_succ_cons, List.take_succ_cons, List.take_zero, List.getD_cons_zero, List.getD_cons_succ, flat, List.all_cons, List.all_nil, resVal, resOne, true_or, or_true, Bool.true_eq_false, Bool.not_true, Bool.not_false, decide_true, decide_false, List.foldl_cons, List.foldl_nil, gt_iff_lt, ge_iff_le, not_false_eq_true, not_true_eq_false, Option.some.injEq, Prod.mk.injEq, exists_eq_left', List.cons.injEq, and_self, or_self, or_false, false_or, false_and, and_false, Exit.exit.injEq, Nat.reduceEqDiff, ite_true, ite_false, eq_self, AObj.dead, Nat.reduceSub, cond_true, cond_false, decide_eq_true_eq, decide_eq_false_iff_not, beq_iff_eq, beq_eq_false_iff_ne, ne_eq, bne_iff_ne, Bool.and_eq_true, Bool.or_eq_true, Int.toNat_natCast, Int.toNat_zero, Nat.zero_mul, Nat.mul_one, zcells_one, zcells_succ, zcells_zero, List.replicate_succ, List.replicate_zero, List.flatten_cons, List.flatten_nil, List.append_nil, Int.natCast_add, imp_self, Bool.cond_false_right, Bool.cond_true_left, beqT, beqF, bne_self_eq_false, Int.reduceEq, Int.reduceBEq, Int.reduceBNe, Int.reduceLT, Int.reduceLE, Int.reduceToNat, Int.reduceAdd, Int.reduceSub, Int.reduceMul, Int.reduceNeg, Nat.reduceBEq, Nat.reduceBNe, Int.natCast_one, Int.le_refl, Bool.or_false, Bool.or_true, Bool.false_or, Bool.true_or]
    rcases ho with ⟨rfl, rfl⟩ | ⟨hne, j, rfl, hj, hK⟩
    · refine ⟨_, _, clip_nil, hfin _ ?_⟩
      exact ⟨_, rfl, rfl, hE, .inl ⟨hacc.symm, rfl⟩⟩
    · refine ⟨_, _, clip_spec hK rfl rfl (Nat.le_refl _), hfin _ ?_⟩
      exact ⟨_, rfl, rfl, hE, .inr ⟨by rw [← hacc]; exact hne, j, by rw [hacc], hj, by rw [← hacc]; exact hK⟩⟩
  · have hend' : ¬ ((p : Int) = bs.length) := by omega
    have hlt : p < bs.length := by omega
    simp only [c23_6, e0, e5, e4, hend', ↓WP, ↓WPI, ↓guardVal, ↓OpVC2_t, ↓OpVC2_f, ↓OpVC2_n, eff, ↓br_t, ↓br_f, br_s, ↓OpVC, ↓Use, ↓Uses, ↓optUse, ↓partUses, ↓srcCells, ↓ev, argEnv, Env.get, putE, ↓reduceIte, reduceCtorEq, if_true, if_false, Bool.false_eq_true, false_imp_iff, true_and, and_true, forall_const, true_implies, false_implies, implies_true, cOk, scal, Value.cells, List.getElem?_cons_zero, List.getElem?_cons_succ, List.append_assoc, List.cons_append, List.nil_append, List.length_append, List.length_cons, List.length_nil, Nat.zero_add, Nat.add_zero, Nat.reduceAdd, Nat.reduceMul, Nat.reduceLT, Nat.reduceLeDiff, hp_self, hp_add, hs_self, hs_add, List.set_cons_zero, List.set_cons_succ, quiet_refl, quiet_app1, binV, eqV, eqAt, eqS, over, List.size_toArray, List.getElem?_toArray, Bool.and_true, Bool.true_and, Bool.and_false, Bool.false_and, beq_self_eq_true, List.drop_zero, List.drop_succ_cons, List.take_succ_cons, List.take_zero, List.getD_cons_zero, List.getD_cons_succ, flat, List.all_cons, List.all_nil, resVal, resOne, true_or, or_true, Bool.true_eq_false, Bool.not_true, Bool.not_false, decide_true, decide_false, List.foldl_cons, List.foldl_nil, gt_iff_lt, ge_iff_le, not_false_eq_true, not_true_eq_false, Option.some.injEq, Prod.mk.injEq, exists_eq_left', List.cons.injEq, and_self, or_self, or_false, false_or, false_and, and_false, Exit.exit.injEq, Nat.reduceEqDiff, ite_true, ite_false, eq_self, AObj.dead, Nat.reduceSub, cond_true, cond_false, decide_eq_true_eq, decide_eq_false_iff_not, beq_iff_eq, beq_eq_false_iff_ne, ne_eq, bne_iff_ne, Bool.and_eq_true, Bool.or_eq_true, Int.toNat_natCast, Int.toNat_zero, Nat.zero_mul, Nat.mul_one, zcells_one, zcells_succ, zcells_zero, List.replicate_succ, List.replicate_zero, List.flatten_cons, List.flatten_nil, List.append_nil, Int.natCast_add, imp_self, Bool.cond_false_right, Bool.cond_true_left, beqT, beqF, bne_self_eq_false, Int.reduceEq, Int.reduceBEq, Int.reduceBNe, Int.reduceLT, Int.reduceLE, Int.reduceToNat, Int.reduceAdd, Int.reduceSub, Int.reduceMul, Int.reduceNeg, Nat.reduceBEq, Nat.reduceBNe, Int.natCast_one, Int.le_refl, Bool.or_false, Bool.or_true, Bool.false_or, Bool.true_or]
    simp only [c23_5, e0, e5, e4, hend', ↓WP, ↓WPI, ↓guardVal, ↓OpVC2_t, ↓OpVC2_f, ↓OpVC2_n, eff, ↓br_t, ↓br_f, br_s, ↓OpVC, ↓Use, ↓Uses, ↓optUse, ↓partUses, ↓srcCells, ↓ev, argEnv, Env.get, putE, ↓reduceIte, reduceCtorEq, if_true, if_false, Bool.false_eq_true, false_imp_iff, true_and, and_true, forall_const, true_implies, false_implies, implies_true, cOk, scal, Value.cells, List.getElem?_cons_zero, List.getElem?_cons_succ, List.append_assoc, List.cons_append, List.nil_append, List.length_append, List.length_cons, List.length_nil, Nat.zero_add, Nat.add_zero, Nat.reduceAdd, Nat.reduceMul, Nat.reduceLT, Nat.reduceLeDiff, hp_self, hp_add, hs_self, hs_add, List.set_cons_zero, List.set_cons_succ, quiet_refl, quiet_app1, binV, eqV, eqAt, eqS, over, List.size_toArray, List.getElem?_toArray, Bool.and_true, Bool.true_and, Bool.and_false, Bool.false_and, beq_self_eq_true, List.drop_zero, List.drop_succ_cons, List.take_succ_cons, List.take_zero, List.getD_cons_zero, List.getD_cons_succ, flat, List.all_cons, List.all_nil, resVal, resOne, true_or, or_true, Bool.true_eq_false, Bool.not_true, Bool.not_false, decide_true, decide_false, List.foldl_cons, List.foldl_nil, gt_iff_lt, ge_iff_le, not_false_eq_true, not_true_eq_false, Option.some.injEq, Prod.mk.injEq, exists_eq_left', List.cons.injEq, and_self, or_self, or_false, false_or, false_and, and_false, Exit.exit.injEq, Nat.reduceEqDiff, ite_true, ite_false, eq_self, AObj.dead, Nat.reduceSub, cond_true, cond_false, decide_eq_true_eq, decide_eq_false_iff_not, beq_iff_eq, beq_eq_false_iff_ne, ne_eq, bne_iff_ne, Bool.and_eq_true, Bool.or_eq_true, Int.toNat_natCast, Int.toNat_zero, Nat.zero_mul, Nat.mul_one, zcells_one, zcells_succ, zcells_zero, List.replicate_succ, List.replicate_zero, List.flatten_cons, List.flatten_nil, List.append_nil, Int.natCast_add, imp_self, Bool.cond_false_right, Bool.cond_true_left, beqT, beqF, bne_self_eq_false, Int.reduceEq, Int.reduceBEq, Int.reduceBNe, Int.reduceLT, Int.reduceLE, Int.reduceToNat, Int.reduceAdd, Int.reduceSub, Int.reduceMul, Int.reduceNeg, Nat.reduceBEq, Nat.reduceBNe, Int.natCast_one, Int.le_refl, Bool.or_false, Bool.or_true, Bool.false_or, Bool.true_or]
    refine ⟨_, _, find_spec (H.ext hE) hp hb, ?_⟩
    obtain ⟨hs1, hs2⟩ := tokStep_size hlt
    have hgo' : ∀ (K' : AHeap) s', DI h bs a c K.length p acc (tokStep bs p) (fun _ => true) s' → Q (.goto 0) s' := by
      intro K' s' hD
      refine hgo s' ⟨hD.e0, ?_, hD.e4b rfl, hD.ext, by omega, ?_, ?_⟩ hlt
      · rw [hD.e5b rfl, Int.natCast_add, Int.toNat_of_nonneg (by omega)]
      · rw [← hall, List.append_assoc]
        congr 1
        obtain ⟨k, hk⟩ : ∃ k, bs.length - p = k + 1 := ⟨bs.length - p - 1, by omega⟩
        rw [hk]; simp only [tokensF]; rw [if_pos hlt]
        simp only [List.cons_append, List.nil_append]
        rw [tokensF_more bs _ k _ (Nat.le_refl _) (by omega)]
      · simp; omega
    have hw : IntKind.i64.wrap ((p : Int) + (tokStep bs p).size) = p + (tokStep bs p).size := wrap_i64 (by omega) (by omega)
    by_cases h3 : 3 ≤ (findB bs p).1
    · have hts : tokStep bs p = tokOf (findB bs p) := by unfold tokStep; rw [if_pos h3]
      simp only [c23_4, h3, e0, e5, e4, tokOf, Tok.cells, ↓WP, ↓WPI, ↓guardVal, ↓OpVC2_t, ↓OpVC2_f, ↓OpVC2_n, eff, ↓br_t, ↓br_f, br_s, ↓OpVC, ↓Use, ↓Uses, ↓optUse, ↓partUses, ↓srcCells, ↓ev, argEnv, Env.get, putE, ↓reduceIte, reduceCtorEq, if_true, if_false, Bool.false_eq_true, false_imp_iff, true_and, and_true, forall_const, true_implies, false_implies, implies_true, cOk, scal, Value.cells, List.getElem?_cons_zero, List.getElem?_cons_succ, List.append_assoc, List.cons_append, List.nil_append, List.length_append, List.length_cons, List.length_nil, Nat.zero_add, Nat.add_zero, Nat.reduceAdd, Nat.reduceMul, Nat.reduceLT, Nat.reduceLeDiff, hp_self, hp_add, hs_self, hs_add, List.set_cons_zero, List.set_cons_succ, quiet_refl, quiet_app1, binV, eqV, eqAt, eqS, over, List.size_toArray, List.getElem?_toArray, Bool.and_true, Bool.true_and, Bool.and_false, Bool.false_and, beq_self_eq_true, List.drop_zero, List.drop_succ_cons, List.take_succ_cons, List.take_zero, List.getD_cons_zero, List.getD_cons_succ, flat, List.all_cons, List.all_nil, resVal, resOne, true_or, or_true, Bool.true_eq_false, Bool.not_true, Bool.not_false, decide_true, decide_false, List.foldl_cons, List.foldl_nil, gt_iff_lt, ge_iff_le, not_false_eq_true, not_true_eq_false, Option.some.injEq, Prod.mk.injEq, exists_eq_left', List.cons.injEq, and_self, or_self, or_false, false_or, false_and, and_false, Exit.exit.injEq, Nat.reduceEqDiff, ite_true, ite_false, eq_self, AObj.dead, Nat.reduceSub, cond_true, cond_false, decide_eq_true_eq, decide_eq_false_iff_not, beq_iff_eq, beq_eq_false_iff_ne, ne_eq, bne_iff_ne, Bool.and_eq_true, Bool.or_eq_true, Int.toNat_natCast, Int.toNat_zero, Nat.zero_mul, Nat.mul_one, zcells_one, zcells_succ, zcells_zero, List.replicate_succ, List.replicate_zero, List.flatten_cons, List.flatten_nil, List.append_nil, Int.natCast_add, imp_self, Bool.cond_false_right, Bool.cond_true_left, beqT, beqF, bne_self_eq_false, Int.reduceEq, Int.reduceBEq, Int.reduceBNe, Int.reduceLT, Int.reduceLE, Int.reduceToNat, Int.reduceAdd, Int.reduceSub, Int.reduceMul, Int.reduceNeg, Nat.reduceBEq, Nat.reduceBNe, Int.natCast_one, Int.le_refl, Bool.or_false, Bool.or_true, Bool.false_or, Bool.true_or]
      exact tok_draw (by simp [Env.get, e0]) (by simp [Env.get]) (by rw [hts]; simp [tokOf, Tok.cells]) (hE.app _) (by simp [Env.get, e5]) ⟨v, by simp [Env.get, e4], ho.app _⟩ hw (by omega) (hgo' K)
    · obtain ⟨id, ob, rfl, hid, hlive, hlen, hget⟩ := (H.ext hE).at_ hlt
      have hts : tokStep bs p = ⟨bs.getD p 0, 0, 0⟩ := by unfold tokStep; rw [if_neg h3]
      simp only [c23_4, c23_2, h3, e0, e5, e4, hp_old hid, hlive, hlen, hget, hlt, bv, Int.natCast_nonneg, Int.ofNat_lt, tokOf, Tok.cells, ↓WP, ↓WPI, ↓guardVal, ↓OpVC2_t, ↓OpVC2_f, ↓OpVC2_n, eff, ↓br_t, ↓br_f, br_s, ↓OpVC, ↓Use, ↓Uses, ↓optUse, ↓partUses, ↓srcCells, ↓ev, argEnv, Env.get, putE, ↓reduceIte, reduceCtorEq, if_true, if_false, Bool.false_eq_true, false_imp_iff, true_and, and_true, forall_const, true_implies, false_implies, implies_true, cOk, scal, Value.cells, List.getElem?_cons_zero, List.getElem?_cons_succ, List.append_assoc, List.cons_append, List.nil_append, List.length_append, List.length_cons, List.length_nil, Nat.zero_add, Nat.add_zero, Nat.reduceAdd, Nat.reduceMul, Nat.reduceLT, Nat.reduceLeDiff, hp_self, hp_add, hs_self, hs_add, List.set_cons_zero, List.set_cons_succ, quiet_refl, quiet_app1, binV, eqV, eqAt, eqS, over, List.size_toArray, List.getElem?_toArray, Bool.and_true, Bool.true_and, Bool.and_false, Bool.false_and, beq_self_eq_true, List.drop_zero, List.drop_succ_cons, List.take_succ_cons, List.take_zero, List.getD_cons_zero, List.getD_cons_succ, flat, List.all_cons, List.all_nil, resVal, resOne, true_or, or_true, Bool.true_eq_false, Bool.not_true, Bool.not_false, decide_true, decide_false, List.foldl_cons, List.foldl_nil, gt_iff_lt, ge_iff_le, not_false_eq_true, not_true_eq_false, Option.some.injEq, Prod.mk.injEq, exists_eq_left', List.cons.injEq, and_self, or_self, or_false, false_or, false_and, and_false, Exit.exit.injEq, Nat.reduceEqDiff, ite_true, ite_false, eq_self, AObj.dead, Nat.reduceSub, cond_true, cond_false, decide_eq_true_eq, decide_eq_false_iff_not, beq_iff_eq, beq_eq_false_iff_ne, ne_eq, bne_iff_ne, Bool.and_eq_true, Bool.or_eq_true, Int.toNat_natCast, Int.toNat_zero, Nat.zero_mul, Nat.mul_one, zcells_one, zcells_succ, zcells_zero, List.replicate_succ, List.replicate_zero, List.flatten_cons, List.flatten_nil, List.append_nil, Int.natCast_add, imp_self, Bool.cond_false_right, Bool.cond_true_left, beqT, beqF, bne_self_eq_false, Int.reduceEq, Int.reduceBEq, Int.reduceBNe, Int.reduceLT, Int.reduceLE, Int.reduceToNat, Int.reduceAdd, Int.reduceSub, Int.reduceMul, Int.reduceNeg, Nat.reduceBEq, Nat.reduceBNe, Int.natCast_one, Int.le_refl, Bool.or_false, Bool.or_true, Bool.false_or, Bool.true_or]
      exact tok_draw (by simp [Env.get, e0]) (by simp [Env.get]) (by rw [hts]; simp [tokOf, Tok.cells]) (hE.app _) (by simp [Env.get, e5]) ⟨v, by simp [Env.get, e4], ho.app _⟩ hw (by omega) (hgo' K)

theorem tokens_spec {h : AHeap} {a : Option Addr} {bs : List UInt8} {c : Nat} (H : BSl h a bs) (hb : bs.length ≤ 65536) (hne : bs ≠ []) :
    ACall Try.prog γ0 23 [.slice a bs.length c] h (.tuple #[.slice (some ⟨h.length, 0, none⟩) (tokensL bs).length (tokensL bs).length, .int .i64 0]) (h ++ [tObj (tokensL bs)]) := by
  refine acall_of Try.func23 rfl ok23 (by kernel_rfl) [.tmp 2, .tmp 3] (by kernel_rfl) ?_
  have hb' : ¬ (65536 < (bs.length : Int)) := by omega
  simp only [c23, c23_9, c23_8, c23_7, hb', ↓WP, ↓WPI, ↓guardVal, ↓OpVC2_t, ↓OpVC2_f, ↓OpVC2_n, eff, ↓br_t, ↓br_f, br_s, ↓OpVC, ↓Use, ↓Uses, ↓optUse, ↓partUses, ↓srcCells, ↓ev, argEnv, Env.get, putE, ↓reduceIte, reduceCtorEq, if_true, if_false, Bool.false_eq_true, false_imp_iff, true_and, and_true, forall_const, true_implies, false_implies, implies_true, cOk, scal, Value.cells, List.getElem?_cons_zero, List.getElem?_cons_succ, List.append_assoc, List.cons_append, List.nil_append, List.length_append, List.length_cons, List.length_nil, Nat.zero_add, Nat.add_zero, Nat.reduceAdd, Nat.reduceMul, Nat.reduceLT, Nat.reduceLeDiff, hp_self, hp_add, hs_self, hs_add, List.set_cons_zero, List.set_cons_succ, quiet_refl, quiet_app1, binV, eqV, eqAt, eqS, over, List.size_toArray, List.getElem?_toArray, Bool.and_true, Bool.true_and, Bool.and_false, Bool.false_and, beq_self_eq_true, List.drop_zero, List.drop_succ_cons, List.take_succ_cons, List.take_zero, List.getD_cons_zero, List.getD_cons_succ, flat, List.all_cons, List.all_nil, resVal, resOne, true_or, or_true, Bool.true_eq_false, Bool.not_true, Bool.not_false, decide_true, decide_false, List.foldl_cons, List.foldl_nil, gt_iff_lt, ge_iff_le, not_false_eq_true, not_true_eq_false, Option.some.injEq, Prod.mk.injEq, exists_eq_left', List.cons.injEq, and_self, or_self, or_false, false_or, false_and, and_false, Exit.exit.injEq, Nat.reduceEqDiff, ite_true, ite_false, eq_self, AObj.dead, Nat.reduceSub, cond_true, cond_false, decide_eq_true_eq, decide_eq_false_iff_not, beq_iff_eq, beq_eq_false_iff_ne, ne_eq, bne_iff_ne, Bool.and_eq_true, Bool.or_eq_true, Int.toNat_natCast, Int.toNat_zero, Nat.zero_mul, Nat.mul_one, zcells_one, zcells_succ, zcells_zero, List.replicate_succ, List.replicate_zero, List.flatten_cons, List.flatten_nil, List.append_nil, Int.natCast_add, imp_self, Bool.cond_false_right, Bool.cond_true_left, beqT, beqF, bne_self_eq_false, Int.reduceEq, Int.reduceBEq, Int.reduceBNe, Int.reduceLT, Int.reduceLE, Int.reduceToNat, Int.reduceAdd, Int.reduceSub, Int.reduceMul, Int.reduceNeg, Nat.reduceBEq, Nat.reduceBNe, Int.natCast_one, Int.le_refl, Bool.or_false, Bool.or_true, Bool.false_or, Bool.true_or]
  have hts : tokensL bs ≠ [] := by
    obtain ⟨b, r, rfl⟩ := List.exists_cons_of_ne_nil hne
    simp [tokensL, tokensF]
  have hfin : ∀ s', Fin h bs s' → ((Exit.ret = .normal ∨ Exit.ret = .ret) ∧ match s'.env.get 2 with
      | some (true, v) => match s'.env.get 3 with
        | some (true, v_1) => ExitOk h s'.heap (.tuple #[v, v_1]) (.tuple #[.slice (some ⟨h.length, 0, none⟩) (tokensL bs).length (tokensL bs).length, .int .i64 0]) (h ++ [tObj (tokensL bs)])
        | _ => False
      | _ => False) := by
    rintro s' ⟨v, e2, e3, hE, ho⟩
    simp only [e2, e3]
    rcases ho with ⟨h0, _⟩ | ⟨_, j, rfl, hj, hK⟩
    · exact absurd h0 hts
    · refine ⟨.inr trivial, exit_new hE hj hK rfl ?_ (rr_tuple2 (rr_slice (ren_new _ _ _ _)) (rr_scal rfl))⟩
      intro u hu
      simp only [tObj, cellsL, List.mem_flatMap, Tok.cells, List.mem_cons, List.not_mem_nil, or_false] at hu
      obtain ⟨t, _, rfl | rfl | rfl⟩ := hu <;> rfl
  refine ⟨fun k s => ∃ p acc, k = bs.length - p ∧ TS h bs a c p acc s, ?_, ?_⟩
  · refine tok_body H hb (c := c) (p := 0) (acc := []) ⟨by simp [Env.get], by simp [Env.get], ⟨.slice none 0 0, by simp [Env.get], .inl ⟨rfl, rfl⟩⟩, Ext.refl _, Nat.zero_le _, rfl, Nat.le_refl _⟩ (fun s' hs hlt => ?_) hfin
    exact ⟨rfl, _, _, _, rfl, hs⟩
  · rintro n s ⟨p, acc, rfl, hs⟩
    refine tok_body H hb hs (fun s' hs' hlt => ?_) hfin
    have := (tokStep_size hlt).1
    exact ⟨rfl, _, by omega, _, _, rfl, hs'⟩
end Go.Vx
