/- A part of the proof: what it shows stands in its theorems. No condition beyond those that they name. -/
import Derived.Test.YtefjoeonilkdfaaVxMG
namespace Go.Vx
open Go.Proofs
set_option linter.unusedSimpArgs false
set_option linter.unusedVariables false
set_option maxRecDepth 100000
set_option maxHeartbeats 1000000

theorem check_spec {h : AHeap} {a : Option Addr} {l : List Tok} {c : Nat} (H : TSl h a l) : ACall Try.prog γ0 20 [.slice a l.length c] h (.int .i64 (match longL l with | some _ => 0 | none => 1)) h := by
  refine acall_on Try.func20 rfl ok20 (by kernel_rfl) [.tmp 2] (by kernel_rfl) ?_
  simp only [c20, c20_1, ↓WP_skip, ↓WP_ops, ↓WP_draw, ↓WP_seq, ↓WP_cond, ↓WP_block, ↓WP_loop, ↓WP_exit, ↓WP_ret, ↓WP_scope, ↓WP_label, ↓WP_goto, ↓WP_stop, ↓WPI_nil, ↓WPI_cons, ↓guardVal, ↓OpVC2_t, ↓OpVC2_f, ↓OpVC2_n, eff, ↓br_t, ↓br_f, br_s, ↓OpVC, ↓Use, ↓Uses, ↓optUse, ↓partUses, ↓srcCells, ↓ev, argEnv, Env.get, putE, ↓reduceIte, reduceCtorEq, if_true, if_false, Bool.false_eq_true, false_imp_iff, true_and, and_true, forall_const, true_implies, false_implies, implies_true, cOk, scal, Value.cells, List.getElem?_cons_zero, List.getElem?_cons_succ, List.append_assoc, List.cons_append, List.nil_append, List.length_append, List.length_cons, List.length_nil, Nat.zero_add, Nat.add_zero, Nat.reduceAdd, Nat.reduceMul, Nat.reduceLT, Nat.reduceLeDiff, hp_self, hp_add, hs_self, hs_add, List.set_cons_zero, List.set_cons_succ, quiet_refl, quiet_app1, binV, eqV, eqAt, eqS, over, List.size_toArray, List.getElem?_toArray, Bool.and_true, Bool.true_and, Bool.and_false, Bool.false_and, beq_self_eq_true, List.drop_zero, List.drop_succ_cons, List.take_succ_cons, List.take_zero, List.getD_cons_zero, List.getD_cons_succ, flat, List.all_cons, List.all_nil, resVal, resOne, true_or, or_true, Bool.true_eq_false, Bool.not_true, Bool.not_false, decide_true, decide_false, List.foldl_cons, List.foldl_nil, gt_iff_lt, ge_iff_le, not_false_eq_true, not_true_eq_false, Option.some.injEq, Prod.mk.injEq, exists_eq_left', List.cons.injEq, and_self, or_self, or_false, false_or, false_and, and_false, Exit.exit.injEq, Nat.reduceEqDiff, ite_true, ite_false, eq_self, AObj.dead, Nat.reduceSub, cond_true, cond_false, decide_eq_true_eq, decide_eq_false_iff_not, beq_iff_eq, beq_eq_false_iff_ne, ne_eq, bne_iff_ne, Bool.and_eq_true, Bool.or_eq_true, Int.toNat_natCast, Int.toNat_zero, Nat.zero_mul, Nat.mul_one, zcells_one, zcells_succ, zcells_zero, List.replicate_succ, List.replicate_zero, List.flatten_cons, List.flatten_nil, List.append_nil, Int.natCast_add, imp_self, Bool.cond_false_right, Bool.cond_true_left, beqT, beqF, bne_self_eq_false, Int.reduceEq, Int.reduceBEq, Int.reduceBNe, Int.reduceLT, Int.reduceLE, Int.reduceToNat, Int.reduceAdd, Int.reduceSub, Int.reduceMul, Int.reduceNeg, Nat.reduceBEq, Nat.reduceBNe, Int.natCast_one, Int.le_refl, Bool.or_false, Bool.or_true, Bool.false_or, Bool.true_or]
  refine callK (long_spec H) ?_
  cases hL : longL l with
  | none => simp only [longV, c20_0, ↓WP_skip, ↓WP_ops, ↓WP_draw, ↓WP_seq, ↓WP_cond, ↓WP_block, ↓WP_loop, ↓WP_exit, ↓WP_ret, ↓WP_scope, ↓WP_label, ↓WP_goto, ↓WP_stop, ↓WPI_nil, ↓WPI_cons, ↓guardVal, ↓OpVC2_t, ↓OpVC2_f, ↓OpVC2_n, eff, ↓br_t, ↓br_f, br_s, ↓OpVC, ↓Use, ↓Uses, ↓optUse, ↓partUses, ↓srcCells, ↓ev, argEnv, Env.get, putE, ↓reduceIte, reduceCtorEq, if_true, if_false, Bool.false_eq_true, false_imp_iff, true_and, and_true, forall_const, true_implies, false_implies, implies_true, cOk, scal, Value.cells, List.getElem?_cons_zero, List.getElem?_cons_succ, List.append_assoc, List.cons_append, List.nil_append, List.length_append, List.length_cons, List.length_nil, Nat.zero_add, Nat.add_zero, Nat.reduceAdd, Nat.reduceMul, Nat.reduceLT, Nat.reduceLeDiff, hp_self, hp_add, hs_self, hs_add, List.set_cons_zero, List.set_cons_succ, quiet_refl, quiet_app1, binV, eqV, eqAt, eqS, over, List.size_toArray, List.getElem?_toArray, Bool.and_true, Bool.true_and, Bool.and_false, Bool.false_and, beq_self_eq_true, List.drop_zero, List.drop_succ_cons, List.take_succ_cons, List.take_zero, List.getD_cons_zero, List.getD_cons_succ, flat, List.all_cons, List.all_nil, resVal, resOne, true_or, or_true, Bool.true_eq_false, Bool.not_true, Bool.not_false, decide_true, decide_false, List.foldl_cons, List.foldl_nil, gt_iff_lt, ge_iff_le, not_false_eq_true, not_true_eq_false, Option.some.injEq, Prod.mk.injEq, exists_eq_left', List.cons.injEq, and_self, or_self, or_false, false_or, false_and, and_false, Exit.exit.injEq, Nat.reduceEqDiff, ite_true, ite_false, eq_self, AObj.dead, Nat.reduceSub, cond_true, cond_false, decide_eq_true_eq, decide_eq_false_iff_not, beq_iff_eq, beq_eq_false_iff_ne, ne_eq, bne_iff_ne, Bool.and_eq_true, Bool.or_eq_true, Int.toNat_natCast, Int.toNat_zero, Nat.zero_mul, Nat.mul_one, zcells_one, zcells_succ, zcells_zero, List.replicate_succ, List.replicate_zero, List.flatten_cons, List.flatten_nil, List.append_nil, Int.natCast_add, imp_self, Bool.cond_false_right, Bool.cond_true_left, beqT, beqF, bne_self_eq_false, Int.reduceEq, Int.reduceBEq, Int.reduceBNe, Int.reduceLT, Int.reduceLE, Int.reduceToNat, Int.reduceAdd, Int.reduceSub, Int.reduceMul, Int.reduceNeg, Nat.reduceBEq, Nat.reduceBNe, Int.natCast_one, Int.le_refl, Bool.or_false, Bool.or_true, Bool.false_or, Bool.true_or]; exact exit_ext (Ext.refl _) (by rfl)
  | some n => simp only [longV, c20_0, ↓WP_skip, ↓WP_ops, ↓WP_draw, ↓WP_seq, ↓WP_cond, ↓WP_block, ↓WP_loop, ↓WP_exit, ↓WP_ret, ↓WP_scope, ↓WP_label, ↓WP_goto, ↓WP_stop, ↓WPI_nil, ↓WPI_cons, ↓guardVal, ↓OpVC2_t, ↓OpVC2_f, ↓OpVC2_n, eff, ↓br_t, ↓br_f, br_s, ↓OpVC, ↓Use, ↓Uses, ↓optUse, ↓partUses, ↓srcCells, ↓ev, argEnv, Env.get, putE, ↓reduceIte, reduceCtorEq, if_true, if_false, Bool.false_eq_true, false_imp_iff, true_and, and_true, forall_const, true_implies, false_implies, implies_true, cOk, scal, Value.cells, List.getElem?_cons_zero, List.getElem?_cons_succ, List.append_assoc, List.cons_append, List.nil_append, List.length_append, List.length_cons, List.length_nil, Nat.zero_add, Nat.add_zero, Nat.reduceAdd, Nat.reduceMul, Nat.reduceLT, Nat.reduceLeDiff, hp_self, hp_add, hs_self, hs_add, List.set_cons_zero, List.set_cons_succ, quiet_refl, quiet_app1, binV, eqV, eqAt, eqS, over, List.size_toArray, List.getElem?_toArray, Bool.and_true, Bool.true_and, Bool.and_false, Bool.false_and, beq_self_eq_true, List.drop_zero, List.drop_succ_cons, List.take_succ_cons, List.take_zero, List.getD_cons_zero, List.getD_cons_succ, flat, List.all_cons, List.all_nil, resVal, resOne, true_or, or_true, Bool.true_eq_false, Bool.not_true, Bool.not_false, decide_true, decide_false, List.foldl_cons, List.foldl_nil, gt_iff_lt, ge_iff_le, not_false_eq_true, not_true_eq_false, Option.some.injEq, Prod.mk.injEq, exists_eq_left', List.cons.injEq, and_self, or_self, or_false, false_or, false_and, and_false, Exit.exit.injEq, Nat.reduceEqDiff, ite_true, ite_false, eq_self, AObj.dead, Nat.reduceSub, cond_true, cond_false, decide_eq_true_eq, decide_eq_false_iff_not, beq_iff_eq, beq_eq_false_iff_ne, ne_eq, bne_iff_ne, Bool.and_eq_true, Bool.or_eq_true, Int.toNat_natCast, Int.toNat_zero, Nat.zero_mul, Nat.mul_one, zcells_one, zcells_succ, zcells_zero, List.replicate_succ, List.replicate_zero, List.flatten_cons, List.flatten_nil, List.append_nil, Int.natCast_add, imp_self, Bool.cond_false_right, Bool.cond_true_left, beqT, beqF, bne_self_eq_false, Int.reduceEq, Int.reduceBEq, Int.reduceBNe, Int.reduceLT, Int.reduceLE, Int.reduceToNat, Int.reduceAdd, Int.reduceSub, Int.reduceMul, Int.reduceNeg, Nat.reduceBEq, Nat.reduceBNe, Int.natCast_one, Int.le_refl, Bool.or_false, Bool.or_true, Bool.false_or, Bool.true_or]; exact exit_ext (Ext.refl _) (by rfl)

/-! A text's tokens tell it. -/
theorem comF_eq {bs : List UInt8} {f a : Nat} : ∀ {k n : Nat}, (∀ i, i < n → bs.getD (f + i) 0 = bs.getD (a + i) 0) → ∀ i, i < comF bs f a k n → bs.getD (f + i) 0 = bs.getD (a + i) 0
  | 0, n, h, i, hi => h i hi
  | k + 1, n, h, i, hi => by
    simp only [comF] at hi
    split at hi
    · rename_i hc
      refine comF_eq (k := k) (n := n + 1) (fun j hj => ?_) i hi
      rcases Nat.lt_or_ge j n with h1 | h1
      · exact h j h1
      · have : j = n := by omega
        subst this; exact hc.2
    · exact h i hi

theorem com_eq {bs : List UInt8} {f a : Nat} : ∀ i, i < com bs f a → bs.getD (f + i) 0 = bs.getD (a + i) 0 := comF_eq (fun i hi => by omega)

/-- What was found is there. -/
theorem findF_ok (bs : List UInt8) (p : Nat) : ∀ d, d ≤ p → (findF bs p d (0, 0)).1 = 0 ∨ ((findF bs p d (0, 0)).2 ≤ d ∧ 1 ≤ (findF bs p d (0, 0)).2 ∧ (findF bs p d (0, 0)).1 = com bs (p - (findF bs p d (0, 0)).2) p)
  | 0, _ => .inl rfl
  | d + 1, hd => by
    simp only [findF]
    split
    · exact .inr ⟨Nat.le_refl _, by simp, rfl⟩
    · rcases findF_ok bs p d (by omega) with h | ⟨h1, h2, h3⟩
      · exact .inl h
      · exact .inr ⟨by omega, h2, h3⟩

theorem copyN_take {bs : List UInt8} {p d : Nat} (hd : 1 ≤ d) (hdp : d ≤ p) : ∀ k n, p + n + k ≤ bs.length → (∀ i, i < n + k → bs.getD (p - d + i) 0 = bs.getD (p + i) 0) → copyN d k (bs.take (p + n)) = bs.take (p + n + k)
  | 0, n, _, _ => rfl
  | k + 1, n, hk, he => by
    simp only [copyN]
    have hl : (bs.take (p + n)).length = p + n := by rw [List.length_take]; omega
    have : bs.take (p + n) ++ [(bs.take (p + n)).getD ((bs.take (p + n)).length - d) 0] = bs.take (p + (n + 1)) := by
      rw [show p + (n + 1) = p + n + 1 by omega, take_succ_getD (show p + n < bs.length by omega) 0, hl]
      congr 2
      rw [← he n (by omega), List.getD_eq_getElem?_getD, List.getElem?_take_of_lt (by omega), ← List.getD_eq_getElem?_getD]
      congr 1; omega
    rw [this, copyN_take hd hdp k (n + 1) (by omega) (fun i hi => he i (by omega))]
    congr 1; omega

theorem tok_tells {bs : List UInt8} {p : Nat} (hp : p < bs.length) : tokOk (tokStep bs p) p = true ∧ tellB (bs.take p) (tokStep bs p) = bs.take (p + (tokStep bs p).size.toNat) := by
  unfold tokStep
  split
  · rename_i h3
    rcases findF_ok bs p (min 256 p) (by omega) with h | ⟨h1, h2, h4⟩
    · unfold findB at h3; omega
    · have hend := findF_end bs p (by omega) (min 256 p)
      have hle := com_le bs (p - (findF bs p (min 256 p) (0, 0)).2) p
      obtain ⟨len, hlen⟩ : ∃ n, n = (findB bs p).1 := ⟨_, rfl⟩
      obtain ⟨d, hd⟩ : ∃ n, n = (findB bs p).2 := ⟨_, rfl⟩
      have e1 : findB bs p = (len, d) := by rw [hlen, hd]
      unfold findB at e1
      rw [e1] at h1 h2 h4 hend hle
      simp only at h1 h2 h4 hend hle
      rw [show findB bs p = (len, d) from by unfold findB; exact e1] at h3 ⊢
      simp only at h3
      constructor
      · have hl : len ≤ 18 := by rw [h4]; exact hle
        have hdp : d ≤ p := by omega
        have ht : tokOk (tokOf (len, d)) p = tokOk ⟨0, len, d⟩ p := rfl
        rw [ht]
        simp only [tokOk, Bool.or_eq_true, Bool.and_eq_true, decide_eq_true_eq]
        left
        refine ⟨⟨⟨⟨⟨by omega, by omega⟩, by omega⟩, by omega⟩, by omega⟩, trivial⟩
      · have hdp : d ≤ p := by omega
        have hc := copyN_take (bs := bs) (p := p) h2 hdp len 0 (by omega) (fun i hi => com_eq i (by rw [← h4]; omega))
        have hne : ¬ ((len : Int) = 0) := by omega
        rw [Nat.add_zero] at hc
        have ht : tellB (bs.take p) (tokOf (len, d)) = copyN d len (bs.take p) := by
          unfold tellB; exact if_neg hne
        have hs : (tokOf (len, d)).size = len := by unfold Tok.size; exact if_neg hne
        rw [ht, hs, hc]; rfl
  · constructor
    · simp [tokOk]
    · simp only [tellB, Tok.size, if_true]
      rw [show (1 : Int).toNat = 1 from rfl, take_succ_getD hp 0]

theorem tokens_tell {bs : List UInt8} : ∀ (k p : Nat), bs.length - p ≤ k → p ≤ bs.length → tellL (bs.take p) (tokensF bs k p) = bs ∧ longFrom p (tokensF bs k p) = some (bs.length : Int) ∧ p + (tokensF bs k p).length ≤ bs.length
  | 0, p, hk, hp => by
    have : p = bs.length := by omega
    subst this
    simp [tokensF, tellL, longFrom]
  | k + 1, p, hk, hp => by
    simp only [tokensF]
    split
    · rename_i hlt
      obtain ⟨h1, h2⟩ := tok_tells hlt
      obtain ⟨s1, s2⟩ := tokStep_size hlt
      have ih := tokens_tell (bs := bs) k (p + (tokStep bs p).size.toNat) (by omega) (by omega)
      refine ⟨?_, ?_, ?_⟩
      · show tellL (tellB (bs.take p) _) _ = _
        rw [h2]; exact ih.1
      · simp only [longFrom, h1, if_true]
        have hc : ((p + (tokStep bs p).size.toNat : Nat) : Int) = p + (tokStep bs p).size := by omega
        rw [← ih.2.1, hc]
      · simp only [List.length_cons]; omega
    · have : p = bs.length := by omega
      subst this
      simp [tellL, longFrom]
end Go.Vx
