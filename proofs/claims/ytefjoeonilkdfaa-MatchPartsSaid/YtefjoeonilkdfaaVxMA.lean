/- A part of the proof: what it shows stands in its theorems. No condition beyond those that they name. -/
import Derived.Test.YtefjoeonilkdfaaVxCM
import Derived.Test.YtefjoeonilkdfaaVxT0
namespace Go.Vx
open Go.Proofs
set_option linter.unusedSimpArgs false
set_option linter.unusedVariables false
set_option maxRecDepth 100000

/-! Tokens. -/

theorem get_append {h : AHeap} {t : AHeap} {i : Nat} {ob : AObj} (hi : h[i]? = some ob) : (h ++ t)[i]? = some ob := hp_old hi

/-- Tokens in memory. -/
def TSl (h : AHeap) (a : Option Addr) (l : List Tok) : Prop :=
  (a = none ∧ l = []) ∨ ∃ id ob, a = some ⟨id, 0, none⟩ ∧ h[id]? = some ob ∧ ob.live = true ∧ l.length * 3 ≤ ob.cells.length ∧ ∀ i, i < l.length → (ob.cells.drop (i * 3)).take 3 = (l.getD i default).cells

theorem TSl.mono {h : AHeap} {a : Option Addr} {l : List Tok} (H : TSl h a l) (t : AHeap) : TSl (h ++ t) a l := by
  rcases H with H | ⟨id, ob, h1, h2, h3⟩
  · exact .inl H
  · exact .inr ⟨id, ob, h1, hp_old h2, h3⟩

theorem TSl.at_ {h : AHeap} {a : Option Addr} {l : List Tok} (H : TSl h a l) {i : Nat} (hi : i < l.length) : ∃ id ob, a = some ⟨id, 0, none⟩ ∧ h[id]? = some ob ∧ ob.live = true ∧ i * 3 + 3 ≤ ob.cells.length ∧ (ob.cells.drop (i * 3)).take 3 = (l.getD i default).cells := by
  rcases H with ⟨_, rfl⟩ | ⟨id, ob, h1, h2, h3, h4, h5⟩
  · simp at hi
  · exact ⟨id, ob, h1, h2, h3, by omega, h5 i hi⟩

def Tok.size (t : Tok) : Int := if t.len = 0 then 1 else t.len
def tokOk (t : Tok) (n : Int) : Bool := (decide (3 ≤ t.len) && decide (t.len ≤ 18) && decide (0 < t.dist) && decide (t.dist ≤ 256) && decide (t.dist ≤ n) && decide (t.lit = 0)) || (decide (t.len = 0) && decide (t.dist = 0))
def longFrom : Int → List Tok → Option Int
  | n, [] => some n
  | n, t :: r => if tokOk t n = true then longFrom (n + t.size) r else none
def longV (o : Option Int) : Value := match o with
  | some n => .tuple #[.int .i64 n, .int .i64 0]
  | none => .tuple #[.int .i64 0, .int .i64 1]
def longL (l : List Tok) : Option Int := if l.length ≤ 65536 then longFrom 0 l else none

theorem size_spec (t : Tok) (h : AHeap) : ACall Try.prog γ0 48 [.agg t.cells.toArray] h (.int .i64 t.size) h := by
  refine acall_of Try.func48 rfl ok48 (by kernel_rfl) [.tmp 2] (by kernel_rfl) ?_
  simp only [c48, c48_2, c48_1, c48_0, Tok.cells, ↓WP_skip, ↓WP_ops, ↓WP_draw, ↓WP_seq, ↓WP_cond, ↓WP_block, ↓WP_loop, ↓WP_exit, ↓WP_ret, ↓WP_scope, ↓WP_label, ↓WP_goto, ↓WP_stop, ↓WPI_nil, ↓WPI_cons, ↓guardVal, ↓OpVC2_t, ↓OpVC2_f, ↓OpVC2_n, eff, ↓br_t, ↓br_f, br_s, ↓OpVC, ↓Use, ↓Uses, ↓optUse, ↓partUses, ↓srcCells, ↓ev, argEnv, Env.get, putE, ↓reduceIte, reduceCtorEq, if_true, if_false, Bool.false_eq_true, false_imp_iff, true_and, and_true, forall_const, true_implies, false_implies, implies_true, cOk, scal, Value.cells, List.getElem?_cons_zero, List.getElem?_cons_succ, List.append_assoc, List.cons_append, List.nil_append, List.length_append, List.length_cons, List.length_nil, Nat.zero_add, Nat.add_zero, Nat.reduceAdd, Nat.reduceMul, Nat.reduceLT, Nat.reduceLeDiff, hp_self, hp_add, hs_self, hs_add, List.set_cons_zero, List.set_cons_succ, quiet_refl, quiet_app1, binV, eqV, eqAt, eqS, over, List.size_toArray, List.getElem?_toArray, Bool.and_true, Bool.true_and, Bool.and_false, Bool.false_and, beq_self_eq_true, List.drop_zero, List.drop_succ_cons, List.take_succ_cons, List.take_zero, List.getD_cons_zero, List.getD_cons_succ, flat, List.all_cons, List.all_nil, resVal, resOne, true_or, or_true, Bool.true_eq_false, Bool.not_true, Bool.not_false, decide_true, decide_false, List.foldl_cons, List.foldl_nil, gt_iff_lt, ge_iff_le, not_false_eq_true, not_true_eq_false, Option.some.injEq, Prod.mk.injEq, exists_eq_left', List.cons.injEq, and_self, or_self, or_false, false_or, false_and, and_false, Exit.exit.injEq, Nat.reduceEqDiff, ite_true, ite_false, eq_self, AObj.dead, Nat.reduceSub, cond_true, cond_false, decide_eq_true_eq, decide_eq_false_iff_not, beq_iff_eq, beq_eq_false_iff_ne, ne_eq, bne_iff_ne, Bool.and_eq_true, Bool.or_eq_true, Int.toNat_natCast, Int.toNat_zero, Nat.zero_mul, Nat.mul_one, zcells_one, zcells_succ, zcells_zero, List.replicate_succ, List.replicate_zero, List.flatten_cons, List.flatten_nil, List.append_nil, Int.natCast_add, imp_self, Bool.cond_false_right, Bool.cond_true_left, beqT, beqF, bne_self_eq_false, Int.reduceEq, Int.reduceBEq, Int.reduceBNe, Int.reduceLT, Int.reduceLE, Int.reduceToNat, Int.reduceAdd, Int.reduceSub, Int.reduceMul, Int.reduceNeg, Nat.reduceBEq, Nat.reduceBNe, Int.natCast_one, Int.le_refl, Bool.or_false, Bool.or_true, Bool.false_or, Bool.true_or]
  refine ⟨fun h0 => ?_, fun h0 => ?_⟩
  · simp only [Tok.size, h0, if_true]; exact exit_same rfl
  · simp only [Tok.size, h0, if_false]; exact exit_same rfl

theorem tok_size_le {t : Tok} {n : Int} (h : tokOk t n = true) : 1 ≤ t.size ∧ t.size ≤ 18 := by
  simp only [tokOk, Bool.or_eq_true, Bool.and_eq_true, decide_eq_true_eq] at h
  unfold Tok.size
  split <;> omega

theorem drop_getD {l : List Tok} {i : Nat} (hi : i < l.length) : l.drop i = l.getD i default :: l.drop (i + 1) := by
  rw [List.drop_eq_getElem_cons hi, List.getD_eq_getElem?_getD, List.getElem?_eq_getElem hi]; rfl

set_option maxHeartbeats 0 in
theorem long_spec {h : AHeap} {a : Option Addr} {l : List Tok} {c : Nat} (H : TSl h a l) : ACall Try.prog γ0 15 [.slice a l.length c] h (longV (longL l)) h := by
  refine acall_of Try.func15 rfl ok15 (by kernel_rfl) [.tmp 2, .tmp 3] (by kernel_rfl) ?_
  simp only [c15, c15_11, c15_10, c15_9, c15_0, ↓WP_skip, ↓WP_ops, ↓WP_draw, ↓WP_seq, ↓WP_cond, ↓WP_block, ↓WP_loop, ↓WP_exit, ↓WP_ret, ↓WP_scope, ↓WP_label, ↓WP_goto, ↓WP_stop, ↓WPI_nil, ↓WPI_cons, ↓guardVal, ↓OpVC2_t, ↓OpVC2_f, ↓OpVC2_n, eff, ↓br_t, ↓br_f, br_s, ↓OpVC, ↓Use, ↓Uses, ↓optUse, ↓partUses, ↓srcCells, ↓ev, argEnv, Env.get, putE, ↓reduceIte, reduceCtorEq, if_true, if_false, Bool.false_eq_true, false_imp_iff, true_and, and_true, forall_const, true_implies, false_implies, implies_true, cOk, scal, Value.cells, List.getElem?_cons_zero, List.getElem?_cons_succ, List.append_assoc, List.cons_append, List.nil_append, List.length_append, List.length_cons, List.length_nil, Nat.zero_add, Nat.add_zero, Nat.reduceAdd, Nat.reduceMul, Nat.reduceLT, Nat.reduceLeDiff, hp_self, hp_add, hs_self, hs_add, List.set_cons_zero, List.set_cons_succ, quiet_refl, quiet_app1, binV, eqV, eqAt, eqS, over, List.size_toArray, List.getElem?_toArray, Bool.and_true, Bool.true_and, Bool.and_false, Bool.false_and, beq_self_eq_true, List.drop_zero, List.drop_succ_cons, List.take_succ_cons, List.take_zero, List.getD_cons_zero, List.getD_cons_succ, flat, List.all_cons, List.all_nil, resVal, resOne, true_or, or_true, Bool.true_eq_false, Bool.not_true, Bool.not_false, decide_true, decide_false, List.foldl_cons, List.foldl_nil, gt_iff_lt, ge_iff_le, not_false_eq_true, not_true_eq_false, Option.some.injEq, Prod.mk.injEq, exists_eq_left', List.cons.injEq, and_self, or_self, or_false, false_or, false_and, and_false, Exit.exit.injEq, Nat.reduceEqDiff, ite_true, ite_false, eq_self, AObj.dead, Nat.reduceSub, cond_true, cond_false, decide_eq_true_eq, decide_eq_false_iff_not, beq_iff_eq, beq_eq_false_iff_ne, ne_eq, bne_iff_ne, Bool.and_eq_true, Bool.or_eq_true, Int.toNat_natCast, Int.toNat_zero, Nat.zero_mul, Nat.mul_one, zcells_one, zcells_succ, zcells_zero, List.replicate_succ, List.replicate_zero, List.flatten_cons, List.flatten_nil, List.append_nil, Int.natCast_add, imp_self, Bool.cond_false_right, Bool.cond_true_left, beqT, beqF, bne_self_eq_false, Int.reduceEq, Int.reduceBEq, Int.reduceBNe, Int.reduceLT, Int.reduceLE, Int.reduceToNat, Int.reduceAdd, Int.reduceSub, Int.reduceMul, Int.reduceNeg, Nat.reduceBEq, Nat.reduceBNe, Int.natCast_one, Int.le_refl, Bool.or_false, Bool.or_true, Bool.false_or, Bool.true_or]
  refine ⟨fun h0 => ?_, fun h0 => ?_⟩
  · rw [longL, if_neg (by omega)]
    have := exit_same (h := h) (t := []) (v := longV none) (by simp [longV, cOk, scal])
    simpa [longV] using this
  · refine ⟨fun n s => ∃ i acc t, i ≤ l.length ∧ n = l.length - i ∧ s.env.get 10 = some (true, .slice a l.length c) ∧ s.env.get 11 = some (true, .int .i64 l.length) ∧ s.env.get 12 = some (true, .int .i64 i) ∧ s.env.get 2 = some (true, .int .i64 acc) ∧
        s.heap = h ++ t ∧ longFrom 0 l = longFrom acc (l.drop i) ∧ 0 ≤ acc ∧ acc ≤ 18 * i, ⟨l.length, _, Le.refl _, 0, 0, [], by simp [Env.get]⟩, ?_⟩
    rintro n ⟨env, K⟩ ⟨i, acc, t, hi, rfl, e10, e11, e12, e2, hK, hacc, h1, h2⟩
    simp only at e10 e11 e12 e2 hK
    subst hK
    refine WP_gen fun Q hQ => ?_
    simp only [c15_8, c15_7, e10, e11, e12, e2, ↓WP_skip, ↓WP_ops, ↓WP_draw, ↓WP_seq, ↓WP_cond, ↓WP_block, ↓WP_loop, ↓WP_exit, ↓WP_ret, ↓WP_scope, ↓WP_label, ↓WP_goto, ↓WP_stop, ↓WPI_nil, ↓WPI_cons, ↓guardVal, ↓OpVC2_t, ↓OpVC2_f, ↓OpVC2_n, eff, ↓br_t, ↓br_f, br_s, ↓OpVC, ↓Use, ↓Uses, ↓optUse, ↓partUses, ↓srcCells, ↓ev, argEnv, Env.get, putE, ↓reduceIte, reduceCtorEq, if_true, if_false, Bool.false_eq_true, false_imp_iff, true_and, and_true, forall_const, true_implies, false_implies, implies_true, cOk, scal, Value.cells, List.getElem?_cons_zero, List.getElem?_cons_succ, List.append_assoc, List.cons_append, List.nil_append, List.length_append, List.length_cons, List.length_nil, Nat.zero_add, Nat.add_zero, Nat.reduceAdd, Nat.reduceMul, Nat.reduceLT, Nat.reduceLeDiff, hp_self, hp_add, hs_self, hs_add, List.set_cons_zero, List.set_cons_succ, quiet_refl, quiet_app1, binV, eqV, eqAt, eqS, over, List.size_toArray, List.getElem?_toArray, Bool.and_true, Bool.true_and, Bool.and_false, Bool.false_and, beq_self_eq_true, List.drop_zero, List.drop_succ_cons, List.take_succ_cons, List.take_zero, List.getD_cons_zero, List.getD_cons_succ, flat, List.all_cons, List.all_nil, resVal, resOne, true_or, or_true, Bool.true_eq_false, Bool.not_true, Bool.not_false, decide_true, decide_false, List.foldl_cons, List.foldl_nil, gt_iff_lt, ge_iff_le, not_false_eq_true, not_true_eq_false, Option.some.injEq, Prod.mk.injEq, exists_eq_left', List.cons.injEq, and_self, or_self, or_false, false_or, false_and, and_false, Exit.exit.injEq, Nat.reduceEqDiff, ite_true, ite_false, eq_self, AObj.dead, Nat.reduceSub, cond_true, cond_false, decide_eq_true_eq, decide_eq_false_iff_not, beq_iff_eq, beq_eq_false_iff_ne, ne_eq, bne_iff_ne, Bool.and_eq_true, Bool.or_eq_true, Int.toNat_natCast, Int.toNat_zero, Nat.zero_mul, Nat.mul_one, zcells_one, zcells_succ, zcells_zero, List.replicate_succ, List.replicate_zero, List.flatten_cons, List.flatten_nil, List.append_nil, Int.natCast_add, imp_self, Bool.cond_false_right, Bool.cond_true_left, beqT, beqF, bne_self_eq_false, Int.reduceEq, Int.reduceBEq, Int.reduceBNe, Int.reduceLT, Int.reduceLE, Int.reduceToNat, Int.reduceAdd, Int.reduceSub, Int.reduceMul, Int.reduceNeg, Nat.reduceBEq, Nat.reduceBNe, Int.natCast_one, Int.le_refl, Bool.or_false, Bool.or_true, Bool.false_or, Bool.true_or]
    refine ⟨fun hlt => ?_, fun hge => ?_⟩
    · obtain ⟨id, ob, rfl, hid, hlive, hlen, hget⟩ := (H.mono t).at_ (show i < l.length by omega)
      obtain ⟨T, hT⟩ : ∃ T, T = h ++ t := ⟨_, rfl⟩
      obtain ⟨tk, htk⟩ : ∃ tk, tk = l.getD i default := ⟨_, rfl⟩
      rw [← hT] at hid
      rw [← htk] at hget
      rw [← hT]
      have hb : i < l.length := by omega
      simp only [c15_5, c15_4, c15_3, c15_2, c15_1, e10, e11, e12, e2, hid, hlive, hget, hb, hlen, Tok.cells, Int.natCast_nonneg, Int.ofNat_lt, ↓WP_skip, ↓WP_ops, ↓WP_draw, ↓WP_seq, ↓WP_cond, ↓WP_block, ↓WP_loop, ↓WP_exit, ↓WP_ret, ↓WP_scope, ↓WP_label, ↓WP_goto, ↓WP_stop, ↓WPI_nil, ↓WPI_cons, ↓guardVal, ↓OpVC2_t, ↓OpVC2_f, ↓OpVC2_n, eff, ↓br_t, ↓br_f, br_s, ↓OpVC, ↓Use, ↓Uses, ↓optUse, ↓partUses, ↓srcCells, ↓ev, argEnv, Env.get, putE, ↓reduceIte, reduceCtorEq, if_true, if_false, Bool.false_eq_true, false_imp_iff, true_and, and_true, forall_const, true_implies, false_implies, implies_true, cOk, scal, Value.cells, List.getElem?_cons_zero, List.getElem?_cons_succ, List.append_assoc, List.cons_append, List.nil_append, List.length_append, List.length_cons, List.length_nil, Nat.zero_add, Nat.add_zero, Nat.reduceAdd, Nat.reduceMul, Nat.reduceLT, Nat.reduceLeDiff, hp_self, hp_add, hs_self, hs_add, List.set_cons_zero, List.set_cons_succ, quiet_refl, quiet_app1, binV, eqV, eqAt, eqS, over, List.size_toArray, List.getElem?_toArray, Bool.and_true, Bool.true_and, Bool.and_false, Bool.false_and, beq_self_eq_true, List.drop_zero, List.drop_succ_cons, List.take_succ_cons, List.take_zero, List.getD_cons_zero, List.getD_cons_succ, flat, List.all_cons, List.all_nil, resVal, resOne, true_or, or_true, Bool.true_eq_false, Bool.not_true, Bool.not_false, decide_true, decide_false, List.foldl_cons, List.foldl_nil, gt_iff_lt, ge_iff_le, not_false_eq_true, not_true_eq_false, Option.some.injEq, Prod.mk.injEq, exists_eq_left', List.cons.injEq, and_self, or_self, or_false, false_or, false_and, and_false, Exit.exit.injEq, Nat.reduceEqDiff, ite_true, ite_false, eq_self, AObj.dead, Nat.reduceSub, cond_true, cond_false, decide_eq_true_eq, decide_eq_false_iff_not, beq_iff_eq, beq_eq_false_iff_ne, ne_eq, bne_iff_ne, Bool.and_eq_true, Bool.or_eq_true, Int.toNat_natCast, Int.toNat_zero, Nat.zero_mul, Nat.mul_one, zcells_one, zcells_succ, zcells_zero, List.replicate_succ, List.replicate_zero, List.flatten_cons, List.flatten_nil, List.append_nil, Int.natCast_add, imp_self, Bool.cond_false_right, Bool.cond_true_left, beqT, beqF, bne_self_eq_false, Int.reduceEq, Int.reduceBEq, Int.reduceBNe, Int.reduceLT, Int.reduceLE, Int.reduceToNat, Int.reduceAdd, Int.reduceSub, Int.reduceMul, Int.reduceNeg, Nat.reduceBEq, Nat.reduceBNe, Int.natCast_one, Int.le_refl, Bool.or_false, Bool.or_true, Bool.false_or, Bool.true_or]
      have hok : tokOk tk acc = ((decide (3 ≤ tk.len) && decide (tk.len ≤ 18) && decide (0 < tk.dist) && decide (tk.dist ≤ if acc < 256 then acc else 256) && ((tk.lit.toNat : Int) == 0)) || (tk.len == 0 && tk.dist == 0)) := by
        have : ((tk.lit.toNat : Int) == 0) = decide (tk.lit = 0) := by
          rw [Bool.eq_iff_iff]; simp only [beq_iff_eq, decide_eq_true_eq]
          constructor
          · intro h; exact UInt8.toNat_inj.1 (by simpa using h)
          · intro h; rw [h]; rfl
        rw [this]
        simp only [tokOk]
        rw [Bool.eq_iff_iff]
        simp only [Bool.or_eq_true, Bool.and_eq_true, decide_eq_true_eq, beq_iff_eq]
        constructor
        · rintro (⟨⟨⟨⟨⟨h1, h2⟩, h3⟩, h4⟩, h5⟩, h6⟩ | h)
          · exact .inl ⟨⟨⟨⟨h1, h2⟩, h3⟩, by split <;> omega⟩, h6⟩
          · exact .inr h
        · rintro (⟨⟨⟨⟨h1, h2⟩, h3⟩, h4⟩, h6⟩ | h)
          · exact .inl ⟨⟨⟨⟨⟨h1, h2⟩, h3⟩, by split at h4 <;> omega⟩, by split at h4 <;> omega⟩, h6⟩
          · exact .inr h
      have hstep : longFrom 0 l = if tokOk tk acc = true then longFrom (acc + tk.size) (l.drop (i + 1)) else none := by
        rw [hacc, drop_getD hb, ← htk]; rfl
      refine ⟨fun hc => ?_, fun hc => ?_⟩
      · have hno : tokOk tk acc = false := by
          rw [hok]
          revert hc
          generalize (decide (3 ≤ tk.len) && decide (tk.len ≤ 18) && decide (0 < tk.dist) && decide (tk.dist ≤ if acc < 256 then acc else 256) && ((tk.lit.toNat : Int) == 0)) = b1
          generalize (tk.len == 0 && tk.dist == 0) = b2
          cases b1 <;> cases b2 <;> simp
        subst hQ
        simp only [↓WP_skip, ↓WP_ops, ↓WP_draw, ↓WP_seq, ↓WP_cond, ↓WP_block, ↓WP_loop, ↓WP_exit, ↓WP_ret, ↓WP_scope, ↓WP_label, ↓WP_goto, ↓WP_stop, ↓WPI_nil, ↓WPI_cons, ↓guardVal, ↓OpVC2_t, ↓OpVC2_f, ↓OpVC2_n, eff, ↓br_t, ↓br_f, br_s, ↓OpVC, ↓Use, ↓Uses, ↓optUse, ↓partUses, ↓srcCells, ↓ev, argEnv, Env.get, putE, ↓reduceIte, reduceCtorEq, if_true, if_false, Bool.false_eq_true, false_imp_iff, true_and, and_true, forall_const, true_implies, false_implies, implies_true, cOk, scal, Value.cells, List.getElem?_cons_zero, List.getElem?_cons_succ, List.append_assoc, List.cons_append, List.nil_append, List.length_append, List.length_cons, List.length_nil, Nat.zero_add, Nat.add_zero, Nat.reduceAdd, Nat.reduceMul, Nat.reduceLT, Nat.reduceLeDiff, hp_self, hp_add, hs_self, hs_add, List.set_cons_zero, List.set_cons_succ, quiet_refl, quiet_app1, binV, eqV, eqAt, eqS, over, List.size_toArray, List.getElem?_toArray, Bool.and_true, Bool.true_and, Bool.and_false, Bool.false_and, beq_self_eq_true, List.drop_zero, List.drop_succ_cons, List.take_succ_cons, List.take_zero, List.getD_cons_zero, List.getD_cons_succ, flat, List.all_cons, List.all_nil, resVal, resOne, true_or, or_true, Bool.true_eq_false, Bool.not_true, Bool.not_false, decide_true, decide_false, List.foldl_cons, List.foldl_nil, gt_iff_lt, ge_iff_le, not_false_eq_true, not_true_eq_false, Option.some.injEq, Prod.mk.injEq, exists_eq_left', List.cons.injEq, and_self, or_self, or_false, false_or, false_and, and_false, Exit.exit.injEq, Nat.reduceEqDiff, ite_true, ite_false, eq_self, AObj.dead, Nat.reduceSub, cond_true, cond_false, decide_eq_true_eq, decide_eq_false_iff_not, beq_iff_eq, beq_eq_false_iff_ne, ne_eq, bne_iff_ne, Bool.and_eq_true, Bool.or_eq_true, Int.toNat_natCast, Int.toNat_zero, Nat.zero_mul, Nat.mul_one, zcells_one, zcells_succ, zcells_zero, List.replicate_succ, List.replicate_zero, List.flatten_cons, List.flatten_nil, List.append_nil, Int.natCast_add, imp_self, Bool.cond_false_right, Bool.cond_true_left, beqT, beqF, bne_self_eq_false, Int.reduceEq, Int.reduceBEq, Int.reduceBNe, Int.reduceLT, Int.reduceLE, Int.reduceToNat, Int.reduceAdd, Int.reduceSub, Int.reduceMul, Int.reduceNeg, Nat.reduceBEq, Nat.reduceBNe, Int.natCast_one, Int.le_refl, Bool.or_false, Bool.or_true, Bool.false_or, Bool.true_or]
        rw [hno] at hstep
        rw [longL, if_pos (by omega), hstep, hT, List.append_assoc]
        exact exit_same (by simp [cOk, scal])
      · have hyes : tokOk tk acc = true := by
          rw [hok]
          revert hc
          generalize (decide (3 ≤ tk.len) && decide (tk.len ≤ 18) && decide (0 < tk.dist) && decide (tk.dist ≤ if acc < 256 then acc else 256) && ((tk.lit.toNat : Int) == 0)) = b1
          generalize (tk.len == 0 && tk.dist == 0) = b2
          cases b1 <;> cases b2 <;> simp
        refine callK (size_spec tk _) ?_
        subst hQ
        simp only [c15_6, e10, e11, e12, e2, ↓WP_skip, ↓WP_ops, ↓WP_draw, ↓WP_seq, ↓WP_cond, ↓WP_block, ↓WP_loop, ↓WP_exit, ↓WP_ret, ↓WP_scope, ↓WP_label, ↓WP_goto, ↓WP_stop, ↓WPI_nil, ↓WPI_cons, ↓guardVal, ↓OpVC2_t, ↓OpVC2_f, ↓OpVC2_n, eff, ↓br_t, ↓br_f, br_s, ↓OpVC, ↓Use, ↓Uses, ↓optUse, ↓partUses, ↓srcCells, ↓ev, argEnv, Env.get, putE, ↓reduceIte, reduceCtorEq, if_true, if_false, Bool.false_eq_true, false_imp_iff, true_and, and_true, forall_const, true_implies, false_implies, implies_true, cOk, scal, Value.cells, List.getElem?_cons_zero, List.getElem?_cons_succ, List.append_assoc, List.cons_append, List.nil_append, List.length_append, List.length_cons, List.length_nil, Nat.zero_add, Nat.add_zero, Nat.reduceAdd, Nat.reduceMul, Nat.reduceLT, Nat.reduceLeDiff, hp_self, hp_add, hs_self, hs_add, List.set_cons_zero, List.set_cons_succ, quiet_refl, quiet_app1, binV, eqV, eqAt, eqS, over, List.size_toArray, List.getElem?_toArray, Bool.and_true, Bool.true_and, Bool.and_false, Bool.false_and, beq_self_eq_true, List.drop_zero, List.drop_succ_cons, List.take_succ_cons, List.take_zero, List.getD_cons_zero, List.getD_cons_succ, flat, List.all_cons, List.all_nil, resVal, resOne, true_or, or_true, Bool.true_eq_false, Bool.not_true, Bool.not_false, decide_true, decide_false, List.foldl_cons, List.foldl_nil, gt_iff_lt, ge_iff_le, not_false_eq_true, not_true_eq_false, Option.some.injEq, Prod.mk.injEq, exists_eq_left', List.cons.injEq, and_self, or_self, or_false, false_or, false_and, and_false, Exit.exit.injEq, Nat.reduceEqDiff, ite_true, ite_false, eq_self, AObj.dead, Nat.reduceSub, cond_true, cond_false, decide_eq_true_eq, decide_eq_false_iff_not, beq_iff_eq, beq_eq_false_iff_ne, ne_eq, bne_iff_ne, Bool.and_eq_true, Bool.or_eq_true, Int.toNat_natCast, Int.toNat_zero, Nat.zero_mul, Nat.mul_one, zcells_one, zcells_succ, zcells_zero, List.replicate_succ, List.replicate_zero, List.flatten_cons, List.flatten_nil, List.append_nil, Int.natCast_add, imp_self, Bool.cond_false_right, Bool.cond_true_left, beqT, beqF, bne_self_eq_false, Int.reduceEq, Int.reduceBEq, Int.reduceBNe, Int.reduceLT, Int.reduceLE, Int.reduceToNat, Int.reduceAdd, Int.reduceSub, Int.reduceMul, Int.reduceNeg, Nat.reduceBEq, Nat.reduceBNe, Int.natCast_one, Int.le_refl, Bool.or_false, Bool.or_true, Bool.false_or, Bool.true_or]
        obtain ⟨s1, s2⟩ := tok_size_le hyes
        rw [hyes, if_pos rfl] at hstep
        refine old_round ?_
        simp only [c15_6, e10, e11, e12, e2, ↓WP_skip, ↓WP_ops, ↓WP_draw, ↓WP_seq, ↓WP_cond, ↓WP_block, ↓WP_loop, ↓WP_exit, ↓WP_ret, ↓WP_scope, ↓WP_label, ↓WP_goto, ↓WP_stop, ↓WPI_nil, ↓WPI_cons, ↓guardVal, ↓OpVC2_t, ↓OpVC2_f, ↓OpVC2_n, eff, ↓br_t, ↓br_f, br_s, ↓OpVC, ↓Use, ↓Uses, ↓optUse, ↓partUses, ↓srcCells, ↓ev, argEnv, Env.get, putE, ↓reduceIte, reduceCtorEq, if_true, if_false, Bool.false_eq_true, false_imp_iff, true_and, and_true, forall_const, true_implies, false_implies, implies_true, cOk, scal, Value.cells, List.getElem?_cons_zero, List.getElem?_cons_succ, List.append_assoc, List.cons_append, List.nil_append, List.length_append, List.length_cons, List.length_nil, Nat.zero_add, Nat.add_zero, Nat.reduceAdd, Nat.reduceMul, Nat.reduceLT, Nat.reduceLeDiff, hp_self, hp_add, hs_self, hs_add, List.set_cons_zero, List.set_cons_succ, quiet_refl, quiet_app1, binV, eqV, eqAt, eqS, over, List.size_toArray, List.getElem?_toArray, Bool.and_true, Bool.true_and, Bool.and_false, Bool.false_and, beq_self_eq_true, List.drop_zero, List.drop_succ_cons, List.take_succ_cons, List.take_zero, List.getD_cons_zero, List.getD_cons_succ, flat, List.all_cons, List.all_nil, resVal, resOne, true_or, or_true, Bool.true_eq_false, Bool.not_true, Bool.not_false, decide_true, decide_false, List.foldl_cons, List.foldl_nil, gt_iff_lt, ge_iff_le, not_false_eq_true, not_true_eq_false, Option.some.injEq, Prod.mk.injEq, exists_eq_left', List.cons.injEq, and_self, or_self, or_false, false_or, false_and, and_false, Exit.exit.injEq, Nat.reduceEqDiff, ite_true, ite_false, eq_self, AObj.dead, Nat.reduceSub, cond_true, cond_false, decide_eq_true_eq, decide_eq_false_iff_not, beq_iff_eq, beq_eq_false_iff_ne, ne_eq, bne_iff_ne, Bool.and_eq_true, Bool.or_eq_true, Int.toNat_natCast, Int.toNat_zero, Nat.zero_mul, Nat.mul_one, zcells_one, zcells_succ, zcells_zero, List.replicate_succ, List.replicate_zero, List.flatten_cons, List.flatten_nil, List.append_nil, Int.natCast_add, imp_self, Bool.cond_false_right, Bool.cond_true_left, beqT, beqF, bne_self_eq_false, Int.reduceEq, Int.reduceBEq, Int.reduceBNe, Int.reduceLT, Int.reduceLE, Int.reduceToNat, Int.reduceAdd, Int.reduceSub, Int.reduceMul, Int.reduceNeg, Nat.reduceBEq, Nat.reduceBNe, Int.natCast_one, Int.le_refl, Bool.or_false, Bool.or_true, Bool.false_or, Bool.true_or]
        refine ⟨l.length - (i + 1), by omega, i + 1, acc + tk.size, _, by omega, rfl, ?_, ?_, by rw [hT, List.append_assoc], hstep, by omega, by omega⟩
        · rw [wrap_i64 (by omega) (by omega)]; simp
        · rw [wrap_i64 (by omega) (by omega)]
    · subst hQ
      simp only [e10, e11, e12, e2, ↓WP_skip, ↓WP_ops, ↓WP_draw, ↓WP_seq, ↓WP_cond, ↓WP_block, ↓WP_loop, ↓WP_exit, ↓WP_ret, ↓WP_scope, ↓WP_label, ↓WP_goto, ↓WP_stop, ↓WPI_nil, ↓WPI_cons, ↓guardVal, ↓OpVC2_t, ↓OpVC2_f, ↓OpVC2_n, eff, ↓br_t, ↓br_f, br_s, ↓OpVC, ↓Use, ↓Uses, ↓optUse, ↓partUses, ↓srcCells, ↓ev, argEnv, Env.get, putE, ↓reduceIte, reduceCtorEq, if_true, if_false, Bool.false_eq_true, false_imp_iff, true_and, and_true, forall_const, true_implies, false_implies, implies_true, cOk, scal, Value.cells, List.getElem?_cons_zero, List.getElem?_cons_succ, List.append_assoc, List.cons_append, List.nil_append, List.length_append, List.length_cons, List.length_nil, Nat.zero_add, Nat.add_zero, Nat.reduceAdd, Nat.reduceMul, Nat.reduceLT, Nat.reduceLeDiff, hp_self, hp_add, hs_self, hs_add, List.set_cons_zero, List.set_cons_succ, quiet_refl, quiet_app1, binV, eqV, eqAt, eqS, over, List.size_toArray, List.getElem?_toArray, Bool.and_true, Bool.true_and, Bool.and_false, Bool.false_and, beq_self_eq_true, List.drop_zero, List.drop_succ_cons, List.take_succ_cons, List.take_zero, List.getD_cons_zero, List.getD_cons_succ, flat, List.all_cons, List.all_nil, resVal, resOne, true_or, or_true, Bool.true_eq_false, Bool.not_true, Bool.not_false, decide_true, decide_false, List.foldl_cons, List.foldl_nil, gt_iff_lt, ge_iff_le, not_false_eq_true, not_true_eq_false, Option.some.injEq, Prod.mk.injEq, exists_eq_left', List.cons.injEq, and_self, or_self, or_false, false_or, false_and, and_false, Exit.exit.injEq, Nat.reduceEqDiff, ite_true, ite_false, eq_self, AObj.dead, Nat.reduceSub, cond_true, cond_false, decide_eq_true_eq, decide_eq_false_iff_not, beq_iff_eq, beq_eq_false_iff_ne, ne_eq, bne_iff_ne, Bool.and_eq_true, Bool.or_eq_true, Int.toNat_natCast, Int.toNat_zero, Nat.zero_mul, Nat.mul_one, zcells_one, zcells_succ, zcells_zero, List.replicate_succ, List.replicate_zero, List.flatten_cons, List.flatten_nil, List.append_nil, Int.natCast_add, imp_self, Bool.cond_false_right, Bool.cond_true_left, beqT, beqF, bne_self_eq_false, Int.reduceEq, Int.reduceBEq, Int.reduceBNe, Int.reduceLT, Int.reduceLE, Int.reduceToNat, Int.reduceAdd, Int.reduceSub, Int.reduceMul, Int.reduceNeg, Nat.reduceBEq, Nat.reduceBNe, Int.natCast_one, Int.le_refl, Bool.or_false, Bool.or_true, Bool.false_or, Bool.true_or]
      have hi' : i = l.length := by omega
      subst hi'
      rw [List.drop_length] at hacc
      rw [longL, if_pos (by omega), hacc]
      exact exit_same (by simp [cOk, scal])
end Go.Vx
