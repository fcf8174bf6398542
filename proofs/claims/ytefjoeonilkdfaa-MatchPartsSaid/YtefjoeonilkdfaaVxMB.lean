/- A part of the proof: what it shows stands in its theorems. No condition beyond those that they name. -/
import Derived.Test.YtefjoeonilkdfaaVxMA
import Derived.Laws.Strings
namespace Go.Vx
open Go.Proofs
set_option linter.unusedSimpArgs false
set_option linter.unusedVariables false
set_option maxRecDepth 100000
set_option maxHeartbeats 1000000

/-! Octets in memory. -/

def BSl (h : AHeap) (a : Option Addr) (l : List UInt8) : Prop :=
  (a = none ∧ l = []) ∨ ∃ id ob, a = some ⟨id, 0, none⟩ ∧ h[id]? = some ob ∧ ob.live = true ∧ l.length ≤ ob.cells.length ∧ ob.cells.take l.length = l.map bv

theorem BSl.ext {h K : AHeap} (e : Ext h K) {a : Option Addr} {l : List UInt8} (H : BSl h a l) : BSl K a l := by
  rcases H with H | ⟨id, ob, h1, h2, h3⟩
  · exact .inl H
  · exact .inr ⟨id, ob, h1, e.get h2, h3⟩

theorem TSl.ext {h K : AHeap} (e : Ext h K) {a : Option Addr} {l : List Tok} (H : TSl h a l) : TSl K a l := by
  rcases H with H | ⟨id, ob, h1, h2, h3⟩
  · exact .inl H
  · exact .inr ⟨id, ob, h1, e.get h2, h3⟩

theorem BSl.at_ {h : AHeap} {a : Option Addr} {l : List UInt8} (H : BSl h a l) {i : Nat} (hi : i < l.length) : ∃ id ob, a = some ⟨id, 0, none⟩ ∧ h[id]? = some ob ∧ ob.live = true ∧ i < ob.cells.length ∧ ob.cells.getD i undef = bv (l.getD i 0) := by
  rcases H with ⟨_, rfl⟩ | ⟨id, ob, h1, h2, h3, h4, h5⟩
  · simp at hi
  · refine ⟨id, ob, h1, h2, h3, by omega, ?_⟩
    have : (ob.cells.take l.length)[i]? = (l.map bv)[i]? := by rw [h5]
    rw [List.getElem?_take_of_lt hi, List.getElem?_map, List.getElem?_eq_getElem hi] at this
    rw [List.getD_eq_getElem?_getD, List.getD_eq_getElem?_getD, this, List.getElem?_eq_getElem hi]; rfl

theorem bv_byte (l : List UInt8) : (l.map bv).map byteOf = l := by
  rw [List.map_map]
  conv => rhs; rw [← List.map_id l]
  apply List.map_congr_left
  intro b _
  simp [bv, byteOf]

theorem bv_all (l : List UInt8) : (l.map bv).all isByte = true := by
  rw [List.all_eq_true]
  intro v hv
  obtain ⟨b, _, rfl⟩ := List.mem_map.1 hv
  rfl

theorem bv_ok (l : List UInt8) : ∀ u ∈ l.map bv, cOk u = true := by
  intro v hv
  obtain ⟨b, _, rfl⟩ := List.mem_map.1 hv
  rfl

theorem empty_toList : (ByteArray.empty : ByteArray).toList = [] := by rw [ByteArray.toList_eq]; rfl

theorem same_spec {h : AHeap} {a b : Option Addr} {x y : List UInt8} {c d : Nat} (Hx : BSl h a x) (Hy : BSl h b y) :
    ACall Try.prog γ0 17 [.slice a x.length c, .slice b y.length d] h (.bool (x == y)) h := by
  refine acall_of Try.func17 rfl ok17 (by kernel_rfl) [.tmp 4] (by kernel_rfl) ?_
  rcases Hx with ⟨rfl, rfl⟩ | ⟨i, ox, rfl, hi, hil, hic, hit⟩ <;> rcases Hy with ⟨rfl, rfl⟩ | ⟨j, oy, rfl, hj, hjl, hjc, hjt⟩
  · simp only [c17, c17_0, empty_toList, ↓WP_skip, ↓WP_ops, ↓WP_draw, ↓WP_seq, ↓WP_cond, ↓WP_block, ↓WP_loop, ↓WP_exit, ↓WP_ret, ↓WP_scope, ↓WP_label, ↓WP_goto, ↓WP_stop, ↓WPI_nil, ↓WPI_cons, ↓guardVal, ↓OpVC2_t, ↓OpVC2_f, ↓OpVC2_n, eff, ↓br_t, ↓br_f, br_s, ↓OpVC, ↓Use, ↓Uses, ↓optUse, ↓partUses, ↓srcCells, ↓ev, argEnv, Env.get, putE, ↓reduceIte, reduceCtorEq, if_true, if_false, Bool.false_eq_true, false_imp_iff, true_and, and_true, forall_const, true_implies, false_implies, implies_true, cOk, scal, Value.cells, List.getElem?_cons_zero, List.getElem?_cons_succ, List.append_assoc, List.cons_append, List.nil_append, List.length_append, List.length_cons, List.length_nil, Nat.zero_add, Nat.add_zero, Nat.reduceAdd, Nat.reduceMul, Nat.reduceLT, Nat.reduceLeDiff, hp_self, hp_add, hs_self, hs_add, List.set_cons_zero, List.set_cons_succ, quiet_refl, quiet_app1, binV, eqV, eqAt, eqS, over, List.size_toArray, List.getElem?_toArray, Bool.and_true, Bool.true_and, Bool.and_false, Bool.false_and, beq_self_eq_true, List.drop_zero, List.drop_succ_cons, List.take_succ_cons, List.take_zero, List.getD_cons_zero, List.getD_cons_succ, flat, List.all_cons, List.all_nil, resVal, resOne, true_or, or_true, Bool.true_eq_false, Bool.not_true, Bool.not_false, decide_true, decide_false, List.foldl_cons, List.foldl_nil, gt_iff_lt, ge_iff_le, not_false_eq_true, not_true_eq_false, Option.some.injEq, Prod.mk.injEq, exists_eq_left', List.cons.injEq, and_self, or_self, or_false, false_or, false_and, and_false, Exit.exit.injEq, Nat.reduceEqDiff, ite_true, ite_false, eq_self, AObj.dead, Nat.reduceSub, cond_true, cond_false, decide_eq_true_eq, decide_eq_false_iff_not, beq_iff_eq, beq_eq_false_iff_ne, ne_eq, bne_iff_ne, Bool.and_eq_true, Bool.or_eq_true, Int.toNat_natCast, Int.toNat_zero, Nat.zero_mul, Nat.mul_one, zcells_one, zcells_succ, zcells_zero, List.replicate_succ, List.replicate_zero, List.flatten_cons, List.flatten_nil, List.append_nil, Int.natCast_add, imp_self, Bool.cond_false_right, Bool.cond_true_left, beqT, beqF, bne_self_eq_false, Int.reduceEq, Int.reduceBEq, Int.reduceBNe, Int.reduceLT, Int.reduceLE, Int.reduceToNat, Int.reduceAdd, Int.reduceSub, Int.reduceMul, Int.reduceNeg, Nat.reduceBEq, Nat.reduceBNe, Int.natCast_one, Int.le_refl, Bool.or_false, Bool.or_true, Bool.false_or, Bool.true_or]
    exact exit_ext (Ext.refl _) rfl
  · simp only [c17, c17_0, empty_toList, hj, hjl, hjc, hjt, bv_byte, bv_all, ByteArray.toList_mk, ↓WP_skip, ↓WP_ops, ↓WP_draw, ↓WP_seq, ↓WP_cond, ↓WP_block, ↓WP_loop, ↓WP_exit, ↓WP_ret, ↓WP_scope, ↓WP_label, ↓WP_goto, ↓WP_stop, ↓WPI_nil, ↓WPI_cons, ↓guardVal, ↓OpVC2_t, ↓OpVC2_f, ↓OpVC2_n, eff, ↓br_t, ↓br_f, br_s, ↓OpVC, ↓Use, ↓Uses, ↓optUse, ↓partUses, ↓srcCells, ↓ev, argEnv, Env.get, putE, ↓reduceIte, reduceCtorEq, if_true, if_false, Bool.false_eq_true, false_imp_iff, true_and, and_true, forall_const, true_implies, false_implies, implies_true, cOk, scal, Value.cells, List.getElem?_cons_zero, List.getElem?_cons_succ, List.append_assoc, List.cons_append, List.nil_append, List.length_append, List.length_cons, List.length_nil, Nat.zero_add, Nat.add_zero, Nat.reduceAdd, Nat.reduceMul, Nat.reduceLT, Nat.reduceLeDiff, hp_self, hp_add, hs_self, hs_add, List.set_cons_zero, List.set_cons_succ, quiet_refl, quiet_app1, binV, eqV, eqAt, eqS, over, List.size_toArray, List.getElem?_toArray, Bool.and_true, Bool.true_and, Bool.and_false, Bool.false_and, beq_self_eq_true, List.drop_zero, List.drop_succ_cons, List.take_succ_cons, List.take_zero, List.getD_cons_zero, List.getD_cons_succ, flat, List.all_cons, List.all_nil, resVal, resOne, true_or, or_true, Bool.true_eq_false, Bool.not_true, Bool.not_false, decide_true, decide_false, List.foldl_cons, List.foldl_nil, gt_iff_lt, ge_iff_le, not_false_eq_true, not_true_eq_false, Option.some.injEq, Prod.mk.injEq, exists_eq_left', List.cons.injEq, and_self, or_self, or_false, false_or, false_and, and_false, Exit.exit.injEq, Nat.reduceEqDiff, ite_true, ite_false, eq_self, AObj.dead, Nat.reduceSub, cond_true, cond_false, decide_eq_true_eq, decide_eq_false_iff_not, beq_iff_eq, beq_eq_false_iff_ne, ne_eq, bne_iff_ne, Bool.and_eq_true, Bool.or_eq_true, Int.toNat_natCast, Int.toNat_zero, Nat.zero_mul, Nat.mul_one, zcells_one, zcells_succ, zcells_zero, List.replicate_succ, List.replicate_zero, List.flatten_cons, List.flatten_nil, List.append_nil, Int.natCast_add, imp_self, Bool.cond_false_right, Bool.cond_true_left, beqT, beqF, bne_self_eq_false, Int.reduceEq, Int.reduceBEq, Int.reduceBNe, Int.reduceLT, Int.reduceLE, Int.reduceToNat, Int.reduceAdd, Int.reduceSub, Int.reduceMul, Int.reduceNeg, Nat.reduceBEq, Nat.reduceBNe, Int.natCast_one, Int.le_refl, Bool.or_false, Bool.or_true, Bool.false_or, Bool.true_or]
    exact exit_ext (Ext.refl _) rfl
  · simp only [c17, c17_0, empty_toList, hi, hil, hic, hit, bv_byte, bv_all, ByteArray.toList_mk, ↓WP_skip, ↓WP_ops, ↓WP_draw, ↓WP_seq, ↓WP_cond, ↓WP_block, ↓WP_loop, ↓WP_exit, ↓WP_ret, ↓WP_scope, ↓WP_label, ↓WP_goto, ↓WP_stop, ↓WPI_nil, ↓WPI_cons, ↓guardVal, ↓OpVC2_t, ↓OpVC2_f, ↓OpVC2_n, eff, ↓br_t, ↓br_f, br_s, ↓OpVC, ↓Use, ↓Uses, ↓optUse, ↓partUses, ↓srcCells, ↓ev, argEnv, Env.get, putE, ↓reduceIte, reduceCtorEq, if_true, if_false, Bool.false_eq_true, false_imp_iff, true_and, and_true, forall_const, true_implies, false_implies, implies_true, cOk, scal, Value.cells, List.getElem?_cons_zero, List.getElem?_cons_succ, List.append_assoc, List.cons_append, List.nil_append, List.length_append, List.length_cons, List.length_nil, Nat.zero_add, Nat.add_zero, Nat.reduceAdd, Nat.reduceMul, Nat.reduceLT, Nat.reduceLeDiff, hp_self, hp_add, hs_self, hs_add, List.set_cons_zero, List.set_cons_succ, quiet_refl, quiet_app1, binV, eqV, eqAt, eqS, over, List.size_toArray, List.getElem?_toArray, Bool.and_true, Bool.true_and, Bool.and_false, Bool.false_and, beq_self_eq_true, List.drop_zero, List.drop_succ_cons, List.take_succ_cons, List.take_zero, List.getD_cons_zero, List.getD_cons_succ, flat, List.all_cons, List.all_nil, resVal, resOne, true_or, or_true, Bool.true_eq_false, Bool.not_true, Bool.not_false, decide_true, decide_false, List.foldl_cons, List.foldl_nil, gt_iff_lt, ge_iff_le, not_false_eq_true, not_true_eq_false, Option.some.injEq, Prod.mk.injEq, exists_eq_left', List.cons.injEq, and_self, or_self, or_false, false_or, false_and, and_false, Exit.exit.injEq, Nat.reduceEqDiff, ite_true, ite_false, eq_self, AObj.dead, Nat.reduceSub, cond_true, cond_false, decide_eq_true_eq, decide_eq_false_iff_not, beq_iff_eq, beq_eq_false_iff_ne, ne_eq, bne_iff_ne, Bool.and_eq_true, Bool.or_eq_true, Int.toNat_natCast, Int.toNat_zero, Nat.zero_mul, Nat.mul_one, zcells_one, zcells_succ, zcells_zero, List.replicate_succ, List.replicate_zero, List.flatten_cons, List.flatten_nil, List.append_nil, Int.natCast_add, imp_self, Bool.cond_false_right, Bool.cond_true_left, beqT, beqF, bne_self_eq_false, Int.reduceEq, Int.reduceBEq, Int.reduceBNe, Int.reduceLT, Int.reduceLE, Int.reduceToNat, Int.reduceAdd, Int.reduceSub, Int.reduceMul, Int.reduceNeg, Nat.reduceBEq, Nat.reduceBNe, Int.natCast_one, Int.le_refl, Bool.or_false, Bool.or_true, Bool.false_or, Bool.true_or]
    exact exit_ext (Ext.refl _) rfl
  · simp only [c17, c17_0, empty_toList, hi, hil, hic, hit, hj, hjl, hjc, hjt, bv_byte, bv_all, ByteArray.toList_mk, ↓WP_skip, ↓WP_ops, ↓WP_draw, ↓WP_seq, ↓WP_cond, ↓WP_block, ↓WP_loop, ↓WP_exit, ↓WP_ret, ↓WP_scope, ↓WP_label, ↓WP_goto, ↓WP_stop, ↓WPI_nil, ↓WPI_cons, ↓guardVal, ↓OpVC2_t, ↓OpVC2_f, ↓OpVC2_n, eff, ↓br_t, ↓br_f, br_s, ↓OpVC, ↓Use, ↓Uses, ↓optUse, ↓partUses, ↓srcCells, ↓ev, argEnv, Env.get, putE, ↓reduceIte, reduceCtorEq, if_true, if_false, Bool.false_eq_true, false_imp_iff, true_and, and_true, forall_const, true_implies, false_implies, implies_true, cOk, scal, Value.cells, List.getElem?_cons_zero, List.getElem?_cons_succ, List.append_assoc, List.cons_append, List.nil_append, List.length_append, List.length_cons, List.length_nil, Nat.zero_add, Nat.add_zero, Nat.reduceAdd, Nat.reduceMul, Nat.reduceLT, Nat.reduceLeDiff, hp_self, hp_add, hs_self, hs_add, List.set_cons_zero, List.set_cons_succ, quiet_refl, quiet_app1, binV, eqV, eqAt, eqS, over, List.size_toArray, List.getElem?_toArray, Bool.and_true, Bool.true_and, Bool.and_false, Bool.false_and, beq_self_eq_true, List.drop_zero, List.drop_succ_cons, List.take_succ_cons, List.take_zero, List.getD_cons_zero, List.getD_cons_succ, flat, List.all_cons, List.all_nil, resVal, resOne, true_or, or_true, Bool.true_eq_false, Bool.not_true, Bool.not_false, decide_true, decide_false, List.foldl_cons, List.foldl_nil, gt_iff_lt, ge_iff_le, not_false_eq_true, not_true_eq_false, Option.some.injEq, Prod.mk.injEq, exists_eq_left', List.cons.injEq, and_self, or_self, or_false, false_or, false_and, and_false, Exit.exit.injEq, Nat.reduceEqDiff, ite_true, ite_false, eq_self, AObj.dead, Nat.reduceSub, cond_true, cond_false, decide_eq_true_eq, decide_eq_false_iff_not, beq_iff_eq, beq_eq_false_iff_ne, ne_eq, bne_iff_ne, Bool.and_eq_true, Bool.or_eq_true, Int.toNat_natCast, Int.toNat_zero, Nat.zero_mul, Nat.mul_one, zcells_one, zcells_succ, zcells_zero, List.replicate_succ, List.replicate_zero, List.flatten_cons, List.flatten_nil, List.append_nil, Int.natCast_add, imp_self, Bool.cond_false_right, Bool.cond_true_left, beqT, beqF, bne_self_eq_false, Int.reduceEq, Int.reduceBEq, Int.reduceBNe, Int.reduceLT, Int.reduceLE, Int.reduceToNat, Int.reduceAdd, Int.reduceSub, Int.reduceMul, Int.reduceNeg, Nat.reduceBEq, Nat.reduceBNe, Int.natCast_one, Int.le_refl, Bool.or_false, Bool.or_true, Bool.false_or, Bool.true_or]
    exact exit_ext (Ext.refl _) rfl

/-! What tokens tell. -/
def copyN (d : Nat) : Nat → List UInt8 → List UInt8
  | 0, out => out
  | k + 1, out => copyN d k (out ++ [out.getD (out.length - d) 0])
def tellB (out : List UInt8) (t : Tok) : List UInt8 := if t.len = 0 then out ++ [t.lit] else copyN t.dist.toNat t.len.toNat out
def tellL (out : List UInt8) (l : List Tok) : List UInt8 := l.foldl tellB out

theorem copyN_len {d k : Nat} {out : List UInt8} : (copyN d k out).length = out.length + k := by
  induction k generalizing out with
  | zero => rfl
  | succ k ih => simp only [copyN]; rw [ih]; simp; omega

theorem tell_len {l : List Tok} : ∀ {n m : Int} {out : List UInt8}, longFrom n l = some m → n = out.length → ((tellL out l).length : Int) = m := by
  induction l with
  | nil => intro n m out h hn; simp [longFrom] at h; simp [tellL]; omega
  | cons t r ih =>
    intro n m out h hn
    simp only [longFrom] at h
    split at h
    · rename_i ho
      refine ih h ?_
      simp only [tokOk, Bool.or_eq_true, Bool.and_eq_true, decide_eq_true_eq] at ho
      unfold tellB Tok.size
      split
      · simp; omega
      · rw [copyN_len]; omega
    · simp at h

def textR (l : List Tok) (most : Int) : Option (List UInt8) × Int := match longL l with
  | none => (none, 1)
  | some n => if most < 0 then (none, 1) else if n > most ∨ n > 65536 then (none, 3) else (some (tellL [] l), 0)
end Go.Vx
