/- A part of the proof: what it shows stands in its theorems. No condition beyond those that they name. -/
import Derived.Test.YtefjoeonilkdfaaVxM
import Derived.KernelRfl
namespace Go.Vx
set_option linter.unusedVariables false
variable {md : Bool}
set_option linter.unusedSimpArgs false

/-! For whoever runs code by rewriting. -/

theorem acall_of {P : Program} {γ : Nat → Option Nat} {f : FuncId} {fn : Func} {c' : C} {args : List Value} {h h' : AHeap} {v : Value} (hf : P.funcs[f]? = some fn) (hb : fn.body.isSome = true) (hc : compile P fn.ntmps (fn.body.getD .skip) = some c') (hn : (decide (args.length ≤ fn.ntmps)) = true)
    (rs : List ResultVar) (hrs : fn.results.toList = rs)
    (H : WP false P γ c' (fun e s' => (e = .normal ∨ e = .ret) ∧ resVal γ P s' rs fun vs => ExitOk h s'.heap (resOne vs) v h') ⟨argEnv 0 args, h⟩) : ACall P γ f args h v h' := by
  obtain ⟨b, hb'⟩ := Option.isSome_iff_exists.1 hb
  subst hrs
  exact acall_intro hf hb' (by rw [hb'] at hc; exact hc) (by simpa using hn) H

theorem acall_on {P : Program} {γ : Nat → Option Nat} {f : FuncId} {fn : Func} {c' : C} {args : List Value} {h h' : AHeap} {v : Value} (hf : P.funcs[f]? = some fn) (hb : fn.body.isSome = true) (hc : compile P fn.ntmps (fn.body.getD .skip) = some c') (hn : (decide (args.length ≤ fn.ntmps)) = true)
    (rs : List ResultVar) (hrs : fn.results.toList = rs)
    (H : WP true P γ c' (fun e s' => (e = .normal ∨ e = .ret) ∧ resVal γ P s' rs fun vs => ExitOk h s'.heap (resOne vs) v h') ⟨argEnv 0 args, h⟩) : ACall P γ f args h v h' := by
  obtain ⟨b, hb'⟩ := Option.isSome_iff_exists.1 hb
  subst hrs
  exact acall_intro hf hb' (by rw [hb'] at hc; exact hc) (by simpa using hn) H

theorem acn_of {P : Program} {γ : Nat → Option Nat} {f : FuncId} {fn : Func} {c' : C} {args : List Value} {h : AHeap} {Post : Value → AHeap → Prop} (hf : P.funcs[f]? = some fn) (hb : fn.body.isSome = true) (hc : compile P fn.ntmps (fn.body.getD .skip) = some c') (hn : (decide (args.length ≤ fn.ntmps)) = true)
    (rs : List ResultVar) (hrs : fn.results.toList = rs)
    (H : WP false P γ c' (fun e s' => (e = .normal ∨ e = .ret) ∧ resVal γ P s' rs fun vs => ∃ v h', Post v h' ∧ ExitOk h s'.heap (resOne vs) v h') ⟨argEnv 0 args, h⟩) : ACn P γ f args h Post := by
  obtain ⟨b, hb'⟩ := Option.isSome_iff_exists.1 hb
  subst hrs
  exact acn_intro hf hb' (by rw [hb'] at hc; exact hc) (by simpa using hn) H
theorem acn_on {P : Program} {γ : Nat → Option Nat} {f : FuncId} {fn : Func} {c' : C} {args : List Value} {h : AHeap} {Post : Value → AHeap → Prop} (hf : P.funcs[f]? = some fn) (hb : fn.body.isSome = true) (hc : compile P fn.ntmps (fn.body.getD .skip) = some c') (hn : (decide (args.length ≤ fn.ntmps)) = true)
    (rs : List ResultVar) (hrs : fn.results.toList = rs)
    (H : WP true P γ c' (fun e s' => (e = .normal ∨ e = .ret) ∧ resVal γ P s' rs fun vs => ∃ v h', Post v h' ∧ ExitOk h s'.heap (resOne vs) v h') ⟨argEnv 0 args, h⟩) : ACn P γ f args h Post := by
  obtain ⟨b, hb'⟩ := Option.isSome_iff_exists.1 hb
  subst hrs
  exact acn_intro hf hb' (by rw [hb'] at hc; exact hc) (by simpa using hn) H

theorem hp_self (h t : AHeap) : (h ++ t)[h.length]? = t[0]? := by
  rw [List.getElem?_append_right (Nat.le_refl _), Nat.sub_self]
theorem hp_add (h t : AHeap) (k : Nat) : (h ++ t)[h.length + k]? = t[k]? := by
  rw [List.getElem?_append_right (by omega), Nat.add_sub_cancel_left]
theorem hp_old {h t : AHeap} {a : Nat} {ob : AObj} (ha : h[a]? = some ob) : (h ++ t)[a]? = some ob := by
  rw [List.getElem?_append_left (List.getElem?_eq_some_iff.1 ha).1]; exact ha
theorem hs_self (h t : AHeap) (ob : AObj) : (h ++ t).set h.length ob = h ++ t.set 0 ob := by
  rw [List.set_append_right _ _ (Nat.le_refl _), Nat.sub_self]
theorem hs_add (h t : AHeap) (k : Nat) (ob : AObj) : (h ++ t).set (h.length + k) ob = h ++ t.set k ob := by
  rw [List.set_append_right _ _ (by omega), Nat.add_sub_cancel_left]
theorem hs_old {h t : AHeap} {a : Nat} {ob ob' : AObj} (ha : h[a]? = some ob) : (h ++ t).set a ob' = h.set a ob' ++ t := by
  rw [List.set_append_left _ _ (List.getElem?_eq_some_iff.1 ha).1]

theorem quiet_refl (h : AHeap) : Quiet h h = True := by
  simp only [eq_iff_iff, iff_true]; exact ⟨[], by simp, by simp⟩
theorem quiet_app1 (h : AHeap) (ob : AObj) (ho : ob.own = true) : Quiet h (h ++ [ob]) = True := by
  simp only [eq_iff_iff, iff_true]; exact ⟨[ob], rfl, by simpa using ho⟩

theorem wrap_i64 {n : Int} (h0 : -9223372036854775808 ≤ n) (h1 : n ≤ 9223372036854775807) : IntKind.i64.wrap n = n := by
  simp [IntKind.wrap, IntKind.bits, IntKind.signed]; omega
theorem wrap_u8 {n : Int} (h0 : 0 ≤ n) (h1 : n ≤ 255) : IntKind.u8.wrap n = n := by
  simp [IntKind.wrap, IntKind.bits, IntKind.signed]; omega
theorem wrap_u32 {n : Int} (h0 : 0 ≤ n) (h1 : n ≤ 4294967295) : IntKind.u32.wrap n = n := by
  simp [IntKind.wrap, IntKind.bits, IntKind.signed]; omega
theorem wrap_u64 {n : Int} (h0 : 0 ≤ n) (h1 : n ≤ 18446744073709551615) : IntKind.u64.wrap n = n := by
  simp [IntKind.wrap, IntKind.bits, IntKind.signed]; omega

theorem zcells_zero (z : List Value) : zcells z 0 = [] := rfl
theorem zcells_succ (z : List Value) (n : Nat) : zcells z (n + 1) = z ++ zcells z n := by simp [zcells, List.replicate_succ]
theorem zcells_one (x : Value) (n : Nat) : zcells [x] n = List.replicate n x := by
  induction n with
  | zero => rfl
  | succ n ih => rw [zcells_succ, ih]; rfl
theorem beqT (b : Bool) : (b == true) = b := by cases b <;> rfl
theorem beqF (b : Bool) : (b == false) = !b := by cases b <;> rfl
theorem old_round {I : Nat → St → Prop} {n : Nat} {s : St} (h : ∃ k, k < n ∧ I k s) : ∃ k s0, k < n ∧ Le s0 s ∧ I k s0 :=
  let ⟨k, h1, h2⟩ := h; ⟨k, s, h1, Le.refl s, h2⟩
theorem WP_gen {P : Program} {γ : Nat → Option Nat} {c : C} {Q : Exit → St → Prop} {s : St} (H : ∀ Q', Q' = Q → WP md P γ c Q' s) : WP md P γ c Q s := H Q rfl

/-! What was there is as it was. -/
structure Ext (h H : AHeap) : Prop where
  len : h.length ≤ H.length
  keep : ∀ i, i < h.length → H[i]? = h[i]?

theorem Ext.refl (h : AHeap) : Ext h h := ⟨Nat.le_refl _, fun _ _ => rfl⟩
theorem Ext.app {h H : AHeap} (e : Ext h H) (t : AHeap) : Ext h (H ++ t) :=
  ⟨by rw [List.length_append]; exact Nat.le_trans e.len (Nat.le_add_right _ _), fun i hi => by rw [List.getElem?_append_left (Nat.lt_of_lt_of_le hi e.len)]; exact e.keep i hi⟩
theorem Ext.set {h H : AHeap} (e : Ext h H) {j : Nat} (hj : h.length ≤ j) (ob : AObj) : Ext h (H.set j ob) :=
  ⟨by rw [List.length_set]; exact e.len, fun i hi => by rw [List.getElem?_set_ne (by omega)]; exact e.keep i hi⟩
theorem Ext.trans {h H K : AHeap} (e : Ext h H) (f : Ext H K) : Ext h K :=
  ⟨Nat.le_trans e.len f.len, fun i hi => (f.keep i (Nat.lt_of_lt_of_le hi e.len)).trans (e.keep i hi)⟩
theorem Ext.get {h H : AHeap} (e : Ext h H) {i : Nat} {ob : AObj} (hi : h[i]? = some ob) : H[i]? = some ob := by
  rw [e.keep i (List.getElem?_eq_some_iff.1 hi).1]; exact hi

theorem exit_ext {h H : AHeap} {v : Value} (e : Ext h H) (hv : cOk v = true) : ExitOk h H v v h :=
  ⟨[], by simp, by simp, by simp, cOk_rel hv, fun id ob' ho hl => by
    have hlt := (List.getElem?_eq_some_iff.1 ho).1
    refine ⟨ob', ?_, hl, rfl, rfl, rfl, .inl ⟨hlt, ho, rfl⟩⟩
    unfold ren
    rw [if_pos hlt]; exact e.get ho⟩

theorem exit_rr {h H : AHeap} {v v1 : Value} (e : Ext h H) (hv : RR (ren h.length [] H.length) v v1) : ExitOk h H v1 v h :=
  ⟨[], by simp, by simp, by simp, hv, fun id ob' ho hl => by
    have hlt := (List.getElem?_eq_some_iff.1 ho).1
    refine ⟨ob', ?_, hl, rfl, rfl, rfl, .inl ⟨hlt, ho, rfl⟩⟩
    unfold ren
    rw [if_pos hlt]; exact e.get ho⟩

theorem rr_scal {ρ : Nat → Nat} {v : Value} (h : scal v = true) : RR ρ v v := scal_rel h
theorem rr_ok {ρ : Nat → Nat} {v : Value} (h : cOk v = true) : RR ρ v v := cOk_rel h
theorem ren_new (h : AHeap) (j : Nat) (js : List Nat) (big : Nat) : ren h.length (j :: js) big h.length = j := by
  unfold ren; rw [if_neg (Nat.lt_irrefl _), Nat.sub_self]; rfl
theorem ren_old {h : AHeap} {i : Nat} (hi : i < h.length) (js : List Nat) (big : Nat) : ren h.length js big i = i := by
  unfold ren; rw [if_pos hi]
theorem rr_slice {ρ : Nat → Nat} {i j o n c : Nat} (h : ρ i = j) : RR ρ (.slice (some ⟨i, o, none⟩) n c) (.slice (some ⟨j, o, none⟩) n c) :=
  .slice ⟨by simp only; rw [h], rfl⟩
theorem rr_ptr {ρ : Nat → Nat} {i j o : Nat} (h : ρ i = j) : RR ρ (.pointer (some ⟨i, o, none⟩)) (.pointer (some ⟨j, o, none⟩)) :=
  .ptr (by simp only; rw [h])
theorem rr_tuple2 {ρ : Nat → Nat} {a b a' b' : Value} (h1 : RR ρ a a') (h2 : RR ρ b b') : RR ρ (.tuple #[a, b]) (.tuple #[a', b']) := by
  refine .tuple rfl fun i x y hx hy => ?_
  match i with
  | 0 => simp at hx hy; subst hx hy; exact h1
  | 1 => simp at hx hy; subst hx hy; exact h2
  | n + 2 => simp at hx
theorem rr_tuple3 {ρ : Nat → Nat} {a b c a' b' c' : Value} (h1 : RR ρ a a') (h2 : RR ρ b b') (h3 : RR ρ c c') : RR ρ (.tuple #[a, b, c]) (.tuple #[a', b', c']) := by
  refine .tuple rfl fun i x y hx hy => ?_
  match i with
  | 0 => simp at hx hy; subst hx hy; exact h1
  | 1 => simp at hx hy; subst hx hy; exact h2
  | 2 => simp at hx hy; subst hx hy; exact h3
  | n + 3 => simp at hx

/-- One new object is handed on, of flat cells. -/
theorem exit_new {h H : AHeap} {v v1 : Value} {j : Nat} {ob : AObj} (e : Ext h H) (hj : h.length ≤ j) (hob : H[j]? = some ob) (hl : ob.live = true) (hflat : ∀ u ∈ ob.cells, cOk u = true)
    (hv : RR (ren h.length [j] H.length) v v1) : ExitOk h H v1 v (h ++ [ob]) := by
  refine ⟨[j], by simp, by simpa using hj, by simp, hv, fun id ob' ho hlive => ?_⟩
  rcases Nat.lt_or_ge id h.length with hlt | hge
  · rw [List.getElem?_append_left hlt] at ho
    exact ⟨ob', by rw [ren_old hlt]; exact e.get ho, hlive, rfl, rfl, rfl, .inl ⟨hlt, ho, rfl⟩⟩
  · have hid : id = h.length := by
      have := (List.getElem?_eq_some_iff.1 ho).1
      simp at this; omega
    subst hid
    simp at ho; subst ho
    refine ⟨ob, by rw [ren_new]; exact hob, hl, rfl, rfl, rfl, .inr fun k u hk => ⟨u, hk, rr_ok (hflat u (List.mem_of_getElem? hk))⟩⟩

/-- An object of the caller's is gone; one new object is handed on, of flat cells. -/
theorem exit_moved {h H : AHeap} {v v1 : Value} {i j : Nat} {ob od : AObj} (hlen : h.length ≤ H.length) (hkeep : ∀ k, k < h.length → k ≠ i → H[k]? = h[k]?) (hd : od.live = false) (hj : h.length ≤ j) (hob : H[j]? = some ob) (hl : ob.live = true) (hflat : ∀ u ∈ ob.cells, cOk u = true)
    (hv : RR (ren h.length [j] H.length) v v1) : ExitOk h H v1 v (h.set i od ++ [ob]) := by
  refine ⟨[j], by simp, by simpa using hj, by simp, hv, fun id ob' ho hlive => ?_⟩
  rcases Nat.lt_or_ge id h.length with hlt | hge
  · rw [List.getElem?_append_left (by simpa using hlt)] at ho
    by_cases hid : id = i
    · subst hid
      simp [hlt] at ho; subst ho; rw [hd] at hlive; simp at hlive
    · rw [List.getElem?_set_ne (Ne.symm hid)] at ho
      exact ⟨ob', by rw [ren_old hlt, hkeep id hlt hid]; exact ho, hlive, rfl, rfl, rfl, .inl ⟨hlt, ho, rfl⟩⟩
  · have hid : id = h.length := by
      have := (List.getElem?_eq_some_iff.1 ho).1
      simp at this; omega
    subst hid
    have h0 : (h.set i od ++ [ob])[h.length]? = some ob := by
      rw [List.getElem?_append_right (by simp)]; simp
    rw [h0] at ho; cases ho
    refine ⟨ob, by rw [ren_new]; exact hob, hl, rfl, rfl, rfl, .inr fun k u hk => ⟨u, hk, rr_ok (hflat u (List.mem_of_getElem? hk))⟩⟩

end Go.Vx
