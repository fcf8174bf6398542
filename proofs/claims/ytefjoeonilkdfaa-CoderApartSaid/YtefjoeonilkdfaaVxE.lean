/- A part of the proof: what it shows stands in its theorems. No condition beyond those that they name. -/
import Derived.Test.YtefjoeonilkdfaaVxD
namespace Go.Vx
set_option linter.unusedSimpArgs false
set_option linter.unusedVariables false
section
variable {P : Program} {γ : Nat → Option Nat} {o : Oper} {env : Env} {h : AHeap} {g : Bool} {K : Value → AHeap → Prop}

theorem s_extract {x : Operand} {i : Nat} (ho : o.op = .extract x i) (H : OpVC P γ env h g (.extract x i) K) : Good P γ o env h g K := by
  obtain ⟨gx, u, hex, hgx, H1⟩ := Use.out H
  clear H
  split at H1
  · rename_i vs
    split at H1
    · rename_i v hv
      refine good_pure H1 fun ht β a w hh hr => ?_
      have e1 := hr x (by simp [ho, Op.operands]) gx _ hex (hgx ht)
      generalize hcv : a.eval x = cv at e1
      cases e1 with
      | tuple he hall =>
        rename_i ys
        have hi : i < vs.size := (Array.getElem?_eq_some_iff.1 hv).1
        refine ⟨ys[i]'(he ▸ hi), ?_, hall i v _ hv (Array.getElem?_eq_getElem (he ▸ hi))⟩
        simp [execOp, ho, hcv, Instr.extract, he ▸ hi]
    · first | exact H1.elim | exact good_skip H1
  · first | exact H1.elim | exact good_skip H1

theorem s_fieldAddr {s : TypeId} {x : Operand} {f off : Nat} {fs : Array Field} {fd : Field} (ho : o.op = .fieldAddr s x f) (hu : P.underlying s = some (.struct fs)) (hf : fs[f]? = some fd) (hoff : fd.offset = off)
    (hz : ((P.info? fd.type).map (fun i => i.size != 0)) = some true) (H : OpVC P γ env h g (.fieldAddr off x) K) : Good P γ o env h g K := by
  obtain ⟨gx, u, hex, hgx, H1⟩ := Use.out H
  clear H
  split at H1
  · rename_i id off'
    refine good_pure H1 fun ht β a w hh hr => ?_
    have e1 := hr x (by simp [ho, Op.operands]) gx _ hex (hgx ht)
    generalize hcv : a.eval x = cv at e1
    cases e1 with
    | ptr hp =>
      obtain ⟨L, h1, rfl⟩ := hp
      cases hi : P.info? fd.type with
      | none => simp [hi] at hz
      | some i =>
        simp [hi] at hz
        have hadd : (⟨L.blk, L.base + off', none⟩ : Addr).add off = ⟨L.blk, L.base + (off' + off), none⟩ := by unfold Addr.add; split <;> simp_all [Nat.add_assoc]
        refine ⟨.pointer (some ⟨L.blk, L.base + (off' + off), none⟩), ?_, .ptr ⟨L, h1, rfl⟩⟩
        simp [execOp, ho, hcv, Instr.fieldAt, run_underlying hu, hf, Instr.sureAddr, fieldPlace, sizeOf, typeInfo, hi, hz, hoff, hadd]
  · first | exact H1.elim | exact good_skip H1

theorem s_idxSl {t e : TypeId} {esz : Nat} {x i : Operand} (ho : o.op = .indexAddr t x i) (hu : P.underlying t = some (.slice e)) (hn : (P.info? e).map (·.size) = some esz) (H : OpVC P γ env h g (.idxSl esz x i) K) : Good P γ o env h g K := by
  obtain ⟨gx, u, hex, hgx, H1⟩ := Use.out H
  clear H
  obtain ⟨gy, v, hey, hgy, H⟩ := Use.out H1
  clear H1
  split at H
  · rename_i id off n c k j
    obtain ⟨hc, hK⟩ := H
    refine good_pure hK fun ht β a w hh hr => ?_
    have e1 := hr x (by simp [ho, Op.operands]) gx _ hex (hgx ht)
    have e2 := scal_eq (hr i (by simp [ho, Op.operands]) gy _ hey (hgy ht)) rfl
    generalize hcv : a.eval x = cv at e1
    cases e1 with
    | slice hp =>
      obtain ⟨L, h1, rfl, _⟩ := hp
      have hadd : (⟨L.blk, L.base + off, none⟩ : Addr).add (j.toNat * esz) = ⟨L.blk, L.base + (off + j.toNat * esz), none⟩ := by unfold Addr.add; split <;> simp_all [Nat.add_assoc]
      refine ⟨.pointer (some ⟨L.blk, L.base + (off + j.toNat * esz), none⟩), ?_, .ptr ⟨L, h1, rfl⟩⟩
      simp [execOp, ho, hcv, e2, Instr.indexAt, asIntOf, run_underlying hu, hc ht, run_size hn, hadd]
  · first | exact H.elim | exact good_skip H

theorem s_idxArr {t e : TypeId} {n esz : Nat} {x i : Operand} (ho : o.op = .indexAddr t x i) (hu : P.underlying t = some (.array n e)) (hn : (P.info? e).map (·.size) = some esz) (H : OpVC P γ env h g (.idxArr n esz x i) K) : Good P γ o env h g K := by
  obtain ⟨gx, u, hex, hgx, H1⟩ := Use.out H
  clear H
  obtain ⟨gy, v, hey, hgy, H⟩ := Use.out H1
  clear H1
  split at H
  · rename_i id off k j
    obtain ⟨hc, hK⟩ := H
    refine good_pure hK fun ht β a w hh hr => ?_
    have e1 := hr x (by simp [ho, Op.operands]) gx _ hex (hgx ht)
    have e2 := scal_eq (hr i (by simp [ho, Op.operands]) gy _ hey (hgy ht)) rfl
    generalize hcv : a.eval x = cv at e1
    cases e1 with
    | ptr hp =>
      obtain ⟨L, h1, rfl⟩ := hp
      have hadd : (⟨L.blk, L.base + off, none⟩ : Addr).add (j.toNat * esz) = ⟨L.blk, L.base + (off + j.toNat * esz), none⟩ := by unfold Addr.add; split <;> simp_all [Nat.add_assoc]
      refine ⟨.pointer (some ⟨L.blk, L.base + (off + j.toNat * esz), none⟩), ?_, .ptr ⟨L, h1, rfl⟩⟩
      simp [execOp, ho, hcv, e2, Instr.indexAt, Instr.sureAddr, asIntOf, run_underlying hu, hc ht, run_size hn, hadd]
  · first | exact H.elim | exact good_skip H

theorem s_idxStr {t : TypeId} {x i : Operand} (ho : o.op = .index t x i) (hu : P.underlying t = some .string) (H : OpVC P γ env h g (.idxStr x i) K) : Good P γ o env h g K := by
  obtain ⟨gx, u, hex, hgx, H1⟩ := Use.out H
  clear H
  obtain ⟨gy, v, hey, hgy, H⟩ := Use.out H1
  clear H1
  split at H
  · rename_i s k j
    obtain ⟨hc, hK⟩ := H
    refine good_pure hK fun ht β a w hh hr => ⟨_, ?_, .int _ _⟩
    have e1 := scal_eq (hr x (by simp [ho, Op.operands]) gx _ hex (hgx ht)) rfl
    have e2 := scal_eq (hr i (by simp [ho, Op.operands]) gy _ hey (hgy ht)) rfl
    obtain ⟨h0, h1⟩ := hc ht
    have hlt : j.toNat < s.size := by omega
    have hg : s[j.toNat]? = some (s.data.toList.getD j.toNat 0) := by
      rw [getElem?_pos s j.toNat hlt]
      congr 1
      rw [List.getD_eq_getElem?_getD, List.getElem?_eq_getElem (by simpa using hlt)]
      rfl
    simp [execOp, ho, e1, e2, Instr.index, asIntOf, run_underlying hu, h0, hg]
  · first | exact H.elim | exact good_skip H

theorem s_fld1 {t : TypeId} {x : Operand} {f off : Nat} {fs : Array Field} {fd : Field} (ho : o.op = .field t x f) (hu : P.underlying t = some (.struct fs)) (hf : fs[f]? = some fd) (hoff : fd.offset = off)
    (ha : aggT P fd.type = some false) (H : OpVC P γ env h g (.fld off none x) K) : Good P γ o env h g K := by
  obtain ⟨gx, u, hex, hgx, H1⟩ := Use.out H
  clear H
  cases u with
  | agg xs =>
    cases hv : xs[off]? with
    | none => simp [hv] at H1; exact good_skip H1
    | some v =>
      simp only [hv] at H1
      refine good_pure H1 fun ht β a w hh hr => ?_
      have e1 := hr x (by simp [ho, Op.operands]) gx _ hex (hgx ht)
      generalize hcv : a.eval x = cv at e1
      cases e1 with
      | agg he hall =>
        rename_i ys
        have hi : off < xs.size := (Array.getElem?_eq_some_iff.1 hv).1
        refine ⟨ys[off]'(he ▸ hi), ?_, hall off v _ hv (Array.getElem?_eq_getElem (he ▸ hi))⟩
        simp [execOp, ho, hcv, Instr.field, run_underlying hu, hf, asAgg, part, run_isAgg ha, hoff, he ▸ hi]
  | _ => first | exact H1.elim | exact good_skip H1

theorem s_fldN {t : TypeId} {x : Operand} {f off n : Nat} {fs : Array Field} {fd : Field} (ho : o.op = .field t x f) (hu : P.underlying t = some (.struct fs)) (hf : fs[f]? = some fd) (hoff : fd.offset = off)
    (ha : aggT P fd.type = some true) (hn : (P.info? fd.type).map (·.size) = some n) (H : OpVC P γ env h g (.fld off (some n) x) K) : Good P γ o env h g K := by
  obtain ⟨gx, u, hex, hgx, H1⟩ := Use.out H
  clear H
  cases u with
  | agg xs =>
    refine good_pure H1 fun ht β a w hh hr => ?_
    have e1 := hr x (by simp [ho, Op.operands]) gx _ hex (hgx ht)
    generalize hcv : a.eval x = cv at e1
    cases e1 with
    | agg he hall =>
      rename_i ys
      refine ⟨.agg (ys.extract off (off + n)), ?_, .agg (by simp [he]) fun i a b h1 h2 => ?_⟩
      · simp [execOp, ho, hcv, Instr.field, run_underlying hu, hf, asAgg, part, run_isAgg ha, run_size hn, hoff]
      · rw [Array.getElem?_extract] at h1 h2
        split at h1
        · split at h2
          · exact hall _ _ _ h1 h2
          · simp at h2
        · simp at h1
  | _ => first | exact H1.elim | exact good_skip H1

theorem s_idxAgg {t e : TypeId} {n esz : Nat} {x i : Operand} (ho : o.op = .index t x i) (hu : P.underlying t = some (.array n e)) (ha : aggT P e = some false) (hn : (P.info? e).map (·.size) = some esz) (H : OpVC P γ env h g (.idxAgg n esz x i) K) : Good P γ o env h g K := by
  obtain ⟨gx, u, hex, hgx, H1⟩ := Use.out H
  clear H
  obtain ⟨gy, v, hey, hgy, H⟩ := Use.out H1
  clear H1
  split at H
  · rename_i xs k j
    obtain ⟨hc, hK⟩ := H
    refine good_pure hK fun ht β a w hh hr => ?_
    have e1 := hr x (by simp [ho, Op.operands]) gx _ hex (hgx ht)
    have e2 := scal_eq (hr i (by simp [ho, Op.operands]) gy _ hey (hgy ht)) rfl
    obtain ⟨h0, h1, h2⟩ := hc ht
    generalize hcv : a.eval x = cv at e1
    cases e1 with
    | agg he hall =>
      rename_i ys
      have hlt : j.toNat * esz < ys.size := he ▸ h2
      refine ⟨ys[j.toNat * esz], ?_, hall _ _ _ (by rw [Array.getD_eq_getD_getElem?, Array.getElem?_eq_getElem h2]; rfl) (Array.getElem?_eq_getElem hlt)⟩
      simp [execOp, ho, hcv, e2, Instr.index, asIntOf, run_underlying hu, h0, h1, part, run_isAgg ha, run_size hn, hlt]
  · first | exact H.elim | exact good_skip H

theorem s_lenSl {t e : TypeId} {ts : Array TypeId} {x : Operand} (ho : o.op = .call { callee := .builtin .len, args := #[x], argTypes := ts }) (ht0 : ts[0]? = some t) (hu : P.underlying t = some (.slice e)) (H : OpVC P γ env h g (.lenSl x) K) : Good P γ o env h g K := by
  obtain ⟨gx, u, hex, hgx, H1⟩ := Use.out H
  clear H
  split at H1
  · refine good_pure H1 fun ht β a w hh hr => ⟨_, ?_, .int _ _⟩
    have e1 := hr x (by simp [ho, Op.operands, Call.operands]) gx _ hex (hgx ht)
    generalize hcv : a.eval x = cv at e1
    cases e1 <;> simp [execOp, ho, resolve, invoke, builtin, Builtin.len_, hcv, ht0, run_underlying hu, goInt]
  · first | exact H1.elim | exact good_skip H1

theorem s_lenStr {t : TypeId} {ts : Array TypeId} {x : Operand} (ho : o.op = .call { callee := .builtin .len, args := #[x], argTypes := ts }) (ht0 : ts[0]? = some t) (hu : P.underlying t = some .string) (H : OpVC P γ env h g (.lenStr x) K) : Good P γ o env h g K := by
  obtain ⟨gx, u, hex, hgx, H1⟩ := Use.out H
  clear H
  split at H1
  · refine good_pure H1 fun ht β a w hh hr => ⟨_, ?_, .int _ _⟩
    have e1 := scal_eq (hr x (by simp [ho, Op.operands, Call.operands]) gx _ hex (hgx ht)) rfl
    simp [execOp, ho, resolve, invoke, builtin, Builtin.len_, e1, ht0, run_underlying hu, goInt]
  · first | exact H1.elim | exact good_skip H1

theorem s_lenArr {t e : TypeId} {n : Nat} {ts : Array TypeId} {x : Operand} (ho : o.op = .call { callee := .builtin .len, args := #[x], argTypes := ts }) (ht0 : ts[0]? = some t)
    (hu : P.underlying t = some (.array n e) ∨ ∃ r, P.underlying t = some (.pointer r) ∧ P.underlying r = some (.array n e)) (H : OpVC P γ env h g (.lenArr n) K) : Good P γ o env h g K := by
  refine good_pure H fun ht β a w hh hr => ⟨_, ?_, .int _ _⟩
  rcases hu with hu | ⟨r, hu, hu2⟩
  · simp [execOp, ho, resolve, invoke, builtin, Builtin.len_, ht0, run_underlying hu, goInt]
  · simp [execOp, ho, resolve, invoke, builtin, Builtin.len_, ht0, run_underlying hu, run_underlying hu2, goInt]

theorem s_mkfunc {f : FuncId} {caps : Array Operand} (ho : o.op = .makeFunc (.func f) #[] caps) (H : OpVC P γ env h g (.mkfunc f caps.toList) K) : Good P γ o env h g K := by
  obtain ⟨vs, hl, hK, hall⟩ := Uses.out H
  refine good_pure hK fun ht β a w hh hr => ⟨.func (.func f) #[] (caps.map a.eval), ?_, .func _ (by simpa using hl) fun i u c h1 h2 => ?_⟩
  · simp [execOp, ho, Instr.makeFunc]
  · simp only [Array.getElem?_map, Option.map_eq_some_iff] at h2
    obtain ⟨x, hx, rfl⟩ := h2
    obtain ⟨gx, he, hg⟩ := hall i x u (by simpa using hx) (by simpa using h1)
    exact hr x (by simp [ho, Op.operands]; exact Array.mem_of_getElem? hx) gx _ he (hg ht)

theorem s_nilchk {x : Operand} (ho : o.op = .nilCheck x) (H : OpVC P γ env h g (.nilchk x) K) : Good P γ o env h g K := by
  obtain ⟨gx, u, hex, hgx, H1⟩ := Use.out H
  clear H
  split at H1
  · refine good_pure H1 fun ht β a w hh hr => ?_
    have e1 := hr x (by simp [ho, Op.operands]) gx _ hex (hgx ht)
    refine ⟨a.eval x, ?_, e1⟩
    generalize hcv : a.eval x = cv at e1
    cases e1; simp [execOp, ho, hcv]
  · refine good_pure H1 fun ht β a w hh hr => ?_
    have e1 := hr x (by simp [ho, Op.operands]) gx _ hex (hgx ht)
    refine ⟨a.eval x, ?_, e1⟩
    generalize hcv : a.eval x = cv at e1
    cases e1; simp [execOp, ho, hcv]
  · first | exact H1.elim | exact good_skip H1

/-- A call of a function of the program. -/
theorem s_enter {f : FuncId} {vs : List Value} {xs : Array Operand} (hcall : ∀ (a : Act) (w : World), ∃ cargs : Array Value, (execOp a.eval o).run P w = .ok (.enter f cargs) w ∧ ∀ β, (∀ x ∈ o.op.operands.toList, Reads γ β env a x) → g = true → cargs.size = vs.length ∧ ∀ (i : Nat) x c, vs[i]? = some x → cargs[i]? = some c → VRel β x c)
    {v : Value} {h' : AHeap} (hc : g = true → ACall P γ f vs h v h') (hg : g = true ∨ h' = h) (hK : K v h') : Good P γ o env h g K := by
  refine ⟨v, h', hK, fun ht β a w hh hr K' Q hK' => ?_, hg⟩
  obtain ⟨cargs, h1, h2⟩ := hcall a w
  obtain ⟨h3, h4⟩ := h2 β hr ht
  unfold Oper.wp
  rw [h1, Oper.upon_enter]
  refine (hc ht β w cargs hh h3 h4).mono ?_
  rintro e w' ⟨cv, β', rfl, h5, h6, h7⟩
  exact hK' cv w' β' h5 h6 h7

theorem run_callFunc {f : FuncId} {fn : Func} {c : Code} (hf : P.funcs[f]? = some fn) (hname : (fn.name == "runtime.NumGoroutine") = false) (hb : fn.body = some c) (args : Array Value) (w : World) : (callFunc f args).run P w = .ok (.enter f args) w := by
  have hn : ¬ fn.name = "runtime.NumGoroutine" := by simpa using hname
  simp [callFunc, program, Sem.run, hf, hn, hb]

theorem s_call {f : FuncId} {args : Array Operand} {ts : Array TypeId} {fn : Func} {c : Code} (ho : o.op = .call { callee := .value (.func f), args := args, argTypes := ts }) (hf : P.funcs[f]? = some fn) (hname : (fn.name == "runtime.NumGoroutine") = false) (hb : fn.body = some c)
    (H : OpVC P γ env h g (.call f args.toList) K) : Good P γ o env h g K := by
  obtain ⟨vs, hl, ⟨v, h', hc, hg, hK⟩, hall⟩ := Uses.out H
  refine s_enter (xs := args) (fun a w => ⟨args.map a.eval, ?_, fun β hr ht => ⟨by simp [hl], fun i u c h1 h2 => ?_⟩⟩) hc hg hK
  · have := run_callFunc hf hname hb (args.map a.eval) w
    simp [execOp, ho, resolve, Act.eval, Deferred.ofValue, invoke]
    exact this
  · simp only [Array.getElem?_map, Option.map_eq_some_iff] at h2
    obtain ⟨x, hx, rfl⟩ := h2
    obtain ⟨gx, he, hg⟩ := hall i x u (by simpa using hx) (by simpa using h1)
    exact hr x (by simp [ho, Op.operands, Call.operands]; exact .inr (Array.mem_of_getElem? hx)) gx _ he (hg ht)

theorem s_calln {f : FuncId} {args : Array Operand} {ts : Array TypeId} {fn : Func} {c : Code} (ho : o.op = .call { callee := .value (.func f), args := args, argTypes := ts }) (hf : P.funcs[f]? = some fn) (hname : (fn.name == "runtime.NumGoroutine") = false) (hb : fn.body = some c)
    (H : OpVC P γ env h true (.calln f args.toList) K) : ∃ Post, OpSemN P γ o env h Post ∧ ∀ v h', Post v h' → K v h' := by
  obtain ⟨vs, hl, ⟨_, Post, hc, hK⟩, hall⟩ := Uses.out H
  refine ⟨Post, fun β a w hh hr K' Q hK' => ?_, hK⟩
  have hrun : (execOp a.eval o).run P w = .ok (.enter f (args.map a.eval)) w := by
    have := run_callFunc hf hname hb (args.map a.eval) w
    simp [execOp, ho, resolve, Act.eval, Deferred.ofValue, invoke]
    exact this
  unfold Oper.wp
  rw [hrun, Oper.upon_enter]
  refine (hc β w _ hh (by simp [hl]) fun i u c h1 h2 => ?_).mono ?_
  · simp only [Array.getElem?_map, Option.map_eq_some_iff] at h2
    obtain ⟨x, hx, rfl⟩ := h2
    obtain ⟨gx, he, hg⟩ := hall i x u (by simpa using hx) (by simpa using h1)
    exact hr x (by simp [ho, Op.operands, Call.operands]; exact .inr (Array.mem_of_getElem? hx)) gx _ he (hg rfl)
  · rintro e w' ⟨v, h', cv, β', h4, rfl, h5, h6, h7⟩
    exact hK' v h' cv w' β' h4 h5 h6 h7

theorem s_callv {x : Operand} {args : Array Operand} {ts : Array TypeId} (ho : o.op = .call { callee := .value x, args := args, argTypes := ts })
    (H : OpVC P γ env h g (.callv x args.toList) K) : Good P γ o env h g K := by
  obtain ⟨gx, u, hex, hgx, H1⟩ := Use.out H
  clear H
  obtain ⟨vs, hl, H, hall⟩ := Uses.out H1
  clear H1
  split at H
  · rename_i f first caps
    obtain ⟨hfirst, ⟨fn, c, hf, hname, hb⟩, v, h', hc, hg, hK⟩ := H
    refine ⟨v, h', hK, fun ht β a w hh hr K' Q hK' => ?_, hg⟩
    have e1 := hr x (by simp [ho, Op.operands, Call.operands]) gx _ hex (hgx ht)
    generalize hcv : a.eval x = cv at e1
    cases e1 with
    | func _ he hcaps =>
      rename_i ys
      have hrun : (execOp a.eval o).run P w = .ok (.enter f (args.map a.eval ++ ys)) w := by
        have := run_callFunc hf hname hb (args.map a.eval ++ ys) w
        simp [execOp, ho, resolve, hcv, Deferred.ofValue, invoke]
        exact this
      unfold Oper.wp
      rw [hrun, Oper.upon_enter]
      refine (hc ht β w _ hh (by simp [hl, he]) fun i u c h1 h2 => ?_).mono ?_
      · have hl' : vs.length = args.size := by simpa using hl
        by_cases hi : i < args.size
        · rw [List.getElem?_append_left (by omega)] at h1
          rw [Array.getElem?_append_left (by simpa using hi)] at h2
          simp only [Array.getElem?_map, Option.map_eq_some_iff] at h2
          obtain ⟨y, hy, rfl⟩ := h2
          obtain ⟨gy, he, hg⟩ := hall i y u (by simpa using hy) h1
          exact hr y (by simp [ho, Op.operands, Call.operands]; exact .inr (Array.mem_of_getElem? hy)) gy _ he (hg ht)
        · rw [List.getElem?_append_right (by omega)] at h1
          rw [Array.getElem?_append_right (by simpa using hi)] at h2
          refine hcaps (i - vs.length) u c (by simpa using h1) ?_
          rw [hl']; simpa using h2
      · rintro e w' ⟨cv, β', rfl, h5, h6, h7⟩
        exact hK' cv w' β' h5 h6 h7
  · first | exact H.elim | exact good_skip H
end
end Go.Vx
