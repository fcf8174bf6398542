/- A part of the proof: what it shows stands in its theorems. No condition beyond those that they name. -/
import Derived.Test.YtefjoeonilkdfaaVxC
namespace Go.Vx
set_option linter.unusedSimpArgs false
set_option linter.unusedVariables false

/-! That each instruction does what is told of it. -/

def Good (P : Program) (γ : Nat → Option Nat) (o : Oper) (env : Env) (h : AHeap) (g : Bool) (K : Value → AHeap → Prop) : Prop :=
  ∃ v h', K v h' ∧ (g = true → OpSem P γ o env h v h') ∧ (g = true ∨ h' = h)

theorem good_of {P : Program} {γ : Nat → Option Nat} {o : Oper} {env : Env} {h : AHeap} {g : Bool} {K : Value → AHeap → Prop} {v : Value} {h' : AHeap} (hK : K v h') (hg : g = true ∨ h' = h)
    (H : g = true → ∀ (β : LMap) (a : Act) (w : World), HRel γ β h w → (∀ x ∈ o.op.operands.toList, Reads γ β env a x) →
      ∃ cv w' β', (execOp a.eval o).run P w = .ok (.value cv) w' ∧ VRel β' v cv ∧ HRel γ β' h' w' ∧ Fr β h w β' h' w') : Good P γ o env h g K := by
  refine ⟨v, h', hK, fun ht β a w hh hr K Q hK' => ?_, hg⟩
  obtain ⟨cv, w', β', h1, h2, h3, h4⟩ := H ht β a w hh hr
  unfold Oper.wp
  rw [h1, Oper.upon_value]
  exact hK' cv w' β' h2 h3 h4

theorem good_pure {P : Program} {γ : Nat → Option Nat} {o : Oper} {env : Env} {h : AHeap} {g : Bool} {K : Value → AHeap → Prop} {v : Value} (hK : K v h)
    (H : g = true → ∀ (β : LMap) (a : Act) (w : World), HRel γ β h w → (∀ x ∈ o.op.operands.toList, Reads γ β env a x) →
      ∃ cv, (execOp a.eval o).run P w = .ok (.value cv) w ∧ VRel β v cv) : Good P γ o env h g K := by
  refine good_of hK (.inr rfl) fun ht β a w hh hr => ?_
  obtain ⟨cv, h1, h2⟩ := H ht β a w hh hr
  exact ⟨cv, w, β, h1, h2, hh, Fr.refl _ _ _⟩

theorem scal_eq {rp : Addr → Addr → Prop} {rs : Addr → Nat → Addr → Nat → Prop} {v u : Value} (h : VR rp rs v u) (hs : scal v = true) : u = v := by
  cases h <;> simp_all [scal]

theorem good_skip {P : Program} {γ : Nat → Option Nat} {o : Oper} {env : Env} {h : AHeap} {g : Bool} {K : Value → AHeap → Prop} (H : g = false ∧ K undef h) : Good P γ o env h g K :=
  ⟨undef, h, H.2, fun ht => by rw [H.1] at ht; simp at ht, .inr rfl⟩

section
variable {P : Program} {γ : Nat → Option Nat} {o : Oper} {env : Env} {h : AHeap} {g : Bool} {K : Value → AHeap → Prop}

theorem s_mov {x : Operand} (ho : o.op = .move x ∨ o.op = .assign x) (H : OpVC P γ env h g (.mov x) K) : Good P γ o env h g K := by
  obtain ⟨gx, v, he, hg, hK⟩ := Use.out H
  refine good_pure hK fun ht β a w hh hr => ⟨a.eval x, ?_, hr x ?_ gx v he (hg ht)⟩
  · rcases ho with ho | ho <;> simp [execOp, ho]
  · rcases ho with ho | ho <;> simp [ho, Op.operands]

theorem s_pick {c x y : Operand} (ho : o.op = .pick c x y) (H : OpVC P γ env h g (.pick c x y) K) : Good P γ o env h g K := by
  obtain ⟨gc, vc, hec, hgc, H⟩ := Use.out H
  split at H
  · rename_i t
    split at H
    · rename_i ga va gb vb hea heb
      obtain ⟨h1, h2, hK⟩ := H
      refine good_pure hK fun ht β a w hh hr => ?_
      have rc := hr c (by simp [ho, Op.operands]) gc _ hec (hgc ht)
      have hc : a.eval c = .bool t := scal_eq rc rfl
      have ra := hr x (by simp [ho, Op.operands]) ga _ hea
      have rb := hr y (by simp [ho, Op.operands]) gb _ heb
      cases t with
      | true =>
        have ra := ra (h1 ht rfl)
        refine ⟨a.eval x, by simp [execOp, ho, hc, asBool], ?_⟩
        split <;> simp_all
      | false =>
        have rb := rb (h2 ht rfl)
        refine ⟨a.eval y, by simp [execOp, ho, hc, asBool], ?_⟩
        split <;> simp_all
    · first | exact H.elim | exact good_skip H
  · first | exact H.elim | exact good_skip H

theorem run_binV {op : BinOp} {u v r : Value} {c : Prop} {t yt : TypeId} {x y : Operand} (hb : binV op u v = some (c, r)) (hc : c) (w : World) :
    (do eqGuard op t x y u v; binOp op t u v : Sem Value).run P w = .ok r w := by
  unfold binV at hb
  split at hb <;> (try split at hb) <;> simp only [Option.some.injEq, Prod.mk.injEq, reduceCtorEq] at hb <;> obtain ⟨rfl, rfl⟩ := hb <;> subst_vars
  case h_1 => simp [eqGuard, binOp, Op.shift]; omega
  case h_2 => simp [eqGuard, binOp, Op.shift]; omega
  all_goals first
    | (simp [eqGuard, binOp, Op.intArith, Op.intBits, Op.intCmp, Op.stringOp, Op.intDiv, hc]; done)
    | (simp [eqGuard_at_int, eqGuard_at_string, binOp, Op.intArith, Op.intBits, Op.intCmp, Op.stringOp, Op.intDiv, hc]; done)

theorem binV_scal {op : BinOp} {u v r : Value} {c : Prop} (hb : binV op u v = some (c, r)) : scal u = true ∧ scal v = true ∧ scal r = true := by
  unfold binV at hb
  split at hb <;> (try split at hb) <;> simp only [Option.some.injEq, Prod.mk.injEq, reduceCtorEq] at hb <;> obtain ⟨rfl, rfl⟩ := hb <;> simp [scal]

theorem s_bin {op : BinOp} {t yt : TypeId} {x y : Operand} (ho : o.op = .binOp op t x y yt) (H : OpVC P γ env h g (.bin op x y) K) : Good P γ o env h g K := by
  obtain ⟨gx, u, hex, hgx, H1⟩ := Use.out H
  clear H
  obtain ⟨gy, v, hey, hgy, H⟩ := Use.out H1
  clear H1
  split at H
  · rename_i c r hb
    obtain ⟨hc, hK⟩ := H
    obtain ⟨s1, s2, s3⟩ := binV_scal hb
    refine good_pure hK fun ht β a w hh hr => ⟨r, ?_, scal_rel s3⟩
    have e1 := scal_eq (hr x (by simp [ho, Op.operands]) gx _ hex (hgx ht)) s1
    have e2 := scal_eq (hr y (by simp [ho, Op.operands]) gy _ hey (hgy ht)) s2
    have he : execOp a.eval o = ((do eqGuard op t x y (a.eval x) (a.eval y); binOp op t (a.eval x) (a.eval y) : Sem Value) >>= fun v => pure (Next.value v)) := by simp only [execOp, ho]
    rw [he, e1, e2, Sem.run_bind, run_binV (P := P) (t := t) (x := x) (y := y) (yt := yt) hb (hc ht) w]; rfl
  · first | exact H.elim | exact good_skip H

theorem s_un {op : UnOp} {t : TypeId} {x : Operand} (ho : o.op = .unOp op t x) (H : OpVC P γ env h g (.un op x) K) : Good P γ o env h g K := by
  obtain ⟨gx, u, hex, hgx, H1⟩ := Use.out H
  clear H
  have H := H1
  clear H1
  split at H
  · refine good_pure H fun ht β a w hh hr => ⟨_, ?_, .bool _⟩
    have e1 := scal_eq (hr x (by simp [ho, Op.operands]) gx _ hex (hgx ht)) rfl
    simp [execOp, ho, e1, Op.unary]
  · refine good_pure H fun ht β a w hh hr => ⟨_, ?_, .int _ _⟩
    have e1 := scal_eq (hr x (by simp [ho, Op.operands]) gx _ hex (hgx ht)) rfl
    simp [execOp, ho, e1, Op.unary, Op.intArith]
  · first | exact H.elim | exact good_skip H

theorem s_conv {k : IntKind} {src dst : TypeId} {x : Operand} (ho : o.op = .convert src dst x) (hs : (P.underlying src).isSome = true) (hd : P.underlying dst = some (.int k)) (H : OpVC P γ env h g (.conv k x) K) : Good P γ o env h g K := by
  obtain ⟨gx, u, hex, hgx, H1⟩ := Use.out H
  clear H
  have H := H1
  clear H1
  split at H
  · rename_i k' n
    refine good_pure H fun ht β a w hh hr => ⟨_, ?_, .int _ _⟩
    have e1 := scal_eq (hr x (by simp [ho, Op.operands]) gx _ hex (hgx ht)) rfl
    obtain ⟨d, hd'⟩ := Option.isSome_iff_exists.mp hs
    simp [execOp, ho, e1, convert, run_underlying hd', run_underlying hd, Conv.intToInt]
  · first | exact H.elim | exact good_skip H


/-! Lookups in memory. -/
theorem LMap.put_self (β : LMap) (id : Nat) (L : Loc) : LMap.put β id L id = some L := if_pos rfl

theorem ptr_at {β : LMap} {w : World} (H : HRel γ β h w) {id off : Nat} {cv : Value} (hv : VRel β (.pointer (some ⟨id, off, none⟩)) cv) {ob : AObj} (hid : h[id]? = some ob) (hl : ob.live = true) :
    ∃ L, β id = some L ∧ cv = .pointer (some ⟨L.blk, L.base + off, none⟩) ∧ ObjAt β w L ob := by
  cases hv with
  | ptr hp =>
    obtain ⟨L, h1, rfl⟩ := hp
    exact ⟨L, h1, rfl, H.live _ _ _ hid hl h1⟩

theorem slice_at {β : LMap} {w : World} (H : HRel γ β h w) {id off n c : Nat} {cv : Value} (hv : VRel β (.slice (some ⟨id, off, none⟩) n c) cv) {ob : AObj} (hid : h[id]? = some ob) (hl : ob.live = true) :
    ∃ L c', β id = some L ∧ cv = .slice (some ⟨L.blk, L.base + off, none⟩) n c' ∧ (L.slack = false → c' = c) ∧ (L.slack = true → c ≤ c' ∧ L.base + off + c' * L.esz ≤ L.bcells) ∧ ObjAt β w L ob := by
  cases hv with
  | slice hp =>
    obtain ⟨L, h1, rfl, h2, h3⟩ := hp
    exact ⟨L, _, h1, rfl, h2, h3, H.live _ _ _ hid hl h1⟩

theorem ObjAt.load1 {β : LMap} {w : World} {L : Loc} {ob : AObj} (H : ObjAt β w L ob) {off : Nat} (ho : off < ob.cells.length) :
    ∃ cv, w.cell? ⟨L.blk, L.base + off, none⟩ = some cv ∧ VRel β (ob.cells.getD off undef) cv := by
  obtain ⟨c, e, fz, hc, _, _, hcell⟩ := H.at_ (.inr (by omega))
  obtain ⟨cv, h1, h2⟩ := hcell off _ (List.getElem?_eq_getElem ho)
  refine ⟨cv, (heapAt w hc _).trans h1, ?_⟩
  rw [List.getD_eq_getElem?_getD, List.getElem?_eq_getElem ho]; exact h2

def aggT (P : Program) (t : TypeId) : Option Bool := (P.underlying t).map fun d => match d with | .struct _ | .array _ _ => true | _ => false

theorem run_isAgg {t : TypeId} {b : Bool} (hb : aggT P t = some b) (w : World) : (isAgg t).run P w = .ok b w := by
  unfold aggT at hb
  cases hu : P.underlying t with
  | none => simp [hu] at hb
  | some d =>
    simp only [hu, Option.map_some, Option.some.injEq] at hb
    simp only [isAgg, Sem.run_bind, run_underlying hu, Result.andThen_ok]
    cases d <;> simp_all

theorem run_size {t : TypeId} {n : Nat} (hn : (P.info? t).map (·.size) = some n) (w : World) : (sizeOf t).run P w = .ok n w := by
  cases hi : P.info? t with
  | none => simp [hi] at hn
  | some i => simp [hi] at hn; simp [sizeOf, typeInfo, hi, hn]

theorem rel_agg {β : LMap} {xs : List Value} {ys : Array Value} (hs : ys.size = xs.length) (hx : ∀ (i : Nat) x, xs[i]? = some x → ∃ y, ys[i]? = some y ∧ VRel β x y) : VRel β (.agg xs.toArray) (.agg ys) := by
  refine .agg (by simp [hs]) fun i x y h1 h2 => ?_
  obtain ⟨y', h3, h4⟩ := hx i x (by simpa using h1)
  rw [h2] at h3; cases h3; exact h4

theorem s_load1 {t : TypeId} {x : Operand} (ho : o.op = .load t x) (ha : aggT P t = some false) (H : OpVC P γ env h g (.load none x) K) : Good P γ o env h g K := by
  obtain ⟨gx, u, hex, hgx, H1⟩ := Use.out H
  clear H
  have H := H1
  clear H1
  split at H
  · rename_i id off
    split at H
    · rename_i ob hid
      obtain ⟨hc, hK⟩ := H
      refine good_pure hK fun ht β a w hh hr => ?_
      obtain ⟨hl, hoff⟩ := hc ht
      obtain ⟨L, h1, h2, h3⟩ := ptr_at hh (hr x (by simp [ho, Op.operands]) gx _ hex (hgx ht)) hid hl
      obtain ⟨cv, h4, h5⟩ := h3.load1 hoff
      refine ⟨cv, ?_, h5⟩
      simp [execOp, ho, h2, Instr.loadAt, Instr.sureAddr, loadVar, run_isAgg ha, load, Sem.run, h4]
    · first | exact H.elim | exact good_skip H
  · first | exact H.elim | exact good_skip H

theorem s_loadN {t : TypeId} {n : Nat} {x : Operand} (ho : o.op = .load t x) (ha : aggT P t = some true) (hn : (P.info? t).map (·.size) = some n) (H : OpVC P γ env h g (.load (some n) x) K) : Good P γ o env h g K := by
  obtain ⟨gx, u, hex, hgx, H1⟩ := Use.out H
  clear H
  have H := H1
  clear H1
  split at H
  · rename_i id off
    split at H
    · rename_i ob hid
      obtain ⟨hc, hK⟩ := H
      refine good_pure hK fun ht β a w hh hr => ?_
      obtain ⟨hl, hoff⟩ := hc ht
      obtain ⟨L, h1, h2, h3⟩ := ptr_at hh (hr x (by simp [ho, Op.operands]) gx _ hex (hgx ht)) hid hl
      obtain ⟨cs, h4, h5, h6⟩ := run_loadObj (P := P) h3 off n hoff
      refine ⟨.agg cs, ?_, rel_agg (by simp [h5]; omega) h6⟩
      simp [execOp, ho, h2, Instr.loadAt, Instr.sureAddr, loadVar, run_isAgg ha, run_size hn, h4]
    · first | exact H.elim | exact good_skip H
  · first | exact H.elim | exact good_skip H

theorem one_cell {β : LMap} {v cv : Value} (hv : VRel β v cv) (h1 : v.cells = #[v]) (h2 : cv.cells = #[cv]) : cv.cells.size = v.cells.toList.length ∧ ∀ (i : Nat) x, v.cells.toList[i]? = some x → ∃ y, cv.cells[i]? = some y ∧ VRel β x y := by
  rw [h1, h2]
  refine ⟨rfl, fun i x hx => ?_⟩
  cases i with
  | zero => simp at hx; subst hx; exact ⟨cv, rfl, hv⟩
  | succ i => simp at hx

theorem VRel.cells {β : LMap} {v cv : Value} (hv : VRel β v cv) : cv.cells.size = v.cells.toList.length ∧ ∀ (i : Nat) x, v.cells.toList[i]? = some x → ∃ y, cv.cells[i]? = some y ∧ VRel β x y := by
  have h0 := hv
  cases hv with
  | agg he hall =>
    rename_i xs ys
    refine ⟨by simp [Value.cells, he], fun i x hx => ?_⟩
    have hx' : xs[i]? = some x := by simpa [Value.cells] using hx
    have hi : i < xs.size := (Array.getElem?_eq_some_iff.1 hx').1
    exact ⟨ys[i]'(he ▸ hi), by simp [Value.cells, he ▸ hi], hall i x _ hx' (Array.getElem?_eq_getElem (he ▸ hi))⟩
  | _ => exact one_cell h0 rfl rfl

theorem over_at : ∀ (vs cs : List Value) (o j : Nat), o + vs.length ≤ cs.length → (over cs o vs)[j]? = if o ≤ j ∧ j < o + vs.length then vs[j - o]? else cs[j]?
  | [], cs, o, j, _ => by simp [over]; omega
  | v :: r, cs, o, j, h => by
    simp only [List.length_cons] at h ⊢
    rw [over, over_at r _ _ _ (by simp; omega)]
    by_cases hq : j = o
    · subst hq
      rw [if_neg (by omega), if_pos (by omega), List.getElem?_set_self (by omega)]
      simp
    · by_cases hq2 : o + 1 ≤ j ∧ j < o + 1 + r.length
      · rw [if_pos hq2, if_pos (by omega)]
        obtain ⟨m, hm⟩ : ∃ m, j - o = m + 1 := ⟨j - o - 1, by omega⟩
        rw [hm, show j - (o + 1) = m by omega]; simp
      · rw [if_neg hq2, if_neg (by omega), List.getElem?_set_ne (by omega)]

theorem over_length : ∀ (vs cs : List Value) (o : Nat), (over cs o vs).length = cs.length
  | [], cs, o => rfl
  | v :: r, cs, o => by rw [over, over_length r]; simp

/-- A row of values stored into an object of one's own. -/
theorem storeObj {β : LMap} {w : World} (H : HRel γ β h w) {id : Nat} {ob : AObj} {L : Loc} (hid : h[id]? = some ob) (hl : ob.live = true) (how : ob.own = true) (hβ : β id = some L)
    (off : Nat) (us : List Value) (cs : List Value) (hlen : off + us.length ≤ ob.cells.length) (hlen2 : cs.length = us.length) (hflat : us.all flat = true)
    (hcs : ∀ (i : Nat) x, us[i]? = some x → ∃ y, cs[i]? = some y ∧ VRel β x y) :
    ∃ w', (storeCells ⟨L.blk, L.base + off, none⟩ cs).run P w = .ok () w' ∧ HRel γ β (h.set id { ob with cells := over ob.cells off us }) w' ∧ Fr β h w β (h.set id { ob with cells := over ob.cells off us }) w' := by
  obtain ⟨s0, e0, hat0⟩ := H.live id ob L hid hl hβ
  obtain ⟨c, e, fz, hc, hb0, hf0, hcell⟩ := hat0 (.inl how)
  have hfit : us.length = 0 ∨ L.base + off + us.length ≤ c.size := by
    cases hu : us with
    | nil => exact .inl rfl
    | cons u r =>
      right
      have hpos : 0 < us.length := by rw [hu]; simp
      rw [← hu]
      have hlt : off + us.length - 1 < ob.cells.length := by omega
      obtain ⟨cv, h5, _⟩ := hcell (off + us.length - 1) _ (List.getElem?_eq_getElem hlt)
      have := (Array.getElem?_eq_some_iff.1 h5).1
      omega
  rcases hfit with h0 | hfit
  · have hus : us = [] := List.length_eq_zero_iff.1 h0
    have hcs' : cs = [] := List.length_eq_zero_iff.1 (by omega)
    subst hus hcs'
    refine ⟨w, rfl, ?_⟩
    have : h.set id { ob with cells := over ob.cells off [] } = h := by
      have hlen : id < h.length := (List.getElem?_eq_some_iff.1 hid).1
      apply List.ext_getElem?
      intro i
      rw [List.getElem?_set]
      split
      · rename_i hi; subst hi; simp [hlen, over]; have := (List.getElem?_eq_some_iff.1 hid).2; rw [this]
      · rfl
    rw [this]
    exact ⟨H, Fr.refl _ _ _⟩
  · have hfl : ∀ v ∈ cs, flat v = true := by
      intro v hv
      obtain ⟨i, hi, rfl⟩ := List.getElem_of_mem hv
      obtain ⟨y, h1, h2⟩ := hcs i (us[i]'(by omega)) (List.getElem?_eq_getElem (by omega))
      rw [List.getElem?_eq_getElem hi] at h1; cases h1
      exact h2.flat (List.all_eq_true.1 hflat _ (List.getElem_mem _))
    obtain ⟨w', h1, t1⟩ := run_storeRow (P := P) (o := L.base + off) cs 0 w c hc (by omega) (fun k _ hk => (hf0 how).2 k (by omega)) hfl
    refine ⟨w', h1, H.write hid hl how hβ hc t1 (splice_size _ _ _) _ fun j v hj => ?_⟩
    rw [over_at _ _ _ _ hlen] at hj
    have hsp : L.base + j < c.size → (splice c (L.base + off + 0) cs)[L.base + j]? = if off ≤ j ∧ j < off + cs.length then cs[j - off]? else c[L.base + j]? := by
      intro hlt
      rw [splice_at _ _ _ _ hlt]
      by_cases hq : off ≤ j ∧ j < off + cs.length
      · rw [if_pos (by omega), if_pos hq, show L.base + j - (L.base + off + 0) = j - off by omega]
      · rw [if_neg (by omega), if_neg hq]
    split at hj
    · rename_i hq
      obtain ⟨y, h2, h3⟩ := hcs _ _ hj
      refine ⟨y, ?_, h3⟩
      rw [hsp (by omega), if_pos (by omega)]; exact h2
    · rename_i hq
      obtain ⟨cv, h2, h3⟩ := hcell _ _ hj
      refine ⟨cv, ?_, h3⟩
      rw [hsp (Array.getElem?_eq_some_iff.1 h2).1, if_neg (by omega)]; exact h2

theorem s_store {t : TypeId} {n : Nat} {x y : Operand} (ho : o.op = .store t x y) (hn : (P.info? t).map (·.size) = some n) (H : OpVC P γ env h g (.store n x y) K) : Good P γ o env h g K := by
  obtain ⟨gx, u, hex, hgx, H1⟩ := Use.out H
  clear H
  obtain ⟨gy, v, hey, hgy, H⟩ := Use.out H1
  clear H1
  split at H
  · rename_i id off
    split at H
    · rename_i ob hid
      obtain ⟨ht, hl, how, hlen, hflat, hoff, hK⟩ := H
      refine ⟨_, _, hK, fun _ β a w hh hr K' Q hK' => ?_, .inl ht⟩
      obtain ⟨L, h1, h2, h3⟩ := ptr_at hh (hr x (by simp [ho, Op.operands]) gx _ hex (hgx ht)) hid hl
      have hv := hr y (by simp [ho, Op.operands]) gy _ hey (hgy ht)
      obtain ⟨hs, hall⟩ := hv.cells
      obtain ⟨w', h4, h5, h6⟩ := storeObj (P := P) hh hid hl how h1 off v.cells.toList (a.eval y).cells.toList (by omega) (by simpa using hs) hflat (fun i x hx => by simpa using hall i x hx)
      have hrun : (execOp a.eval o).run P w = .ok .skip w' := by
        have hcs : (a.eval y).cells.size = n := by rw [hs]; exact hlen
        simp [execOp, ho, h2, Instr.storeAt, Instr.sureAddr, storeVar, run_size hn, hcs, h4]
      unfold Oper.wp
      rw [hrun, Oper.upon_skip]
      exact hK' undef w' β (cOk_rel (v := undef) (by simp [cOk, undef])) h5 h6
    · first | exact H.elim | exact good_skip H
  · first | exact H.elim | exact good_skip H

theorem s_alloc {t : TypeId} {z : Value} {x : Operand} (ho : o.op = .alloc t) (hz : (P.info? t).map (·.zero) = some (some z)) (hc : z.cells.toList.all cOk = true) (H : OpVC P γ env h g (.alloc z.cells.toList) K) : Good P γ o env h g K := by
  obtain ⟨ht, hK⟩ := H
  refine good_of hK (.inl ht) fun _ β a w hh hr => ?_
  obtain ⟨h1, h2, h3⟩ := HRel.new (w' := w.alloc (.cells z.cells t)) hh z.cells t (0, 0) ⟨z.cells.toList, true, true, false, 1⟩ rfl rfl rfl rfl (by simp) (fun j v hj => ⟨v, by simpa using hj, cOk_rel (List.all_eq_true.1 hc v (List.mem_of_getElem? hj))⟩)
  refine ⟨.pointer (some ⟨w.heap.size, 0, none⟩), _, _, ?_, .ptr ⟨_, LMap.put_self _ _ _, rfl⟩, h1, h2⟩
  cases hi : P.info? t with
  | none => simp [hi] at hz
  | some i =>
    simp [hi] at hz
    simp [execOp, ho, Instr.alloc, zeroValue, typeInfo, hi, hz, newVar, newRow, newObj, Sem.run]

theorem s_box {t : TypeId} {x : Operand} (ho : o.op = .box t x) (H : OpVC P γ env h g (.box x) K) : Good P γ o env h g K := by
  obtain ⟨gx, u, hex, hgx, ht, hK⟩ := Use.out H
  refine good_of hK (.inl ht) fun _ β a w hh hr => ?_
  obtain ⟨hs, hall⟩ := (hr x (by simp [ho, Op.operands]) gx _ hex (hgx ht)).cells
  obtain ⟨h1, h2, h3⟩ := HRel.new (w' := w.alloc (.cells (a.eval x).cells t)) hh (a.eval x).cells t (0, 0) ⟨u.cells.toList, true, true, false, 1⟩ rfl rfl rfl rfl (by simp) hall
  refine ⟨.pointer (some ⟨w.heap.size, 0, none⟩), _, _, ?_, .ptr ⟨_, LMap.put_self _ _ _, rfl⟩, h1, h2⟩
  simp [execOp, ho, Instr.box, newVar, newRow, newObj, Sem.run]

end
end Go.Vx
