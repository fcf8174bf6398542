/- A part of the proof: what it shows stands in its theorems. No condition beyond those that they name. -/
import Derived.Test.YtefjoeonilkdfaaVxE
namespace Go.Vx
set_option linter.unusedSimpArgs false
set_option linter.unusedVariables false

/-! Literals, made slices, cuts. -/

/-- Cell by cell. -/
def CRel (β : LMap) (cs : List Value) (ccs : Array Value) : Prop := ccs.size = cs.length ∧ ∀ (j : Nat) v, cs[j]? = some v → ∃ cv, ccs[j]? = some cv ∧ VRel β v cv

theorem foldl_set (off : Nat) : ∀ (l : List Value) (k : Nat) (cells : Array Value) (j : Nat), off + k + l.length ≤ cells.size →
    ((l.zipIdx k).foldl (fun cs p => cs.setIfInBounds (off + p.2) p.1) cells).size = cells.size ∧
    ((l.zipIdx k).foldl (fun cs p => cs.setIfInBounds (off + p.2) p.1) cells)[j]? = if off + k ≤ j ∧ j < off + k + l.length then l[j - (off + k)]? else cells[j]?
  | [], k, cells, j, _ => by simp; intro h1 h2; omega
  | v :: r, k, cells, j, h => by
    simp only [List.length_cons] at h
    obtain ⟨h1, h2⟩ := foldl_set off r (k + 1) (cells.setIfInBounds (off + k) v) j (by simp; omega)
    refine ⟨by rw [List.zipIdx_cons, List.foldl_cons, h1]; simp, ?_⟩
    rw [List.zipIdx_cons, List.foldl_cons, h2]
    simp only [List.length_cons]
    by_cases hq : j = off + k
    · subst hq
      rw [if_neg (by omega), if_pos (by omega), Array.getElem?_setIfInBounds_self_of_lt (by omega)]
      simp
    · by_cases hq2 : off + (k + 1) ≤ j ∧ j < off + (k + 1) + r.length
      · rw [if_pos hq2, if_pos (by omega)]
        obtain ⟨m, hm⟩ : ∃ m, j - (off + k) = m + 1 := ⟨j - (off + k) - 1, by omega⟩
        rw [hm, show j - (off + (k + 1)) = m by omega]; simp
      · rw [if_neg hq2, if_neg (by omega), Array.getElem?_setIfInBounds_ne (by omega)]

theorem CRel.over {β : LMap} {cs : List Value} {ccs : Array Value} (H : CRel β cs ccs) {off : Nat} {v cv : Value} (hv : VRel β v cv) (hlen : off + v.cells.toList.length ≤ cs.length) :
    CRel β (over cs off v.cells.toList) (cv.cells.zipIdx.foldl (fun cs (p : Value × Nat) => cs.setIfInBounds (off + p.2) p.1) ccs) := by
  obtain ⟨h1, h2⟩ := hv.cells
  have e : cv.cells.zipIdx.foldl (fun cs (p : Value × Nat) => cs.setIfInBounds (off + p.2) p.1) ccs = (cv.cells.toList.zipIdx 0).foldl (fun cs p => cs.setIfInBounds (off + p.2) p.1) ccs := by
    rw [← Array.foldl_toList, Array.toList_zipIdx]
  rw [e]
  have hs : off + 0 + cv.cells.toList.length ≤ ccs.size := by rw [H.1]; simp [h1]; simpa using hlen
  refine ⟨by rw [(foldl_set off cv.cells.toList 0 ccs 0 hs).1, over_length]; exact H.1, fun j u hu => ?_⟩
  rw [over_at _ _ _ _ hlen] at hu
  rw [(foldl_set off cv.cells.toList 0 ccs j hs).2]
  simp only [Nat.add_zero]
  have hl : cv.cells.toList.length = v.cells.toList.length := by simpa using h1
  rw [hl]
  split
  · rename_i hq
    rw [if_pos hq] at hu
    obtain ⟨y, h3, h4⟩ := h2 _ _ hu
    exact ⟨y, by simpa using h3, h4⟩
  · rename_i hq
    rw [if_neg hq] at hu
    exact H.2 _ _ hu

section
variable {P : Program} {γ : Nat → Option Nat} {o : Oper} {env : Env} {h : AHeap} {g : Bool} {K : Value → AHeap → Prop}

theorem partUses.out {place : Nat → Option (Nat × Nat)} : ∀ {ps : List (Nat × Operand)} {ts : List (Nat × Nat × Operand)} {cs : List Value} {K : List Value → Prop}, ts.length = ps.length →
    (∀ (i : Nat) p t, ps[i]? = some p → ts[i]? = some t → place p.1 = some (t.1, t.2.1) ∧ t.2.2 = p.2) → partUses γ env g ts cs K →
    ∃ cs', K cs' ∧ cs'.length = cs.length ∧ (g = true → ∀ (β : LMap) (a : Act), (∀ p ∈ ps, Reads γ β env a p.2) → ∀ ccs, CRel β cs ccs → ∃ ccs', Instr.fill place ccs (ps.map fun p => (p.1, a.eval p.2)) = some ccs' ∧ CRel β cs' ccs')
  | [], [], cs, K, _, _, H => ⟨cs, H, rfl, fun _ β a _ ccs hc => ⟨ccs, rfl, hc⟩⟩
  | (i, x) :: ps, (off, size, y) :: ts, cs, K, hl, hall, H => by
    obtain ⟨gx, v, hex, hgx, h1, h2, H⟩ := Use.out H
    obtain ⟨hp, hxy⟩ := hall 0 _ _ rfl rfl
    simp at hp hxy; subst hxy
    obtain ⟨cs', hK, hlen, hrest⟩ := partUses.out (ps := ps) (ts := ts) (by simpa using hl) (fun j p t h1 h2 => hall (j + 1) p t (by simpa using h1) (by simpa using h2)) H
    refine ⟨cs', hK, by rw [hlen, over_length], fun hg β a hr ccs hc => ?_⟩
    have hv : VRel β v (a.eval y) := hr (i, y) (by simp) gx v hex (hgx hg)
    obtain ⟨ccs', h3, h4⟩ := hrest hg β a (fun p hp => hr p (by simp [hp])) _ (hc.over hv (by omega))
    refine ⟨ccs', ?_, h4⟩
    obtain ⟨h5, _⟩ := hv.cells
    have hc1 := hc.1
    simp only [List.map_cons, Instr.fill, hp]
    rw [if_neg]
    · exact h3
    · simp only [Bool.or_eq_true, decide_eq_true_eq, not_or]
      exact ⟨by omega, by omega⟩
  | [], _ :: _, _, _, hl, _, _ => by simp at hl
  | _ :: _, [], _, _, hl, _, _ => by simp at hl

theorem crel_scal {β : LMap} {cs : Array Value} (hc : cs.toList.all cOk = true) : CRel β cs.toList cs := by
  refine ⟨by simp, fun j v hj => ⟨v, by simpa using hj, cOk_rel (List.all_eq_true.1 hc v (List.mem_of_getElem? hj))⟩⟩

theorem run_zero {t : TypeId} {z : Value} (hz : (P.info? t).map (·.zero) = some (some z)) (w : World) : (zeroValue t).run P w = .ok z w := by
  cases hi : P.info? t with
  | none => simp [hi] at hz
  | some i => simp [hi] at hz; simp [zeroValue, typeInfo, hi, hz]

theorem run_places {fs : Array Field} {places : Array (Nat × Nat)} (hp : fs.map (fun f => (P.info? f.type).map fun i => (f.offset, i.size)) = places.map some) (w : World) :
    (fs.mapM fun f => do pure (f.offset, ← sizeOf f.type) : Sem (Array (Nat × Nat))).run P w = .ok places w := by
  have key : ∀ (l : List Field) (ps : List (Nat × Nat)), l.map (fun f => (P.info? f.type).map fun i => (f.offset, i.size)) = ps.map some → (l.mapM fun f => do pure (f.offset, ← sizeOf f.type) : Sem (List (Nat × Nat))).run P w = .ok ps w := by
    intro l
    induction l with
    | nil => intro ps h; cases ps with
      | nil => simp
      | cons p ps => simp at h
    | cons f l ih =>
      intro ps h
      cases ps with
      | nil => simp at h
      | cons p ps =>
        simp only [List.map_cons, List.cons.injEq] at h
        cases hi : P.info? f.type with
        | none => simp [hi] at h
        | some i =>
          have h1 := h.1
          simp [hi] at h1
          simp [List.mapM_cons, sizeOf, typeInfo, hi]
          have := ih ps h.2
          simp [sizeOf, typeInfo] at this
          simp [this, h1]
  have hl := key fs.toList places.toList (by
    have := congrArg Array.toList hp
    simpa using this)
  rw [Array.mapM_eq_mapM_toList]
  simp only [Sem.run_map, hl, Result.andThen_ok]

theorem s_buildS {t : TypeId} {ps : Array (Nat × Operand)} {ts : List (Nat × Nat × Operand)} {fs : Array Field} {places : Array (Nat × Nat)} {z : Value} (ho : o.op = .build t ps) (hu : P.underlying t = some (.struct fs))
    (hz : (P.info? t).map (·.zero) = some (some z)) (hzc : z.cells.toList.all cOk = true) (hp : fs.map (fun f => (P.info? f.type).map fun i => (f.offset, i.size)) = places.map some)
    (hl : ts.length = ps.toList.length) (hall : ∀ (i : Nat) p t, ps.toList[i]? = some p → ts[i]? = some t → places[p.1]? = some (t.1, t.2.1) ∧ t.2.2 = p.2)
    (H : OpVC P γ env h g (.build z.cells.toList ts) K) : Good P γ o env h g K := by
  obtain ⟨cs', hK, hlen, hrest⟩ := partUses.out (place := (places[·]?)) hl hall H
  refine good_pure hK fun ht β a w hh hr => ?_
  obtain ⟨ccs', h1, h2, h3⟩ := hrest ht β a (fun p hp => hr p.2 (by simp [ho, Op.operands]; exact ⟨p.1, by simpa using hp⟩)) z.cells (crel_scal hzc)
  refine ⟨.agg ccs', ?_, rel_agg h2 h3⟩
  have hrp := run_places (P := P) hp w
  simp only [execOp, ho, Instr.build, Sem.run_bind, run_zero hz, Result.andThen_ok, run_underlying hu]
  have e : (Array.map (fun x => match x with | (i, x) => (i, a.eval x)) ps).toList = ps.toList.map fun p => (p.1, a.eval p.2) := by simp
  simp only [hrp, Result.andThen_ok, e, h1]
  rfl

theorem s_buildA {t e : TypeId} {n size : Nat} {ps : Array (Nat × Operand)} {ts : List (Nat × Nat × Operand)} {z : Value} (ho : o.op = .build t ps) (hu : P.underlying t = some (.array n e))
    (hz : (P.info? t).map (·.zero) = some (some z)) (hzc : z.cells.toList.all cOk = true) (hn : (P.info? e).map (·.size) = some size)
    (hl : ts.length = ps.toList.length) (hall : ∀ (i : Nat) p t, ps.toList[i]? = some p → ts[i]? = some t → (some (p.1 * size, size) : Option (Nat × Nat)) = some (t.1, t.2.1) ∧ t.2.2 = p.2)
    (H : OpVC P γ env h g (.build z.cells.toList ts) K) : Good P γ o env h g K := by
  obtain ⟨cs', hK, hlen, hrest⟩ := partUses.out (place := fun i => some (i * size, size)) hl hall H
  refine good_pure hK fun ht β a w hh hr => ?_
  obtain ⟨ccs', h1, h2, h3⟩ := hrest ht β a (fun p hp => hr p.2 (by simp [ho, Op.operands]; exact ⟨p.1, by simpa using hp⟩)) z.cells (crel_scal hzc)
  refine ⟨.agg ccs', ?_, rel_agg h2 h3⟩
  simp only [execOp, ho, Instr.build, Sem.run_bind, run_zero hz, Result.andThen_ok, run_underlying hu, run_size hn]
  have e : (Array.map (fun x => match x with | (i, x) => (i, a.eval x)) ps).toList = ps.toList.map fun p => (p.1, a.eval p.2) := by simp
  simp only [Result.andThen_ok, e, h1]
  rfl

theorem zcells_at (zero : List Value) (n j : Nat) (hj : j < n * zero.length) : (zcells zero n)[j]? = zero[j % zero.length]? := by
  unfold zcells
  induction n generalizing j with
  | zero => simp at hj
  | succ n ih =>
    rw [List.replicate_succ, List.flatten_cons]
    by_cases h : j < zero.length
    · rw [List.getElem?_append_left h, Nat.mod_eq_of_lt h]
    · rw [List.getElem?_append_right (by omega), ih (j - zero.length) (by rw [Nat.succ_mul] at hj; omega), ← Nat.mod_eq_sub_mod (by omega)]

theorem zcells_length (zero : List Value) (n : Nat) : (zcells zero n).length = n * zero.length := by
  simp [zcells]

theorem crel_zeros {β : LMap} {z : Array Value} {n size m : Nat} (hz : z.size = size) (hc : z.toList.all cOk = true) (hm : m = n * size) : CRel β (zcells z.toList n) ((Array.range m).map (z[· % z.size]!)) := by
  subst hm
  refine ⟨by simp [zcells_length, hz], fun j v hj => ?_⟩
  have hlt : j < n * size := by
    have := (List.getElem?_eq_some_iff.1 hj).1
    rw [zcells_length] at this; simpa [hz] using this
  rw [zcells_at _ _ _ (by simpa [hz] using hlt)] at hj
  have hlen : z.toList.length = size := by simpa using hz
  rw [hlen] at hj
  have hpos : 0 < size := by
    rcases Nat.eq_zero_or_pos size with h | h
    · subst h; simp at hlt
    · exact h
  refine ⟨v, ?_, cOk_rel (List.all_eq_true.1 hc v (List.mem_of_getElem? hj))⟩
  simp only [Array.getElem?_map, Array.getElem?_range, hlt, if_true, Option.map_some]
  rw [hz]
  have hj' : z[j % size]? = some v := by simpa using hj
  simp [getElem!_def, hj']

/-- A new row: the slice over it. -/
theorem newSlice {β : LMap} {w : World} (hh : HRel γ β h w) (e : TypeId) (cs : List Value) (ccs : Array Value) (esz l c : Nat) (hc : CRel β cs ccs) :
    ∃ β', HRel γ β' (h ++ [⟨cs, true, true, false, esz⟩]) (w.alloc (.cells ccs e)) ∧ Fr β h w β' (h ++ [⟨cs, true, true, false, esz⟩]) (w.alloc (.cells ccs e)) ∧
      VRel β' (.slice (some ⟨h.length, 0, none⟩) l c) (.slice (some ⟨w.heap.size, 0, none⟩) l c) := by
  obtain ⟨h1, h2, h3⟩ := HRel.new (w' := w.alloc (.cells ccs e)) hh ccs e (0, 0) ⟨cs, true, true, false, esz⟩ rfl rfl rfl rfl (by simp) hc.2
  exact ⟨_, h1, h2, .slice ⟨_, LMap.put_self _ _ _, rfl, fun _ => rfl, fun h => by simp at h⟩⟩

theorem s_bslice {t e : TypeId} {n size : Nat} {ps : Array (Nat × Operand)} {ts : List (Nat × Nat × Operand)} {z : Value} (ho : o.op = .buildSlice t n ps) (hu : P.underlying t = some (.slice e))
    (hz : (P.info? e).map (·.zero) = some (some z)) (hzc : z.cells.toList.all cOk = true) (hn : (P.info? e).map (·.size) = some size) (hzs : z.cells.size = size) (hbig : n * size ≤ 2 ^ 24)
    (hl : ts.length = ps.toList.length) (hall : ∀ (i : Nat) p t, ps.toList[i]? = some p → ts[i]? = some t → (some (p.1 * size, size) : Option (Nat × Nat)) = some (t.1, t.2.1) ∧ t.2.2 = p.2)
    (H : OpVC P γ env h g (.bslice size n z.cells.toList ts) K) : Good P γ o env h g K := by
  obtain ⟨ht, H⟩ := H
  obtain ⟨cs', hK, hlen, hrest⟩ := partUses.out (place := fun i => some (i * size, size)) hl hall H
  refine good_of hK (.inl ht) fun _ β a w hh hr => ?_
  obtain ⟨ccs', h1, h2⟩ := hrest ht β a (fun p hp => hr p.2 (by simp [ho, Op.operands]; exact ⟨p.1, by simpa using hp⟩)) ((Array.range (n * size)).map (z.cells[· % z.cells.size]!)) (crel_zeros hzs hzc rfl)
  obtain ⟨β', h3, h4, h5⟩ := newSlice hh e cs' ccs' size n n h2
  refine ⟨.slice (some ⟨w.heap.size, 0, none⟩) n n, _, β', ?_, h5, h3, h4⟩
  have e' : (Array.map (fun x => match x with | (i, x) => (i, a.eval x)) ps).toList = ps.toList.map fun p => (p.1, a.eval p.2) := by simp
  have hb : ¬ (n * size > 2 ^ 24) := by omega
  simp only [execOp, ho, Instr.buildSlice, Sem.run_bind, run_underlying hu, run_size hn, Result.andThen_ok, hb, if_false]
  by_cases h0 : n * size = 0
  · have e0 : (Array.range (n * size)).map (z.cells[· % z.cells.size]!) = (Array.range (n * size)).map ((#[] : Array Value)[· % (#[] : Array Value).size]!) := by rw [h0]; simp
    rw [e0] at h1
    simp only [h0, if_true, Sem.run_pure, Result.andThen_ok, e', Array.range_zero', List.map_toArray, List.map_nil] at h1 ⊢
    simp [h1, newRow, newObj, Sem.run]
  · simp only [h0, if_false, Sem.run_bind, run_zero hz, Sem.run_pure, Result.andThen_ok, e', h1]
    simp [newRow, newObj, Sem.run]


theorem s_mkslice {t e : TypeId} {size bytes : Nat} {z : Value} {x y : Operand} (ho : o.op = .makeSlice t x y) (hu : P.underlying t = some (.slice e))
    (hz : (P.info? e).map (·.zero) = some (some z)) (hzc : z.cells.toList.all cOk = true) (hn : (P.info? e).map (·.size) = some size) (hby : (P.info? e).map (·.bytes) = some bytes) (hzs : z.cells.size = size)
    (H : OpVC P γ env h g (.mkslice size bytes z.cells.toList x y) K) : Good P γ o env h g K := by
  obtain ⟨gx, u, hex, hgx, H1⟩ := Use.out H
  clear H
  obtain ⟨gy, v, hey, hgy, H⟩ := Use.out H1
  clear H1
  split at H
  · rename_i k1 nl k2 nc
    obtain ⟨ht, h0, hle, hbig, hlt, hK⟩ := H
    refine good_of hK (.inl ht) fun _ β a w hh hr => ?_
    have e1 := scal_eq (hr x (by simp [ho, Op.operands]) gx _ hex (hgx ht)) rfl
    have e2 := scal_eq (hr y (by simp [ho, Op.operands]) gy _ hey (hgy ht)) rfl
    have w1 : IntKind.i64.wrap nl = nl := by simp [IntKind.wrap, IntKind.bits, IntKind.signed]; omega
    have w2 : IntKind.i64.wrap nc = nc := by simp [IntKind.wrap, IntKind.bits, IntKind.signed]; omega
    cases hi : P.info? e with
    | none => simp [hi] at hn
    | some i =>
      simp [hi] at hz hn hby
      obtain ⟨β', h3, h4, h5⟩ := newSlice hh e (zcells z.cells.toList nc.toNat) ((Array.range (nc.toNat * size)).map (z.cells[· % z.cells.size]!)) size nl.toNat nc.toNat (crel_zeros hzs hzc rfl)
      refine ⟨.slice (some ⟨w.heap.size, 0, none⟩) nl.toNat nc.toNat, _, β', ?_, h5, h3, h4⟩
      have hcom : (bytes : Int) * nc = nc * bytes := Int.mul_comm _ _
      have c1 : ¬ (nc < 0) := by omega
      have c2 : ¬ ((bytes : Int) * nc > 2 ^ 48) := by rw [hcom]; omega
      have c3 : ¬ (nl < 0) := by omega
      have c4 : ¬ (nl > nc) := by omega
      have hroom : (askRoom (nc.toNat * bytes)).run P w = .ok () w := by
        unfold askRoom
        split
        · simp [mark, Sem.run]
        · simp
      have hsz : (sizeOf e).run P w = .ok size w := by simp [sizeOf, typeInfo, hi, hn]
      have hti : (typeInfo e).run P w = .ok i w := by simp [typeInfo, hi]
      have hzv : (zeroValue e).run P w = .ok z w := by simp [zeroValue, typeInfo, hi, hz]
      by_cases hq : nc.toNat * size = 0
      · simp only [execOp, ho, Instr.makeSlice, Sem.run_bind, run_underlying hu, Result.andThen_ok, e1, e2, asInt, asIntOf, Sem.run_pure, hti, w1, w2, hby, c1, c2, c3, c4, decide_false, Bool.or_false, Bool.false_or, Bool.false_eq_true, if_false, hroom, hsz, hq, if_true, Array.range_zero', List.map_toArray, List.map_nil, newRow, newObj]
        simp [Sem.run]
      · simp only [execOp, ho, Instr.makeSlice, Sem.run_bind, run_underlying hu, Result.andThen_ok, e1, e2, asInt, asIntOf, Sem.run_pure, hti, w1, w2, hby, c1, c2, c3, c4, decide_false, Bool.or_false, Bool.false_or, Bool.false_eq_true, if_false, hroom, hsz, hq, hzv, newRow, newObj]
        simp [Sem.run]
  · first | exact H.elim | exact good_skip H

theorem optUse.out {γ : Nat → Option Nat} {env : Env} {g : Bool} {x : Option Operand} {d : Int} {K : Int → Prop} (H : optUse γ env g x d K) :
    ∃ n, K n ∧ (match x with | none => n = d | some y => ∃ gx k, ev γ env y = some (gx, .int k n) ∧ (g = true → gx = true)) := by
  cases x with
  | none => exact ⟨d, H, rfl⟩
  | some y =>
    obtain ⟨gx, u, hex, hgx, H1⟩ := Use.out H
    cases u with
    | int k n => exact ⟨n, H1, gx, k, hex, hgx⟩
    | _ => first | exact H1.elim | exact good_skip H1

/-- The bounds of a cut, as they run. -/
theorem run_bounds {isSlice : Bool} {len cap : Nat} {lo hi mx : Option Value} {a b m : Int} (h0 : 0 ≤ a) (h1 : a ≤ b) (h2 : b ≤ m) (h3 : m ≤ cap)
    (hm : match mx with | none => m = cap | some v => ∃ k, v = .int k m) (hb : match hi with | none => b = len ∧ mx = none | some v => ∃ k, v = .int k b) (ha : match lo with | none => a = 0 | some v => ∃ k, v = .int k a) (w : World) :
    (Instr.sliceBounds isSlice len cap lo hi mx).run P w = .ok (a.toNat, b.toNat, m.toNat) w := by
  have sb : ∀ (k : IntKind) (i : Int) (y : Nat) (code : BoundsCode), 0 ≤ i → i ≤ y → (Instr.sliceBound (.int k i) y code).run P w = .ok i.toNat w := by
    intro k i y code hi0 hi1
    simp [Instr.sliceBound, asIntOf, hi0, hi1]
  cases mx with
  | none =>
    simp only at hm; subst hm
    cases hi with
    | none =>
      obtain ⟨hb, _⟩ := hb; subst hb
      cases lo with
      | none => subst ha; simp [Instr.sliceBounds]
      | some v => obtain ⟨k, rfl⟩ := ha; simp [Instr.sliceBounds, sb k a len _ h0 (by omega)]
    | some v =>
      obtain ⟨kb, rfl⟩ := hb
      cases lo with
      | none => subst ha; simp [Instr.sliceBounds, sb kb b cap _ (by omega) h2]
      | some v => obtain ⟨k, rfl⟩ := ha; simp [Instr.sliceBounds, sb kb b cap _ (by omega) h2, sb k a b.toNat _ h0 (by omega)]
  | some v =>
    obtain ⟨km, rfl⟩ := hm
    cases hi with
    | none => obtain ⟨_, hq⟩ := hb; simp at hq
    | some v =>
      obtain ⟨kb, rfl⟩ := hb
      cases lo with
      | none => subst ha; simp [Instr.sliceBounds, sb km m cap _ (by omega) h3, sb kb b m.toNat _ (by omega) (by omega)]
      | some v => obtain ⟨k, rfl⟩ := ha; simp [Instr.sliceBounds, sb km m cap _ (by omega) h3, sb kb b m.toNat _ (by omega) (by omega), sb k a b.toNat _ h0 (by omega)]

theorem s_sliceStr {t : TypeId} {x : Operand} {lo hi : Option Operand} (ho : o.op = .slice t x lo hi none) (hu : P.underlying t = some .string) (H : OpVC P γ env h g (.sliceStr x lo hi) K) : Good P γ o env h g K := by
  obtain ⟨gx, u, hex, hgx, H1⟩ := Use.out H
  clear H
  split at H1
  · rename_i s
    obtain ⟨b, H2, hb⟩ := optUse.out H1
    obtain ⟨a', H3, ha⟩ := optUse.out H2
    obtain ⟨hc, hK⟩ := H3
    refine good_pure hK fun ht β a w hh hr => ⟨_, ?_, .string _⟩
    have e1 := scal_eq (hr x (by simp [ho, Op.operands]) gx _ hex (hgx ht)) rfl
    obtain ⟨h0, h1, h2⟩ := hc ht
    have hbd := run_bounds (P := P) (isSlice := false) (len := s.size) (cap := s.size) (lo := lo.map a.eval) (hi := hi.map a.eval) (mx := none) (m := s.size) h0 h1 h2 (Int.le_refl _) rfl
      (by cases hi with
        | none => exact ⟨hb, rfl⟩
        | some y => obtain ⟨gy, k, hey, hgy⟩ := hb; exact ⟨k, scal_eq (hr y (by simp [ho, Op.operands]) gy _ hey (hgy ht)) rfl⟩)
      (by cases lo with
        | none => exact ha
        | some y => obtain ⟨gy, k, hey, hgy⟩ := ha; exact ⟨k, scal_eq (hr y (by simp [ho, Op.operands]) gy _ hey (hgy ht)) rfl⟩) w
    simp only [execOp, ho, Instr.sliceAt, Sem.run_bind, run_underlying hu, Result.andThen_ok, e1, Instr.slice, Option.map_none, Option.isSome_none, Bool.false_eq_true, if_false, hbd, Sem.run_pure]
  · first | exact H1.elim | exact good_skip H1

theorem s_slice {t e : TypeId} {esz : Nat} {x : Operand} {lo hi mx : Option Operand} (ho : o.op = .slice t x lo hi mx) (hu : P.underlying t = some (.slice e)) (hn : (P.info? e).map (·.size) = some esz) (hez : 0 < esz) (hmx : mx.isSome = true → hi.isSome = true)
    (H : OpVC P γ env h g (.slice esz x lo hi mx) K) : Good P γ o env h g K := by
  obtain ⟨gx, u, hex, hgx, H1⟩ := Use.out H
  clear H
  split at H1
  · rename_i l c
    obtain ⟨a', H2, ha⟩ := optUse.out H1
    obtain ⟨b, H3, hb⟩ := optUse.out H2
    obtain ⟨m, H4, hm⟩ := optUse.out H3
    obtain ⟨hc, hK⟩ := H4
    refine good_pure hK fun ht β a w hh hr => ⟨_, ?_, .sliceNil _ _⟩
    obtain ⟨rfl, rfl, rfl, rfl, rfl⟩ := hc ht
    have e1 := scal_eq (hr x (by simp [ho, Op.operands]) gx _ hex (hgx ht)) rfl
    have hbd := run_bounds (P := P) (isSlice := true) (len := 0) (cap := 0) (lo := lo.map a.eval) (hi := hi.map a.eval) (mx := mx.map a.eval) (m := 0) (Int.le_refl 0) (Int.le_refl 0) (Int.le_refl 0) (Int.le_refl _)
      (by cases mx with
        | none => rfl
        | some y => obtain ⟨gy, k, hey, hgy⟩ := hm; exact ⟨k, scal_eq (hr y (by simp [ho, Op.operands]) gy _ hey (hgy ht)) rfl⟩)
      (by cases hi with
        | none => refine ⟨rfl, ?_⟩; cases mx with
          | none => rfl
          | some y => simp at hmx
        | some y => obtain ⟨gy, k, hey, hgy⟩ := hb; exact ⟨k, scal_eq (hr y (by simp [ho, Op.operands]) gy _ hey (hgy ht)) rfl⟩)
      (by cases lo with
        | none => rfl
        | some y => obtain ⟨gy, k, hey, hgy⟩ := ha; exact ⟨k, scal_eq (hr y (by simp [ho, Op.operands]) gy _ hey (hgy ht)) rfl⟩) w
    simp only [execOp, ho, Instr.sliceAt, Sem.run_bind, run_underlying hu, Result.andThen_ok, e1, Instr.slice, hbd, run_size hn, Sem.run_pure]
    simp
  · rename_i id off l c
    split at H1
    · rename_i ob hid
      obtain ⟨m, H2, hm⟩ := optUse.out H1
      obtain ⟨b, H3, hb⟩ := optUse.out H2
      obtain ⟨a', H4, ha⟩ := optUse.out H3
      obtain ⟨hc, hK⟩ := H4
      refine good_pure hK fun ht β a w hh hr => ?_
      obtain ⟨h0, h1, h2, h3, hl, hsk⟩ := hc ht
      obtain ⟨L, c', hβ, hcv, hex1, hsl1, hat⟩ := slice_at hh (hr x (by simp [ho, Op.operands]) gx _ hex (hgx ht)) hid hl
      have hcc : c ≤ c' := by
        cases hs : L.slack with
        | false => rw [hex1 hs]; exact Nat.le_refl _
        | true => exact (hsl1 hs).1
      -- the bound that is cut at
      obtain ⟨m', hm1, hm2, hm3⟩ : ∃ m' : Int, (match mx.map a.eval with | none => m' = (c' : Int) | some v => ∃ k, v = .int k m') ∧ m ≤ m' ∧ (m' ≤ c' ∧ (L.slack = false ∨ mx.isSome = true → m' = m)) := by
        cases mx with
        | none =>
          simp only at hm; subst hm
          refine ⟨c', rfl, by omega, by omega, fun hq => ?_⟩
          rcases hq with hq | hq
          · rw [hex1 hq]
          · simp at hq
        | some y =>
          obtain ⟨gy, k, hey, hgy⟩ := hm
          exact ⟨m, ⟨k, scal_eq (hr y (by simp [ho, Op.operands]) gy _ hey (hgy ht)) rfl⟩, Int.le_refl _, by omega, fun _ => rfl⟩
      have hbd := run_bounds (P := P) (isSlice := true) (len := l) (cap := c') (lo := lo.map a.eval) (hi := hi.map a.eval) (mx := mx.map a.eval) (m := m') h0 h1 (by omega) (by omega) hm1
        (by cases hi with
          | none => refine ⟨hb, ?_⟩; cases mx with
            | none => rfl
            | some y => simp at hmx
          | some y => obtain ⟨gy, k, hey, hgy⟩ := hb; exact ⟨k, scal_eq (hr y (by simp [ho, Op.operands]) gy _ hey (hgy ht)) rfl⟩)
        (by cases lo with
          | none => exact ha
          | some y => obtain ⟨gy, k, hey, hgy⟩ := ha; exact ⟨k, scal_eq (hr y (by simp [ho, Op.operands]) gy _ hey (hgy ht)) rfl⟩) w
      have hadd : (⟨L.blk, L.base + off, none⟩ : Addr).add (a'.toNat * esz) = ⟨L.blk, L.base + (off + a'.toNat * esz), none⟩ := by unfold Addr.add; split <;> simp_all [Nat.add_assoc]
      have hrun : (execOp a.eval o).run P w = .ok (.value (.slice (some (if m'.toNat = a'.toNat then ⟨L.blk, L.base + off, none⟩ else ⟨L.blk, L.base + (off + a'.toNat * esz), none⟩)) (b.toNat - a'.toNat) (m'.toNat - a'.toNat))) w := by
        simp only [execOp, ho, Instr.sliceAt, Sem.run_bind, run_underlying hu, Result.andThen_ok, hcv, Instr.slice, hbd, run_size hn, Sem.run_pure, Option.map_some, hadd]
        split <;> rfl
      refine ⟨_, hrun, ?_⟩
      have eb : b.toNat - a'.toNat = (b - a').toNat := by omega
      rw [eb]
      have hpos : (if m'.toNat = a'.toNat then (⟨L.blk, L.base + off, none⟩ : Addr) else ⟨L.blk, L.base + (off + a'.toNat * esz), none⟩) = ⟨L.blk, L.base + (if m = a' then off else off + a'.toNat * esz), none⟩ := by
        by_cases hq : m = a'
        · rw [if_pos hq]
          by_cases hq2 : m' = m
          · rw [if_pos (by omega)]
          · have hs : ob.slack = true := by
              cases hs : ob.slack with
              | true => rfl
              | false => exact absurd (hm3.2 (.inl (hat.slack.trans hs))) hq2
            rcases (hsk hs).2 with h5 | h5 | h5
            · omega
            · subst h5; simp
            · exact absurd (hm3.2 (.inr h5)) hq2
        · rw [if_neg hq, if_neg (by omega)]
      rw [hpos]
      refine .slice ⟨L, hβ, rfl, fun hs => ?_, fun hs => ?_⟩
      · have := hm3.2 (.inl hs); omega
      · obtain ⟨h5, h6⟩ := hsl1 hs
        refine ⟨by omega, ?_⟩
        have he : L.esz = esz := hat.esz.trans (hsk (hat.slack.symm.trans hs)).1
        rw [he] at h6 ⊢
        have hle : (m'.toNat - a'.toNat) * esz ≤ c' * esz - a'.toNat * esz := by rw [← Nat.sub_mul]; exact Nat.mul_le_mul_right _ (by omega)
        have hle2 : a'.toNat * esz ≤ c' * esz := Nat.mul_le_mul_right _ (by omega)
        split
        · have : (m'.toNat - a'.toNat) * esz ≤ c' * esz := Nat.mul_le_mul_right _ (by omega)
          simp only at this ⊢; omega
        · simp only; omega
    · first | exact H1.elim | exact good_skip H1
  · first | exact H1.elim | exact good_skip H1

theorem s_sliceArr {t e : TypeId} {n esz : Nat} {x : Operand} {lo hi mx : Option Operand} (ho : o.op = .slice t x lo hi mx) (hu : P.underlying t = some (.array n e)) (hn : (P.info? e).map (·.size) = some esz) (hmx : mx.isSome = true → hi.isSome = true)
    (H : OpVC P γ env h g (.sliceArr n esz x lo hi mx) K) : Good P γ o env h g K := by
  obtain ⟨gx, u, hex, hgx, H1⟩ := Use.out H
  clear H
  split at H1
  · rename_i id off
    split at H1
    · rename_i ob hid
      obtain ⟨m, H2, hm⟩ := optUse.out H1
      obtain ⟨b, H3, hb⟩ := optUse.out H2
      obtain ⟨a', H4, ha⟩ := optUse.out H3
      obtain ⟨hc, hK⟩ := H4
      refine good_pure hK fun ht β a w hh hr => ?_
      obtain ⟨h0, h1, h2, h3, hl, hsk⟩ := hc ht
      obtain ⟨L, hβ, hcv, hat⟩ := ptr_at hh (hr x (by simp [ho, Op.operands]) gx _ hex (hgx ht)) hid hl
      have hbd := run_bounds (P := P) (isSlice := false) (len := n) (cap := n) (lo := lo.map a.eval) (hi := hi.map a.eval) (mx := mx.map a.eval) (m := m) h0 h1 h2 h3
        (by cases mx with
          | none => exact hm
          | some y => obtain ⟨gy, k, hey, hgy⟩ := hm; exact ⟨k, scal_eq (hr y (by simp [ho, Op.operands]) gy _ hey (hgy ht)) rfl⟩)
        (by cases hi with
          | none => refine ⟨hb, ?_⟩; cases mx with
            | none => rfl
            | some y => simp at hmx
          | some y => obtain ⟨gy, k, hey, hgy⟩ := hb; exact ⟨k, scal_eq (hr y (by simp [ho, Op.operands]) gy _ hey (hgy ht)) rfl⟩)
        (by cases lo with
          | none => exact ha
          | some y => obtain ⟨gy, k, hey, hgy⟩ := ha; exact ⟨k, scal_eq (hr y (by simp [ho, Op.operands]) gy _ hey (hgy ht)) rfl⟩) w
      have hadd : (⟨L.blk, L.base + off, none⟩ : Addr).add (a'.toNat * esz) = ⟨L.blk, L.base + (off + a'.toNat * esz), none⟩ := by unfold Addr.add; split <;> simp_all [Nat.add_assoc]
      have hrun : (execOp a.eval o).run P w = .ok (.value (.slice (some (if m.toNat = a'.toNat then ⟨L.blk, L.base + off, none⟩ else ⟨L.blk, L.base + (off + a'.toNat * esz), none⟩)) (b.toNat - a'.toNat) (m.toNat - a'.toNat))) w := by
        simp only [execOp, ho, Instr.sliceAt, Instr.sureAddr, Sem.run_bind, run_underlying hu, Result.andThen_ok, hcv, hbd, run_size hn, Sem.run_pure, hadd]
      refine ⟨_, hrun, ?_⟩
      have eb : b.toNat - a'.toNat = (b - a').toNat := by omega
      have em : m.toNat - a'.toNat = (m - a').toNat := by omega
      rw [eb, em]
      have hpos : (if m.toNat = a'.toNat then (⟨L.blk, L.base + off, none⟩ : Addr) else ⟨L.blk, L.base + (off + a'.toNat * esz), none⟩) = ⟨L.blk, L.base + (if m = a' then off else off + a'.toNat * esz), none⟩ := by
        by_cases hq : m = a'
        · rw [if_pos hq, if_pos (by omega)]
        · rw [if_neg hq, if_neg (by omega)]
      rw [hpos]
      refine .slice ⟨L, hβ, rfl, fun _ => rfl, fun hs => ?_⟩
      rw [hat.slack, hsk] at hs; simp at hs
    · first | exact H1.elim | exact good_skip H1
  · first | exact H1.elim | exact good_skip H1
end
end Go.Vx
