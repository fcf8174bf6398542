/- A part of the proof: what it shows stands in its theorems. No condition beyond those that they name. -/
import Derived.Test.YtefjoeonilkdfaaVxH
import Derived.Deep.AppendSrc
namespace Go.Vx
set_option linter.unusedSimpArgs false
set_option linter.unusedVariables false

/-! append, copy. -/

section
variable {P : Program} {γ : Nat → Option Nat} {o : Oper} {env : Env} {h : AHeap} {g : Bool} {K : Value → AHeap → Prop}

theorem src_run {esz : Nat} {y : Value} {Kc : Nat → List Value → Prop} (H : srcCells h esz y Kc) :
    ∃ n new, Kc n new ∧ new.length = n * esz ∧ ∀ (β : LMap) (w : World) (cy : Value), HRel γ β h w → VRel β y cy →
      (Builtin.lenOf cy).run P w = .ok n w ∧ ∃ cs, (Builtin.firstCells esz n cy).run P w = .ok cs w ∧ CRel β new cs := by
  unfold srcCells at H
  split at H
  · obtain ⟨rfl, hK⟩ := H
    refine ⟨0, [], hK, by simp, fun β w cy hh hv => ?_⟩
    cases hv with
    | sliceNil => exact ⟨rfl, #[], rfl, rfl, fun j v hj => by simp at hj⟩
  · rename_i id off n c
    split at H
    · rename_i ob hid
      obtain ⟨hl, hlen, hK⟩ := H
      refine ⟨n, _, hK, by simp; omega, fun β w cy hh hv => ?_⟩
      obtain ⟨L, c', hβ, rfl, _, _, hat⟩ := slice_at hh hv hid hl
      obtain ⟨cs, h1, h2, h3⟩ := run_loadObj (P := P) hat off (n * esz) hlen
      exact ⟨rfl, cs, h1, by simp [h2]; omega, h3⟩
    · first | exact H.elim | exact good_skip H
  · rename_i s
    obtain ⟨rfl, hK⟩ := H
    refine ⟨s.size, _, hK, by rw [List.length_map, Array.length_toList, Nat.mul_one]; rfl, fun β w cy hh hv => ?_⟩
    have e1 := scal_eq hv rfl
    subst e1
    refine ⟨rfl, (s.extract 0 s.size).data.map fun b => .int .u8 b.toNat, rfl, ?_⟩
    have hex : s.extract 0 s.size = s := ByteArray.extract_zero_size
    rw [hex]
    refine ⟨by simp, fun j v hj => ⟨v, by simpa using hj, ?_⟩⟩
    simp only [List.getElem?_map, Option.map_eq_some_iff] at hj
    obtain ⟨b, _, rfl⟩ := hj
    exact .int _ _
  · first | exact H.elim | exact good_skip H

/-- The growing way of an append, run. -/
theorem run_grow {sT xT ty e : TypeId} {l n c : Nat} {i : TypeInfo} {z : Value} {base : Option Addr} {cy : Value} (ht : P.underlying sT = some (.slice e)) (hk : (∃ e', P.underlying xT = some (.slice e')) ∨ P.underlying xT = some .string)
    (hi : P.info? e = some i) (hz : i.zero = some z) (hbp : 0 < i.bytes)
    (w : World) (hlen : ∀ w, (Builtin.lenOf cy).run P w = .ok n w) (hc : c < l + n) (hbig : (l + n) * i.bytes ≤ 2 ^ 46)
    {old new : Array Value} (hold : (Builtin.firstCells i.size l (.slice base l c)).run P w.drew = .ok old w.drew)
    (hnew : (Builtin.firstCells i.size n cy).run P w.drew = .ok new w.drew) :
    ∃ cap, l + n ≤ cap ∧ (Builtin.append_ #[sT, xT] ty #[.slice base l c, cy]).run P w = .ok (.slice (some ⟨w.heap.size, 0, none⟩) (l + n) cap) (w.drew.alloc (.cells (old ++ new ++ Builtin.zeroCells z.cells (cap - (l + n))) e)) := by
  refine ⟨grownCap w (l + n) c e, ?_, ?_⟩
  · unfold grownCap; simp only [Question.cut]; omega
  · have hfit := growslice_fits (bytes := i.bytes) hc (by omega)
    have hneed : (l + n) ≤ (l + n) * i.bytes := Nat.le_mul_of_pos_right _ hbp
    have hn : ¬ (l + n ≤ c) := by omega
    have h63' : ¬ (9223372036854775807 < ((l : Int) + (n : Int))) := by omega
    have h48' : ¬ (281474976710656 < Builtin.nextslicecap (l + n) c * i.bytes) := by omega
    rcases hk with ⟨e', hk⟩ | hk <;>
      (simp [Builtin.append_, run_underlying ht, run_underlying hk, sizeOf, typeInfo, zeroValue, hi, hz, hlen, hn, h63', h48', Question.forced, hnew, hold, newRow, grownCap])

/-- There is room. -/
theorem run_room {sT xT ty e : TypeId} {l n c : Nat} {i : TypeInfo} {base : Addr} {cy : Value} (ht : P.underlying sT = some (.slice e)) (hk : (∃ e', P.underlying xT = some (.slice e')) ∨ P.underlying xT = some .string)
    (hi : P.info? e = some i) (w w' : World) (hlen : ∀ w, (Builtin.lenOf cy).run P w = .ok n w) (hc : l + n ≤ c) {new : Array Value}
    (hnew : (Builtin.firstCells i.size n cy).run P w = .ok new w) (hst : (storeCells (base.add (l * i.size)) new.toList).run P w = .ok () w') :
    (Builtin.append_ #[sT, xT] ty #[.slice (some base) l c, cy]).run P w = .ok (.slice (some base) (l + n) c) w' := by
  rcases hk with ⟨e', hk⟩ | hk <;> simp [Builtin.append_, run_underlying ht, run_underlying hk, sizeOf, typeInfo, hi, hlen, hc, hnew, hst]

theorem run_room0 {sT xT ty e : TypeId} {l c : Nat} {i : TypeInfo} {base : Option Addr} {cy : Value} (ht : P.underlying sT = some (.slice e)) (hk : (∃ e', P.underlying xT = some (.slice e')) ∨ P.underlying xT = some .string)
    (hi : P.info? e = some i) (w : World) (hlen : ∀ w, (Builtin.lenOf cy).run P w = .ok 0 w) (hc : l ≤ c) {new : Array Value} (hn : new.size = 0)
    (hnew : (Builtin.firstCells i.size 0 cy).run P w = .ok new w) :
    (Builtin.append_ #[sT, xT] ty #[.slice base l c, cy]).run P w = .ok (.slice base l c) w := by
  have hnil : new = #[] := Array.size_eq_zero_iff.1 hn
  subst hnil
  rcases hk with ⟨e', hk⟩ | hk <;> cases base <;> simp [Builtin.append_, run_underlying ht, run_underlying hk, sizeOf, typeInfo, hi, hlen, hc, hnew, storeCells]

theorem crel_append {β : LMap} {a b : List Value} {x y r : Array Value} (h1 : CRel β a x) (h2 : CRel β b y) : ∀ (j : Nat) v, (a ++ b)[j]? = some v → ∃ cv, (x ++ y ++ r)[j]? = some cv ∧ VRel β v cv := by
  intro j v hj
  by_cases ha : j < a.length
  · rw [List.getElem?_append_left ha] at hj
    obtain ⟨cv, h3, h4⟩ := h1.2 j v hj
    refine ⟨cv, ?_, h4⟩
    have hx : j < x.size := (Array.getElem?_eq_some_iff.1 h3).1
    rw [Array.getElem?_append_left (by simp; omega), Array.getElem?_append_left hx]; exact h3
  · rw [List.getElem?_append_right (by omega)] at hj
    obtain ⟨cv, h3, h4⟩ := h2.2 _ v hj
    refine ⟨cv, ?_, h4⟩
    have hy : j - a.length < y.size := (Array.getElem?_eq_some_iff.1 h3).1
    have hx := h1.1
    rw [Array.getElem?_append_left (by simp; omega), Array.getElem?_append_right (by omega), hx]; exact h3

theorem HRel.drew {β : LMap} {w : World} (H : HRel γ β h w) : HRel γ β h w.drew := H.of_heap rfl

/-- Behind a growing append: the new row, and the slice over it. -/
theorem grown_new {β : LMap} {w : World} (H : HRel γ β h w) (e : TypeId) (esz n cap : Nat) (a b : List Value) {x y r : Array Value} (h1 : CRel β a x) (h2 : CRel β b y) (hsz : (x ++ y ++ r).size = cap * esz) (hle : n ≤ cap) :
    ∃ β', HRel γ β' (h ++ [⟨a ++ b, true, true, true, esz⟩]) (w.drew.alloc (.cells (x ++ y ++ r) e)) ∧ Fr β h w β' (h ++ [⟨a ++ b, true, true, true, esz⟩]) (w.drew.alloc (.cells (x ++ y ++ r) e)) ∧
      VRel β' (.slice (some ⟨h.length, 0, none⟩) n n) (.slice (some ⟨w.heap.size, 0, none⟩) n cap) := by
  obtain ⟨h3, h4, _⟩ := HRel.new (w' := w.drew.alloc (.cells (x ++ y ++ r) e)) H (x ++ y ++ r) e (0, 0) ⟨a ++ b, true, true, true, esz⟩ rfl rfl rfl rfl (by simp) (crel_append h1 h2)
  exact ⟨_, h3, h4, .slice ⟨_, LMap.put_self _ _ _, rfl, fun h => by simp at h, fun _ => ⟨hle, by simp only [hsz]; omega⟩⟩⟩

set_option maxHeartbeats 2000000 in
theorem s_append {sT xT e : TypeId} {esz bytes : Nat} {z : Value} {x y : Operand} (ho : o.op = .call { callee := .builtin .append, args := #[x, y], argTypes := #[sT, xT] }) (ht : P.underlying sT = some (.slice e))
    (hk : (∃ e', P.underlying xT = some (.slice e')) ∨ P.underlying xT = some .string) (hn : (P.info? e).map (·.size) = some esz) (hby : (P.info? e).map (·.bytes) = some bytes) (hz : (P.info? e).map (·.zero) = some (some z)) (hzs : z.cells.size = esz) (hbp : 0 < bytes)
    (H : OpVC P γ env h g (.append esz bytes x y) K) : Good P γ o env h g K := by
  obtain ⟨gx, s, hex, hgx, H1⟩ := Use.out H
  clear H
  obtain ⟨gy, t, hey, hgy, H⟩ := Use.out H1
  clear H1
  obtain ⟨hg, H⟩ := H
  obtain ⟨n, new, H2, hnl, hsrc⟩ := src_run (P := P) (γ := γ) H
  clear H
  have H := H2
  clear H2
  cases hi : P.info? e with
  | none => simp [hi] at hn
  | some i =>
    simp [hi] at hn hby hz
    subst hn hby
    have hexec : ∀ (a : Act) (w w' : World) (cs cy v : Value), a.eval x = cs → a.eval y = cy → (Builtin.append_ #[sT, xT] o.type #[cs, cy]).run P w = .ok v w' → (execOp a.eval o).run P w = .ok (.value v) w' := by
      intro a w w' cs cy v h1 h2 h3
      simp only [execOp, ho, resolve, Sem.run_bind, Sem.run_pure, Result.andThen_ok, invoke, builtin, List.map_toArray, List.map_cons, List.map_nil, h1, h2, h3]
    have hlenAll : ∀ (β : LMap) (w : World) (cy : Value), HRel γ β h w → VRel β t cy → ∀ w', (Builtin.lenOf cy).run P w' = .ok n w' := by
      intro β w cy hh hv w'
      obtain ⟨h1, _⟩ := hsrc β w cy hh hv
      cases cy <;> simp [Builtin.lenOf, stuck, Sem.run] at h1 ⊢ <;> exact h1
    unfold AppK appVC at H
    split at H
    · rename_i l c
      rcases H with ⟨rfl, rfl, rfl, hK⟩ | ⟨rfl, rfl, hpos, hbig, hK⟩
      · refine good_pure hK fun ht' β a w hh hr => ⟨.slice none 0 0, ?_, .sliceNil _ _⟩
        have e1 := scal_eq (hr x (by simp [ho, Op.operands, Call.operands]) gx _ hex (hgx ht')) rfl
        have e2 := hr y (by simp [ho, Op.operands, Call.operands]) gy _ hey (hgy ht')
        obtain ⟨_, cs, h2, h3⟩ := hsrc β w _ hh e2
        exact hexec a w w _ _ _ e1 rfl (run_room0 ht hk hi w (hlenAll β w _ hh e2) (Nat.le_refl _) (by rw [h3.1, hnl]; simp) h2)
      · refine good_of hK (.inl hg) fun ht' β a w hh hr => ?_
        have e1 := scal_eq (hr x (by simp [ho, Op.operands, Call.operands]) gx _ hex (hgx ht')) rfl
        have e2 := hr y (by simp [ho, Op.operands, Call.operands]) gy _ hey (hgy ht')
        obtain ⟨_, cs, h2, h3⟩ := hsrc β w.drew _ hh.drew e2
        obtain ⟨cap, hle, hrun⟩ := run_grow (ty := o.type) (base := none) (l := 0) (c := 0) ht hk hi hz hbp w (hlenAll β w _ hh e2) (by omega) (by simpa using hbig) (old := #[]) rfl h2
        obtain ⟨β', h4, h5, h6⟩ := grown_new hh e i.size n cap [] new (x := #[]) (y := cs) (r := Builtin.zeroCells z.cells (cap - (0 + n))) ⟨rfl, fun j v hj => by simp at hj⟩ h3 (by
          simp [Builtin.zeroCells, hzs, h3.1, hnl]
          rw [← Nat.add_mul]; congr 1; omega) (by omega)
        simp only [Nat.zero_add] at hrun h4 h5
        exact ⟨_, _, β', hexec a w _ _ _ _ e1 rfl hrun, h6, h4, h5⟩
    · rename_i id off l c
      split at H
      · rename_i ob hid
        rcases H with ⟨rfl, hlc, hK⟩ | ⟨hl, hsk, hcl, hlc, hol, hbig, hK⟩ | ⟨hl, how, hsk, hcl, hol, hfl, hK⟩ | ⟨hl, how, hsk, hesz, hol, hbig, hfl, hK⟩
        · refine good_pure hK fun ht' β a w hh hr => ?_
          have e1 := hr x (by simp [ho, Op.operands, Call.operands]) gx _ hex (hgx ht')
          have e2 := hr y (by simp [ho, Op.operands, Call.operands]) gy _ hey (hgy ht')
          obtain ⟨_, cs, h2, h3⟩ := hsrc β w _ hh e2
          generalize hcx : a.eval x = cx at e1
          have e1' := e1
          cases e1 with
          | slice hs =>
            obtain ⟨L, hβ, _, q1, q2⟩ := hs
            refine ⟨_, hexec a w w _ _ _ hcx rfl (run_room0 ht hk hi w (hlenAll β w _ hh e2) ?_ (by rw [h3.1, hnl]; simp) h2), e1'⟩
            cases hs : L.slack with
            | false => rw [q1 hs]; exact hlc
            | true => exact Nat.le_trans hlc (q2 hs).1
        · refine good_of hK (.inl hg) fun ht' β a w hh hr => ?_
          have e2 := hr y (by simp [ho, Op.operands, Call.operands]) gy _ hey (hgy ht')
          obtain ⟨L, c', hβ, hcv, hc1, _, hat⟩ := slice_at hh (hr x (by simp [ho, Op.operands, Call.operands]) gx _ hex (hgx ht')) hid hl
          have hcc : c' = c := hc1 (hat.slack.trans hsk)
          subst hcc
          obtain ⟨_, cs, h2, h3⟩ := hsrc β w.drew _ hh.drew e2
          obtain ⟨L2, hL2⟩ : ∃ L2, L2 = L := ⟨L, rfl⟩
          have hat' := hh.drew.live _ _ _ hid hl hβ
          obtain ⟨olds, h7, h8, h9⟩ := run_loadObj (P := P) hat' off (l * i.size) hol
          obtain ⟨cap, hle, hrun⟩ := run_grow (ty := o.type) (c := c') (base := some ⟨L.blk, L.base + off, none⟩) ht hk hi hz hbp w (hlenAll β w _ hh e2) hcl hbig (old := olds) h7 h2
          obtain ⟨β', h4, h5, h6⟩ := grown_new hh e i.size (l + n) cap ((ob.cells.drop off).take (l * i.size)) new (x := olds) (y := cs) (r := Builtin.zeroCells z.cells (cap - (l + n))) ⟨by simp [h8]; omega, h9⟩ h3 (by
            simp [Builtin.zeroCells, hzs, h3.1, hnl, h8]
            rw [← Nat.add_mul, ← Nat.add_mul]; congr 1; omega) hle
          exact ⟨_, _, β', hexec a w _ _ _ _ hcv rfl hrun, h6, h4, h5⟩
        · refine good_of hK (.inl hg) fun ht' β a w hh hr => ?_
          have e2 := hr y (by simp [ho, Op.operands, Call.operands]) gy _ hey (hgy ht')
          obtain ⟨L, c', hβ, hcv, hc1, _, hat⟩ := slice_at hh (hr x (by simp [ho, Op.operands, Call.operands]) gx _ hex (hgx ht')) hid hl
          have hcc : c' = c := hc1 (hat.slack.trans hsk)
          subst hcc
          obtain ⟨_, cs, h2, h3⟩ := hsrc β w _ hh e2
          have hmul : off + l * i.size + n * i.size ≤ ob.cells.length := by rw [Nat.add_assoc, ← Nat.add_mul]; exact hol
          obtain ⟨w', h4, h5, h6⟩ := storeObj (P := P) hh hid hl how hβ (off + l * i.size) new cs.toList (by omega) (by simp [h3.1]) hfl (fun j v hj => by
            obtain ⟨cv, q1, q2⟩ := h3.2 j v hj
            exact ⟨cv, by simpa using q1, q2⟩)
          have hadd : (⟨L.blk, L.base + off, none⟩ : Addr).add (l * i.size) = ⟨L.blk, L.base + (off + l * i.size), none⟩ := by unfold Addr.add; split <;> simp_all [Nat.add_assoc]
          refine ⟨_, w', β, hexec a w w' _ _ _ hcv rfl (run_room ht hk hi w w' (hlenAll β w _ hh e2) hcl h2 (by rw [hadd]; exact h4)), ?_, h5, h6⟩
          exact .slice ⟨L, hβ, rfl, fun _ => rfl, fun hs => by rw [hat.slack, hsk] at hs; simp at hs⟩
        · refine good_of hK (.inl hg) fun ht' β a w hh hr => ?_
          have e2 := hr y (by simp [ho, Op.operands, Call.operands]) gy _ hey (hgy ht')
          obtain ⟨L, c', hβ, hcv, _, hc2, hat⟩ := slice_at hh (hr x (by simp [ho, Op.operands, Call.operands]) gx _ hex (hgx ht')) hid hl
          obtain ⟨hc3, hc4⟩ := hc2 (hat.slack.trans hsk)
          have hLe : L.esz = i.size := hat.esz.trans hesz
          rw [hLe] at hc4
          by_cases hroom : l + n ≤ c'
          · -- in place
            obtain ⟨_, cs, h2, h3⟩ := hsrc β w _ hh e2
            obtain ⟨s0, e0, hat0⟩ := hat
            obtain ⟨cc, ee, fz, hcc, hbc, hf0, hcell⟩ := hat0 (.inl how)
            have hmul : l * i.size + n * i.size ≤ c' * i.size := by rw [← Nat.add_mul]; exact Nat.mul_le_mul_right _ hroom
            have hflc : ∀ v ∈ cs.toList, flat v = true := by
              intro v hv
              obtain ⟨j, hj, rfl⟩ := List.getElem_of_mem hv
              have hjn : j < new.length := by have := h3.1; simp at hj; omega
              obtain ⟨cv, q1, q2⟩ := h3.2 j _ (List.getElem?_eq_getElem hjn)
              have : cs.toList[j] = cv := by
                rw [Array.getElem?_eq_getElem (by simpa using hj)] at q1
                simpa using q1
              rw [this]
              exact q2.flat (List.all_eq_true.1 hfl _ (List.getElem_mem hjn))
            have hcsl : cs.toList.length = n * i.size := by simp [h3.1, hnl]
            obtain ⟨w', h4, t4⟩ := run_storeRow (P := P) (o := L.base + off + l * i.size) cs.toList 0 w cc hcc (by omega) (fun k _ hk => (hf0 how).2 k (by omega)) hflc
            have hadd : (⟨L.blk, L.base + off, none⟩ : Addr).add (l * i.size) = ⟨L.blk, L.base + off + l * i.size, none⟩ := by unfold Addr.add; split <;> simp_all
            have hcells : ∀ (j : Nat) v, (ob.cells.take (off + l * i.size) ++ new)[j]? = some v → ∃ cv, (splice cc (L.base + off + l * i.size + 0) cs.toList)[L.base + j]? = some cv ∧ VRel β v cv := by
              intro j v hj
              have htl : (ob.cells.take (off + l * i.size)).length = off + l * i.size := by simp; omega
              by_cases hlt : j < off + l * i.size
              · rw [List.getElem?_append_left (by omega), List.getElem?_take_of_lt hlt] at hj
                obtain ⟨cv, q1, q2⟩ := hcell j v hj
                refine ⟨cv, ?_, q2⟩
                rw [splice_at _ _ _ _ (Array.getElem?_eq_some_iff.1 q1).1, if_neg (by omega)]; exact q1
              · rw [List.getElem?_append_right (by omega), htl] at hj
                obtain ⟨cv, q1, q2⟩ := h3.2 _ v hj
                have hjn := (List.getElem?_eq_some_iff.1 hj).1
                refine ⟨cv, ?_, q2⟩
                rw [splice_at _ _ _ _ (by omega), if_pos (by omega)]
                rw [show L.base + j - (L.base + off + l * i.size + 0) = j - (off + l * i.size) by omega]
                simpa using q1
            obtain ⟨h5, h6⟩ := hh.write hid hl how hβ hcc t4 (splice_size _ _ _) _ hcells
            have hid2 : (h.set id { ob with cells := ob.cells.take (off + l * i.size) ++ new })[id]? = some { ob with cells := ob.cells.take (off + l * i.size) ++ new } := by
              rw [List.getElem?_set_self (List.getElem?_eq_some_iff.1 hid).1]
            obtain ⟨h7, h8, h9⟩ := HRel.move h5 hid2 hl how hβ off ⟨(ob.cells.drop off).take (l * i.size) ++ new, true, true, true, i.size⟩ (by rw [s0]; exact hsk.symm) hLe.symm (fun j v hj => by
              have htl : ((ob.cells.drop off).take (l * i.size)).length = l * i.size := by simp; omega
              have htl2 : (ob.cells.take (off + l * i.size)).length = off + l * i.size := by simp; omega
              simp only at hj ⊢
              by_cases hlt : j < l * i.size
              · rw [List.getElem?_append_left (by omega), List.getElem?_take_of_lt hlt, List.getElem?_drop] at hj
                rw [List.getElem?_append_left (by omega), List.getElem?_take_of_lt (by omega)]; exact hj
              · rw [List.getElem?_append_right (by omega), htl] at hj
                rw [List.getElem?_append_right (by omega), htl2, show off + j - (off + l * i.size) = j - l * i.size by omega]; exact hj)
            have hset : ∀ ob2 : AObj, (h.set id ob2).set id (AObj.dead ob2) = h.set id ob.dead := fun ob2 => by simp [AObj.dead]
            rw [hset] at h7 h8
            have hll : (h.set id { ob with cells := ob.cells.take (off + l * i.size) ++ new }).length = h.length := by simp
            refine ⟨_, w', _, hexec a w w' _ _ _ hcv rfl (run_room ht hk hi w w' (hlenAll β w _ hh e2) hroom h2 (by rw [hadd]; exact h4)), ?_, h7, h6.trans h8⟩
            refine .slice ⟨_, by rw [← hll]; exact LMap.put_self _ _ _, rfl, fun hs => ?_, fun _ => ⟨hroom, by simp only [hLe]; omega⟩⟩
            simp only [s0, hsk] at hs; simp at hs
          · -- anew
            obtain ⟨_, cs, h2, h3⟩ := hsrc β w.drew _ hh.drew e2
            have hat' := hh.drew.live _ _ _ hid hl hβ
            obtain ⟨olds, h7, h8, h9⟩ := run_loadObj (P := P) hat' off (l * i.size) hol
            obtain ⟨cap, hle, hrun⟩ := run_grow (ty := o.type) (c := c') (base := some ⟨L.blk, L.base + off, none⟩) ht hk hi hz hbp w (hlenAll β w _ hh e2) (by omega) hbig (old := olds) h7 h2
            obtain ⟨k1, k2⟩ := hh.kill hid
            obtain ⟨β', h4, h5, h6⟩ := grown_new k1 e i.size (l + n) cap ((ob.cells.drop off).take (l * i.size)) new (x := olds) (y := cs) (r := Builtin.zeroCells z.cells (cap - (l + n))) ⟨by simp [h8]; omega, h9⟩ h3 (by
              simp [Builtin.zeroCells, hzs, h3.1, hnl, h8]
              rw [← Nat.add_mul, ← Nat.add_mul]; congr 1; omega) hle
            rw [List.length_set] at h6
            exact ⟨_, _, β', hexec a w _ _ _ _ hcv rfl hrun, h6, h4, k2.trans h5⟩
      · first | exact H.elim | exact good_skip H
    · first | exact H.elim | exact good_skip H

theorem s_copy {sT xT e : TypeId} {esz : Nat} {x y : Operand} (ho : o.op = .call { callee := .builtin .copy, args := #[x, y], argTypes := #[sT, xT] }) (ht : P.underlying sT = some (.slice e))
    (hn : (P.info? e).map (·.size) = some esz) (H : OpVC P γ env h g (.copy esz x y) K) : Good P γ o env h g K := by
  obtain ⟨gx, s, hex, hgx, H1⟩ := Use.out H
  clear H
  obtain ⟨gy, t, hey, hgy, H⟩ := Use.out H1
  clear H1
  have hexec : ∀ (a : Act) (w w' : World) (cs cy v : Value), a.eval x = cs → a.eval y = cy → (Builtin.copy_ #[sT, xT] o.type #[cs, cy]).run P w = .ok v w' → (execOp a.eval o).run P w = .ok (.value v) w' := by
    intro a w w' cs cy v h1 h2 h3
    simp only [execOp, ho, resolve, Sem.run_bind, Sem.run_pure, Result.andThen_ok, invoke, builtin, List.map_toArray, List.map_cons, List.map_nil, h1, h2, h3]
  split at H
  · rename_i id off l c id2 off2 n c2
    split at H
    · rename_i ob ob2 hid hid2
      obtain ⟨hg, hl, how, hl2, hol, hol2, hfl, hK⟩ := H
      refine good_of hK (.inl hg) fun ht' β a w hh hr => ?_
      obtain ⟨L, c', hβ, hcv, _, _, hat⟩ := slice_at hh (hr x (by simp [ho, Op.operands, Call.operands]) gx _ hex (hgx ht')) hid hl
      obtain ⟨L2, c2', hβ2, hcv2, _, _, hat2⟩ := slice_at hh (hr y (by simp [ho, Op.operands, Call.operands]) gy _ hey (hgy ht')) hid2 hl2
      have hm1 : Nat.min n l * esz ≤ n * esz := Nat.mul_le_mul_right _ (Nat.min_le_left _ _)
      have hm2 : Nat.min n l * esz ≤ l * esz := Nat.mul_le_mul_right _ (Nat.min_le_right _ _)
      obtain ⟨cs, h1, h2, h3⟩ := run_loadObj (P := P) hat2 off2 (Nat.min n l * esz) (by omega)
      have hul : ((ob2.cells.drop off2).take (Nat.min n l * esz)).length = Nat.min n l * esz := by simp; omega
      obtain ⟨w', h4, h5, h6⟩ := storeObj (P := P) hh hid hl how hβ off ((ob2.cells.drop off2).take (Nat.min n l * esz)) cs.toList (by omega) (by simp [h2]; omega) hfl (fun j v hj => by
        obtain ⟨cv, q1, q2⟩ := h3 j v hj
        exact ⟨cv, by simpa using q1, q2⟩)
      refine ⟨_, w', β, hexec a w w' _ _ _ hcv hcv2 ?_, .int _ _, h5, h6⟩
      cases hi : P.info? e with
      | none => simp [hi] at hn
      | some i =>
        have hsz : i.size = esz := by simpa [hi] using hn
        simp only [Builtin.copy_, List.getElem?_toArray, List.getElem?_cons_zero, List.getElem?_cons_succ, Sem.run_bind, run_underlying ht, Result.andThen_ok, Builtin.lenOf, Sem.run_pure, run_size hn, Builtin.firstCells, h1, h4, goInt]
    · first | exact H.elim | exact good_skip H
  · first | exact H.elim | exact good_skip H
end
end Go.Vx
