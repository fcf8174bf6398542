/- A part of the proof: what it shows stands in its theorems. No condition beyond those that they name. -/
import Derived.Test.YtefjoeonilkdfaaVxG
import Derived.Laws.BytesString
namespace Go.Vx
set_option linter.unusedSimpArgs false
set_option linter.unusedVariables false

/-! Strings out of bytes and back, the least and the greatest, append, copy. -/

theorem isByte_out {v : Value} (h : isByte v = true) : ∃ n, v = .int .u8 n := by
  unfold isByte at h; split at h
  · exact ⟨_, rfl⟩
  · simp at h

section
variable {P : Program} {γ : Nat → Option Nat} {o : Oper} {env : Env} {h : AHeap} {g : Bool} {K : Value → AHeap → Prop}

theorem s_toBytes {src dst e : TypeId} {x : Operand} (ho : o.op = .convert src dst x) (hs : P.underlying src = some .string) (hd : P.underlying dst = some (.slice e)) (he : P.underlying e = some (.int .u8))
    (H : OpVC P γ env h g (.toBytes e x) K) : Good P γ o env h g K := by
  obtain ⟨gx, u, hex, hgx, H1⟩ := Use.out H
  clear H
  split at H1
  · rename_i s
    obtain ⟨ht, hsz, hK⟩ := H1
    refine good_of hK (.inl ht) fun _ β a w hh hr => ?_
    have e1 := scal_eq (hr x (by simp [ho, Op.operands]) gx _ hex (hgx ht)) rfl
    obtain ⟨cap, hcap, hle⟩ : ∃ cap, (choose (.appendCap s.size 0 e)).run P w = .ok cap { w with drawn := w.drawn + 1 } ∧ s.size ≤ cap :=
      ⟨(Question.appendCap s.size 0 e).cut (w.tape w.drawn (.appendCap s.size 0 e)), rfl, Nat.le_add_right _ _⟩
    obtain ⟨c, hcd, hc⟩ : ∃ c : Array Value, c = (s.data.map fun b => Value.int .u8 b.toNat) ++ Array.replicate (cap - s.size) (.int .u8 0) ∧ c.size = cap := by
      refine ⟨_, rfl, ?_⟩
      have : s.data.size = s.size := rfl
      simp [this]; omega
    obtain ⟨w1, hw1⟩ : ∃ w1 : World, w1 = { w with drawn := w.drawn + 1, heap := w.heap.push (.cells c e) } := ⟨_, rfl⟩
    have hat : w1.heap[w.heap.size]? = some (.cells c e (0, 0)) := by rw [hw1]; simp
    obtain ⟨w', hwd⟩ : ∃ w', w' = w1.freeze ⟨w.heap.size, cap, none⟩ 1 := ⟨_, rfl⟩
    have hfz : w' = { w1 with heap := w1.heap.modify w.heap.size fun
      | .cells c elem (lo, hi) => .cells c elem (if lo == hi then (cap, cap + 1) else (min lo cap, max hi (cap + 1)))
      | o => o } := by rw [hwd]; rfl
    have hw' : w'.heap = w.heap.push (.cells c e (cap, cap + 1)) := by
      rw [hfz, hw1]
      apply Array.ext (by simp)
      intro i h1 h2
      simp only [Array.getElem_modify]
      split
      · rename_i hi; subst hi; simp
      · rename_i hi
        have : i < w.heap.size := by simp at h2; omega
        simp [Array.getElem_push, this]
    obtain ⟨h1, h2, h3⟩ := HRel.new (w' := w') hh c e (cap, cap + 1) ⟨s.data.toList.map fun b => .int .u8 b.toNat, true, true, true, 1⟩ hw' (by rw [hfz, hw1]) (by rw [hfz, hw1]) (by rw [hfz, hw1])
      ⟨by simp, fun k hk => by rw [hc] at hk; simp; omega⟩ (fun j v hj => by
        refine ⟨v, ?_, ?_⟩
        · have hjl := (List.getElem?_eq_some_iff.1 hj).1
          simp at hjl
          rw [hcd, Array.getElem?_append_left (by simpa using hjl)]
          simpa using hj
        · simp only [List.getElem?_map, Option.map_eq_some_iff] at hj
          obtain ⟨b, _, rfl⟩ := hj
          exact .int _ _)
    refine ⟨.slice (some ⟨w.heap.size, 0, none⟩) s.size cap, w', _, ?_, .slice ⟨_, LMap.put_self _ _ _, rfl, fun h => by simp at h, fun _ => ⟨hle, by simp [hc]⟩⟩, h1, h2⟩
    have hmark : (markStringish ⟨w.heap.size, 0, none⟩).run P w1 = .ok () w' := by
      simp only [markStringish, Sem.run_bind, shape, Sem.run, World.shape?, hat, Result.andThen_ok, hc, freeze, hwd]
    have hrow : (newRow e c).run P { w with drawn := w.drawn + 1 } = .ok ⟨w.heap.size, 0, none⟩ w1 := by
      rw [hw1]; simp [newRow, newObj, Sem.run]
      exact ⟨rfl, rfl, rfl⟩
    simp only [execOp, ho, convert, Sem.run_bind, run_underlying hs, run_underlying hd, Result.andThen_ok, e1, run_underlying he, Conv.stringToBytes, hcap, ← hcd, hrow, hmark, Sem.run_pure]
  · first | exact H1.elim | exact good_skip H1

theorem s_mark {src e : TypeId} {x : Operand} (ho : o.op = .convert src src x) (hs : P.underlying src = some (.slice e)) (he : P.underlying e = some (.int .u8))
    (H : OpVC P γ env h g (.mark x) K) : Good P γ o env h g K := by
  obtain ⟨gx, u, hex, hgx, H1⟩ := Use.out H
  clear H
  split at H1
  · rename_i id off n c
    split at H1
    · rename_i ob hid
      obtain ⟨ht, hl, how, hK⟩ := H1
      refine good_of hK (.inl ht) fun _ β a w hh hr => ?_
      have e0 := hr x (by simp [ho, Op.operands]) gx _ hex (hgx ht)
      obtain ⟨L, c', hβ, hcv, _, _, hat⟩ := slice_at hh e0 hid hl
      obtain ⟨cc, ee, fz, hcc, hbc, hf0, hcell⟩ := hat.at_ (.inl how)
      obtain ⟨w', hwd⟩ : ∃ w', w' = w.freeze ⟨L.blk, cc.size, none⟩ 1 := ⟨_, rfl⟩
      have hfz : w' = { w with heap := w.heap.modify L.blk fun
        | .cells c elem (lo, hi) => .cells c elem (if lo == hi then (cc.size, cc.size + 1) else (min lo cc.size, max hi (cc.size + 1)))
        | o => o } := by rw [hwd]; rfl
      obtain ⟨fz', hfz'⟩ : ∃ fz' : Nat × Nat, fz' = if fz.1 == fz.2 then (cc.size, cc.size + 1) else (min fz.1 cc.size, max fz.2 (cc.size + 1)) := ⟨_, rfl⟩
      have hlt := (Array.getElem?_eq_some_iff.1 hcc)
      have hT : Turned w w' L.blk (.cells cc ee fz') := by
        refine ⟨by rw [hfz], by rw [hfz], by rw [hfz], by rw [hfz]; simp, ?_, fun b hb => ?_⟩
        · rw [hfz, Array.getElem?_eq_getElem (by simpa using hlt.1)]
          simp only [Array.getElem_modify, if_true, hlt.2, hfz']
        · rw [hfz]
          simp only [Array.getElem?_modify]
          rw [if_neg (fun hq => hb hq.symm)]
      obtain ⟨h1, h2⟩ := HRel.refreeze hh hid hl how hβ hcc (fz' := fz') (fun ⟨hle, hall⟩ => by
        rw [hfz']
        by_cases hq : fz.1 = fz.2
        · rw [if_pos (by simpa using hq)]
          exact ⟨by simp, fun k hk => by simp; omega⟩
        · rw [if_neg (by simpa using hq)]
          have : cc.size ≤ fz.1 := by
            rcases Nat.lt_or_ge fz.1 cc.size with hlt | hge
            · exact absurd ⟨Nat.le_refl _, by omega⟩ (hall _ hlt)
            · exact hge
          exact ⟨by simp; omega, fun k hk => by simp; omega⟩) hT rfl ob.cells hcell
      have hset : h.set id { ob with cells := ob.cells } = h := by
        apply List.ext_getElem?
        intro i
        rw [List.getElem?_set]
        split
        · rename_i hi; subst hi; rw [if_pos (List.getElem?_eq_some_iff.1 hid).1, hid]
        · rfl
      rw [hset] at h1 h2
      refine ⟨a.eval x, w', β, ?_, e0, h1, h2⟩
      have hmark : (markStringish ⟨L.blk, L.base + off, none⟩).run P w = .ok () w' := by
        simp only [markStringish, Sem.run_bind, shape, Sem.run, World.shape?, hcc, Result.andThen_ok, freeze, hwd]
      simp only [execOp, ho, hcv, convert, Sem.run_bind, run_underlying hs, Result.andThen_ok, run_underlying he, beq_self_eq_true, hmark, Sem.run_pure]
    · first | exact H1.elim | exact good_skip H1
  · first | exact H1.elim | exact good_skip H1

theorem foldl_push (ns : List Int) : ∀ (s : ByteArray), ns.foldl (fun r n => r.push (UInt8.ofNat n.toNat)) s = ⟨s.data ++ (ns.map fun n => UInt8.ofNat n.toNat).toArray⟩ := by
  induction ns with
  | nil => intro s; simp
  | cons n r ih =>
    intro s
    rw [List.foldl_cons, ih]
    simp [ByteArray.push]

theorem s_toStr {src dst e : TypeId} {x : Operand} (ho : o.op = .convert src dst x) (hs : P.underlying src = some (.slice e)) (hd : P.underlying dst = some .string) (he : P.underlying e = some (.int .u8))
    (H : OpVC P γ env h g (.toStr x) K) : Good P γ o env h g K := by
  obtain ⟨gx, u, hex, hgx, H1⟩ := Use.out H
  clear H
  split at H1
  · refine good_pure H1 fun ht β a w hh hr => ⟨_, ?_, .string _⟩
    have e1 := scal_eq (hr x (by simp [ho, Op.operands]) gx _ hex (hgx ht)) rfl
    simp only [execOp, ho, e1, Sem.run_bind, run_convert_bytes_string w _ _ _ _ _ _ hs he hd, Conv.bytesToString, Sem.run_pure, Result.andThen_ok]
  · rename_i id off n c
    split at H1
    · rename_i ob hid
      obtain ⟨hc, hK⟩ := H1
      refine good_pure hK fun ht β a w hh hr => ⟨_, ?_, .string _⟩
      obtain ⟨hl, hlen, hall⟩ := hc ht
      obtain ⟨L, c', hβ, hcv, _, _, hat⟩ := slice_at hh (hr x (by simp [ho, Op.operands]) gx _ hex (hgx ht)) hid hl
      obtain ⟨cs, h1, h2, h3⟩ := run_loadObj (P := P) hat off n hlen
      have hcs : cs = ((((ob.cells.drop off).take n).map fun v => match v with | .int _ q => q | _ => 0).map (Value.int .u8)).toArray := by
        apply Array.ext (by simp [h2]; omega)
        intro i hi1 hi2
        have hin : i < ((ob.cells.drop off).take n).length := by simpa using hi2
        obtain ⟨cv, h4, h5⟩ := h3 i _ (List.getElem?_eq_getElem hin)
        rw [Array.getElem?_eq_getElem hi1] at h4; cases h4
        obtain ⟨q, hq⟩ := isByte_out (List.all_eq_true.1 hall _ (List.getElem_mem hin))
        rw [hq] at h5
        rw [scal_eq h5 rfl]
        simp only [List.getElem_toArray, List.getElem_map, hq]
      have hrun := run_bytesToString (P := P) w ⟨L.blk, L.base + off, none⟩ n c' _ (by rw [h1, hcs])
      simp only [execOp, ho, hcv, Sem.run_bind, run_convert_bytes_string w _ _ _ _ _ _ hs he hd, hrun, Sem.run_pure, Result.andThen_ok]
      rw [foldl_push]
      congr 4
      simp only [List.map_map]
      have : (ByteArray.empty.data : Array UInt8) = #[] := rfl
      rw [this, Array.empty_append]
      congr 1
      apply List.map_congr_left
      intro v hv
      obtain ⟨q, rfl⟩ := isByte_out (List.all_eq_true.1 hall v hv)
      rfl
    · first | exact H1.elim | exact good_skip H1
  · first | exact H1.elim | exact good_skip H1

theorem s_mm {b : Builtin} {isMax : Bool} {ts : Array TypeId} {x : Operand} {xs : List Operand} (ho : o.op = .call { callee := .builtin b, args := (x :: xs).toArray, argTypes := ts }) (hb : b = if isMax then .max else .min)
    (H : OpVC P γ env h g (.mm isMax x xs) K) : Good P γ o env h g K := by
  obtain ⟨gx, u, hex, hgx, H1⟩ := Use.out H
  clear H
  obtain ⟨vs, hl, H, hall⟩ := Uses.out H1
  clear H1
  split at H
  · rename_i k n
    obtain ⟨hint, hK⟩ := H
    refine good_pure hK fun ht β a w hh hr => ⟨_, ?_, .int _ _⟩
    have e1 := scal_eq (hr x (by simp [ho, Op.operands, Call.operands]) gx _ hex (hgx ht)) rfl
    have e2 : xs.map a.eval = vs := by
      apply List.ext_getElem (by simp [hl])
      intro i h1 h2
      simp at h1
      obtain ⟨gi, hei, hgi⟩ := hall i _ _ (List.getElem?_eq_getElem h1) (List.getElem?_eq_getElem h2)
      have hm := hr xs[i] (by simp [ho, Op.operands, Call.operands]) gi _ hei (hgi ht)
      have hs : scal vs[i] = true := by
        have := List.all_eq_true.1 hint vs[i] (List.getElem_mem h2)
        generalize hq : vs[i] = q at this
        cases q <;> simp [scal] at this ⊢
      simp [scal_eq hm hs]
    have key : ∀ (l : List Value) (m : Int), l.all (fun u => match u with | .int k' _ => k' == k | _ => false) = true →
        (List.foldlM (if isMax then Builtin.max2 else Builtin.min2) (.int k m) l).run P w = .ok (.int k (l.foldl (fun m u => match u with | .int _ q => if isMax then (if q > m then q else m) else (if q < m then q else m) | _ => m) m)) w := by
      intro l
      induction l with
      | nil => intro m _; simp
      | cons v r ih =>
        intro m hv
        simp only [List.all_cons, Bool.and_eq_true] at hv
        cases v with
        | int k' q =>
          rw [List.foldlM_cons, Sem.run_bind, List.foldl_cons]
          cases isMax
          · simp only [Bool.false_eq_true, if_false, Builtin.min2, Sem.run_pure, Result.andThen_ok] at ih ⊢
            exact ih _ hv.2
          · simp only [if_true, Builtin.max2, Sem.run_pure, Result.andThen_ok] at ih ⊢
            exact ih _ hv.2
        | _ => simp at hv
    have hrun := key vs n hint
    subst hb
    cases isMax
    · simp only [Bool.false_eq_true, if_false] at hrun ho
      simp only [execOp, ho, resolve, Sem.run_bind, Sem.run_pure, Result.andThen_ok, invoke, builtin, Builtin.min_, List.map_toArray, List.map_cons, e1, e2, hrun]
      rfl
    · simp only [if_true] at hrun ho
      simp only [execOp, ho, resolve, Sem.run_bind, Sem.run_pure, Result.andThen_ok, invoke, builtin, Builtin.max_, List.map_toArray, List.map_cons, e1, e2, hrun]
      rfl
  · first | exact H.elim | exact good_skip H
end
end Go.Vx
