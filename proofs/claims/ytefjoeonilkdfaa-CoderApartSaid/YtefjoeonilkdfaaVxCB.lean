/- A part of the proof: what it shows stands in its theorems. No condition beyond those that they name. -/
import Derived.Test.YtefjoeonilkdfaaVxPG
import Derived.Test.YtefjoeonilkdfaaVxCC
import Derived.Test.YtefjoeonilkdfaaVxCA
namespace Go.Vx
open Go.Proofs
set_option linter.unusedSimpArgs false
set_option linter.unusedVariables false
set_option maxRecDepth 100000
set_option maxHeartbeats 1000000

/-! The writer in memory. -/
structure WS (K : AHeap) (wid : Nat) (pv ov : Value) (p : List Int) (span : Nat) (w : Wr) : Prop where
  obj : K[wid]? = some ⟨[pv, .int .u64 w.low, .int .u32 span, .int .u8 w.kept.toNat, .int .i64 w.many, ov], true, true, false, 1⟩
  pm : Mut 1 iv [] K pv p false
  og : Grow 1 by1 [] K ov w.out

structure WF (h K : AHeap) (wid : Nat) (pv ov ov' : Value) : Prop where
  len : h.length ≤ K.length
  keep : ∀ k, k < h.length → k ≠ wid → (∀ n, pv ≠ .slice (some ⟨k, 0, none⟩) n n) → (∀ n, ov ≠ .slice (some ⟨k, 0, none⟩) n n) → K[k]? = h[k]?
  ov : ov' = ov ∨ ∃ q n, h.length ≤ q ∧ ov' = .slice (some ⟨q, 0, none⟩) n n

theorem WF.refl {h : AHeap} {wid : Nat} {pv ov : Value} : WF h h wid pv ov ov := ⟨Nat.le_refl _, fun _ _ _ _ _ => rfl, .inl rfl⟩
theorem WF.trans {h K J : AHeap} {wid : Nat} {pv a b c : Value} (f : WF h K wid pv a b) (g : WF K J wid pv b c) : WF h J wid pv a c := by
  refine ⟨Nat.le_trans f.len g.len, fun k hk h1 h2 h3 => ?_, ?_⟩
  · rw [g.keep k (Nat.lt_of_lt_of_le hk f.len) h1 h2 (fun n e => ?_), f.keep k hk h1 h2 h3]
    rcases f.ov with h | ⟨q, m, hq, h⟩
    · exact h3 n (h ▸ e)
    · rw [h] at e; simp at e; omega
  · rcases g.ov with h | ⟨q, m, hq, h⟩
    · rw [h]; exact f.ov
    · exact .inr ⟨q, m, Nat.le_trans f.len hq, h⟩

theorem WS.app {K : AHeap} {wid : Nat} {pv ov : Value} {p : List Int} {span : Nat} {w : Wr} (H : WS K wid pv ov p span w) (t : AHeap) : WS (K ++ t) wid pv ov p span w :=
  ⟨hp_old H.obj, H.pm.app t, H.og.app t⟩
theorem WF.app {h K : AHeap} {wid : Nat} {pv ov ov' : Value} (f : WF h K wid pv ov ov') (t : AHeap) : WF h (K ++ t) wid pv ov ov' :=
  ⟨by rw [List.length_append]; exact Nat.le_trans f.len (Nat.le_add_right _ _), fun k hk h1 h2 h3 => by rw [List.getElem?_append_left (Nat.lt_of_lt_of_le hk f.len)]; exact f.keep k hk h1 h2 h3, f.ov⟩

theorem WS.ids {K : AHeap} {wid : Nat} {pv ov : Value} {p : List Int} {span : Nat} {w : Wr} (H : WS K wid pv ov p span w) :
    wid < K.length ∧ (∀ k n, pv = .slice (some ⟨k, 0, none⟩) n n → k < K.length ∧ k ≠ wid) ∧ (∀ k n, ov = .slice (some ⟨k, 0, none⟩) n n → k < K.length ∧ k ≠ wid) ∧ (∀ k n m, pv = .slice (some ⟨k, 0, none⟩) n n → ov ≠ .slice (some ⟨k, 0, none⟩) m m) := by
  obtain ⟨h1, h2, h3⟩ := H
  refine ⟨(List.getElem?_eq_some_iff.1 h1).1, fun k n e => ?_, fun k n e => ?_, fun k n m e e2 => ?_⟩
  · rcases h2 with ⟨_, h⟩ | ⟨j, h, _, h4⟩
    · rw [h] at e; cases e
    · rw [h] at e; cases e
      refine ⟨(List.getElem?_eq_some_iff.1 h4).1, fun e => ?_⟩
      subst e; rw [h1] at h4
      simp only [Option.some.injEq, AObj.mk.injEq] at h4
      cases p with
      | nil => simp at h4
      | cons a r =>
        have := h4.1
        rw [h] at this
        simp at this
  · rcases h3 with ⟨_, h⟩ | ⟨_, j, h, _, h4⟩
    · rw [h] at e; cases e
    · rw [h] at e; cases e
      refine ⟨(List.getElem?_eq_some_iff.1 h4).1, fun e => ?_⟩
      subst e; rw [h1] at h4; simp at h4
  · rcases h2 with ⟨_, h⟩ | ⟨j, h, _, h4⟩
    · rw [h] at e; cases e
    · rw [h] at e; cases e
      rcases h3 with ⟨_, h⟩ | ⟨_, j, h, _, h5⟩
      · rw [h] at e2; cases e2
      · rw [h] at e2; cases e2
        rw [h4] at h5; simp at h5

theorem exit_ws {h K : AHeap} {wid : Nat} {pv ov ov' : Value} {p0 p : List Int} {s0 s : Nat} {w0 w : Wr} (H0 : WS h wid pv ov p0 s0 w0) (H : WS K wid pv ov' p s w) (F : WF h K wid pv ov ov') {v : Value} (hv : cOk v = true) :
    ∃ ov2 h', (WS h' wid pv ov2 p s w ∧ WF h h' wid pv ov ov2) ∧ ExitOk h K v v h' := by
  obtain ⟨i1, i2, i3, i4⟩ := H0.ids
  have hpv : ∀ ρ : Nat → Nat, (∀ k, k < h.length → ρ k = k) → RR ρ pv pv := by
    intro ρ hρ
    rcases H0.pm with ⟨_, e⟩ | ⟨j, e, _, _⟩
    · rw [e]; exact rr_scal rfl
    · rw [e]; exact rr_slice (hρ _ (i2 _ _ e).1)
  have hlen : (K.take h.length).length = h.length := by rw [List.length_take]; have := F.len; omega
  have hget : ∀ k, k < h.length → (K.take h.length)[k]? = K[k]? := fun k hk => List.getElem?_take_of_lt hk
  have hints : ∀ u ∈ p.flatMap iv, cOk u = true := by
    intro u hu; simp only [List.mem_flatMap] at hu; obtain ⟨x, _, hx⟩ := hu; exact iv_ok x u hx
  have hbytes : ∀ u ∈ w.out.flatMap by1, cOk u = true := by
    intro u hu; simp only [List.mem_flatMap] at hu; obtain ⟨x, _, hx⟩ := hu; exact by1_ok x u hx
  have hpm : ∀ h' : AHeap, (∀ k n, pv = .slice (some ⟨k, 0, none⟩) n n → h'[k]? = K[k]?) → Mut 1 iv [] h' pv p false := by
    intro h' hh
    rcases H.pm with h1 | ⟨j, e, h2, h3⟩
    · exact .inl h1
    · exact .inr ⟨j, e, h2, by rw [hh j _ e]; exact h3⟩
  rcases F.ov with e | ⟨q, n, hq, e⟩
  · -- nothing was put behind
    subst e
    refine ⟨ov', K.take h.length, ⟨⟨by rw [hget _ i1]; exact H.obj, hpm _ fun k n e => hget k (i2 k n e).1, ?_⟩, ⟨by omega, fun k hk h1 h2 h3 => by rw [hget k hk]; exact F.keep k hk h1 h2 h3, .inl rfl⟩⟩, ?_⟩
    · rcases H.og with h1 | ⟨h1, j, e, h2, h3⟩
      · exact .inl h1
      · exact .inr ⟨h1, j, e, h2, by rw [hget j (i3 _ _ e).1]; exact h3⟩
    · refine ⟨[], by simp [hlen], by simp, by simp, cOk_rel hv, fun id ob' ho hl => ?_⟩
      have hid : id < h.length := by have := (List.getElem?_eq_some_iff.1 ho).1; omega
      rw [hget id hid] at ho
      have hren : ren h.length [] K.length id = id := by unfold ren; rw [if_pos hid]
      refine ⟨ob', by rw [hren]; exact ho, hl, rfl, rfl, rfl, ?_⟩
      by_cases c1 : id = wid
      · subst c1
        rw [H.obj] at ho; cases ho
        refine .inr fun j u hj => ⟨u, hj, ?_⟩
        match j with
        | 0 => simp at hj; subst hj; exact hpv _ fun k hk => by unfold ren; rw [if_pos hk]
        | 1 => simp at hj; subst hj; exact rr_scal rfl
        | 2 => simp at hj; subst hj; exact rr_scal rfl
        | 3 => simp at hj; subst hj; exact rr_scal rfl
        | 4 => simp at hj; subst hj; exact rr_scal rfl
        | 5 =>
          simp at hj; subst hj
          rcases H.og with ⟨_, e⟩ | ⟨_, j, e, _, _⟩
          · rw [e]; exact rr_scal rfl
          · rw [e]; exact rr_slice (by unfold ren; rw [if_pos (i3 _ _ e).1])
        | n + 6 => simp at hj
      · by_cases c2 : ∃ n, pv = .slice (some ⟨id, 0, none⟩) n n
        · obtain ⟨n, e⟩ := c2
          rcases H.pm with ⟨_, e2⟩ | ⟨j, e2, _, h3⟩
          · rw [e2] at e; cases e
          · rw [e2] at e; cases e
            rw [h3] at ho; cases ho
            exact .inr fun j u hj => ⟨u, hj, rr_ok (hints u (List.mem_of_getElem? hj))⟩
        · by_cases c3 : ∃ n, ov' = .slice (some ⟨id, 0, none⟩) n n
          · obtain ⟨n, e⟩ := c3
            rcases H.og with ⟨_, e2⟩ | ⟨_, j, e2, _, h3⟩
            · rw [e2] at e; cases e
            · rw [e2] at e; cases e
              rw [h3] at ho; cases ho
              exact .inr fun j u hj => ⟨u, hj, rr_ok (hbytes u (List.mem_of_getElem? hj))⟩
          · refine .inl ⟨hid, ?_, rfl⟩
            rw [← ho]
            exact (F.keep id hid c1 (fun n e => c2 ⟨n, e⟩) (fun n e => c3 ⟨n, e⟩)).symm
  · -- a new text
    subst e
    obtain ⟨h1, j, e, h2, h3⟩ : w.out ≠ [] ∧ ∃ j, (Value.slice (some ⟨q, 0, none⟩) n n) = .slice (some ⟨j, 0, none⟩) w.out.length w.out.length ∧ ([] : AHeap).length ≤ j ∧ K[j]? = some ⟨w.out.flatMap by1, true, true, true, 1⟩ := by
      rcases H.og with ⟨_, h⟩ | h
      · cases h
      · exact h
    cases e
    obtain ⟨W, hW⟩ : ∃ W : AObj, W = ⟨[pv, .int .u64 w.low, .int .u32 s, .int .u8 w.kept.toNat, .int .i64 w.many, .slice (some ⟨h.length, 0, none⟩) w.out.length w.out.length], true, true, false, 1⟩ := ⟨_, rfl⟩
    obtain ⟨B, hB⟩ : ∃ B : AHeap, B = deadH ((K.take h.length).set wid W) ov := ⟨_, rfl⟩
    have hBl : B.length = h.length := by
      rw [hB]; unfold deadH; split <;> simp [hlen]
    have hBg : ∀ k, k < h.length → (∀ n, ov ≠ .slice (some ⟨k, 0, none⟩) n n) → B[k]? = ((K.take h.length).set wid W)[k]? := by
      intro k hk hne
      rw [hB]
      rcases H0.og with ⟨_, e⟩ | ⟨_, j, e, _, _⟩
      · rw [e]; rfl
      · rw [e]; simp only [deadH]
        rw [List.getElem?_set_ne]
        intro he; subst he; exact hne _ e
    have hBd : ∀ k n ob, ov = .slice (some ⟨k, 0, none⟩) n n → B[k]? = some ob → ob.live = false := by
      intro k n ob e hk
      rw [hB, e] at hk; simp only [deadH] at hk
      rw [List.getElem?_set_self (by simp [hlen]; exact (i3 _ _ e).1)] at hk
      cases hk; rfl
    have hBw : B[wid]? = some W := by
      rw [hBg wid i1 (fun n e => (i3 _ _ e).2 rfl), List.getElem?_set_self (by rw [hlen]; exact i1)]
    have hBo : ∀ k, k < h.length → k ≠ wid → (∀ n, ov ≠ .slice (some ⟨k, 0, none⟩) n n) → B[k]? = K[k]? := by
      intro k hk c1 c2
      rw [hBg k hk c2, List.getElem?_set_ne (Ne.symm c1), hget k hk]
    refine ⟨.slice (some ⟨h.length, 0, none⟩) w.out.length w.out.length, B ++ [⟨w.out.flatMap by1, true, true, true, 1⟩], ⟨⟨?_, hpm _ fun k n e => ?_, .inr ⟨h1, h.length, rfl, Nat.zero_le _, ?_⟩⟩, ⟨by simp [hBl], fun k hk c1 c2 c3 => ?_, .inr ⟨_, _, Nat.le_refl _, rfl⟩⟩⟩, ?_⟩
    · rw [List.getElem?_append_left (by omega), hBw, hW]
    · obtain ⟨j1, j2⟩ := i2 k n e
      rw [List.getElem?_append_left (by omega)]
      exact hBo k j1 j2 (fun m => i4 k n m e)
    · rw [← hBl, hp_self]; rfl
    · rw [List.getElem?_append_left (by omega), hBo k hk c1 c3]
      exact F.keep k hk c1 c2 c3
    · refine ⟨[q], by simp [hBl], by simpa using hq, by simp, cOk_rel hv, fun id ob' ho hl => ?_⟩
      have hold : ∀ k, k < h.length → ren h.length [q] K.length k = k := fun k hk => by unfold ren; rw [if_pos hk]
      rcases Nat.lt_or_ge id h.length with hid | hid
      · rw [List.getElem?_append_left (by omega)] at ho
        have c3 : ∀ n, ov ≠ .slice (some ⟨id, 0, none⟩) n n := fun n e => by rw [hBd id n _ e ho] at hl; simp at hl
        by_cases c1 : id = wid
        · subst c1
          rw [hBw] at ho; cases ho
          subst hW
          have hob : K[ren h.length [q] K.length id]? = K[id]? := by rw [hold id hid]
          refine ⟨_, hob.trans H.obj, rfl, rfl, rfl, rfl, .inr fun j u hj => ?_⟩
          match j with
          | 0 => simp at hj; subst hj; exact ⟨_, rfl, hpv _ hold⟩
          | 1 => simp at hj; subst hj; exact ⟨_, rfl, rr_scal rfl⟩
          | 2 => simp at hj; subst hj; exact ⟨_, rfl, rr_scal rfl⟩
          | 3 => simp at hj; subst hj; exact ⟨_, rfl, rr_scal rfl⟩
          | 4 => simp at hj; subst hj; exact ⟨_, rfl, rr_scal rfl⟩
          | 5 => simp at hj; subst hj; exact ⟨_, rfl, rr_slice (ren_new _ _ _ _)⟩
          | n + 6 => simp at hj
        · rw [hBo id hid c1 c3] at ho
          refine ⟨ob', by rw [hold _ hid]; exact ho, hl, rfl, rfl, rfl, ?_⟩
          by_cases c2 : ∃ n, pv = .slice (some ⟨id, 0, none⟩) n n
          · obtain ⟨n, e⟩ := c2
            rcases H.pm with ⟨_, e2⟩ | ⟨j, e2, _, h4⟩
            · rw [e2] at e; cases e
            · rw [e2] at e; cases e
              rw [h4] at ho; cases ho
              exact .inr fun j u hj => ⟨u, hj, rr_ok (hints u (List.mem_of_getElem? hj))⟩
          · refine .inl ⟨hid, ?_, rfl⟩
            rw [← ho]
            exact (F.keep id hid c1 (fun n e => c2 ⟨n, e⟩) c3).symm
      · have hid2 : id = h.length := by
          have := (List.getElem?_eq_some_iff.1 ho).1
          simp [hBl] at this; omega
        subst hid2
        rw [← hBl, hp_self] at ho
        simp at ho; subst ho
        exact ⟨_, by rw [ren_new]; exact h3, rfl, rfl, rfl, rfl, .inr fun k u hk => ⟨u, hk, rr_ok (hbytes u (List.mem_of_getElem? hk))⟩⟩
end Go.Vx
