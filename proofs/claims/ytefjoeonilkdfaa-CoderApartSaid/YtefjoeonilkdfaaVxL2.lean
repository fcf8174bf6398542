/- A part of the proof: what it shows stands in its theorems. No condition beyond those that they name. -/
import Derived.Test.YtefjoeonilkdfaaVxL
namespace Go.Vx
variable {md : Bool}
set_option linter.unusedSimpArgs false
set_option linter.unusedVariables false

/-! Rows whose order is drawn, by an invariant: what holds behind any part of them. -/

theorem count_done {j : Nat} : ∀ {l : List Nat} {S : Nat → Bool}, l.Nodup → j ∈ l → S j = false → (l.filter fun i => !(S i || i == j)).length + 1 = (l.filter fun i => !S i).length
  | [], S, _, h, _ => by simp at h
  | b :: r, S, hnd, hmem, hS => by
    rw [List.nodup_cons] at hnd
    by_cases hbj : b = j
    · subst hbj
      have hrest : (r.filter fun i => !(S i || i == b)) = r.filter fun i => !S i := by
        apply List.filter_congr
        intro i hi
        have : i ≠ b := fun e => hnd.1 (e ▸ hi)
        simp [this]
      rw [List.filter_cons_of_neg (by simp), List.filter_cons_of_pos (by simp [hS]), hrest]; simp
    · have hjr : j ∈ r := by
        rcases List.mem_cons.1 hmem with h | h
        · exact absurd h.symm hbj
        · exact h
      have ih := count_done hnd.2 hjr hS
      cases hv : S b with
      | true => rw [List.filter_cons_of_neg (by simp [hv]), List.filter_cons_of_neg (by simp [hv])]; exact ih
      | false => rw [List.filter_cons_of_pos (by simp [hv, hbj]), List.filter_cons_of_pos (by simp [hv]), List.length_cons, List.length_cons, ih]

theorem inv_sem {P : Program} {γ : Nat → Option Nat} {N : Nat} {ops : Array Oper} {is : List (Ins × List Nat)} (hlen : is.length = ops.size)
    (hall : ∀ k, k < ops.size → ∃ o x, ops[k]? = some o ∧ is[k]? = some (x, bindsAny o) ∧ compIns P N ops false o = some x) (hback : ∀ (k : Nat) o, ops[k]? = some o → ∀ j ∈ bindsAny o, j < k)
    {Inv : (Nat → Bool) → St → Prop} (hstep : ∀ S s (i : Nat) x ds, is[i]? = some (x, ds) → S i = false → (∀ j ∈ ds, S j = true) → Inv S s → ∀ o, ops[i]? = some o → ∃ g v h', guardVal s.env x.guard = some g ∧ (g = true → OpSem P γ o s.env s.heap v h') ∧ (g = true ∨ h' = s.heap) ∧ Inv (fun j => S j || j == i) ⟨putE s.env x.dst g v, h'⟩)
    {Q : St → Prop} (hfin : ∀ S s, (∀ i, i < is.length → S i = true) → Inv S s → ∃ s', Le s' s ∧ Q s') {Qx : Exit → Act → World → Prop} :
    ∀ (n : Nat) (listed : Array Bool) (S : Nat → Bool) (s : St), (∀ i, i < ops.size → listed.getD i true = S i ∧ listed.getD i false = S i) → ((List.range ops.size).filter fun i => !S i).length = n → Inv S s →
    ∀ {β : LMap} {a : Act} {w : World}, Rel γ N β s a w → (∀ s' β' a' w', Q s' → Rel γ N β' s' a' w' → Fr β s.heap w β' s'.heap w' → Qx .normal a' w') → wpAny P .any ops Qx n listed a w
  | 0, listed, S, s, hl, hn, hI, β, a, w, hr, hQ => by
    have hfull : ∀ i, i < ops.size → S i = true := by
      intro i hi
      have := List.length_eq_zero_iff.1 hn
      rw [List.filter_eq_nil_iff] at this
      simpa using this i (List.mem_range.2 hi)
    obtain ⟨s', hle, hq⟩ := hfin S s (fun i hi => hfull i (by omega)) hI
    refine wpAny_done ?_ (hQ s' β a w hq (hr.le hle) (by rw [← hle.1]; exact Fr.refl _ _ _)) 0
    apply List.eq_nil_iff_forall_not_mem.2
    intro j hj
    obtain ⟨h1, oj, hoj, _⟩ := mem_ready_any hj
    have hjlt := (Array.getElem?_eq_some_iff.1 hoj).1
    rw [(hl j hjlt).1, hfull j hjlt] at h1
    simp at h1
  | n + 1, listed, S, s, hl, hn, hI, β, a, w, hr, hQ => by
    have hex : ∃ i, i < ops.size ∧ S i = false ∧ ∀ k, k < i → S k = true := by
      have hne : ((List.range ops.size).filter fun i => !S i) ≠ [] := by intro h; rw [h] at hn; simp at hn
      obtain ⟨i, hi⟩ := List.exists_mem_of_ne_nil _ hne
      rw [List.mem_filter, List.mem_range] at hi
      obtain ⟨hi1, hi2⟩ := hi
      replace hi2 : S i = false := by simpa using hi2
      clear hne hn
      induction i using Nat.strongRecOn with
      | _ i ih =>
        by_cases hq : ∃ k, k < i ∧ S k = false
        · obtain ⟨k, hk1, hk2⟩ := hq
          exact ih k hk1 (by omega) hk2
        · refine ⟨i, hi1, hi2, fun k hk => ?_⟩
          cases hkv : S k with
          | true => rfl
          | false => exact absurd ⟨k, hk, hkv⟩ hq
    obtain ⟨i0, hi0, hun, hmin⟩ := hex
    obtain ⟨o0, _, ho0, _⟩ := hall i0 hi0
    have hr0 : i0 ∈ Region.ready .any ops listed := ready_of ho0 (by rw [(hl i0 hi0).1]; exact hun) (fun k hk => by
      have hk2 := hback i0 o0 ho0 k hk
      rw [(hl k (by omega)).2]; exact hmin k hk2)
    refine ⟨fun hnil => by rw [hnil] at hr0; simp at hr0, fun j hj => ?_⟩
    obtain ⟨h1, oj, hoj, h2⟩ := mem_ready_any hj
    have hjlt := (Array.getElem?_eq_some_iff.1 hoj).1
    obtain ⟨o, x, ho, hx, hcomp⟩ := hall j hjlt
    rw [hoj] at ho; cases ho
    have hSj : S j = false := by rw [← (hl j hjlt).1]; exact h1
    have H := hstep S s j x _ hx hSj (fun k hk => by
      have := hback j oj hoj k hk
      rw [← (hl k (by omega)).2]; exact h2 k hk) hI oj hoj
    obtain ⟨g, v, h', hg, hsem, hh', hrest⟩ := H
    refine wpOp_sound hcomp hoj hg hsem hh' hr fun β' a' w' hr' hfr => ?_
    have hsz : j < listed.size := by
      rcases Nat.lt_or_ge j listed.size with h | h
      · exact h
      · have h3 : listed.getD j true = true := by simp [Array.getElem?_eq_none h]
        rw [(hl j hjlt).1, hSj] at h3; simp at h3
    have hset : ∀ i d, (listed.setIfInBounds j true).getD i d = if i = j then true else listed.getD i d := by
      intro i d
      by_cases hij : j = i
      · subst hij; simp [hsz]
      · rw [getD_set_ne d hij, if_neg (Ne.symm hij)]
    refine inv_sem hlen hall hback hstep hfin n _ (fun i => S i || i == j) _ (fun i hi => ?_) ?_ hrest hr' fun s'' β'' a'' w'' hq hr'' hf' => hQ s'' β'' a'' w'' hq hr'' (hfr.trans hf')
    · rw [hset, hset]
      by_cases hij : i = j
      · simp [hij]
      · rw [if_neg hij, if_neg hij, (hl i hi).1, (hl i hi).2]; simp [hij]
    · have := count_done (l := List.range ops.size) List.nodup_range (List.mem_range.2 hjlt) hSj
      omega
theorem inv_any {P : Program} {γ : Nat → Option Nat} {N : Nat} {ops : Array Oper} {is : List (Ins × List Nat)} (hlen : is.length = ops.size)
    (hall : ∀ k, k < ops.size → ∃ o x, ops[k]? = some o ∧ is[k]? = some (x, bindsAny o) ∧ compIns P N ops false o = some x) (hback : ∀ (k : Nat) o, ops[k]? = some o → ∀ j ∈ bindsAny o, j < k)
    {Inv : (Nat → Bool) → St → Prop} (hstep : ∀ S s (i : Nat) x ds, is[i]? = some (x, ds) → S i = false → (∀ j ∈ ds, S j = true) → Inv S s → WPI md P γ [x] (fun s' => Inv (fun j => S j || j == i) s') s)
    {Q : St → Prop} (hfin : ∀ S s, (∀ i, i < is.length → S i = true) → Inv S s → Q s) {Qx : Exit → Act → World → Prop} :
    ∀ (n : Nat) (listed : Array Bool) (S : Nat → Bool) (s : St), (∀ i, i < ops.size → listed.getD i true = S i ∧ listed.getD i false = S i) → ((List.range ops.size).filter fun i => !S i).length = n → Inv S s →
    ∀ {β : LMap} {a : Act} {w : World}, Rel γ N β s a w → (∀ s' β' a' w', Q s' → Rel γ N β' s' a' w' → Fr β s.heap w β' s'.heap w' → Qx .normal a' w') → wpAny P .any ops Qx n listed a w :=
  inv_sem hlen hall hback (fun S s i x ds hx hS hd hI o ho => by
    obtain ⟨o', x', h1, h2, h3⟩ := hall i (Array.getElem?_eq_some_iff.1 ho).1
    rw [ho] at h1; cases h1
    rw [hx] at h2; cases h2
    obtain ⟨g, v, h', hg, hsem, hh', _, hrest⟩ := step_sound h3 (hstep S s i x _ hx hS hd hI)
    exact ⟨g, v, h', hg, hsem, hh', hrest⟩) (fun S s h1 h2 => ⟨s, Le.refl s, hfin S s h1 h2⟩)

end Go.Vx
