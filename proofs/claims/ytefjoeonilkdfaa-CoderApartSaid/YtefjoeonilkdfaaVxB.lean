/- A part of the proof: what it shows stands in its theorems. No condition beyond those that they name. -/
import Derived.Test.YtefjoeonilkdfaaVxA
import Derived.Laws.Cells
import Derived.Laws.Append
import Derived.Laws.Entries
namespace Go.Vx
set_option linter.unusedVariables false
set_option linter.unusedSimpArgs false

/-! What happens to the memory, told once. -/

def LMap.put (β : LMap) (id : Nat) (L : Loc) : LMap := fun i => if i = id then some L else β i

theorem heapAt (w : World) {b : Nat} {c : Array Value} {e : TypeId} {fz : Nat × Nat} (h : w.heap[b]? = some (.cells c e fz)) (o : Nat) : w.cell? ⟨b, o, none⟩ = c[o]? := by
  simp [World.cell?, h]

theorem ObjAt.lift {β β' : LMap} {w w' : World} {L : Loc} {ob : AObj} (h : ObjAt β w L ob) (hb : ob.real → w'.heap[L.blk]? = w.heap[L.blk]?) (hβ : ∀ id L, β id = some L → β' id = some L) : ObjAt β' w' L ob := by
  refine ⟨h.slack, h.esz, fun hr => ?_⟩
  obtain ⟨c, e', fz, h1, h2, h3, h4⟩ := h.at_ hr
  exact ⟨c, e', fz, by rw [hb hr, h1], h2, h3, fun j v hj => let ⟨cv, h5, h6⟩ := h4 j v hj; ⟨cv, h5, h6.mono hβ⟩⟩

/-- A new block. -/
theorem HRel.new {γ : Nat → Option Nat} {β : LMap} {h : AHeap} {w w' : World} (H : HRel γ β h w) (c : Array Value) (e : TypeId) (fz : Nat × Nat) (ob : AObj)
    (hw : w'.heap = w.heap.push (.cells c e fz)) (h1 : w'.os = w.os) (h2 : w'.tape = w.tape) (h3 : w'.output = w.output)
    (hf : fz.1 ≤ fz.2 ∧ ∀ k < c.size, ¬ (fz.1 ≤ k ∧ k < fz.2))
    (hc : ∀ (j : Nat) v, ob.cells[j]? = some v → ∃ cv, c[j]? = some cv ∧ VRel β v cv) :
    let β' := LMap.put β h.length ⟨w.heap.size, 0, ob.slack, ob.esz, c.size⟩
    HRel γ β' (h ++ [ob]) w' ∧ Fr β h w β' (h ++ [ob]) w' ∧ (∀ v cv, VRel β v cv → VRel β' v cv) := by
  intro β'
  have hnew : β h.length = none := by
    cases hq : β h.length with
    | none => rfl
    | some L => exact absurd (H.dom _ _ hq) (by omega)
  have hext : ∀ id L, β id = some L → β' id = some L := by
    intro id L hl
    have := H.dom _ _ hl
    simp only [β', LMap.put]
    rw [if_neg (by omega)]; exact hl
  have hblk : ∀ b, b < w.heap.size → w'.heap[b]? = w.heap[b]? := by
    intro b hb; rw [hw, Array.getElem?_push, if_neg (by omega)]
  have hat : w'.heap[w.heap.size]? = some (.cells c e fz) := by rw [hw]; simp
  have hsz : w'.heap.size = w.heap.size + 1 := by rw [hw]; simp
  refine ⟨⟨?_, ?_, ?_, ?_⟩, ⟨h1, h2, h3, by omega, by simp, ?_, fun b hb _ => hblk b hb, ?_⟩, fun v cv hv => hv.mono hext⟩
  · intro id L hl
    simp only [β', LMap.put] at hl
    split at hl
    · subst_vars; cases hl; simp
    · have := H.dom _ _ hl; simp; omega
  · intro id o L ho hl hβ
    simp only [β', LMap.put] at hβ
    split at hβ
    · rename_i hid; subst hid; cases hβ
      simp at ho; subst ho
      exact ⟨rfl, rfl, fun _ => ⟨c, e, fz, hat, rfl, fun _ => hf, fun j v hj => let ⟨cv, h5, h6⟩ := hc j v hj; ⟨cv, by simpa using h5, h6.mono hext⟩⟩⟩
    · have hd := H.dom _ _ hβ
      rw [List.getElem?_append_left hd] at ho
      exact (H.live _ _ _ ho hl hβ).lift (fun hr => hblk _ ((H.live _ _ _ ho hl hβ).lt hr)) hext
  · intro i j oi oj Li Lj hi hj li lj owni realj hne hβi hβj
    simp only [β', LMap.put] at hβi hβj
    split at hβi
    · split at hβj
      · omega
      · cases hβi
        have hdj := H.dom _ _ hβj
        rw [List.getElem?_append_left hdj] at hj
        have := (H.live _ _ _ hj lj hβj).lt realj
        simp; omega
    · split at hβj
      · cases hβj
        have hdi := H.dom _ _ hβi
        rw [List.getElem?_append_left hdi] at hi
        have := (H.live _ _ _ hi li hβi).lt (.inl owni)
        simp; omega
      · have hdi := H.dom _ _ hβi
        have hdj := H.dom _ _ hβj
        rw [List.getElem?_append_left hdi] at hi
        rw [List.getElem?_append_left hdj] at hj
        exact H.sep i j oi oj Li Lj hi hj li lj owni realj hne hβi hβj
  · intro g id hg
    obtain ⟨L, hl, h5, h6⟩ := H.glob g id hg
    exact ⟨L, hext _ _ hl, h5, h6⟩
  · intro id hid
    simp only [β', LMap.put]
    rw [if_neg (by omega)]
  · rintro b ⟨id, o, L, ho, hl, how, hβ, rfl⟩
    simp only [β', LMap.put] at hβ
    split at hβ
    · cases hβ; exact .inr (by simp)
    · have hd := H.dom _ _ hβ
      rw [List.getElem?_append_left hd] at ho
      exact .inl ⟨id, o, L, ho, hl, how, hβ, rfl⟩

/-- One block has turned, and nothing else. -/
structure Turned (w w' : World) (b : Nat) (o : Obj) : Prop where
  os : w'.os = w.os
  tape : w'.tape = w.tape
  output : w'.output = w.output
  size : w'.heap.size = w.heap.size
  at_ : w'.heap[b]? = some o
  oth : ∀ k, k ≠ b → w'.heap[k]? = w.heap[k]?

/-- A write into an object of one's own. -/
theorem HRel.write {γ : Nat → Option Nat} {β : LMap} {h : AHeap} {w w' : World} (H : HRel γ β h w) {id : Nat} {ob : AObj} {L : Loc} (hid : h[id]? = some ob) (hl : ob.live = true) (how : ob.own = true) (hβ : β id = some L)
    {c c' : Array Value} {e : TypeId} {fz : Nat × Nat} (hc : w.heap[L.blk]? = some (.cells c e fz)) (ht : Turned w w' L.blk (.cells c' e fz)) (hs : c'.size = c.size)
    (cs : List Value) (hcs : ∀ (j : Nat) v, cs[j]? = some v → ∃ cv, c'[L.base + j]? = some cv ∧ VRel β v cv) :
    HRel γ β (h.set id { ob with cells := cs }) w' ∧ Fr β h w β (h.set id { ob with cells := cs }) w' := by
  obtain ⟨h1, h2, h3, hsz, hc', hoth⟩ := ht
  obtain ⟨s0, e0, hat0⟩ := H.live id ob L hid hl hβ
  obtain ⟨c0, e1, fz1, hc0, hb0, hf0, _⟩ := hat0 (.inl how)
  rw [hc] at hc0; cases hc0
  have hlt := (H.dom _ _ hβ)
  refine ⟨⟨fun i L' hi => ?_, ?_, ?_, H.glob⟩, ⟨h1, h2, h3, by omega, by simp, fun _ _ => rfl, fun b hb ho => ?_, ?_⟩⟩
  · have := H.dom _ _ hi; simpa using this
  · intro i o L' ho hlo hβi
    rw [List.getElem?_set] at ho
    split at ho
    · rename_i hii; subst hii
      rw [hβ] at hβi; cases hβi
      simp [hlt] at ho; subst ho
      exact ⟨s0, e0, fun _ => ⟨c', e, fz, hc', by rw [hs]; exact hb0, fun _ => by rw [hs]; exact hf0 how, hcs⟩⟩
    · rename_i hii
      exact (H.live _ _ _ ho hlo hβi).lift (fun hr => hoth _ (Ne.symm (H.sep id i ob o L L' hid ho hl hlo how hr hii hβ hβi))) (fun _ _ h => h)
  · intro i j oi oj Li Lj hi hj li lj owni realj hne hβi hβj
    have aux : ∀ (i : Nat) (o : AObj), (h.set id { ob with cells := cs })[i]? = some o → ∃ o', h[i]? = some o' ∧ o'.live = o.live ∧ o'.own = o.own ∧ (o.real → o'.real) := by
      intro i o ho
      rw [List.getElem?_set] at ho
      split at ho
      · rename_i hii; subst hii
        simp [hlt] at ho; subst ho
        exact ⟨ob, hid, rfl, rfl, fun _ => .inl how⟩
      · exact ⟨o, ho, rfl, rfl, fun h => h⟩
    obtain ⟨oi', hi', a1, a2, _⟩ := aux i oi hi
    obtain ⟨oj', hj', b1, b2, b3⟩ := aux j oj hj
    exact H.sep i j oi' oj' Li Lj hi' hj' (a1.trans li) (b1.trans lj) (a2.trans owni) (b3 realj) hne hβi hβj
  · exact hoth b (fun hq => ho ⟨id, ob, L, hid, hl, how, hβ, hq.symm⟩)
  · rintro b ⟨i, o, L', ho, hlo, howo, hβi, rfl⟩
    rw [List.getElem?_set] at ho
    split at ho
    · rename_i hii; subst hii
      rw [hβ] at hβi; cases hβi
      exact .inl ⟨id, ob, L, hid, hl, how, hβ, rfl⟩
    · exact .inl ⟨i, o, L', ho, hlo, howo, hβi, rfl⟩

theorem HRel.refreeze {γ : Nat → Option Nat} {β : LMap} {h : AHeap} {w w' : World} (H : HRel γ β h w) {id : Nat} {ob : AObj} {L : Loc} (hid : h[id]? = some ob) (hl : ob.live = true) (how : ob.own = true) (hβ : β id = some L)
    {c c' : Array Value} {e : TypeId} {fz fz' : Nat × Nat} (hc : w.heap[L.blk]? = some (.cells c e fz)) (hfz' : fz.1 ≤ fz.2 ∧ (∀ k < c.size, ¬ (fz.1 ≤ k ∧ k < fz.2)) → fz'.1 ≤ fz'.2 ∧ ∀ k < c.size, ¬ (fz'.1 ≤ k ∧ k < fz'.2)) (ht : Turned w w' L.blk (.cells c' e fz')) (hs : c'.size = c.size)
    (cs : List Value) (hcs : ∀ (j : Nat) v, cs[j]? = some v → ∃ cv, c'[L.base + j]? = some cv ∧ VRel β v cv) :
    HRel γ β (h.set id { ob with cells := cs }) w' ∧ Fr β h w β (h.set id { ob with cells := cs }) w' := by
  obtain ⟨h1, h2, h3, hsz, hc', hoth⟩ := ht
  obtain ⟨s0, e0, hat0⟩ := H.live id ob L hid hl hβ
  obtain ⟨c0, e1, fz1, hc0, hb0, hf0, _⟩ := hat0 (.inl how)
  rw [hc] at hc0; cases hc0
  have hlt := (H.dom _ _ hβ)
  refine ⟨⟨fun i L' hi => ?_, ?_, ?_, H.glob⟩, ⟨h1, h2, h3, by omega, by simp, fun _ _ => rfl, fun b hb ho => ?_, ?_⟩⟩
  · have := H.dom _ _ hi; simpa using this
  · intro i o L' ho hlo hβi
    rw [List.getElem?_set] at ho
    split at ho
    · rename_i hii; subst hii
      rw [hβ] at hβi; cases hβi
      simp [hlt] at ho; subst ho
      exact ⟨s0, e0, fun _ => ⟨c', e, fz', hc', by rw [hs]; exact hb0, fun _ => by rw [hs]; exact hfz' (hf0 how), hcs⟩⟩
    · rename_i hii
      exact (H.live _ _ _ ho hlo hβi).lift (fun hr => hoth _ (Ne.symm (H.sep id i ob o L L' hid ho hl hlo how hr hii hβ hβi))) (fun _ _ h => h)
  · intro i j oi oj Li Lj hi hj li lj owni realj hne hβi hβj
    have aux : ∀ (i : Nat) (o : AObj), (h.set id { ob with cells := cs })[i]? = some o → ∃ o', h[i]? = some o' ∧ o'.live = o.live ∧ o'.own = o.own ∧ (o.real → o'.real) := by
      intro i o ho
      rw [List.getElem?_set] at ho
      split at ho
      · rename_i hii; subst hii
        simp [hlt] at ho; subst ho
        exact ⟨ob, hid, rfl, rfl, fun _ => .inl how⟩
      · exact ⟨o, ho, rfl, rfl, fun h => h⟩
    obtain ⟨oi', hi', a1, a2, _⟩ := aux i oi hi
    obtain ⟨oj', hj', b1, b2, b3⟩ := aux j oj hj
    exact H.sep i j oi' oj' Li Lj hi' hj' (a1.trans li) (b1.trans lj) (a2.trans owni) (b3 realj) hne hβi hβj
  · exact hoth b (fun hq => ho ⟨id, ob, L, hid, hl, how, hβ, hq.symm⟩)
  · rintro b ⟨i, o, L', ho, hlo, howo, hβi, rfl⟩
    rw [List.getElem?_set] at ho
    split at ho
    · rename_i hii; subst hii
      rw [hβ] at hβi; cases hβi
      exact .inl ⟨id, ob, L, hid, hl, how, hβ, rfl⟩
    · exact .inl ⟨i, o, L', ho, hlo, howo, hβi, rfl⟩

def AObj.dead (_ : AObj) : AObj := ⟨[], false, false, false, 0⟩

/-- An object is no more looked at. -/
theorem HRel.kill {γ : Nat → Option Nat} {β : LMap} {h : AHeap} {w : World} (H : HRel γ β h w) {id : Nat} {ob : AObj} (hid : h[id]? = some ob) :
    HRel γ β (h.set id ob.dead) w ∧ Fr β h w β (h.set id ob.dead) w := by
  have hlen : id < h.length := (List.getElem?_eq_some_iff.1 hid).1
  have aux : ∀ (i : Nat) (o : AObj), (h.set id ob.dead)[i]? = some o → o.live = true → h[i]? = some o := by
    intro i o ho hl
    rw [List.getElem?_set] at ho
    split at ho
    · simp [hlen] at ho; subst ho; simp [AObj.dead] at hl
    · exact ho
  refine ⟨⟨fun i L hi => by have := H.dom _ _ hi; simpa using this, fun i o L ho hl hβ => H.live i o L (aux i o ho hl) hl hβ, ?_, H.glob⟩,
    ⟨rfl, rfl, rfl, Nat.le_refl _, by simp, fun _ _ => rfl, fun _ _ _ => rfl, ?_⟩⟩
  · intro i j oi oj Li Lj hi hj li lj
    exact H.sep i j oi oj Li Lj (aux i oi hi li) (aux j oj hj lj) li lj
  · rintro b ⟨i, o, L, ho, hl, how, hβ, rfl⟩
    exact .inl ⟨i, o, L, aux i o ho hl, hl, how, hβ, rfl⟩

/-- An object is gone on with under a new number, from a place of it on. -/
theorem HRel.move {γ : Nat → Option Nat} {β : LMap} {h : AHeap} {w : World} (H : HRel γ β h w) {id : Nat} {ob : AObj} {L : Loc} (hid : h[id]? = some ob) (hl : ob.live = true) (how : ob.own = true) (hβ : β id = some L)
    (off : Nat) (ob' : AObj) (hs : ob'.slack = L.slack) (he : ob'.esz = L.esz) (hc : ∀ (j : Nat) v, ob'.cells[j]? = some v → ob.cells[off + j]? = some v) :
    let β' := LMap.put β h.length ⟨L.blk, L.base + off, L.slack, L.esz, L.bcells⟩
    HRel γ β' (h.set id ob.dead ++ [ob']) w ∧ Fr β h w β' (h.set id ob.dead ++ [ob']) w ∧ (∀ v cv, VRel β v cv → VRel β' v cv) := by
  intro β'
  have hlen : id < h.length := (List.getElem?_eq_some_iff.1 hid).1
  have hnew : β h.length = none := by
    cases hq : β h.length with
    | none => rfl
    | some L => exact absurd (H.dom _ _ hq) (by omega)
  have hext : ∀ i L, β i = some L → β' i = some L := by
    intro i L hl
    have := H.dom _ _ hl
    simp only [β', LMap.put]
    rw [if_neg (by omega)]; exact hl
  have aux : ∀ (i : Nat) (o : AObj), i < h.length → (h.set id ob.dead ++ [ob'])[i]? = some o → o.live = true → h[i]? = some o ∧ i ≠ id := by
    intro i o hi ho hl
    rw [List.getElem?_append_left (by simpa using hi), List.getElem?_set] at ho
    split at ho
    · simp [hlen] at ho; subst ho; simp [AObj.dead] at hl
    · rename_i hq; exact ⟨ho, Ne.symm hq⟩
  obtain ⟨s0, e0, hat0⟩ := H.live id ob L hid hl hβ
  obtain ⟨c, e, fz, hc0, hb0, hf0, hcell⟩ := hat0 (.inl how)
  have hlt := H.dom _ _ hβ
  refine ⟨⟨?_, ?_, ?_, ?_⟩, ⟨rfl, rfl, rfl, Nat.le_refl _, by simp, ?_, fun _ _ _ => rfl, ?_⟩, fun v cv hv => hv.mono hext⟩
  · intro i L' hi
    simp only [β', LMap.put] at hi
    split at hi
    · subst_vars; cases hi; simp
    · have := H.dom _ _ hi; simp; omega
  · intro i o L' ho hlo hβi
    simp only [β', LMap.put] at hβi
    split at hβi
    · rename_i hii; subst hii; cases hβi
      rw [List.getElem?_append_right (by simp)] at ho
      simp at ho; subst ho
      refine ⟨hs.symm, he.symm, fun _ => ⟨c, e, fz, hc0, hb0, fun _ => hf0 how, fun j v hj => ?_⟩⟩
      obtain ⟨cv, h5, h6⟩ := hcell _ v (hc j v hj)
      exact ⟨cv, by rw [Nat.add_assoc]; exact h5, h6.mono hext⟩
    · have hd := H.dom _ _ hβi
      obtain ⟨ho', _⟩ := aux i o hd ho hlo
      exact (H.live _ _ _ ho' hlo hβi).lift (fun _ => rfl) hext
  · intro i j oi oj Li Lj hi hj li lj owni realj hne hβi hβj
    simp only [β', LMap.put] at hβi hβj
    split at hβi
    · split at hβj
      · omega
      · cases hβi
        have hd := H.dom _ _ hβj
        obtain ⟨hj', hji⟩ := aux j oj hd hj lj
        exact H.sep id j ob oj L Lj hid hj' hl lj how realj (Ne.symm hji) hβ hβj
    · split at hβj
      · cases hβj
        have hd := H.dom _ _ hβi
        obtain ⟨hi', hii⟩ := aux i oi hd hi li
        exact H.sep i id oi ob Li L hi' hid li hl owni (.inl how) hii hβi hβ
      · obtain ⟨hi', _⟩ := aux i oi (H.dom _ _ hβi) hi li
        obtain ⟨hj', _⟩ := aux j oj (H.dom _ _ hβj) hj lj
        exact H.sep i j oi oj Li Lj hi' hj' li lj owni realj hne hβi hβj
  · intro g i hg
    obtain ⟨L', hl', h5, h6⟩ := H.glob g i hg
    exact ⟨L', hext _ _ hl', h5, h6⟩
  · intro i hi
    simp only [β', LMap.put]
    rw [if_neg (by omega)]
  · rintro b ⟨i, o, L', ho, hlo, howo, hβi, rfl⟩
    simp only [β', LMap.put] at hβi
    split at hβi
    · cases hβi; exact .inl ⟨id, ob, L, hid, hl, how, hβ, rfl⟩
    · obtain ⟨ho', _⟩ := aux i o (H.dom _ _ hβi) ho hlo
      exact .inl ⟨i, o, L', ho', hlo, howo, hβi, rfl⟩

/-! Storing a row of cells. -/
def splice (c : Array Value) (o : Nat) (vs : List Value) : Array Value := (List.range c.size).map (fun j => if o ≤ j ∧ j < o + vs.length then vs.getD (j - o) undef else c.getD j undef) |>.toArray

theorem splice_size (c : Array Value) (o : Nat) (vs : List Value) : (splice c o vs).size = c.size := by simp [splice]

theorem splice_at (c : Array Value) (o : Nat) (vs : List Value) (j : Nat) (hj : j < c.size) : (splice c o vs)[j]? = if o ≤ j ∧ j < o + vs.length then vs[j - o]? else c[j]? := by
  simp only [splice, List.getElem?_toArray, List.getElem?_map, List.getElem?_range hj, Option.map_some]
  split
  · rename_i h
    rw [List.getD_eq_getElem?_getD, List.getElem?_eq_getElem (by omega)]; simp
  · simp [hj]

theorem splice_nil (c : Array Value) (o : Nat) : splice c o [] = c := by
  apply Array.ext (by simp [splice_size])
  intro i h1 h2
  have := splice_at c o [] i h2
  simp [h2, splice_size] at this
  simpa using this

def flat : Value → Bool
  | .agg _ | .tuple _ => false
  | _ => true

theorem run_store1 {P : Program} {w : World} {b o : Nat} {c : Array Value} {e : TypeId} {fz : Nat × Nat} (hb : w.heap[b]? = some (.cells c e fz)) (ho : o < c.size) (hf : ¬ (fz.1 ≤ o ∧ o < fz.2)) {v : Value} (hv : flat v = true) :
    ∃ w', (store ⟨b, o, none⟩ v).run P w = .ok () w' ∧ Turned w w' b (.cells (c.setIfInBounds o v) e fz) := by
  have hcell : w.cell? ⟨b, o, none⟩ = some c[o] := by simp [World.cell?, hb, ho]
  have hfr : w.frozen? ⟨b, o, none⟩ = false := by
    simp only [World.frozen?, hb]
    simp only [Bool.and_eq_false_iff, decide_eq_false_iff_not]
    by_cases h : fz.1 ≤ o
    · exact .inr (fun h' => hf ⟨h, h'⟩)
    · exact .inl h
  refine ⟨w.setCell ⟨b, o, none⟩ v, ?_, rfl, rfl, rfl, by simp, ?_, fun k hk => ?_⟩
  · cases v <;> simp_all [store, Sem.run, flat]
  · simp [World.setCell, Array.getElem?_modify, hb]
  · simp only [World.setCell, Array.getElem?_modify]
    rw [if_neg (Ne.symm hk)]

theorem run_storeRow {P : Program} {b o : Nat} {e : TypeId} {fz : Nat × Nat} : ∀ (vs : List Value) (i : Nat) (w : World) (c : Array Value), w.heap[b]? = some (.cells c e fz) → o + i + vs.length ≤ c.size →
    (∀ k, o + i ≤ k → k < o + i + vs.length → ¬ (fz.1 ≤ k ∧ k < fz.2)) → (∀ v ∈ vs, flat v = true) →
    ∃ w', (storeCells ⟨b, o, none⟩ vs i).run P w = .ok () w' ∧ Turned w w' b (.cells (splice c (o + i) vs) e fz)
  | [], i, w, c, hb, _, _, _ => by
    refine ⟨w, rfl, rfl, rfl, rfl, rfl, ?_, fun _ _ => rfl⟩
    rw [splice_nil]; exact hb
  | v :: r, i, w, c, hb, ho, hf, hv => by
    simp only [List.length_cons] at ho hf
    obtain ⟨w1, h1, t1⟩ := run_store1 (P := P) (o := o + i) hb (by omega) (hf (o + i) (by omega) (by omega)) (hv v (by simp))
    obtain ⟨w2, k1, t2⟩ := run_storeRow (P := P) (o := o) r (i + 1) w1 (c.setIfInBounds (o + i) v) t1.at_ (by simp; omega) (fun k hk1 hk2 => hf k (by omega) (by omega)) (fun x hx => hv x (by simp [hx]))
    have hadd : (⟨b, o, none⟩ : Addr).add i = ⟨b, o + i, none⟩ := by unfold Addr.add; split <;> simp_all
    refine ⟨w2, ?_, t2.os.trans t1.os, t2.tape.trans t1.tape, t2.output.trans t1.output, t2.size.trans t1.size, ?_, fun k hk => (t2.oth k hk).trans (t1.oth k hk)⟩
    · simp only [storeCells, Sem.run_bind, hadd, h1, Result.andThen_ok, k1]
    · rw [t2.at_]
      congr 2
      apply Array.ext (by simp [splice_size])
      intro k hk1 hk2
      have a1 := splice_at (c.setIfInBounds (o + i) v) (o + (i + 1)) r k (by simpa [splice_size] using hk1)
      have a2 := splice_at c (o + i) (v :: r) k (by simpa [splice_size] using hk2)
      rw [Array.getElem?_eq_getElem hk1] at a1
      rw [Array.getElem?_eq_getElem hk2] at a2
      apply Option.some.inj
      rw [a1, a2]
      have hkc : k < c.size := by simpa [splice_size] using hk2
      by_cases hq : k = o + i
      · subst hq
        simp [hkc]
        omega
      · by_cases hq2 : o + i ≤ k ∧ k < o + i + (r.length + 1)
        · have e1 : o + (i + 1) ≤ k ∧ k < o + (i + 1) + r.length := by omega
          rw [if_pos e1, if_pos (by simpa using hq2)]
          obtain ⟨m, hm⟩ : ∃ m, k - (o + i) = m + 1 := ⟨k - (o + i) - 1, by omega⟩
          rw [hm, show k - (o + (i + 1)) = m by omega]; simp
        · rw [if_neg (by omega), if_neg (by simpa using hq2)]
          rw [Array.getElem?_setIfInBounds_ne (by omega)]

/-- The cells of an object, loaded. -/
theorem run_loadObj {P : Program} {β : LMap} {w : World} {L : Loc} {ob : AObj} (h : ObjAt β w L ob) (off n : Nat) (hn : off + n ≤ ob.cells.length) :
    ∃ cs : Array Value, (loadCells ⟨L.blk, L.base + off, none⟩ n).run P w = .ok cs w ∧ cs.size = n ∧ ∀ (j : Nat) v, ((ob.cells.drop off).take n)[j]? = some v → ∃ cv, cs[j]? = some cv ∧ VRel β v cv := by
  rcases Nat.eq_zero_or_pos n with hz | hpos
  · subst hz
    exact ⟨#[], rfl, rfl, fun j v hj => by simp at hj⟩
  obtain ⟨c, e, fz, hc, _, _, hcell⟩ := h.at_ (.inr (by omega))
  have hget : ∀ j, j < n → ∃ cv, c[L.base + (off + j)]? = some cv ∧ VRel β (ob.cells.getD (off + j) undef) cv := by
    intro j hj
    obtain ⟨cv, h1, h2⟩ := hcell (off + j) (ob.cells.getD (off + j) undef) (by rw [List.getD_eq_getElem?_getD, List.getElem?_eq_getElem (by omega)]; rfl)
    exact ⟨cv, h1, h2⟩
  have hrun := run_loadCells (P := P) w ⟨L.blk, L.base + off, none⟩ n (fun j => c.getD (L.base + (off + j)) undef) (fun j hj => by
    obtain ⟨cv, h1, _⟩ := hget j hj
    have hadd : (⟨L.blk, L.base + off, none⟩ : Addr).add j = ⟨L.blk, L.base + (off + j), none⟩ := by unfold Addr.add; split <;> simp_all [Nat.add_assoc]
    rw [hadd, heapAt w hc, h1]
    rw [Array.getD_eq_getD_getElem?, h1]; rfl)
  refine ⟨_, hrun, by simp, fun j v hj => ?_⟩
  have hjn : j < n := by
    rcases Nat.lt_or_ge j n with h | h
    · exact h
    · rw [List.getElem?_take_eq_none h] at hj; simp at hj
  rw [List.getElem?_take_of_lt hjn, List.getElem?_drop] at hj
  obtain ⟨cv, h1, h2⟩ := hget j hjn
  refine ⟨cv, by simp [hjn, Array.getD_eq_getD_getElem?, h1], ?_⟩
  rw [List.getD_eq_getElem?_getD, hj] at h2
  exact h2

theorem VRel.flat {β : LMap} {v cv : Value} (h : VRel β v cv) (hv : Vx.flat v = true) : Vx.flat cv = true := by
  cases h <;> simp_all [Vx.flat]

end Go.Vx
