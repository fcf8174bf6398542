/- A part of the proof: what it shows stands in its theorems. No condition beyond those that they name. -/
import Derived.Test.YtefjoeonilkdfaaVxN
import Derived.Below
import Derived.Carry
import Derived.ChangeSlices
import Derived.ChangeSame
import Derived.Deep.Strs
import Derived.SizedLaws
import Derived.WideShapes
namespace Go.Vx
open Go.RowKit
set_option linter.unusedSimpArgs false
set_option linter.unusedVariables false

/-! From what came in to abstract objects. -/

/-- What a slice that came in holds: its elements' cells, one after the other. -/
def InRow (w : World) (esz : Nat) (a : Option Addr) (len cap : Nat) (cells : List Value) : Prop :=
  (a = none ∧ len = 0 ∧ cap = 0 ∧ cells = []) ∨
  ∃ x, a = some x ∧ x.spot = none ∧ len ≤ cap ∧ cap ≤ maxLen ∧ cells.length = len * esz ∧ ∀ (i : Nat) v, cells[i]? = some v → w.cell? (x.add i) = some v ∧ scal v = true

def absSl (a : Option Addr) (id len cap : Nat) : Value := match a with
  | none => .slice none 0 0
  | some _ => .slice (some ⟨id, 0, none⟩) len cap

def roObj (esz : Nat) (cells : List Value) : AObj := ⟨cells, true, false, false, esz⟩

theorem hrel_nil (w : World) : HRel (fun _ => none) (fun _ => none) [] w :=
  ⟨fun _ _ h => by simp at h, fun _ _ _ h => by simp at h, fun _ _ _ _ _ _ h => by simp at h, fun _ _ h => by simp at h⟩

theorem hrel_pushRo {γ : Nat → Option Nat} {β : LMap} {h : AHeap} {w : World} (H : HRel γ β h w) (hro : ∀ ob ∈ h, ob.own = false) {esz : Nat} {a : Option Addr} {len cap : Nat} {cells : List Value} (hin : InRow w esz a len cap cells) :
    ∃ β', HRel γ β' (h ++ [roObj esz cells]) w ∧ (∀ v u, VRel β v u → VRel β' v u) ∧ VRel β' (absSl a h.length len cap) (.slice a len cap) := by
  have hnew : β h.length = none := by
    cases hq : β h.length with
    | none => rfl
    | some L => exact absurd (H.dom _ _ hq) (by omega)
  have hro' : ∀ (i : Nat) ob, (h ++ [roObj esz cells])[i]? = some ob → ob.own = false := by
    intro i ob hi
    have := List.mem_of_getElem? hi
    rcases List.mem_append.1 this with h1 | h1
    · exact hro _ h1
    · rw [List.mem_singleton.1 h1]; rfl
  rcases hin with ⟨rfl, rfl, rfl, rfl⟩ | ⟨x, rfl, hsp, hle, hmax, hlen, hc⟩
  · refine ⟨β, ⟨fun id L hl => ?_, fun id ob L ho hlive hl => ?_, fun i j oi oj Li Lj hi hj li lj own => ?_, H.glob⟩, fun _ _ h => h, .sliceNil _ _⟩
    · have := H.dom _ _ hl; simp; omega
    · have hd := H.dom _ _ hl
      rw [List.getElem?_append_left hd] at ho
      exact H.live _ _ _ ho hlive hl
    · exact absurd own (by rw [hro' _ _ hi]; simp)
  · refine ⟨LMap.put β h.length ⟨x.block, x.off, false, esz, (match w.heap[x.block]? with | some (.cells c _ _) => c.size | _ => 0)⟩, ⟨fun id L hl => ?_, fun id ob L ho hlive hl => ?_, fun i j oi oj Li Lj hi hj li lj own => ?_, fun g id hg => ?_⟩, fun v u hv => hv.mono ?_, ?_⟩
    · simp only [LMap.put] at hl
      split at hl
      · subst_vars; simp
      · have := H.dom _ _ hl; simp; omega
    · simp only [LMap.put] at hl
      split at hl
      · rename_i hid; subst hid; cases hl
        simp at ho; subst ho
        refine ⟨rfl, rfl, fun hr => ?_⟩
        have hpos : 0 < cells.length := by
          rcases hr with hr | hr
          · simp [roObj] at hr
          · exact hr
        obtain ⟨h0, _⟩ := hc 0 _ (List.getElem?_eq_getElem hpos)
        unfold World.cell? at h0
        split at h0
        · rename_i c e fz hblk
          have hblk' : w.heap[x.block]? = some (.cells c e fz) := hblk
          refine ⟨c, e, fz, hblk', by simp [hblk'], fun ho => by simp [roObj] at ho, fun j v hj => ?_⟩
          obtain ⟨h1, h2⟩ := hc j v hj
          unfold World.cell? at h1
          have hadd : (x.add j).block = x.block ∧ (x.add j).off = x.off + j := by
            unfold Addr.add; split <;> simp_all
          rw [hadd.1, hblk'] at h1
          simp only at h1
          split at h1
          · simp at h1
          · rw [hadd.2] at h1; exact ⟨v, h1, scal_rel h2⟩
        · simp at h0
      · have hd := H.dom _ _ hl
        rw [List.getElem?_append_left hd] at ho
        have hat := H.live _ _ _ ho hlive hl
        refine hat.lift (fun _ => rfl) fun id' L' h' => ?_
        simp only [LMap.put]
        rw [if_neg (fun hq => by subst hq; rw [hnew] at h'; simp at h')]; exact h'
    · exact absurd own (by rw [hro' _ _ hi]; simp)
    · obtain ⟨L, h1, h2, h3⟩ := H.glob g id hg
      refine ⟨L, ?_, h2, h3⟩
      simp only [LMap.put]
      rw [if_neg (fun hq => by subst hq; rw [hnew] at h1; simp at h1)]; exact h1
    · intro id L hl
      simp only [LMap.put]
      rw [if_neg (fun hq => by subst hq; rw [hnew] at hl; simp at hl)]; exact hl
    · have : (⟨x.block, x.off + 0, none⟩ : Addr) = x := by cases x; simp_all
      refine .slice ⟨_, LMap.put_self _ _ _, ?_, fun _ => rfl, fun h => by simp at h⟩
      simp only
      exact this.symm

/-- A call over what came in alone: nothing that was there turns. -/
theorem law_of {P : Program} {γ : Nat → Option Nat} {f : FuncId} {args : List Value} {h h' : AHeap} {b : Bool} (H : ACall P γ f args h (.bool b) h') (hro : ∀ ob ∈ h, ob.own = false) {β : LMap} {w : World} {cargs : Array Value} (hh : HRel γ β h w)
    (hsz : cargs.size = args.length) (hargs : ∀ (i : Nat) x c, args[i]? = some x → cargs[i]? = some c → VRel β x c) :
    Calls P f cargs w fun e w' => e = .returned (.bool b) ∧ Below w.heap.size w w' := by
  refine (H β w cargs hh hsz hargs).mono ?_
  rintro e w' ⟨cv, β', rfl, hv, hr, hf⟩
  cases hv
  refine ⟨rfl, hf.os, hf.tape, hf.output, hf.size, fun k hk => hf.keep k hk ?_⟩
  rintro ⟨id, ob, L, h1, h2, h3, h4, h5⟩
  exact absurd h3 (by rw [hro _ (List.mem_of_getElem? h1)]; simp)

/-! Opening. -/
section
variable {H : Type} {enc : TypeId × Value → H} {P : Program} {w : World} {base : Nat} {spare : Nat → Bool} {held : Bool}

theorem add_add (a : Addr) (i j : Nat) : (a.add i).add j = a.add (i + j) := by
  unfold Addr.add
  split
  · simp_all
  · split
    · simp_all
    · rw [if_neg (by omega)]; simp [Nat.add_assoc]

/-- Rows of flat elements. -/
theorem open_rows {t e : TypeId} {E : List Value → Prop} (ht : P.underlying t = some (.slice e)) (hE : ∀ n cs y, DataW.trod enc P w base spare held n e cs = some y → E cs) {fuel : Nat} {cs : List Value} {x : DataW H × List MemPlace}
    (h : DataW.trod enc P w base spare held fuel t cs = some x) :
    (cs = [.slice none 0 0]) ∨
    ∃ (a : Addr) (len cap : Nat) (rows : List (List Value)), cs = [.slice (some a) len cap] ∧ len ≤ cap ∧ cap ≤ maxLen ∧ rows.length = len ∧ (∀ r ∈ rows, E r ∧ r.length = P.cellsOf e) ∧
      (∀ (i : Nat) r, rows[i]? = some r → ∀ (j : Nat) v, r[j]? = some v → w.cell? (a.add (i * P.cellsOf e + j)) = some v) ∧ ∃ elems rest : List (DataW H), x.1 = .slice elems rest ∧ elems.length = len := by
  rcases DataW.trod_slice ht h with ⟨h0, _⟩ | ⟨a, len, cap, elems, rest, n, _, rfl, rfl, hb, hl, hm, hlen, hel, hsp, hns⟩
  · exact .inl h0
  right
  have each : ∀ i, i < len → ∃ r, w.cells? base (a.add (i * P.cellsOf e)) (P.cellsOf e) = some r ∧ E r := by
    intro i hi
    have h1 := hel i hi
    rw [List.getElem?_eq_getElem (by omega), Option.bind_eq_some_iff] at h1
    obtain ⟨r, hr, hy⟩ := h1
    exact ⟨r, hr, hE _ _ _ hy⟩
  obtain ⟨f, hf⟩ : ∃ f : Nat → List Value, ∀ i, i < len → w.cells? base (a.add (i * P.cellsOf e)) (P.cellsOf e) = some (f i) ∧ E (f i) :=
    ⟨fun i => if h : i < len then (each i h).choose else [], fun i hi => by simp only [dif_pos hi]; exact (each i hi).choose_spec⟩
  refine ⟨a, len, cap, (List.range len).map f, rfl, hl, hm, by simp, ?_, ?_, _, _, rfl, by simp [hlen]⟩
  · intro r hr
    obtain ⟨i, hi, rfl⟩ := List.mem_map.1 hr
    obtain ⟨h1, h2⟩ := hf i (List.mem_range.1 hi)
    exact ⟨h2, (World.cells?_some h1).2.1⟩
  · intro i r hr j v hj
    simp only [List.getElem?_map, Option.map_eq_some_iff] at hr
    obtain ⟨k, hk, rfl⟩ := hr
    have hk' := List.getElem?_eq_some_iff.1 hk
    have hlt : i < len := by simpa using hk'.1
    have : k = i := by simpa using hk'.2.symm
    subst this
    obtain ⟨h1, h2⟩ := hf k hlt
    obtain ⟨_, h3, h4⟩ := World.cells?_some h1
    have hjl : j < P.cellsOf e := by rw [← h3]; exact (List.getElem?_eq_some_iff.1 hj).1
    have := h4 j hjl
    rw [add_add] at this
    rw [this]; exact hj
end

theorem flatten_get {rows : List (List Value)} {n : Nat} (h : ∀ r ∈ rows, r.length = n) : ∀ (k : Nat) v, rows.flatten[k]? = some v → ∃ i j r, k = i * n + j ∧ rows[i]? = some r ∧ r[j]? = some v := by
  induction rows with
  | nil => intro k v hk; simp at hk
  | cons r rest ih =>
    intro k v hk
    have hr : r.length = n := h r (by simp)
    rw [List.flatten_cons] at hk
    by_cases hlt : k < r.length
    · rw [List.getElem?_append_left hlt] at hk
      exact ⟨0, k, r, by simp, rfl, hk⟩
    · rw [List.getElem?_append_right (by omega)] at hk
      obtain ⟨i, j, r', h1, h2, h3⟩ := ih (fun r hr => h r (by simp [hr])) (k - r.length) v hk
      refine ⟨i + 1, j, r', ?_, by simpa using h2, h3⟩
      rw [Nat.succ_mul]; omega

theorem flatten_len {rows : List (List Value)} {n : Nat} (h : ∀ r ∈ rows, r.length = n) : rows.flatten.length = rows.length * n := by
  induction rows with
  | nil => simp
  | cons r rest ih =>
    rw [List.flatten_cons, List.length_append, ih (fun r hr => h r (by simp [hr])), h r (by simp), List.length_cons, Nat.succ_mul]; omega

/-- A slice that came in, opened. -/
theorem open_slice {H : Type} {enc : TypeId × Value → H} {P : Program} {W : World} {r : Reach} {b0 : Nat} {t e : TypeId} {E : List Value → Prop} {a : Option Addr} {len cap : Nat} {d : DataW H} {ps : List MemPlace} {ts : List TypeId} {ds : List (DataW H)} {j B : Nat}
    (ht : P.underlying t = some (.slice e)) (hE : ∀ n cs y, DataW.trod enc P W 0 (fun _ => true) true n e cs = some y → E cs) (hEs : ∀ cs, E cs → ∀ v ∈ cs, scal v = true)
    (hval : Value.okWide P W r b0 t (.slice a len cap)) (h : DataW.Trod enc P W 0 (fun _ => true) true t (.slice a len cap) d ps)
    (hsz : (DataW.weightsEach P ts ds).all (· ≤ reachBytes) = true) (hj : ts[j]? = some t) (hd : ds[j]? = some d) (hB : P.bytesOf e = B) :
    ∃ rows : List (List Value), rows.length = len ∧ (∀ r ∈ rows, E r) ∧ InRow W (P.cellsOf e) a len cap rows.flatten ∧ len * B ≤ 140737488351232 := by
  obtain ⟨fuel, hf⟩ := h
  rcases open_rows ht hE hf with hcs | ⟨x, l, c, rows, hcs, hl, hm, hlen, hrows, hcell, elems, rest, hx, hel⟩
  · simp [Value.cells] at hcs
    obtain ⟨rfl, rfl, rfl⟩ := hcs
    exact ⟨[], rfl, by simp, .inl ⟨rfl, rfl, rfl, rfl⟩, by simp⟩
  · simp [Value.cells] at hcs
    obtain ⟨rfl, rfl, rfl⟩ := hcs
    refine ⟨rows, hlen, fun r hr => (hrows r hr).1, .inr ⟨x, rfl, ?_, hl, hm, ?_, ?_⟩, ?_⟩
    · simp only [Value.okWide, ht, Cell.okWide, Cell.ok] at hval
      exact hval.2.2.2.1
    · rw [flatten_len fun r hr => (hrows r hr).2, hlen]
    · intro k v hk
      obtain ⟨i, q, r', h1, h2, h3⟩ := flatten_get (fun r hr => (hrows r hr).2) k v hk
      refine ⟨by rw [h1]; exact hcell i r' h2 q v h3, hEs _ (hrows r' (List.mem_of_getElem? h2)).1 v (List.mem_of_getElem? h3)⟩
    · simp only at hx
      subst hx
      have z := sized_slice hsz hj hd ht
      rw [hB, hel] at z
      exact Nat.le_trans (Nat.mul_le_mul_right _ (Nat.le_add_right _ _)) z

def intE (k : IntKind) (cs : List Value) : Prop := ∃ n, cs = [.int k n] ∧ k.min ≤ n ∧ n ≤ k.max

theorem intE_of {H : Type} {enc : TypeId × Value → H} {P : Program} {w : World} {base : Nat} {spare : Nat → Bool} {held : Bool} {e : TypeId} {k : IntKind} (he : P.underlying e = some (.int k)) :
    ∀ n cs y, DataW.trod enc P w base spare held n e cs = some y → intE k cs := by
  intro n cs y h
  obtain ⟨m, rfl, _, hw⟩ := DataW.trod_int he h
  refine ⟨m, rfl, ?_⟩
  simpa [Lit.wf] using hw

theorem intE_scal {k : IntKind} (cs : List Value) (h : intE k cs) : ∀ v ∈ cs, scal v = true := by
  obtain ⟨n, rfl, _⟩ := h
  intro v hv
  rw [List.mem_singleton.1 hv]; rfl

end Go.Vx
