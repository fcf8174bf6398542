/- A part of the proof: what it shows stands in its theorems. No condition beyond those that they name. -/
import Derived.Test.YtefjoeonilkdfaaVxF
namespace Go.Vx
set_option linter.unusedSimpArgs false
set_option linter.unusedVariables false

/-! Equality, conversions between bytes and strings, min and max. -/

def kindT (P : Program) (t : TypeId) : Option Nat :=
  match P.underlying t with
  | some .bool => some 0
  | some (.int _) => some 1
  | some .string => some 2
  | _ => none

theorem equal_scal {P : Program} {d c : Nat} {t : TypeId} {x y : Value} {b : Bool} (ht : kindT P t = some c) (hb : eqS c x y = some b) (w : World) :
    (Op.equalIn (d + 1) t x y).run P w = .ok b w := by
  unfold kindT at ht
  split at ht <;> simp at ht <;> subst ht <;> rename_i hu <;> cases x <;> cases y <;> simp [eqS] at hb
  · subst hb; simp [Op.equalIn, run_underlying hu]
  · obtain ⟨rfl, rfl⟩ := hb; simp [Op.equalIn, run_underlying hu]
  · subst hb; simp [Op.equalIn, run_underlying hu]

theorem kindT_agg {P : Program} {c : Nat} {t : TypeId} (ht : kindT P t = some c) : aggT P t = some false := by
  unfold kindT at ht
  unfold aggT
  split at ht <;> simp at ht <;> rename_i hu <;> simp [hu]

theorem run_forIn_all {P : Program} {α : Type} (w : World) (body : α → (Option Bool × Unit) → Sem (ForInStep ((Option Bool × Unit)))) (b : α → Bool) : ∀ (l : List α),
    (∀ f ∈ l, (body f (none, ())).run P w = .ok (if b f then .yield (none, ()) else .done (some false, ())) w) →
    (forIn l ((none, ()) : (Option Bool × Unit)) body).run P w = .ok ((if l.all b then none else some false, ()) : (Option Bool × Unit)) w
  | [], _ => by simp
  | f :: r, h => by
    have ih := run_forIn_all w body b r (fun x hx => h x (by simp [hx]))
    rw [List.forIn_cons, Sem.run_bind, h f (by simp)]
    cases hb : b f <;> simp [hb, ih]

section
variable {P : Program} {γ : Nat → Option Nat} {o : Oper} {env : Env} {h : AHeap} {g : Bool} {K : Value → AHeap → Prop}

theorem eqS_scal {c : Nat} {x y : Value} {b : Bool} (hs : eqS c x y = some b) : scal x = true ∧ scal y = true := by
  unfold eqS at hs; split at hs <;> simp_all [scal]

theorem agg_get {β : LMap} {xs xs' : Array Value} {o : Nat} {x : Value} (hx : VRel β (.agg xs) (.agg xs')) (hxo : xs[o]? = some x) (hs : scal x = true) : xs'[o]? = some x := by
  cases hx with
  | agg he hall =>
    have hi := (Array.getElem?_eq_some_iff.1 hxo).1
    have hq := hall o x _ hxo (Array.getElem?_eq_getElem (he ▸ hi))
    rw [Array.getElem?_eq_getElem (he ▸ hi), scal_eq hq hs]

/-- Part by part: the places, and what each says. -/
theorem eqAt_all {xs ys : Array Value} : ∀ {l : List (Nat × Nat)} {b : Bool}, eqAt xs ys l = some b → ∃ f : Nat × Nat → Bool, b = l.all f ∧ ∀ p ∈ l, ∃ x y, xs[p.1]? = some x ∧ ys[p.1]? = some y ∧ eqS p.2 x y = some (f p)
  | [], b, h => ⟨fun _ => true, by simp [eqAt] at h; simp [h], fun p hp => by cases hp⟩
  | (o, c) :: r, b, h => by
    simp only [eqAt] at h
    cases hxo : xs[o]? with
    | none => simp [hxo] at h
    | some x =>
      cases hyo : ys[o]? with
      | none => simp [hxo, hyo] at h
      | some y =>
        simp only [hxo, hyo] at h
        cases hs : eqS c x y with
        | none => simp [hs] at h
        | some b1 =>
          cases hr : eqAt xs ys r with
          | none => simp [hs, hr] at h
          | some b2 =>
            simp only [hs, hr, Option.some.injEq] at h
            obtain ⟨f, h1, h2⟩ := eqAt_all hr
            refine ⟨fun p => match xs[p.1]?, ys[p.1]? with | some x, some y => (eqS p.2 x y).getD false | _, _ => false, ?_, ?_⟩
            · rw [← h, h1]
              simp only [List.all_cons, hxo, hyo, hs, Option.getD_some]
              congr 1
              rw [Bool.eq_iff_iff, List.all_eq_true, List.all_eq_true]
              constructor
              · intro hq p hp
                obtain ⟨x', y', e1, e2, e3⟩ := h2 p hp
                simp [e1, e2, e3, hq p hp]
              · intro hq p hp
                obtain ⟨x', y', e1, e2, e3⟩ := h2 p hp
                have := hq p hp
                simpa [e1, e2, e3] using this
            · intro p hp
              rcases List.mem_cons.1 hp with rfl | hp
              · exact ⟨x, y, hxo, hyo, by simp [hxo, hyo, hs]⟩
              · obtain ⟨x', y', e1, e2, e3⟩ := h2 p hp
                exact ⟨x', y', e1, e2, by simp [e1, e2, e3]⟩

theorem equal_struct {d : Nat} {t : TypeId} {fs : Array Field} {xs ys : Array Value} {b : Bool} (hu : P.underlying t = some (.struct fs)) (hst : P.stoodInHeld t = false)
    (hf : ∀ f ∈ fs.toList, f.name ≠ "_" ∧ ∃ c, kindT P f.type = some c) (hb : eqAt xs ys (fs.toList.map fun f => (f.offset, (kindT P f.type).getD 0)) = some b) (w : World) :
    (Op.equalIn (d + 2) t (.agg xs) (.agg ys)).run P w = .ok b w := by
  obtain ⟨f, h1, h2⟩ := eqAt_all hb
  have hloop := run_forIn_all (P := P) w (fun (fd : Field) (_ : (Option Bool × Unit)) => (if fd.name ≠ "_" then do
      if !(← Op.equalIn (d + 1) fd.type (← part fd.type xs fd.offset) (← part fd.type ys fd.offset)) then pure (ForInStep.done (some false, ())) else pure (ForInStep.yield (none, ())) else pure (ForInStep.yield (none, ())) : Sem (ForInStep ((Option Bool × Unit))))) (fun fd => f (fd.offset, (kindT P fd.type).getD 0)) fs.toList (by
    intro fd hfd
    obtain ⟨hn, c, hc⟩ := hf fd hfd
    obtain ⟨x, y, e1, e2, e3⟩ := h2 (fd.offset, (kindT P fd.type).getD 0) (by simp only [List.mem_map]; exact ⟨fd, hfd, rfl⟩)
    rw [hc] at e3
    have p1 : (part fd.type xs fd.offset).run P w = .ok x w := by simp at e1; simp [part, run_isAgg (kindT_agg hc), e1]
    have p2 : (part fd.type ys fd.offset).run P w = .ok y w := by simp at e2; simp [part, run_isAgg (kindT_agg hc), e2]
    have p3 := equal_scal (P := P) (d := d) hc e3 w
    simp only [ne_eq, hn, not_false_eq_true, if_true, Sem.run_bind, p1, p2, Result.andThen_ok, p3, hc]
    cases hfb : f (fd.offset, (some c).getD 0) <;> simp [hfb])
  have hall : (fs.toList.all fun fd => f (fd.offset, (kindT P fd.type).getD 0)) = b := by rw [h1, List.all_map]; rfl
  rw [hall] at hloop
  rw [show d + 2 = (d + 1) + 1 from rfl, Op.equalIn]
  simp only [Sem.run_bind, run_underlying hu, Result.andThen_ok]
  simp only [program, Sem.run, hst, Bool.false_eq_true, if_false, Sem.run_bind, Sem.run_pure, Result.andThen_ok]
  rw [← Array.forIn_toList]
  rw [hloop]
  cases b <;> simp

theorem equal_array {d n : Nat} {t e : TypeId} {xs ys : Array Value} {b : Bool} {c : Nat} (hu : P.underlying t = some (.array n e)) (hn : (P.info? e).map (·.size) = some 1)
    (hk : kindT P e = some c) (hb : eqAt xs ys ((List.range n).map fun i => (i, c)) = some b) (w : World) :
    (Op.equalIn (d + 2) t (.agg xs) (.agg ys)).run P w = .ok b w := by
  obtain ⟨f, h1, h2⟩ := eqAt_all hb
  have hloop := run_forIn_all (P := P) w (fun (i : Nat) (_ : (Option Bool × Unit)) => (do
      if !(← Op.equalIn (d + 1) e (← part e xs (i * 1)) (← part e ys (i * 1))) then pure (ForInStep.done (some false, ())) else pure (ForInStep.yield (none, ())) : Sem (ForInStep ((Option Bool × Unit))))) (fun i => f (i, c)) (List.range n) (by
    intro i hi
    obtain ⟨x, y, e1, e2, e3⟩ := h2 (i, c) (by simp only [List.mem_map]; exact ⟨i, hi, rfl⟩)
    simp only at e1 e2 e3
    have p1 : (part e xs (i * 1)).run P w = .ok x w := by simp [part, run_isAgg (kindT_agg hk), e1]
    have p2 : (part e ys (i * 1)).run P w = .ok y w := by simp [part, run_isAgg (kindT_agg hk), e2]
    have p3 := equal_scal (P := P) (d := d) hk e3 w
    simp only [Sem.run_bind, p1, p2, Result.andThen_ok, p3]
    cases hfb : f (i, c) <;> simp [hfb])
  have hall : ((List.range n).all fun i => f (i, c)) = b := by rw [h1, List.all_map]; rfl
  rw [hall] at hloop
  rw [show d + 2 = (d + 1) + 1 from rfl, Op.equalIn]
  simp only [Sem.run_bind, run_underlying hu, Result.andThen_ok, run_size hn, Std.Legacy.Range.forIn_eq_forIn_range', Std.Legacy.Range.size, Nat.sub_zero, Nat.add_sub_cancel, Nat.div_one, ← List.range_eq_range']
  rw [hloop]
  cases b <;> simp

theorem eqIn_bool {d : Nat} {t : TypeId} {a b : Bool} (hu : P.underlying t = some .bool) (w : World) : (Op.equalIn (d + 1) t (.bool a) (.bool b)).run P w = .ok (a == b) w := by
  simp [Op.equalIn, run_underlying hu]
theorem eqIn_ptr1 {d : Nat} {t e : TypeId} {b : Option Addr} (hu : P.underlying t = some (.pointer e)) (w : World) : (Op.equalIn (d + 1) t (.pointer none) (.pointer b)).run P w = .ok b.isNone w := by
  simp [Op.equalIn, run_underlying hu]
theorem eqIn_ptr2 {d : Nat} {t e : TypeId} {b : Addr} (hu : P.underlying t = some (.pointer e)) (w : World) : (Op.equalIn (d + 1) t (.pointer (some b)) (.pointer none)).run P w = .ok false w := by
  simp [Op.equalIn, run_underlying hu]
theorem eqIn_sl1 {d : Nat} {t e : TypeId} {b : Option Addr} {n c n' c' : Nat} (hu : P.underlying t = some (.slice e)) (w : World) : (Op.equalIn (d + 1) t (.slice none n c) (.slice b n' c')).run P w = .ok b.isNone w := by
  simp [Op.equalIn, run_underlying hu]
theorem eqIn_sl2 {d : Nat} {t e : TypeId} {b : Addr} {n c n' c' : Nat} (hu : P.underlying t = some (.slice e)) (w : World) : (Op.equalIn (d + 1) t (.slice (some b) n c) (.slice none n' c')).run P w = .ok false w := by
  simp [Op.equalIn, run_underlying hu]
theorem eqIn_fn0 {d : Nat} {t : TypeId} {p q : Array TypeId} {r : Bool} (hu : P.underlying t = some (.func p q r)) (w : World) : (Op.equalIn (d + 1) t .nilFunc .nilFunc).run P w = .ok true w := by
  simp [Op.equalIn, run_underlying hu]
theorem eqIn_fn1 {d : Nat} {t : TypeId} {p q : Array TypeId} {r : Bool} {f : Fn} {a b : Array Value} (hu : P.underlying t = some (.func p q r)) (w : World) : (Op.equalIn (d + 1) t .nilFunc (.func f a b)).run P w = .ok false w := by
  simp [Op.equalIn, run_underlying hu]
theorem eqIn_fn2 {d : Nat} {t : TypeId} {p q : Array TypeId} {r : Bool} {f : Fn} {a b : Array Value} (hu : P.underlying t = some (.func p q r)) (w : World) : (Op.equalIn (d + 1) t (.func f a b) .nilFunc).run P w = .ok false w := by
  simp [Op.equalIn, run_underlying hu]

/-- A comparison that goes by Op.equal. -/
def viaEqual (u v : Value) : Prop := ∀ t, binOp .eql t u v = (do pure (.bool (← Op.equal t u v))) ∧ binOp .neq t u v = (do pure (.bool (!(← Op.equal t u v))))

theorem run_eqv {op : BinOp} {t : TypeId} {x y : Operand} {neg b : Bool} {u v : Value} (hop : op = if neg then .neq else .eql) (w : World) (h1 : (eqGuard op t x y u v).run P w = .ok () w) (h2 : viaEqual u v)
    (h3 : (Op.equalIn Op.maxDepth t u v).run P w = .ok b w) : (do eqGuard op t x y u v; binOp op t u v : Sem Value).run P w = .ok (.bool (if neg then !b else b)) w := by
  rw [Sem.run_bind, h1, Result.andThen_ok]
  subst hop
  cases neg
  · simp only [Bool.false_eq_true, if_false]; rw [(h2 t).1, Sem.run_bind]; unfold Op.equal; rw [h3]; rfl
  · simp only [if_true]; rw [(h2 t).2, Sem.run_bind]; unfold Op.equal; rw [h3]; rfl

theorem eqAt_lift {β : LMap} {xs ys xs' ys' : Array Value} (hx : VRel β (.agg xs) (.agg xs')) (hy : VRel β (.agg ys) (.agg ys')) : ∀ {l : List (Nat × Nat)} {b : Bool}, eqAt xs ys l = some b → eqAt xs' ys' l = some b
  | [], b, h => h
  | (o, c) :: r, b, h => by
    simp only [eqAt] at h ⊢
    cases hxo : xs[o]? with
    | none => simp [hxo] at h
    | some x =>
      cases hyo : ys[o]? with
      | none => simp [hxo, hyo] at h
      | some y =>
        simp only [hxo, hyo] at h
        cases hs : eqS c x y with
        | none => simp [hs] at h
        | some b1 =>
          cases hr : eqAt xs ys r with
          | none => simp [hs, hr] at h
          | some b2 =>
            simp only [hs, hr] at h
            obtain ⟨s1, s2⟩ := eqS_scal hs
            simp only [agg_get hx hxo s1, agg_get hy hyo s2, hs, eqAt_lift hx hy hr]
            exact h

def eqvOk (P : Program) (t : TypeId) : EqK → Prop
  | .bool => P.underlying t = some .bool
  | .ptr => ∃ e, P.underlying t = some (.pointer e)
  | .slice => ∃ e, P.underlying t = some (.slice e)
  | .fn => ∃ a b c, P.underlying t = some (.func a b c)
  | .agg l => P.eqGuardType P.depth t = false ∧
      ((∃ fs, P.underlying t = some (.struct fs) ∧ P.stoodInHeld t = false ∧ (∀ f ∈ fs.toList, f.name ≠ "_" ∧ ∃ c, kindT P f.type = some c) ∧ l = fs.toList.map fun f => (f.offset, (kindT P f.type).getD 0)) ∨
       (∃ n e c, P.underlying t = some (.array n e) ∧ (P.info? e).map (·.size) = some 1 ∧ kindT P e = some c ∧ l = (List.range n).map fun i => (i, c)))

theorem eqv_run {op : BinOp} {t : TypeId} {x y : Operand} {neg b : Bool} {k : EqK} {u v cu cv : Value} {β : LMap} (hop : op = if neg then .neq else .eql) (hk : eqvOk P t k) (hb : eqV k u v = some b) (r1 : VRel β u cu) (r2 : VRel β v cv) (w : World) :
    (do eqGuard op t x y cu cv; binOp op t cu cv : Sem Value).run P w = .ok (.bool (if neg then !b else b)) w := by
  unfold eqV at hb
  split at hb <;> (try simp only [Option.some.injEq, reduceCtorEq] at hb)
  · subst hb; cases r1; cases r2
    exact run_eqv hop w (by rw [eqGuard_at_bool]; rfl) (fun t => ⟨rfl, rfl⟩) (eqIn_bool (d := 9999) hk w)
  · subst hb; obtain ⟨e, hk⟩ := hk; cases r1
    rename_i b0
    have hb2 : ∃ b2, cv = .pointer b2 ∧ b2.isNone = b0.isNone := by cases r2 <;> exact ⟨_, rfl, rfl⟩
    obtain ⟨b2, rfl, hb2⟩ := hb2
    rw [← hb2]
    exact run_eqv hop w (by rw [eqGuard_at_pointer]; rfl) (fun t => ⟨rfl, rfl⟩) (eqIn_ptr1 (d := 9999) hk w)
  · subst hb; obtain ⟨e, hk⟩ := hk; cases r1; cases r2
    exact run_eqv hop w (by rw [eqGuard_at_pointer]; rfl) (fun t => ⟨rfl, rfl⟩) (eqIn_ptr2 (d := 9999) hk w)
  · subst hb; obtain ⟨e, hk⟩ := hk; cases r1
    rename_i b0 l0 c0
    have hb2 : ∃ b2 l2 c2, cv = .slice b2 l2 c2 ∧ b2.isNone = b0.isNone := by cases r2 <;> exact ⟨_, _, _, rfl, rfl⟩
    obtain ⟨b2, l2, c2, rfl, hb2⟩ := hb2
    rw [← hb2]
    exact run_eqv hop w (by rw [eqGuard_at_slice]; rfl) (fun t => ⟨rfl, rfl⟩) (eqIn_sl1 (d := 9999) hk w)
  · subst hb; obtain ⟨e, hk⟩ := hk; cases r1; cases r2
    exact run_eqv hop w (by rw [eqGuard_at_slice]; rfl) (fun t => ⟨rfl, rfl⟩) (eqIn_sl2 (d := 9999) hk w)
  · subst hb; obtain ⟨p, q, r, hk⟩ := hk; cases r1; cases r2
    exact run_eqv hop w (by rw [eqGuard_at_nilFunc]; rfl) (fun t => ⟨rfl, rfl⟩) (eqIn_fn0 (d := 9999) hk w)
  · subst hb; obtain ⟨p, q, r, hk⟩ := hk; cases r1; cases r2
    exact run_eqv hop w (by rw [eqGuard_at_nilFunc]; rfl) (fun t => ⟨rfl, rfl⟩) (eqIn_fn1 (d := 9999) hk w)
  · subst hb; obtain ⟨p, q, r, hk⟩ := hk; cases r1; cases r2
    exact run_eqv hop w (by rw [eqGuard_at_func]; rfl) (fun t => ⟨rfl, rfl⟩) (eqIn_fn2 (d := 9999) hk w)
  · obtain ⟨hgd, hk⟩ := hk
    have r1' := r1
    have r2' := r2
    cases r1 with
    | agg he1 ha1 =>
      cases r2 with
      | agg he2 ha2 =>
        have hb' := eqAt_lift r1' r2' hb
        refine run_eqv hop w ?_ (fun t => ⟨rfl, rfl⟩) ?_
        · subst hop; cases neg <;> simp [eqGuard, program, Sem.run, hgd]
        · rcases hk with ⟨fs, hu, hst, hf, rfl⟩ | ⟨n, e, c, hu, hn, hk, rfl⟩
          · exact equal_struct (d := 9998) hu hst hf hb' w
          · exact equal_array (d := 9998) hu hn hk hb' w

theorem s_eqv {op : BinOp} {t yt : TypeId} {x y : Operand} {neg : Bool} {k : EqK} (ho : o.op = .binOp op t x y yt) (hop : op = if neg then .neq else .eql) (hk : eqvOk P t k) (H : OpVC P γ env h g (.eqv neg k x y) K) : Good P γ o env h g K := by
  obtain ⟨gx, u, hex, hgx, H1⟩ := Use.out H
  clear H
  obtain ⟨gy, v, hey, hgy, H⟩ := Use.out H1
  clear H1
  split at H
  · rename_i b hb
    refine good_pure H fun ht β a w hh hr => ⟨_, ?_, .bool _⟩
    have r1 := hr x (by simp [ho, Op.operands]) gx _ hex (hgx ht)
    have r2 := hr y (by simp [ho, Op.operands]) gy _ hey (hgy ht)
    have he : execOp a.eval o = ((do eqGuard op t x y (a.eval x) (a.eval y); binOp op t (a.eval x) (a.eval y) : Sem Value) >>= fun v => pure (Next.value v)) := by simp only [execOp, ho]
    rw [he, Sem.run_bind, eqv_run hop hk hb r1 r2 w]; rfl
  · first | exact H.elim | exact good_skip H
end
end Go.Vx
