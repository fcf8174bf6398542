/- A part of the proof: what it shows stands in its theorems. No condition beyond those that they name. -/
import Derived.Test.YtefjoeonilkdfaaVxVB
import Derived.Test.YtefjoeonilkdfaaVxO
namespace Go.Vx
open Go.RowKit
set_option linter.unusedVariables false
set_option linter.unusedSimpArgs false

/-! What lists hold. -/
def γ0 : Nat → Option Nat := fun _ => none

structure Tok where
  lit : UInt8
  len : Int
  dist : Int
  deriving DecidableEq, Inhabited
def Tok.cells (t : Tok) : List Value := [.int .u8 t.lit.toNat, .int .i64 t.len, .int .i64 t.dist]
theorem tok_clen : ∀ x, (Tok.cells x).length = 3 := fun _ => rfl
theorem tok_ok : ∀ x, ∀ u ∈ Tok.cells x, cOk u = true := by intro x u hu; simp [Tok.cells] at hu; rcases hu with rfl | rfl | rfl <;> rfl

def bv (b : UInt8) : Value := .int .u8 b.toNat
abbrev by1 (b : UInt8) : List Value := [bv b]
theorem by1_len : ∀ x, (by1 x).length = 1 := fun _ => rfl
theorem by1_ok : ∀ x, ∀ u ∈ by1 x, cOk u = true := by intro x u hu; simp at hu; subst hu; rfl
abbrev YL := Sl 1 by1

abbrev iv (n : Int) : List Value := [.int .i64 n]
theorem iv_len : ∀ x, (iv x).length = 1 := fun _ => rfl
theorem iv_ok : ∀ x, ∀ u ∈ iv x, cOk u = true := by intro x u hu; simp at hu; subst hu; rfl
abbrev IL := Sl 1 iv

abbrev bb1 (b : Bool) : List Value := [.bool b]
theorem bb1_len : ∀ x, (bb1 x).length = 1 := fun _ => rfl
theorem bb1_ok : ∀ x, ∀ u ∈ bb1 x, cOk u = true := by intro x u hu; simp at hu; subst hu; rfl
abbrev OL := Sl 1 bb1

structure BitT where
  at_ : Int
  b : Bool
  deriving DecidableEq, Inhabited
def bc (x : BitT) : List Value := [.int .i64 x.at_, .bool x.b]
abbrev BL := Sl 2 bc
theorem bc_len : ∀ x, (bc x).length = 2 := fun _ => rfl
theorem bc_ok : ∀ x, ∀ u ∈ bc x, cOk u = true := by intro x u hu; simp [bc] at hu; rcases hu with rfl | rfl <;> rfl

theorem len2 {α : Type} : ∀ {l : List α}, l.length = 2 → ∃ a b, l = [a, b]
  | [], h => by simp at h
  | [_], h => by simp at h
  | [a, b], _ => ⟨a, b, rfl⟩
  | _ :: _ :: _ :: _, h => by simp at h
theorem len3 {α : Type} : ∀ {l : List α}, l.length = 3 → ∃ a b c, l = [a, b, c]
  | [], h => by simp at h
  | [_], h => by simp at h
  | [_, _], h => by simp at h
  | [a, b, c], _ => ⟨a, b, c, rfl⟩
  | _ :: _ :: _ :: _ :: _, h => by simp at h

/-! Chances. -/
def chance (p : Int) : Bool := decide (31 ≤ p) && decide (p ≤ 2017)
def learn (p : Int) (b : Bool) : Int := if b = true then p - p / 32 else p + (2048 - p) / 32
theorem chance_iff {p : Int} : chance p = true ↔ 31 ≤ p ∧ p ≤ 2017 := by simp [chance]
theorem learn_chance {p : Int} {b : Bool} (h : chance p = true) : chance (learn p b) = true := by
  rw [chance_iff] at *; unfold learn; split <;> omega

def deadH (h : AHeap) (v : Value) : AHeap := match v with
  | .slice (some ⟨j, _, _⟩) _ _ => h.set j ⟨[], false, false, false, 0⟩
  | _ => h

/-! What comes in. -/
/-- A list that lies from an object's beginning on. -/
def Sl0 {α : Type} (w : Nat) (f : α → List Value) (h : AHeap) (v : Value) (l : List α) : Prop :=
  (l = [] ∧ v = .slice none 0 0) ∨ ∃ id c ob, v = .slice (some ⟨id, 0, none⟩) l.length c ∧ h[id]? = some ob ∧ ob.live = true ∧ l.length ≤ c ∧ (ob.slack = true → ob.esz = w) ∧ l.length * w ≤ ob.cells.length ∧ ob.cells.take (l.length * w) = l.flatMap f
theorem Sl0.sl {α : Type} {w : Nat} {f : α → List Value} {h : AHeap} {v : Value} {l : List α} (H : Sl0 w f h v l) : Sl w f h v l := by
  rcases H with H | ⟨id, c, ob, h1, h2, h3, h4, h5, h6, h7⟩
  · exact .inl H
  · exact .inr ⟨id, 0, c, ob, h1, h2, h3, h4, h5, by omega, by rw [List.drop_zero]; exact h7⟩
theorem Sl0.ext {α : Type} {w : Nat} {f : α → List Value} {h K : AHeap} {v : Value} {l : List α} (H : Sl0 w f h v l) (e : Ext h K) : Sl0 w f K v l := by
  rcases H with H | ⟨id, c, ob, h1, h2, h3⟩
  · exact .inl H
  · exact .inr ⟨id, c, ob, h1, e.get h2, h3⟩

theorem sl_in {α : Type} {w : Nat} {f : α → List Value} (hf : ∀ x, (f x).length = w) {W : World} {a : Option Addr} {len cap : Nat} {l : List α} (hin : InRow W w a len cap (l.flatMap f)) (hl : l.length = len) {h : AHeap} {id : Nat} (hid : h[id]? = some (roObj w (l.flatMap f))) :
    Sl0 w f h (absSl a id len cap) l := by
  rcases hin with ⟨rfl, rfl, rfl, h0⟩ | ⟨x, rfl, _, h1, _⟩
  · exact .inl ⟨List.length_eq_zero_iff.1 hl, rfl⟩
  · refine .inr ⟨id, cap, _, by rw [hl]; rfl, hid, rfl, by omega, fun _ => rfl, ?_, ?_⟩
    · simp only [roObj]; rw [flat_len hf]; exact Nat.le_refl _
    · simp only [roObj]; rw [← flat_len hf (l := l), List.take_length]

theorem Fresh.sl0 {α : Type} {w : Nat} {f : α → List Value} {h h' : AHeap} {v : Value} {l : List α} (H : Fresh w f h v h' l) (hf : ∀ x, (f x).length = w) : Sl0 w f h' v l := by
  rcases H with ⟨h1, h2, _⟩ | ⟨sk, h1, rfl⟩
  · exact .inl ⟨h1, h2⟩
  · refine .inr ⟨h.length, l.length, _, h1, hp_self _ _, rfl, Nat.le_refl _, fun _ => rfl, ?_, ?_⟩
    · simp only; rw [flat_len hf]; exact Nat.le_refl _
    · simp only; rw [← flat_len hf (l := l), List.take_length]

/-- Rows of one kind each. -/
def RowE {α : Type} (f : α → List Value) (p : α → Prop) (cs : List Value) : Prop := ∃ x, cs = f x ∧ p x
theorem rows_list {α : Type} {f : α → List Value} {p : α → Prop} {rows : List (List Value)} (h : ∀ r ∈ rows, RowE f p r) : ∃ l : List α, l.length = rows.length ∧ rows.flatten = l.flatMap f ∧ ∀ x ∈ l, p x := by
  induction rows with
  | nil => exact ⟨[], rfl, rfl, by simp⟩
  | cons r rest ih =>
    obtain ⟨l, h1, h2, h3⟩ := ih fun r hr => h r (by simp [hr])
    obtain ⟨x, rfl, hx⟩ := h r (by simp)
    exact ⟨x :: l, by simp [h1], by simp [h2], by simpa using ⟨hx, h3⟩⟩
theorem rowE_scal {α : Type} {f : α → List Value} {p : α → Prop} (hf : ∀ x, ∀ u ∈ f x, scal u = true) (cs : List Value) (h : RowE f p cs) : ∀ v ∈ cs, scal v = true := by
  obtain ⟨x, rfl, _⟩ := h; exact hf x
theorem tok_scal : ∀ x, ∀ u ∈ Tok.cells x, scal u = true := by intro x u hu; simp [Tok.cells] at hu; rcases hu with rfl | rfl | rfl <;> rfl
theorem by1_scal : ∀ x, ∀ u ∈ by1 x, scal u = true := by intro x u hu; simp at hu; subst hu; rfl
theorem iv_scal : ∀ x, ∀ u ∈ iv x, scal u = true := by intro x u hu; simp at hu; subst hu; rfl
theorem bc_scal : ∀ x, ∀ u ∈ bc x, scal u = true := by intro x u hu; simp [bc] at hu; rcases hu with rfl | rfl <;> rfl

def i64ok (n : Int) : Prop := -9223372036854775808 ≤ n ∧ n ≤ 9223372036854775807
theorem iv_of {H : Type} {enc : TypeId × Value → H} {P : Program} {w : World} {base : Nat} {spare : Nat → Bool} {held : Bool} {e : TypeId} (he : P.underlying e = some (.int .i64)) :
    ∀ n cs y, DataW.trod enc P w base spare held n e cs = some y → RowE iv i64ok cs := by
  intro n cs y h
  obtain ⟨m, rfl, h1, h2⟩ := intE_of he n cs y h
  exact ⟨m, rfl, h1, h2⟩
theorem by1_of {H : Type} {enc : TypeId × Value → H} {P : Program} {w : World} {base : Nat} {spare : Nat → Bool} {held : Bool} {e : TypeId} (he : P.underlying e = some (.int .u8)) :
    ∀ n cs y, DataW.trod enc P w base spare held n e cs = some y → RowE by1 (fun _ => True) cs := by
  intro n cs y h
  obtain ⟨m, rfl, h1, h2⟩ := intE_of he n cs y h
  have m1 : IntKind.u8.min = 0 := by decide
  have m2 : IntKind.u8.max = 255 := by decide
  rw [m1] at h1; rw [m2] at h2
  refine ⟨UInt8.ofNat m.toNat, ?_, trivial⟩
  simp only [by1, bv, List.cons.injEq, and_true, Value.int.injEq, true_and]
  rw [UInt8.toNat_ofNat']; omega

theorem wf_i64 {n : Int} (h : (Lit.int .i64 n).wf = true) : i64ok n := by
  have : IntKind.i64.min ≤ n ∧ n ≤ IntKind.i64.max := by simpa [Lit.wf] using h
  exact this
theorem wf_u32 {n : Int} (h : (Lit.int .u32 n).wf = true) : 0 ≤ n ∧ n ≤ 4294967295 := by
  have : IntKind.u32.min ≤ n ∧ n ≤ IntKind.u32.max := by simpa [Lit.wf] using h
  have m1 : IntKind.u32.min = 0 := by decide
  have m2 : IntKind.u32.max = 4294967295 := by decide
  rw [m1, m2] at this; exact this
theorem wf_u8 {n : Int} (h : (Lit.int .u8 n).wf = true) : 0 ≤ n ∧ n ≤ 255 := by
  have : IntKind.u8.min ≤ n ∧ n ≤ IntKind.u8.max := by simpa [Lit.wf] using h
  have m1 : IntKind.u8.min = 0 := by decide
  have m2 : IntKind.u8.max = 255 := by decide
  rw [m1, m2] at this; exact this
end Go.Vx
