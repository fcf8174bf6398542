/- Proved here: the law MatchMost answers true whatever tokens come in, and leaves them as they were: the given statement, without any further condition. -/
import Derived.Test.YtefjoeonilkdfaaVxMG
import Derived.Test.YtefjoeonilkdfaaRows
import Derived.Test.YtefjoeonilkdfaaChecked
import Derived.WalkKit
import Derived.ProofKit
import Derived.OpenShut
import Derived.ShutString
import Derived.ChangeOld
import Derived.Below
import Derived.SizedLaws
namespace Go.Vx
open Go.Proofs

/-! What comes in: tokens. -/
def tokE (cs : List Value) : Prop := ∃ t : Tok, cs = t.cells

theorem tokE_scal (cs : List Value) (h : tokE cs) : ∀ v ∈ cs, scal v = true := by
  obtain ⟨t, rfl⟩ := h
  intro v hv
  simp only [Tok.cells, List.mem_cons, List.not_mem_nil, or_false] at hv
  rcases hv with rfl | rfl | rfl <;> rfl

theorem len3 {α : Type} : ∀ {l : List α}, l.length = 3 → ∃ a b c, l = [a, b, c]
  | [], h => by simp at h
  | [_], h => by simp at h
  | [_, _], h => by simp at h
  | [a, b, c], _ => ⟨a, b, c, rfl⟩
  | _ :: _ :: _ :: _ :: _, h => by simp at h

theorem tokE_of {H : Type} {enc : TypeId × Value → H} {w : World} {base : Nat} {spare : Nat → Bool} {held : Bool} :
    ∀ n cs y, DataW.trod enc Try.prog w base spare held n 33 cs = some y → tokE cs := by
  intro n cs y h
  obtain ⟨y0, y1, y2, m, _, hl, h0, h1, h2⟩ := Go.Deep.trod_struct3 Try.underlying33 h
  have c33 : Try.prog.cellsOf 33 = 3 := by kernel_rfl
  have c5 : Try.prog.cellsOf 5 = 1 := by kernel_rfl
  have c3 : Try.prog.cellsOf 3 = 1 := by kernel_rfl
  rw [c33] at hl
  obtain ⟨a, b, c, rfl⟩ : ∃ a b c, cs = [a, b, c] := len3 hl
  simp only [c5, c3, List.drop_zero, List.drop_succ_cons, List.take_succ_cons, List.take_zero] at h0 h1 h2
  obtain ⟨n0, e0, _, w0⟩ := DataW.trod_int Try.underlying5 h0
  obtain ⟨n1, e1, _, _⟩ := DataW.trod_int Try.underlying3 h1
  obtain ⟨n2, e2, _, _⟩ := DataW.trod_int Try.underlying3 h2
  simp only [List.cons.injEq, and_true] at e0 e1 e2
  subst e0 e1 e2
  have hm : IntKind.u8.min ≤ n0 ∧ n0 ≤ IntKind.u8.max := by simpa [Lit.wf] using w0
  have m1 : IntKind.u8.min = 0 := by decide
  have m2 : IntKind.u8.max = 255 := by decide
  rw [m1, m2] at hm
  refine ⟨⟨UInt8.ofNat n0.toNat, n1, n2⟩, ?_⟩
  simp only [Tok.cells, List.cons.injEq, and_true]
  have : ((UInt8.ofNat n0.toNat).toNat : Int) = n0 := by
    rw [UInt8.toNat_ofNat']; omega
  rw [this]

theorem tokRows {rows : List (List Value)} (h : ∀ r ∈ rows, tokE r) : ∃ l : List Tok, l.length = rows.length ∧ rows.flatten = cellsL l := by
  induction rows with
  | nil => exact ⟨[], rfl, rfl⟩
  | cons r rest ih =>
    obtain ⟨l, h1, h2⟩ := ih fun r hr => h r (by simp [hr])
    obtain ⟨t, rfl⟩ := h r (by simp)
    exact ⟨t :: l, by simp [h1], by simp [cellsL, h2]⟩

theorem cellsL_get (l : List Tok) : ∀ i, i < l.length → ((cellsL l).drop (i * 3)).take 3 = (l.getD i default).cells := by
  induction l with
  | nil => intro i hi; simp at hi
  | cons t r ih =>
    intro i hi
    match i with
    | 0 => simp [cellsL, Tok.cells]
    | i + 1 =>
      have := ih i (by simpa using hi)
      rw [show (i + 1) * 3 = 3 + i * 3 by omega, ← List.drop_drop]
      have h3 : (cellsL (t :: r)).drop 3 = cellsL r := by simp [cellsL, Tok.cells]
      rw [h3, this]; simp

/-- Tokens that came in, as an object of the abstract heap. -/
theorem tsl_in {W : World} {a : Option Addr} {len cap : Nat} {l : List Tok} (hin : InRow W 3 a len cap (cellsL l)) (hl : l.length = len) {h : AHeap} {id : Nat} (hid : h[id]? = some (roObj 3 (cellsL l))) :
    ∃ a' c', absSl a id len cap = .slice a' l.length c' ∧ TSl h a' l := by
  rcases hin with ⟨rfl, rfl, rfl, h0⟩ | ⟨x, rfl, _, _⟩
  · have : l = [] := List.length_eq_zero_iff.1 hl
    subst this
    exact ⟨none, 0, rfl, .inl ⟨rfl, rfl⟩⟩
  · refine ⟨_, _, by rw [hl]; rfl, .inr ⟨id, _, rfl, hid, rfl, ?_, cellsL_get l⟩⟩
    simp only [roObj]; rw [cellsL_len]; exact Nat.le_refl _

theorem most_walk (a : Option Addr) (len cap : Nat) (rows : List (List Value)) (W : World) (hl : rows.length = len) (hE : ∀ r ∈ rows, tokE r) (hin : InRow W 3 a len cap rows.flatten) :
    Calls Try.prog 3 #[.slice a len cap] W fun e w' => e = .returned (.bool true) ∧ RowKit.Below W.heap.size W w' := by
  obtain ⟨l, h1, h2⟩ := tokRows hE
  rw [h2] at hin
  obtain ⟨β, hR, _, hv⟩ := hrel_pushRo (hrel_nil W) (by simp) hin
  obtain ⟨a', c', e1, hT⟩ := tsl_in hin (h1.trans hl) (h := [roObj 3 (cellsL l)]) (id := 0) rfl
  rw [show ([] : AHeap).length = 0 from rfl, e1] at hv
  refine law_of (γ := γ0) (most_spec (h := [roObj 3 (cellsL l)]) (c := c') hT) (by simp [roObj]) hR rfl fun i x c hx hc => ?_
  match i with
  | 0 => simp at hx hc; subst hx hc; exact hv
  | n + 1 => simp at hx
end Go.Vx

namespace Go.Proofs.Ytefjoeonilkdfaa.matchMost
open Go.ChangeShapes Go.WideShapes Go.ChangeAt Go.RowKit
open Go.ChangeMaps (open_string shut_string)
set_option linter.unusedVariables false
theorem own : ownKnob Try.prog.godebug = none := by kernel_rfl
theorem laidOut : laidOutB Try.prog = true := by kernel_rfl
set_option maxRecDepth 100000 in
theorem lifted (os : Os) (started : os.Started) (H : Type) (enc : TypeId × Value → H) :
    ReturnsInHanded {} Try.checked os 3 .any (Rows.matchMostSpec.pre6 enc Try.prog Try.f3 Rows.matchMostRow.domain false) (Rows.matchMostSpec.post enc Try.prog Try.f3 false true false false) := by
  refine returnsInHanded_of_change_sized (C := Try.checked) own started (by kernel_rfl) Try.func3
    (ChangeSpec.witness6 (enc := enc) (C := Try.checked) false ⟨#[], #[.slice none 0 0], []⟩ 8 (by kernel_rfl) (by kernel_rfl) (by kernel_rfl) (by kernel_rfl)) ?_
  intro W base args ds gs before hval0 hW hcnd hsz0 _
  have hsz : (DataW.weightsEach Try.prog (Try.f3.params.toList ++ Rows.matchMostSpec.plain.varTypes Try.prog) (ds ++ gs)).all (· ≤ reachBytes) = true := hsz0
  have hval : ∀ (j : Nat) t v, Try.f3.params[j]? = some t → args[j]? = some v → Value.okWide Try.prog W .any base t v := hval0
  have hW' := hW
  obtain ⟨p, q, hA0, hV, rfl, hfz, hnd⟩ := hW
  have hA : DataW.TrodAll enc Try.prog W 0 (fun _ => true) true Try.f3.params.toList args.toList ds p := hA0
  rw [Try.params3] at hA hval hsz
  obtain ⟨v0, vs0, d0, ds0, p0, q0, hargs, rfl, rfl, h0, r0⟩ := trodAll_cons hA
  obtain ⟨rfl, rfl, rfl⟩ := trodAll_nil r0
  obtain rfl : args = #[v0] := by cases args; simp_all
  obtain ⟨rfl, rfl⟩ := trodVars_none hV
  obtain ⟨a0, len0, cap0, rfl⟩ := okWide_slice Try.underlying22 (hval 0 22 v0 rfl rfl)
  have k0 := h0
  have lt0 : ∀ x ∈ p0, x.block < W.heap.size := by obtain ⟨m, hm⟩ := k0; exact DataW.trod_lt m _ _ _ hm
  obtain ⟨rows, y1, y2, y3, y4⟩ := Go.Vx.open_slice (B := 24) Try.underlying22 Go.Vx.tokE_of Go.Vx.tokE_scal (hval 0 22 _ rfl rfl) h0 hsz (j := 0) rfl rfl (by kernel_rfl)
  have c33 : Try.prog.cellsOf 33 = 3 := by kernel_rfl
  rw [c33] at y3
  clear hA0 hval0 hsz0 hsz
  refine (Go.Vx.most_walk a0 len0 cap0 rows W y1 y2 y3).mono fun e W' ⟨he, bel⟩ => ?_
  subst he
  exact ⟨_, rfl, _, _, _, [], _, [], hW', trodAll_mk1 (shut_bool Try.underlying4 _), (trodAll_cons_mk (Below.trod laidOut (by kernel_rfl) (of_decide_eq_true (by kernel_rfl)) k0 bel lt0) trodAll_mk0), rfl, bel.frame _, fun h => by cases h⟩
theorem over : Rows.matchMostRow.holds Try.pinned (OpenSpec.ofChange Rows.matchMostSpec) :=
  OpenClaim.holds_of_wide 3 Try.f3 rfl rfl rfl rfl rfl rfl rfl ⟨rfl, rfl, rfl, rfl, rfl⟩ rfl rfl rfl rfl rfl (by kernel_rfl) Try.func3 (by kernel_rfl)
    (of_decide_eq_true (by kernel_rfl)) (by unfold Func.isWrapper; first | (rw [if_pos (by decide +kernel)]; kernel_rfl) | (rw [if_neg (by decide +kernel)]; exact ⟨rfl, rfl⟩))
    (fun os started H enc _ => lifted os started H enc)
theorem proved : Rows.MatchMostSaid := over
end Go.Proofs.Ytefjoeonilkdfaa.matchMost
namespace Go.Proofs.Ytefjoeonilkdfaa
/-- The row, under a short name, for the claim. -/
theorem matchMost_holds : Rows.MatchMostSaid := matchMost.proved
end Go.Proofs.Ytefjoeonilkdfaa
