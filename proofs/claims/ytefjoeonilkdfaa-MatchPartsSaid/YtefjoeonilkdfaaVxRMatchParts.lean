/- Proved here: the law MatchParts answers true whatever comes in, and leaves it as it was: the given statement, without any further condition. -/
import Derived.Test.YtefjoeonilkdfaaVxMP
import Derived.Test.YtefjoeonilkdfaaRows
import Derived.Test.YtefjoeonilkdfaaChecked
import Derived.WalkKit
import Derived.ProofKit
import Derived.OpenShut
import Derived.ShutString
import Derived.ChangeOld
import Derived.Below
import Derived.SizedLaws
import Derived.ChangeSame
import Derived.Deep.Strs
namespace Go.Vx
open Go.Proofs
set_option linter.unusedVariables false
theorem tokE_of {H : Type} {enc : TypeId × Value → H} {w : World} {base : Nat} {spare : Nat → Bool} {held : Bool} :
    ∀ n cs y, DataW.trod enc Try.prog w base spare held n 33 cs = some y → RowE Tok.cells (fun t => i64ok t.len ∧ i64ok t.dist) cs := by
  intro n cs y h
  obtain ⟨y0, y1, y2, m, _, hl, h0, h1, h2⟩ := Go.Deep.trod_struct3 Try.underlying33 h
  have c33 : Try.prog.cellsOf 33 = 3 := by kernel_rfl
  have c5 : Try.prog.cellsOf 5 = 1 := by kernel_rfl
  have c3 : Try.prog.cellsOf 3 = 1 := by kernel_rfl
  rw [c33] at hl
  obtain ⟨a, b, c, rfl⟩ : ∃ a b c, cs = [a, b, c] := len3 hl
  simp only [c5, c3, List.drop_zero, List.drop_succ_cons, List.take_succ_cons, List.take_zero] at h0 h1 h2
  obtain ⟨n0, e0, _, w0⟩ := DataW.trod_int Try.underlying5 h0
  obtain ⟨n1, e1, _, w1⟩ := DataW.trod_int Try.underlying3 h1
  obtain ⟨n2, e2, _, w2⟩ := DataW.trod_int Try.underlying3 h2
  simp only [List.cons.injEq, and_true] at e0 e1 e2
  subst e0 e1 e2
  have hm := wf_u8 w0
  refine ⟨⟨UInt8.ofNat n0.toNat, n1, n2⟩, ?_, wf_i64 w1, wf_i64 w2⟩
  simp only [Tok.cells, List.cons.injEq, and_true]
  have : ((UInt8.ofNat n0.toNat).toNat : Int) = n0 := by
    rw [UInt8.toNat_ofNat']; omega
  rw [this]

theorem matchParts_walk (W : World) (x0 : Option Addr) (len0 cap0 : Nat) (rows0 : List (List Value)) (a1 : Int) (hl0 : rows0.length = len0) (hE0 : ∀ r ∈ rows0, RowE Tok.cells (fun t => i64ok t.len ∧ i64ok t.dist) r) (hin0 : InRow W 3 x0 len0 cap0 rows0.flatten) (y0 : len0 * 24 ≤ 140737488351232) (w1 : (Lit.int .i64 a1).wf = true) :
    Calls Try.prog 4 #[.slice x0 len0 cap0, .int .i64 a1] W fun e w' => e = .returned (.bool true) ∧ RowKit.Below W.heap.size W w' := by
  replace w1 := wf_i64 w1
  unfold i64ok at w1
  obtain ⟨l0, q0, r0, p0⟩ := rows_list hE0
  rw [r0] at hin0
  obtain ⟨β0, R0, m0, v0⟩ := hrel_pushRo (hrel_nil W) (by simp [roObj]) hin0
  have V0 : VRel β0 (absSl x0 0 len0 cap0) (.slice x0 len0 cap0) := v0
  have S0 : Sl0 3 Tok.cells [roObj 3 (l0.flatMap Tok.cells)] (absSl x0 0 len0 cap0) l0 := sl_in tok_clen hin0 (q0.trans hl0) rfl
  have z0 : l0.length * 24 ≤ 140737488351232 := by rw [q0, hl0]; exact y0
  refine law_of (γ := γ0) (h := [roObj 3 (l0.flatMap Tok.cells)]) (parts_spec S0 a1) (by simp [roObj]) R0 rfl fun i x c hx hc => ?_
  match i with
  | 0 => simp at hx hc; subst hx hc; exact V0
  | 1 => simp at hx hc; subst hx hc; exact .int _ _
  | n + 2 => simp at hx
end Go.Vx

namespace Go.Proofs.Ytefjoeonilkdfaa.matchParts
open Go.ChangeShapes Go.WideShapes Go.ChangeAt Go.RowKit
open Go.ChangeMaps (open_string shut_string)
set_option linter.unusedVariables false
theorem own : ownKnob Try.prog.godebug = none := by kernel_rfl
theorem laidOut : laidOutB Try.prog = true := by kernel_rfl
set_option maxRecDepth 100000 in
theorem lifted (os : Os) (started : os.Started) (H : Type) (enc : TypeId × Value → H) :
    ReturnsInHanded {} Try.checked os 4 .any (Rows.matchPartsSpec.pre6 enc Try.prog Try.f4 Rows.matchPartsRow.domain false) (Rows.matchPartsSpec.post enc Try.prog Try.f4 false true false false) := by
  refine returnsInHanded_of_change_sized (C := Try.checked) own started (by kernel_rfl) Try.func4
    (ChangeSpec.witness6 (enc := enc) (C := Try.checked) false ⟨#[], #[.slice none 0 0, .int .i64 0], []⟩ 8 (by kernel_rfl) (by kernel_rfl) (by kernel_rfl) (by kernel_rfl)) ?_
  intro W base args ds gs before hval0 hW hcnd hsz0 _
  have hsz : (DataW.weightsEach Try.prog (Try.f4.params.toList ++ Rows.matchPartsSpec.plain.varTypes Try.prog) (ds ++ gs)).all (· ≤ reachBytes) = true := hsz0
  have hval : ∀ (j : Nat) t v, Try.f4.params[j]? = some t → args[j]? = some v → Value.okWide Try.prog W .any base t v := hval0
  have hW' := hW
  obtain ⟨p, q, hA0, hV, rfl, hfz, hnd⟩ := hW
  have hA : DataW.TrodAll enc Try.prog W 0 (fun _ => true) true Try.f4.params.toList args.toList ds p := hA0
  rw [Try.params4] at hA hval hsz
  obtain ⟨v0, vs0, d0, ds0, p0, q0, hargs, rfl, rfl, h0, r0⟩ := trodAll_cons hA
  obtain ⟨v1, vs1, d1, ds1, p1, q1, rfl, rfl, rfl, h1, r1⟩ := trodAll_cons r0
  obtain ⟨rfl, rfl, rfl⟩ := trodAll_nil r1
  obtain rfl : args = #[v0, v1] := by cases args; simp_all
  obtain ⟨rfl, rfl⟩ := trodVars_none hV
  obtain ⟨a0, len0, cap0, rfl⟩ := okWide_slice Try.underlying22 (hval 0 22 v0 rfl rfl)
  have k0 := h0
  have lt0 : ∀ x ∈ p0, x.block < W.heap.size := by obtain ⟨m, hm⟩ := k0; exact DataW.trod_lt m _ _ _ hm
  obtain ⟨rows0, y1_0, y2_0, y3_0, y4_0⟩ := Go.Vx.open_slice (B := 24) Try.underlying22 (Go.Vx.tokE_of) (Go.Vx.rowE_scal Go.Vx.tok_scal) (hval 0 22 _ rfl rfl) h0 hsz (j := 0) rfl rfl (by kernel_rfl)
  have cw0 : Try.prog.cellsOf 33 = 3 := by kernel_rfl
  rw [cw0] at y3_0
  obtain ⟨a1, rfl, rfl, rfl, w1⟩ := open_int Try.underlying3 (hval 1 3 v1 rfl rfl) h1
  clear hA0 hval0 hsz0 hsz
  refine (Go.Vx.matchParts_walk W a0 len0 cap0 rows0 a1 y1_0 y2_0 y3_0 y4_0 w1).mono fun e W' ⟨he, bel⟩ => ?_
  subst he
  exact ⟨_, rfl, _, _, _, [], _, [], hW', trodAll_mk1 (shut_bool Try.underlying4 _), (trodAll_cons_mk (Below.trod laidOut (by kernel_rfl) (of_decide_eq_true (by kernel_rfl)) k0 bel lt0) (trodAll_cons_mk (shut_int Try.underlying3 w1) trodAll_mk0)), rfl, bel.frame _, fun h => by cases h⟩
theorem over : Rows.matchPartsRow.holds Try.pinned (OpenSpec.ofChange Rows.matchPartsSpec) :=
  OpenClaim.holds_of_wide 4 Try.f4 rfl rfl rfl rfl rfl rfl rfl ⟨rfl, rfl, rfl, rfl, rfl⟩ rfl rfl rfl rfl rfl (by kernel_rfl) Try.func4 (by kernel_rfl)
    (of_decide_eq_true (by kernel_rfl)) (by unfold Func.isWrapper; first | (rw [if_pos (by decide +kernel)]; kernel_rfl) | (rw [if_neg (by decide +kernel)]; exact ⟨rfl, rfl⟩))
    (fun os started H enc _ => lifted os started H enc)
theorem proved : Rows.MatchPartsSaid := over
end Go.Proofs.Ytefjoeonilkdfaa.matchParts
namespace Go.Proofs.Ytefjoeonilkdfaa
/-- The row, under a short name, for the claim. -/
theorem matchParts_holds : Rows.MatchPartsSaid := matchParts.proved
end Go.Proofs.Ytefjoeonilkdfaa
