/- Proved here: the law MatchBack answers true whatever comes in, and leaves it as it was: the given statement, without any further condition. -/
import Derived.Test.YtefjoeonilkdfaaVxMK
import Derived.Test.YtefjoeonilkdfaaRows
import Derived.Test.YtefjoeonilkdfaaChecked
import Derived.WalkKit
import Derived.ProofKit
import Derived.OpenShut
import Derived.ShutString
import Derived.ChangeOld
import Derived.Below
import Derived.SizedLaws
import Derived.ChangeSame
import Derived.Deep.Strs
namespace Go.Vx
open Go.Proofs
set_option linter.unusedVariables false
theorem matchBack_walk (W : World) (x0 : Option Addr) (len0 cap0 : Nat) (rows0 : List (List Value)) (hl0 : rows0.length = len0) (hE0 : ∀ r ∈ rows0, RowE by1 (fun _ => True) r) (hin0 : InRow W 1 x0 len0 cap0 rows0.flatten) (y0 : len0 * 1 ≤ 140737488351232) :
    Calls Try.prog 6 #[.slice x0 len0 cap0] W fun e w' => e = .returned (.bool true) ∧ RowKit.Below W.heap.size W w' := by
  obtain ⟨l0, q0, r0, p0⟩ := rows_list hE0
  rw [r0] at hin0
  obtain ⟨β0, R0, m0, v0⟩ := hrel_pushRo (hrel_nil W) (by simp [roObj]) hin0
  have V0 : VRel β0 (absSl x0 0 len0 cap0) (.slice x0 len0 cap0) := v0
  have S0 : Sl0 1 by1 [roObj 1 (l0.flatMap by1)] (absSl x0 0 len0 cap0) l0 := sl_in by1_len hin0 (q0.trans hl0) rfl
  have z0 : l0.length * 1 ≤ 140737488351232 := by rw [q0, hl0]; exact y0
  refine law_of (γ := γ0) (h := [roObj 1 (l0.flatMap by1)]) (back_spec0 S0) (by simp [roObj]) R0 rfl fun i x c hx hc => ?_
  match i with
  | 0 => simp at hx hc; subst hx hc; exact V0
  | n + 1 => simp at hx
end Go.Vx

namespace Go.Proofs.Ytefjoeonilkdfaa.matchBack
open Go.ChangeShapes Go.WideShapes Go.ChangeAt Go.RowKit
open Go.ChangeMaps (open_string shut_string)
set_option linter.unusedVariables false
theorem own : ownKnob Try.prog.godebug = none := by kernel_rfl
theorem laidOut : laidOutB Try.prog = true := by kernel_rfl
set_option maxRecDepth 100000 in
theorem lifted (os : Os) (started : os.Started) (H : Type) (enc : TypeId × Value → H) :
    ReturnsInHanded {} Try.checked os 6 .any (Rows.matchBackSpec.pre6 enc Try.prog Try.f6 Rows.matchBackRow.domain false) (Rows.matchBackSpec.post enc Try.prog Try.f6 false true false false) := by
  refine returnsInHanded_of_change_sized (C := Try.checked) own started (by kernel_rfl) Try.func6
    (ChangeSpec.witness6 (enc := enc) (C := Try.checked) false ⟨#[], #[.slice none 0 0], []⟩ 8 (by kernel_rfl) (by kernel_rfl) (by kernel_rfl) (by kernel_rfl)) ?_
  intro W base args ds gs before hval0 hW hcnd hsz0 _
  have hsz : (DataW.weightsEach Try.prog (Try.f6.params.toList ++ Rows.matchBackSpec.plain.varTypes Try.prog) (ds ++ gs)).all (· ≤ reachBytes) = true := hsz0
  have hval : ∀ (j : Nat) t v, Try.f6.params[j]? = some t → args[j]? = some v → Value.okWide Try.prog W .any base t v := hval0
  have hW' := hW
  obtain ⟨p, q, hA0, hV, rfl, hfz, hnd⟩ := hW
  have hA : DataW.TrodAll enc Try.prog W 0 (fun _ => true) true Try.f6.params.toList args.toList ds p := hA0
  rw [Try.params6] at hA hval hsz
  obtain ⟨v0, vs0, d0, ds0, p0, q0, hargs, rfl, rfl, h0, r0⟩ := trodAll_cons hA
  obtain ⟨rfl, rfl, rfl⟩ := trodAll_nil r0
  obtain rfl : args = #[v0] := by cases args; simp_all
  obtain ⟨rfl, rfl⟩ := trodVars_none hV
  obtain ⟨a0, len0, cap0, rfl⟩ := okWide_slice Try.underlying27 (hval 0 27 v0 rfl rfl)
  have k0 := h0
  have lt0 : ∀ x ∈ p0, x.block < W.heap.size := by obtain ⟨m, hm⟩ := k0; exact DataW.trod_lt m _ _ _ hm
  obtain ⟨rows0, y1_0, y2_0, y3_0, y4_0⟩ := Go.Vx.open_slice (B := 1) Try.underlying27 (Go.Vx.by1_of Try.underlying5) (Go.Vx.rowE_scal Go.Vx.by1_scal) (hval 0 27 _ rfl rfl) h0 hsz (j := 0) rfl rfl (by kernel_rfl)
  have cw0 : Try.prog.cellsOf 5 = 1 := by kernel_rfl
  rw [cw0] at y3_0
  clear hA0 hval0 hsz0 hsz
  refine (Go.Vx.matchBack_walk W a0 len0 cap0 rows0 y1_0 y2_0 y3_0 y4_0).mono fun e W' ⟨he, bel⟩ => ?_
  subst he
  exact ⟨_, rfl, _, _, _, [], _, [], hW', trodAll_mk1 (shut_bool Try.underlying4 _), (trodAll_cons_mk (Below.trod laidOut (by kernel_rfl) (of_decide_eq_true (by kernel_rfl)) k0 bel lt0) trodAll_mk0), rfl, bel.frame _, fun h => by cases h⟩
theorem over : Rows.matchBackRow.holds Try.pinned (OpenSpec.ofChange Rows.matchBackSpec) :=
  OpenClaim.holds_of_wide 6 Try.f6 rfl rfl rfl rfl rfl rfl rfl ⟨rfl, rfl, rfl, rfl, rfl⟩ rfl rfl rfl rfl rfl (by kernel_rfl) Try.func6 (by kernel_rfl)
    (of_decide_eq_true (by kernel_rfl)) (by unfold Func.isWrapper; first | (rw [if_pos (by decide +kernel)]; kernel_rfl) | (rw [if_neg (by decide +kernel)]; exact ⟨rfl, rfl⟩))
    (fun os started H enc _ => lifted os started H enc)
theorem proved : Rows.MatchBackSaid := over
end Go.Proofs.Ytefjoeonilkdfaa.matchBack
namespace Go.Proofs.Ytefjoeonilkdfaa
/-- The row, under a short name, for the claim. -/
theorem matchBack_holds : Rows.MatchBackSaid := matchBack.proved
end Go.Proofs.Ytefjoeonilkdfaa
