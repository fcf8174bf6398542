/- Proved here: the law ProbDoes answers true whatever comes in, and leaves it as it was: the given statement, without any further condition. -/
import Derived.Test.YtefjoeonilkdfaaVxPG
import Derived.Test.YtefjoeonilkdfaaRows
import Derived.Test.YtefjoeonilkdfaaChecked
import Derived.WalkKit
import Derived.ProofKit
import Derived.OpenShut
import Derived.ShutString
import Derived.ChangeOld
import Derived.Below
import Derived.SizedLaws
import Derived.ChangeSame
import Derived.Deep.Strs
namespace Go.Vx
open Go.Proofs
set_option linter.unusedVariables false
theorem bitE_of {H : Type} {enc : TypeId × Value → H} {w : World} {base : Nat} {spare : Nat → Bool} {held : Bool} :
    ∀ n cs y, DataW.trod enc Try.prog w base spare held n 53 cs = some y → RowE bc (fun x => i64ok x.at_) cs := by
  intro n cs y h
  obtain ⟨y0, y1, m, _, hl, h0, h1⟩ := Go.ChangeShapes.trod_struct2 Try.underlying53 h
  have c53 : Try.prog.cellsOf 53 = 2 := by kernel_rfl
  have c4 : Try.prog.cellsOf 4 = 1 := by kernel_rfl
  have c3 : Try.prog.cellsOf 3 = 1 := by kernel_rfl
  rw [c53] at hl
  obtain ⟨a, b, rfl⟩ : ∃ a b, cs = [a, b] := len2 hl
  simp only [c4, c3, List.drop_zero, List.drop_succ_cons, List.take_succ_cons, List.take_zero] at h0 h1
  obtain ⟨n0, e0, _, w0⟩ := DataW.trod_int Try.underlying3 h0
  obtain ⟨n1, e1, _⟩ := DataW.trod_bool Try.underlying4 h1
  simp only [List.cons.injEq, and_true] at e0 e1
  subst e0 e1
  exact ⟨⟨n0, n1⟩, rfl, wf_i64 w0⟩

theorem probDoes_walk (W : World) (a0 : Int) (a1 : Bool) (a2 : Int) (x3 : Option Addr) (len3 cap3 : Nat) (rows3 : List (List Value)) (x4 : Option Addr) (len4 cap4 : Nat) (rows4 : List (List Value)) (a5 : Int) (w0 : (Lit.int .i64 a0).wf = true) (w2 : (Lit.int .i64 a2).wf = true) (hl3 : rows3.length = len3) (hE3 : ∀ r ∈ rows3, RowE iv i64ok r) (hin3 : InRow W 1 x3 len3 cap3 rows3.flatten) (y3 : len3 * 8 ≤ 140737488351232) (hl4 : rows4.length = len4) (hE4 : ∀ r ∈ rows4, RowE bc (fun x => i64ok x.at_) r) (hin4 : InRow W 2 x4 len4 cap4 rows4.flatten) (y4 : len4 * 16 ≤ 140737488351232) (w5 : (Lit.int .u32 a5).wf = true) :
    Calls Try.prog 7 #[.int .i64 a0, .bool a1, .int .i64 a2, .slice x3 len3 cap3, .slice x4 len4 cap4, .int .u32 a5] W fun e w' => e = .returned (.bool true) ∧ RowKit.Below W.heap.size W w' := by
  replace w0 := wf_i64 w0
  unfold i64ok at w0
  replace w2 := wf_i64 w2
  unfold i64ok at w2
  replace w5 := wf_u32 w5
  obtain ⟨l3, q3, r3, p3⟩ := rows_list hE3
  rw [r3] at hin3
  obtain ⟨β3, R3, m3, v3⟩ := hrel_pushRo (hrel_nil W) (by simp [roObj]) hin3
  obtain ⟨l4, q4, r4, p4⟩ := rows_list hE4
  rw [r4] at hin4
  obtain ⟨β4, R4, m4, v4⟩ := hrel_pushRo R3 (by simp [roObj]) hin4
  have V3 : VRel β4 (absSl x3 0 len3 cap3) (.slice x3 len3 cap3) := (m4 _ _ v3)
  have S3 : Sl0 1 iv [roObj 1 (l3.flatMap iv), roObj 2 (l4.flatMap bc)] (absSl x3 0 len3 cap3) l3 := sl_in iv_len hin3 (q3.trans hl3) rfl
  have z3 : l3.length * 8 ≤ 140737488351232 := by rw [q3, hl3]; exact y3
  have V4 : VRel β4 (absSl x4 1 len4 cap4) (.slice x4 len4 cap4) := v4
  have S4 : Sl0 2 bc [roObj 1 (l3.flatMap iv), roObj 2 (l4.flatMap bc)] (absSl x4 1 len4 cap4) l4 := sl_in bc_len hin4 (q4.trans hl4) rfl
  have z4 : l4.length * 16 ≤ 140737488351232 := by rw [q4, hl4]; exact y4
  refine law_of (γ := γ0) (h := [roObj 1 (l3.flatMap iv), roObj 2 (l4.flatMap bc)]) (does_spec S3.sl S4.sl (by omega) (by omega) a0 a2 a5 a1 w5.1 w5.2) (by simp [roObj]) R4 rfl fun i x c hx hc => ?_
  match i with
  | 0 => simp at hx hc; subst hx hc; exact .int _ _
  | 1 => simp at hx hc; subst hx hc; exact .bool _
  | 2 => simp at hx hc; subst hx hc; exact .int _ _
  | 3 => simp at hx hc; subst hx hc; exact V3
  | 4 => simp at hx hc; subst hx hc; exact V4
  | 5 => simp at hx hc; subst hx hc; exact .int _ _
  | n + 6 => simp at hx
end Go.Vx

namespace Go.Proofs.Ytefjoeonilkdfaa.probDoes
open Go.ChangeShapes Go.WideShapes Go.ChangeAt Go.RowKit
open Go.ChangeMaps (open_string shut_string)
set_option linter.unusedVariables false
theorem own : ownKnob Try.prog.godebug = none := by kernel_rfl
theorem laidOut : laidOutB Try.prog = true := by kernel_rfl
set_option maxRecDepth 100000 in
theorem lifted (os : Os) (started : os.Started) (H : Type) (enc : TypeId × Value → H) :
    ReturnsInHanded {} Try.checked os 7 .any (Rows.probDoesSpec.pre6 enc Try.prog Try.f7 Rows.probDoesRow.domain false) (Rows.probDoesSpec.post enc Try.prog Try.f7 false true false false) := by
  refine returnsInHanded_of_change_sized (C := Try.checked) own started (by kernel_rfl) Try.func7
    (ChangeSpec.witness6 (enc := enc) (C := Try.checked) false ⟨#[], #[.int .i64 0, .bool false, .int .i64 0, .slice none 0 0, .slice none 0 0, .int .u32 0], []⟩ 8 (by kernel_rfl) (by kernel_rfl) (by kernel_rfl) (by kernel_rfl)) ?_
  intro W base args ds gs before hval0 hW hcnd hsz0 _
  have hsz : (DataW.weightsEach Try.prog (Try.f7.params.toList ++ Rows.probDoesSpec.plain.varTypes Try.prog) (ds ++ gs)).all (· ≤ reachBytes) = true := hsz0
  have hval : ∀ (j : Nat) t v, Try.f7.params[j]? = some t → args[j]? = some v → Value.okWide Try.prog W .any base t v := hval0
  have hW' := hW
  obtain ⟨p, q, hA0, hV, rfl, hfz, hnd⟩ := hW
  have hA : DataW.TrodAll enc Try.prog W 0 (fun _ => true) true Try.f7.params.toList args.toList ds p := hA0
  rw [Try.params7] at hA hval hsz
  obtain ⟨v0, vs0, d0, ds0, p0, q0, hargs, rfl, rfl, h0, r0⟩ := trodAll_cons hA
  obtain ⟨v1, vs1, d1, ds1, p1, q1, rfl, rfl, rfl, h1, r1⟩ := trodAll_cons r0
  obtain ⟨v2, vs2, d2, ds2, p2, q2, rfl, rfl, rfl, h2, r2⟩ := trodAll_cons r1
  obtain ⟨v3, vs3, d3, ds3, p3, q3, rfl, rfl, rfl, h3, r3⟩ := trodAll_cons r2
  obtain ⟨v4, vs4, d4, ds4, p4, q4, rfl, rfl, rfl, h4, r4⟩ := trodAll_cons r3
  obtain ⟨v5, vs5, d5, ds5, p5, q5, rfl, rfl, rfl, h5, r5⟩ := trodAll_cons r4
  obtain ⟨rfl, rfl, rfl⟩ := trodAll_nil r5
  obtain rfl : args = #[v0, v1, v2, v3, v4, v5] := by cases args; simp_all
  obtain ⟨rfl, rfl⟩ := trodVars_none hV
  obtain ⟨a0, rfl, rfl, rfl, w0⟩ := open_int Try.underlying3 (hval 0 3 v0 rfl rfl) h0
  obtain ⟨a1, rfl, rfl, rfl⟩ := open_bool Try.underlying4 (hval 1 4 v1 rfl rfl) h1
  obtain ⟨a2, rfl, rfl, rfl, w2⟩ := open_int Try.underlying3 (hval 2 3 v2 rfl rfl) h2
  obtain ⟨a3, len3, cap3, rfl⟩ := okWide_slice Try.underlying40 (hval 3 40 v3 rfl rfl)
  have k3 := h3
  have lt3 : ∀ x ∈ p3, x.block < W.heap.size := by obtain ⟨m, hm⟩ := k3; exact DataW.trod_lt m _ _ _ hm
  obtain ⟨rows3, y1_3, y2_3, y3_3, y4_3⟩ := Go.Vx.open_slice (B := 8) Try.underlying40 (Go.Vx.iv_of Try.underlying3) (Go.Vx.rowE_scal Go.Vx.iv_scal) (hval 3 40 _ rfl rfl) h3 hsz (j := 3) rfl rfl (by kernel_rfl)
  have cw3 : Try.prog.cellsOf 3 = 1 := by kernel_rfl
  rw [cw3] at y3_3
  obtain ⟨a4, len4, cap4, rfl⟩ := okWide_slice Try.underlying41 (hval 4 41 v4 rfl rfl)
  have k4 := h4
  have lt4 : ∀ x ∈ p4, x.block < W.heap.size := by obtain ⟨m, hm⟩ := k4; exact DataW.trod_lt m _ _ _ hm
  obtain ⟨rows4, y1_4, y2_4, y3_4, y4_4⟩ := Go.Vx.open_slice (B := 16) Try.underlying41 (Go.Vx.bitE_of) (Go.Vx.rowE_scal Go.Vx.bc_scal) (hval 4 41 _ rfl rfl) h4 hsz (j := 4) rfl rfl (by kernel_rfl)
  have cw4 : Try.prog.cellsOf 53 = 2 := by kernel_rfl
  rw [cw4] at y3_4
  obtain ⟨a5, rfl, rfl, rfl, w5⟩ := open_int Try.underlying42 (hval 5 42 v5 rfl rfl) h5
  clear hA0 hval0 hsz0 hsz
  refine (Go.Vx.probDoes_walk W a0 a1 a2 a3 len3 cap3 rows3 a4 len4 cap4 rows4 a5 w0 w2 y1_3 y2_3 y3_3 y4_3 y1_4 y2_4 y3_4 y4_4 w5).mono fun e W' ⟨he, bel⟩ => ?_
  subst he
  exact ⟨_, rfl, _, _, _, [], _, [], hW', trodAll_mk1 (shut_bool Try.underlying4 _), (trodAll_cons_mk (shut_int Try.underlying3 w0) (trodAll_cons_mk (shut_bool Try.underlying4 _) (trodAll_cons_mk (shut_int Try.underlying3 w2) (trodAll_cons_mk (Below.trod laidOut (by kernel_rfl) (of_decide_eq_true (by kernel_rfl)) k3 bel lt3) (trodAll_cons_mk (Below.trod laidOut (by kernel_rfl) (of_decide_eq_true (by kernel_rfl)) k4 bel lt4) (trodAll_cons_mk (shut_int Try.underlying42 w5) trodAll_mk0)))))), rfl, bel.frame _, fun h => by cases h⟩
theorem over : Rows.probDoesRow.holds Try.pinned (OpenSpec.ofChange Rows.probDoesSpec) :=
  OpenClaim.holds_of_wide 7 Try.f7 rfl rfl rfl rfl rfl rfl rfl ⟨rfl, rfl, rfl, rfl, rfl⟩ rfl rfl rfl rfl rfl (by kernel_rfl) Try.func7 (by kernel_rfl)
    (of_decide_eq_true (by kernel_rfl)) (by unfold Func.isWrapper; first | (rw [if_pos (by decide +kernel)]; kernel_rfl) | (rw [if_neg (by decide +kernel)]; exact ⟨rfl, rfl⟩))
    (fun os started H enc _ => lifted os started H enc)
theorem proved : Rows.ProbDoesSaid := over
end Go.Proofs.Ytefjoeonilkdfaa.probDoes
namespace Go.Proofs.Ytefjoeonilkdfaa
/-- The row, under a short name, for the claim. -/
theorem probDoes_holds : Rows.ProbDoesSaid := probDoes.proved
end Go.Proofs.Ytefjoeonilkdfaa
