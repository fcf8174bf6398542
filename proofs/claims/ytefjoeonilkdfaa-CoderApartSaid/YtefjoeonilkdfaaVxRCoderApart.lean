/- Proved here: the law CoderApart answers true whatever comes in, and leaves it as it was: the given statement, without any further condition. -/
import Derived.Test.YtefjoeonilkdfaaVxCG
import Derived.Test.YtefjoeonilkdfaaRows
import Derived.Test.YtefjoeonilkdfaaChecked
import Derived.WalkKit
import Derived.ProofKit
import Derived.OpenShut
import Derived.ShutString
import Derived.ChangeOld
import Derived.Below
import Derived.SizedLaws
import Derived.ChangeSame
import Derived.Deep.Strs
namespace Go.Vx
open Go.Proofs
set_option linter.unusedVariables false
theorem bitE_of {H : Type} {enc : TypeId × Value → H} {w : World} {base : Nat} {spare : Nat → Bool} {held : Bool} :
    ∀ n cs y, DataW.trod enc Try.prog w base spare held n 53 cs = some y → RowE bc (fun x => i64ok x.at_) cs := by
  intro n cs y h
  obtain ⟨y0, y1, m, _, hl, h0, h1⟩ := Go.ChangeShapes.trod_struct2 Try.underlying53 h
  have c53 : Try.prog.cellsOf 53 = 2 := by kernel_rfl
  have c4 : Try.prog.cellsOf 4 = 1 := by kernel_rfl
  have c3 : Try.prog.cellsOf 3 = 1 := by kernel_rfl
  rw [c53] at hl
  obtain ⟨a, b, rfl⟩ : ∃ a b, cs = [a, b] := len2 hl
  simp only [c4, c3, List.drop_zero, List.drop_succ_cons, List.take_succ_cons, List.take_zero] at h0 h1
  obtain ⟨n0, e0, _, w0⟩ := DataW.trod_int Try.underlying3 h0
  obtain ⟨n1, e1, _⟩ := DataW.trod_bool Try.underlying4 h1
  simp only [List.cons.injEq, and_true] at e0 e1
  subst e0 e1
  exact ⟨⟨n0, n1⟩, rfl, wf_i64 w0⟩

theorem coderApart_walk (W : World) (a0 : Int) (x1 : Option Addr) (len1 cap1 : Nat) (rows1 : List (List Value)) (x2 : Option Addr) (len2 cap2 : Nat) (rows2 : List (List Value)) (w0 : (Lit.int .i64 a0).wf = true) (hl1 : rows1.length = len1) (hE1 : ∀ r ∈ rows1, RowE bc (fun x => i64ok x.at_) r) (hin1 : InRow W 2 x1 len1 cap1 rows1.flatten) (y1 : len1 * 16 ≤ 140737488351232) (hl2 : rows2.length = len2) (hE2 : ∀ r ∈ rows2, RowE bc (fun x => i64ok x.at_) r) (hin2 : InRow W 2 x2 len2 cap2 rows2.flatten) (y2 : len2 * 16 ≤ 140737488351232) :
    Calls Try.prog 8 #[.int .i64 a0, .slice x1 len1 cap1, .slice x2 len2 cap2] W fun e w' => e = .returned (.bool true) ∧ RowKit.Below W.heap.size W w' := by
  replace w0 := wf_i64 w0
  unfold i64ok at w0
  obtain ⟨l1, q1, r1, p1⟩ := rows_list hE1
  rw [r1] at hin1
  obtain ⟨β1, R1, m1, v1⟩ := hrel_pushRo (hrel_nil W) (by simp [roObj]) hin1
  obtain ⟨l2, q2, r2, p2⟩ := rows_list hE2
  rw [r2] at hin2
  obtain ⟨β2, R2, m2, v2⟩ := hrel_pushRo R1 (by simp [roObj]) hin2
  have V1 : VRel β2 (absSl x1 0 len1 cap1) (.slice x1 len1 cap1) := (m2 _ _ v1)
  have S1 : Sl0 2 bc [roObj 2 (l1.flatMap bc), roObj 2 (l2.flatMap bc)] (absSl x1 0 len1 cap1) l1 := sl_in bc_len hin1 (q1.trans hl1) rfl
  have z1 : l1.length * 16 ≤ 140737488351232 := by rw [q1, hl1]; exact y1
  have V2 : VRel β2 (absSl x2 1 len2 cap2) (.slice x2 len2 cap2) := v2
  have S2 : Sl0 2 bc [roObj 2 (l1.flatMap bc), roObj 2 (l2.flatMap bc)] (absSl x2 1 len2 cap2) l2 := sl_in bc_len hin2 (q2.trans hl2) rfl
  have z2 : l2.length * 16 ≤ 140737488351232 := by rw [q2, hl2]; exact y2
  refine law_of (γ := γ0) (h := [roObj 2 (l1.flatMap bc), roObj 2 (l2.flatMap bc)]) (apart_spec S1.sl S2.sl (by omega) (by omega) a0) (by simp [roObj]) R2 rfl fun i x c hx hc => ?_
  match i with
  | 0 => simp at hx hc; subst hx hc; exact .int _ _
  | 1 => simp at hx hc; subst hx hc; exact V1
  | 2 => simp at hx hc; subst hx hc; exact V2
  | n + 3 => simp at hx
end Go.Vx

namespace Go.Proofs.Ytefjoeonilkdfaa.coderApart
open Go.ChangeShapes Go.WideShapes Go.ChangeAt Go.RowKit
open Go.ChangeMaps (open_string shut_string)
set_option linter.unusedVariables false
theorem own : ownKnob Try.prog.godebug = none := by kernel_rfl
theorem laidOut : laidOutB Try.prog = true := by kernel_rfl
set_option maxRecDepth 100000 in
theorem lifted (os : Os) (started : os.Started) (H : Type) (enc : TypeId × Value → H) :
    ReturnsInHanded {} Try.checked os 8 .any (Rows.coderApartSpec.pre6 enc Try.prog Try.f8 Rows.coderApartRow.domain false) (Rows.coderApartSpec.post enc Try.prog Try.f8 false true false false) := by
  refine returnsInHanded_of_change_sized (C := Try.checked) own started (by kernel_rfl) Try.func8
    (ChangeSpec.witness6 (enc := enc) (C := Try.checked) false ⟨#[], #[.int .i64 0, .slice none 0 0, .slice none 0 0], []⟩ 8 (by kernel_rfl) (by kernel_rfl) (by kernel_rfl) (by kernel_rfl)) ?_
  intro W base args ds gs before hval0 hW hcnd hsz0 _
  have hsz : (DataW.weightsEach Try.prog (Try.f8.params.toList ++ Rows.coderApartSpec.plain.varTypes Try.prog) (ds ++ gs)).all (· ≤ reachBytes) = true := hsz0
  have hval : ∀ (j : Nat) t v, Try.f8.params[j]? = some t → args[j]? = some v → Value.okWide Try.prog W .any base t v := hval0
  have hW' := hW
  obtain ⟨p, q, hA0, hV, rfl, hfz, hnd⟩ := hW
  have hA : DataW.TrodAll enc Try.prog W 0 (fun _ => true) true Try.f8.params.toList args.toList ds p := hA0
  rw [Try.params8] at hA hval hsz
  obtain ⟨v0, vs0, d0, ds0, p0, q0, hargs, rfl, rfl, h0, r0⟩ := trodAll_cons hA
  obtain ⟨v1, vs1, d1, ds1, p1, q1, rfl, rfl, rfl, h1, r1⟩ := trodAll_cons r0
  obtain ⟨v2, vs2, d2, ds2, p2, q2, rfl, rfl, rfl, h2, r2⟩ := trodAll_cons r1
  obtain ⟨rfl, rfl, rfl⟩ := trodAll_nil r2
  obtain rfl : args = #[v0, v1, v2] := by cases args; simp_all
  obtain ⟨rfl, rfl⟩ := trodVars_none hV
  obtain ⟨a0, rfl, rfl, rfl, w0⟩ := open_int Try.underlying3 (hval 0 3 v0 rfl rfl) h0
  obtain ⟨a1, len1, cap1, rfl⟩ := okWide_slice Try.underlying41 (hval 1 41 v1 rfl rfl)
  have k1 := h1
  have lt1 : ∀ x ∈ p1, x.block < W.heap.size := by obtain ⟨m, hm⟩ := k1; exact DataW.trod_lt m _ _ _ hm
  obtain ⟨rows1, y1_1, y2_1, y3_1, y4_1⟩ := Go.Vx.open_slice (B := 16) Try.underlying41 (Go.Vx.bitE_of) (Go.Vx.rowE_scal Go.Vx.bc_scal) (hval 1 41 _ rfl rfl) h1 hsz (j := 1) rfl rfl (by kernel_rfl)
  have cw1 : Try.prog.cellsOf 53 = 2 := by kernel_rfl
  rw [cw1] at y3_1
  obtain ⟨a2, len2, cap2, rfl⟩ := okWide_slice Try.underlying41 (hval 2 41 v2 rfl rfl)
  have k2 := h2
  have lt2 : ∀ x ∈ p2, x.block < W.heap.size := by obtain ⟨m, hm⟩ := k2; exact DataW.trod_lt m _ _ _ hm
  obtain ⟨rows2, y1_2, y2_2, y3_2, y4_2⟩ := Go.Vx.open_slice (B := 16) Try.underlying41 (Go.Vx.bitE_of) (Go.Vx.rowE_scal Go.Vx.bc_scal) (hval 2 41 _ rfl rfl) h2 hsz (j := 2) rfl rfl (by kernel_rfl)
  have cw2 : Try.prog.cellsOf 53 = 2 := by kernel_rfl
  rw [cw2] at y3_2
  clear hA0 hval0 hsz0 hsz
  refine (Go.Vx.coderApart_walk W a0 a1 len1 cap1 rows1 a2 len2 cap2 rows2 w0 y1_1 y2_1 y3_1 y4_1 y1_2 y2_2 y3_2 y4_2).mono fun e W' ⟨he, bel⟩ => ?_
  subst he
  exact ⟨_, rfl, _, _, _, [], _, [], hW', trodAll_mk1 (shut_bool Try.underlying4 _), (trodAll_cons_mk (shut_int Try.underlying3 w0) (trodAll_cons_mk (Below.trod laidOut (by kernel_rfl) (of_decide_eq_true (by kernel_rfl)) k1 bel lt1) (trodAll_cons_mk (Below.trod laidOut (by kernel_rfl) (of_decide_eq_true (by kernel_rfl)) k2 bel lt2) trodAll_mk0))), rfl, bel.frame _, fun h => by cases h⟩
theorem over : Rows.coderApartRow.holds Try.pinned (OpenSpec.ofChange Rows.coderApartSpec) :=
  OpenClaim.holds_of_wide 8 Try.f8 rfl rfl rfl rfl rfl rfl rfl ⟨rfl, rfl, rfl, rfl, rfl⟩ rfl rfl rfl rfl rfl (by kernel_rfl) Try.func8 (by kernel_rfl)
    (of_decide_eq_true (by kernel_rfl)) (by unfold Func.isWrapper; first | (rw [if_pos (by decide +kernel)]; kernel_rfl) | (rw [if_neg (by decide +kernel)]; exact ⟨rfl, rfl⟩))
    (fun os started H enc _ => lifted os started H enc)
theorem proved : Rows.CoderApartSaid := over
end Go.Proofs.Ytefjoeonilkdfaa.coderApart
namespace Go.Proofs.Ytefjoeonilkdfaa
/-- The row, under a short name, for the claim. -/
theorem coderApart_holds : Rows.CoderApartSaid := coderApart.proved
end Go.Proofs.Ytefjoeonilkdfaa
