/- A part of the proof: what it shows stands in its theorems. No condition beyond those that they name. -/
import Derived.Test.YtefjoeonilkdfaaVxT0
namespace Go.Vx
set_option linter.unusedVariables false
set_option linter.unusedSimpArgs false

/-! The coder, in numbers. -/

theorem snoc_ind {α : Type} {P : List α → Prop} (h0 : P []) (h1 : ∀ l b, P l → P (l ++ [b])) : ∀ l, P l := by
  have h : ∀ l : List α, P l.reverse := by
    intro l
    induction l with
    | nil => exact h0
    | cons a r ih => rw [List.reverse_cons]; exact h1 _ _ ih
  intro l
  have := h l.reverse
  rwa [List.reverse_reverse] at this

/-- A number's k octets, the highest one first. -/
def be : Nat → Nat → List UInt8
  | 0, _ => []
  | k + 1, n => be k (n / 256) ++ [UInt8.ofNat (n % 256)]
theorem be_len : ∀ (k n : Nat), (be k n).length = k
  | 0, _ => rfl
  | k + 1, n => by simp [be, be_len k]
/-- What octets tell. -/
def val (l : List UInt8) : Nat := l.foldl (fun n b => n * 256 + b.toNat) 0
theorem val_app (l : List UInt8) (b : UInt8) : val (l ++ [b]) = val l * 256 + b.toNat := by simp [val, List.foldl_append]
theorem val_be : ∀ (k n : Nat), n < 256 ^ k → val (be k n) = n
  | 0, n, h => by simp at h; subst h; rfl
  | k + 1, n, h => by
    have h1 : n / 256 < 256 ^ k := by
      rw [Nat.div_lt_iff_lt_mul (by omega)]; rw [Nat.pow_succ] at h; exact h
    rw [be, val_app, val_be k _ h1, UInt8.toNat_ofNat']
    omega
theorem val_lt (l : List UInt8) : val l < 256 ^ l.length := by
  induction l using snoc_ind with
  | h0 => simp [val]
  | h1 l b ih =>
    rw [val_app, List.length_append, List.length_singleton, Nat.pow_succ]
    have := b.toNat_lt
    omega
theorem be_val (l : List UInt8) : be l.length (val l) = l := by
  induction l using snoc_ind with
  | h0 => rfl
  | h1 l b ih =>
    have hb := b.toNat_lt
    rw [List.length_append, List.length_singleton, be, val_app, show (val l * 256 + b.toNat) / 256 = val l by omega, show (val l * 256 + b.toNat) % 256 = b.toNat by omega, ih]
    simp
theorem be_mod (k n : Nat) : be k (n % 256 ^ k) = be k n := by
  induction k generalizing n with
  | zero => rfl
  | succ k ih =>
    simp only [be]
    have h1 : n % 256 ^ (k + 1) / 256 = (n / 256) % 256 ^ k := by
      rw [Nat.pow_succ, Nat.mul_comm, Nat.mod_mul_right_div_self]
    have h2 : n % 256 ^ (k + 1) % 256 = n % 256 := by
      rw [Nat.pow_succ]; exact Nat.mod_mul_left_mod _ _ _
    rw [h1, h2, ih]

/-- The span's part of a bit that is not set. -/
def part (r p : Nat) : Nat := r / 2048 * p

/-- Where the coder is: the number, its octets (but four), the span, and the chances. -/
structure Enc where
  n : Nat
  d : Nat
  r : Nat
  p : List Int

def Enc.bit (s : Enc) (x : BitT) : Enc :=
  let q := (s.p.getD x.at_.toNat 0).toNat
  let n := if x.b = true then s.n + part s.r q else s.n
  let r := if x.b = true then s.r - part s.r q else part s.r q
  let p := s.p.set x.at_.toNat (learn (s.p.getD x.at_.toNat 0) x.b)
  if r < 16777216 then ⟨n * 256, s.d + 1, r * 256, p⟩ else ⟨n, s.d, r, p⟩
def Enc.run (s : Enc) (l : List BitT) : Enc := l.foldl Enc.bit s
def enc0 (p : List Int) : Enc := ⟨0, 1, 4294967295, p⟩
/-- The text of bits. -/
def Enc.text (s : Enc) : List UInt8 := be (s.d + 4) s.n

theorem val_app2 (a : List UInt8) : ∀ b : List UInt8, val (a ++ b) = val a * 256 ^ b.length + val b := by
  intro b
  induction b using snoc_ind with
  | h0 => simp [val]
  | h1 b x ih =>
    rw [← List.append_assoc, val_app, ih, val_app, List.length_append, List.length_singleton, Nat.pow_succ, Nat.add_mul, Nat.mul_assoc, Nat.add_assoc]
theorem val_rep (m : Nat) : val (List.replicate m (255 : UInt8)) + 1 = 256 ^ m ∧ val (List.replicate m (0 : UInt8)) = 0 := by
  induction m with
  | zero => exact ⟨rfl, rfl⟩
  | succ m ih =>
    rw [List.replicate_succ', List.replicate_succ', val_app, val_app, Nat.pow_succ]
    have h1 : (255 : UInt8).toNat = 255 := rfl
    have h2 : (0 : UInt8).toNat = 0 := rfl
    rw [h1, h2]; omega

/-- The writer: what is kept, and all of the greatest octets behind it. -/
structure Wr where
  low : Nat
  kept : UInt8
  many : Nat
  out : List UInt8

/-- What is put behind. -/
def flush (c kept : UInt8) : Nat → List UInt8
  | 0 => []
  | m + 1 => (kept + c) :: List.replicate m (255 + c)
def Wr.move (w : Wr) : Wr :=
  if w.low < 4278190080 ∨ 4294967296 ≤ w.low then ⟨w.low % 16777216 * 256, UInt8.ofNat (w.low / 16777216 % 256), 1, w.out ++ flush (UInt8.ofNat (w.low / 4294967296)) w.kept w.many⟩
  else ⟨w.low % 16777216 * 256, w.kept, w.many + 1, w.out⟩
def Wr.dig (w : Wr) : List UInt8 := w.out ++ flush 0 w.kept w.many

structure WI (w : Wr) (n d r : Nat) : Prop where
  many : 1 ≤ w.many
  n : n = val w.dig * 4294967296 + w.low
  d : d = w.out.length + w.many
  low : w.low + r ≤ 8589934335
  kept : w.kept = 255 → w.low + r ≤ 4294967296
  r : 1 ≤ r

theorem flush_len (c kept : UInt8) : ∀ m, (flush c kept m).length = m
  | 0 => rfl
  | m + 1 => by simp [flush]
theorem dig_len (w : Wr) : w.dig.length = w.out.length + w.many := by simp [Wr.dig, flush_len]
theorem val_flush0 (out : List UInt8) (kept : UInt8) (m : Nat) : val (out ++ flush 0 kept (m + 1)) + 1 = (val out * 256 + kept.toNat + 1) * 256 ^ m := by
  have h := (val_rep m).1
  have e : (255 : UInt8) + 0 = 255 := rfl
  have e2 : kept + 0 = kept := by simp
  rw [flush, e, e2, show out ++ kept :: List.replicate m 255 = (out ++ [kept]) ++ List.replicate m 255 by simp, val_app2, List.length_replicate, val_app, Nat.add_assoc, h, Nat.add_mul (val out * 256 + kept.toNat) 1, Nat.one_mul]
theorem val_flush1 (out : List UInt8) (kept : UInt8) (m : Nat) (hk : kept ≠ 255) : val (out ++ flush 1 kept (m + 1)) = (val out * 256 + kept.toNat + 1) * 256 ^ m := by
  have h := (val_rep m).2
  have e : (255 : UInt8) + 1 = 0 := rfl
  have hlt : kept.toNat < 255 := by
    have h1 := kept.toNat_lt
    rcases Nat.lt_or_ge kept.toNat 255 with h2 | h2
    · exact h2
    · exact absurd (UInt8.toNat_inj.1 (show kept.toNat = (255 : UInt8).toNat by show _ = 255; omega)) hk
  have e2 : (kept + 1).toNat = kept.toNat + 1 := by
    rw [UInt8.toNat_add]; show (kept.toNat + 1) % 256 = _; omega
  rw [flush, e, show out ++ (kept + 1) :: List.replicate m 0 = (out ++ [kept + 1]) ++ List.replicate m 0 by simp, val_app2, List.length_replicate, val_app, h, e2, Nat.add_zero, Nat.add_assoc]

theorem WI.move {w : Wr} {n d r r' : Nat} (H : WI w n d r) (h1 : 1 ≤ r') (h2 : r' ≤ 256 * r) (h3 : r' ≤ 4294967295) : WI w.move (n * 256) (d + 1) r' := by
  obtain ⟨hm, hn, hd, hlow, hkept, hr⟩ := H
  obtain ⟨m, hmm⟩ : ∃ m, w.many = m + 1 := ⟨w.many - 1, by omega⟩
  have hV : w.dig = w.out ++ flush 0 w.kept (m + 1) := by unfold Wr.dig; rw [hmm]
  by_cases hc : w.low < 4278190080 ∨ 4294967296 ≤ w.low
  · have hmv : w.move = ⟨w.low % 16777216 * 256, UInt8.ofNat (w.low / 16777216 % 256), 1, w.out ++ flush (UInt8.ofNat (w.low / 4294967296)) w.kept w.many⟩ := by unfold Wr.move; rw [if_pos hc]
    rw [hmv]
    obtain ⟨k, hk⟩ : ∃ k : UInt8, k = UInt8.ofNat (w.low / 16777216 % 256) := ⟨_, rfl⟩
    have hkn : k.toNat = w.low / 16777216 % 256 := by rw [hk, UInt8.toNat_ofNat']; omega
    have hdig : ∀ o : List UInt8, (Wr.mk (w.low % 16777216 * 256) k 1 o).dig = o ++ [k] := by intro o; simp [Wr.dig, flush]
    rw [← hk]
    rcases hc with hc | hc
    · have hz : w.low / 4294967296 = 0 := by omega
      rw [hz]
      have e0 : UInt8.ofNat 0 = 0 := rfl
      rw [e0, hmm, ← hV]
      refine ⟨Nat.le_refl _, ?_, ?_, by simp only; omega, fun hk255 => ?_, h1⟩
      · rw [hdig, val_app, hn, hkn]; simp only; omega
      · rw [hV]; simp [flush_len]; omega
      · simp only at hk255 ⊢
        rw [hk255] at hkn
        have : (255 : UInt8).toNat = 255 := rfl
        omega
    · have hz : w.low / 4294967296 = 1 := by omega
      rw [hz]
      have e0 : UInt8.ofNat 1 = 1 := rfl
      rw [e0, hmm]
      have hk255 : w.kept ≠ 255 := fun h => by have := hkept h; omega
      have hv1 := val_flush1 w.out w.kept m hk255
      have hv0 := val_flush0 w.out w.kept m
      rw [← hV] at hv0
      refine ⟨Nat.le_refl _, ?_, ?_, by simp only; omega, fun hk255 => ?_, h1⟩
      · rw [hdig, val_app, hn, hkn, hv1, ← hv0]; simp only; omega
      · simp [flush_len]; omega
      · simp only at hk255 ⊢
        rw [hk255] at hkn
        have : (255 : UInt8).toNat = 255 := rfl
        omega
  · have hmv : w.move = ⟨w.low % 16777216 * 256, w.kept, w.many + 1, w.out⟩ := by unfold Wr.move; rw [if_neg hc]
    rw [hmv]
    have hv0 := val_flush0 w.out w.kept m
    have hv1 := val_flush0 w.out w.kept (m + 1)
    rw [← hV] at hv0
    refine ⟨by simp only; omega, ?_, by simp only; omega, by simp only; omega, fun hk => ?_, h1⟩
    · simp only [Wr.dig, hmm]
      rw [Nat.pow_succ, ← Nat.mul_assoc, ← hv0] at hv1
      rw [hn]; omega
    · have := hkept hk
      simp only; omega

theorem WI.plus {w : Wr} {n d r r' : Nat} (H : WI w n d r) (x : Nat) (h1 : 1 ≤ r') (h2 : x + r' ≤ r) : WI { w with low := w.low + x } (n + x) d r' :=
  ⟨H.many, by have := H.n; simp only [Wr.dig] at this ⊢; omega, H.d, by have := H.low; simp only; omega, fun h => by have := H.kept h; simp only; omega, h1⟩

/-- All of it is put behind. -/
theorem WI.fin {w : Wr} {n d r : Nat} (H : WI w n d r) : w.move.move.move.move.move.out = be (d + 4) n := by
  have a1 := H.move (r' := 1) (Nat.le_refl _) (by have := H.r; omega) (by omega)
  have a2 := a1.move (r' := 1) (Nat.le_refl _) (by omega) (by omega)
  have a3 := a2.move (r' := 1) (Nat.le_refl _) (by omega) (by omega)
  have a4 := a3.move (r' := 1) (Nat.le_refl _) (by omega) (by omega)
  have lowm : ∀ w : Wr, w.move.low = w.low % 16777216 * 256 := by intro w; unfold Wr.move; split <;> rfl
  have l1 := lowm w
  have l2 := lowm w.move
  have l3 := lowm w.move.move
  have l4 := lowm w.move.move.move
  have l0 : w.move.move.move.move.low = 0 := by omega
  obtain ⟨v, hv⟩ : ∃ v, v = w.move.move.move.move := ⟨_, rfl⟩
  rw [← hv] at a4 l0 ⊢
  have hout : v.move.out = v.dig := by
    unfold Wr.move; rw [if_pos (.inl (by omega)), l0]; rfl
  have h1 := a4.n
  have h2 := a4.d
  rw [l0] at h1
  have h3 : val v.dig = n := by omega
  rw [hout, ← be_val v.dig, h3, dig_len, ← h2]
end Go.Vx
