/- A part of the proof: what it shows stands in its theorems. No condition beyond those that they name. -/
import Derived.Test.YtefjoeonilkdfaaVxV
namespace Go.Vx
set_option linter.unusedVariables false
set_option linter.unusedSimpArgs false

/-! Bits. -/
theorem ofInt_nat (w n : Nat) : (BitVec.ofInt w (n : Int)) = BitVec.ofNat w n := by
  apply BitVec.eq_of_toNat_eq; simp

theorem and_mask {w n m : Nat} {a : Int} (hw : n ≤ w) (h0 : 0 ≤ a) (h1 : a < 2 ^ w) (hm : m = 2 ^ n - 1) : ((BitVec.ofInt w a &&& BitVec.ofInt w (m : Int)).toNat : Int) = a % 2 ^ n := by
  obtain ⟨b, rfl⟩ : ∃ b : Nat, a = b := ⟨a.toNat, by omega⟩
  have hb : b < 2 ^ w := by
    have h2 : ((2 : Int) ^ w) = ((2 ^ w : Nat) : Int) := by simp
    rw [h2] at h1; omega
  have hlt : m < 2 ^ w := by
    have := Nat.pow_le_pow_right (n := 2) (by omega) hw
    have : 0 < 2 ^ n := Nat.two_pow_pos n
    omega
  rw [ofInt_nat, ofInt_nat, BitVec.toNat_and, BitVec.toNat_ofNat, BitVec.toNat_ofNat, Nat.mod_eq_of_lt hb, Nat.mod_eq_of_lt hlt, hm, Nat.and_two_pow_sub_one_eq_mod]
  simp

theorem and32_64 {a : Int} (h0 : 0 ≤ a) (h1 : a ≤ 18446744073709551615) : ((BitVec.ofInt IntKind.u64.bits a &&& BitVec.ofInt IntKind.u64.bits 4294967295).toNat : Int) = a % 4294967296 := by
  have := and_mask (w := 64) (n := 32) (m := 4294967295) (by omega) h0 (by omega) rfl
  have h2 : ((4294967295 : Nat) : Int) = 4294967295 := rfl
  rw [h2] at this
  exact this
theorem and24_64 {a : Int} (h0 : 0 ≤ a) (h1 : a ≤ 18446744073709551615) : ((BitVec.ofInt IntKind.u64.bits a &&& BitVec.ofInt IntKind.u64.bits 16777215).toNat : Int) = a % 16777216 := by
  have := and_mask (w := 64) (n := 24) (m := 16777215) (by omega) h0 (by omega) rfl
  have h2 : ((16777215 : Nat) : Int) = 16777215 := rfl
  rw [h2] at this
  exact this
theorem and1_64 {a : Int} (h0 : 0 ≤ a) (h1 : a ≤ 9223372036854775807) : ((BitVec.ofInt IntKind.i64.bits a &&& BitVec.ofInt IntKind.i64.bits 1).toNat : Int) = a % 2 := by
  have := and_mask (w := 64) (n := 1) (m := 1) (by omega) h0 (by omega) rfl
  have h2 : ((1 : Nat) : Int) = 1 := rfl
  rw [h2] at this
  exact this
theorem and1_32 {a : Int} (h0 : 0 ≤ a) (h1 : a ≤ 4294967295) : ((BitVec.ofInt IntKind.u32.bits a &&& BitVec.ofInt IntKind.u32.bits 1).toNat : Int) = a % 2 := by
  have := and_mask (w := 32) (n := 1) (m := 1) (by omega) h0 (by omega) rfl
  have h2 : ((1 : Nat) : Int) = 1 := rfl
  rw [h2] at this
  exact this
end Go.Vx
