/-
  Numbers.
-/
import Derived.Test.YtmaheecbohbilaaSlJ
namespace Go.Proofs.Ytmaheecbohbilaa.Sl
open Go Go.RowKit Go.Proofs
theorem ofInt64 (x : Int) : ((BitVec.ofInt 64 x).toNat : Int) = x % 18446744073709551616 := by
  rw [BitVec.toNat_ofInt]; omega
theorem and_mask (x : Int) (k : Nat) (m : Int) (hm : m = 2 ^ k - 1) (hk : k ≤ 63) : ((BitVec.ofInt 64 x &&& BitVec.ofInt 64 m).toNat : Int) = x % 2 ^ k := by
  have hp : (2 : Nat) ^ k ≤ 2 ^ 63 := Nat.pow_le_pow_right (by omega) hk
  have hpos : 0 < (2 : Nat) ^ k := Nat.two_pow_pos k
  have e1 : (BitVec.ofInt 64 m).toNat = 2 ^ k - 1 := by
    rw [BitVec.toNat_ofInt, hm]
    have : ((2 : Int) ^ k - 1) = ((2 ^ k - 1 : Nat) : Int) := by push_cast [Nat.one_le_two_pow]; omega
    rw [this]; omega
  rw [BitVec.toNat_and, e1, Nat.and_two_pow_sub_one_eq_mod]
  have e2 := ofInt64 x
  push_cast
  rw [e2]
  exact Int.emod_emod_of_dvd x (by
    have : (18446744073709551616 : Int) = 2 ^ k * 2 ^ (64 - k) := by rw [← Int.pow_add]; rw [show k + (64 - k) = 64 from by omega]; rfl
    exact ⟨_, this⟩)
theorem nat_and_two (n : Nat) : n &&& 2 = 2 * (n / 2 % 2) := by
  have h : n = 4 * (n / 4) + n % 4 := by omega
  have h2 : n % 4 < 4 := by omega
  apply Nat.eq_of_testBit_eq
  intro i
  have e : 2 * (n / 2 % 2) = (n / 2 % 2) <<< 1 := by rw [Nat.shiftLeft_eq]; omega
  rw [e, Nat.testBit_and, Nat.testBit_shiftLeft]
  have e2 : (2 : Nat) = 2 ^ 1 := rfl
  rw [show Nat.testBit 2 i = decide (1 = i) from by rw [e2, Nat.testBit_two_pow]]
  by_cases h1 : 1 = i
  · subst h1
    simp [Nat.testBit_eq_decide_div_mod_eq]
  · simp only [h1, decide_false, Bool.and_false]
    rcases Nat.lt_or_ge i 1 with hi | hi
    · simp; omega
    · have : n / 2 % 2 < 2 ^ (i - 1) := by
        have : 2 ^ 1 ≤ 2 ^ (i - 1) := Nat.pow_le_pow_right (by omega) (by omega)
        omega
      rw [Nat.testBit_lt_two_pow this]; simp
theorem and_two (x : Int) : ((BitVec.ofInt 64 x &&& BitVec.ofInt 64 2).toNat : Int) = 2 * (x / 2 % 2) := by
  have e1 : (BitVec.ofInt 64 2).toNat = 2 := by decide
  rw [BitVec.toNat_and, e1, nat_and_two]
  have e2 := ofInt64 x
  omega
theorem wrap_u64 (n : Int) : IntKind.u64.wrap n = n % 18446744073709551616 := by
  simp [IntKind.wrap, IntKind.bits, IntKind.signed]
theorem wrap_u32 (n : Int) : IntKind.u32.wrap n = n % 4294967296 := by
  simp [IntKind.wrap, IntKind.bits, IntKind.signed]
theorem wrap_i64 (n : Int) : IntKind.i64.wrap n = if 9223372036854775808 ≤ n % 18446744073709551616 then n % 18446744073709551616 - 18446744073709551616 else n % 18446744073709551616 := by
  simp [IntKind.wrap, IntKind.bits, IntKind.signed]
theorem wrap_i32 (n : Int) : IntKind.i32.wrap n = if 2147483648 ≤ n % 4294967296 then n % 4294967296 - 4294967296 else n % 4294967296 := by
  simp [IntKind.wrap, IntKind.bits, IntKind.signed]
theorem and_u64 (x : Int) (k : Nat) (m : Int) (hm : m = 2 ^ k - 1) (hk : k ≤ 63) : ((BitVec.ofInt IntKind.u64.bits x &&& BitVec.ofInt IntKind.u64.bits m).toNat : Int) = x % 2 ^ k := and_mask x k m hm hk
theorem and_i64 (x : Int) (k : Nat) (m : Int) (hm : m = 2 ^ k - 1) (hk : k ≤ 63) : ((BitVec.ofInt IntKind.i64.bits x &&& BitVec.ofInt IntKind.i64.bits m).toNat : Int) = x % 2 ^ k := and_mask x k m hm hk
theorem and2_u64 (x : Int) : ((BitVec.ofInt IntKind.u64.bits x &&& BitVec.ofInt IntKind.u64.bits 2).toNat : Int) = 2 * (x / 2 % 2) := and_two x
end Go.Proofs.Ytmaheecbohbilaa.Sl
