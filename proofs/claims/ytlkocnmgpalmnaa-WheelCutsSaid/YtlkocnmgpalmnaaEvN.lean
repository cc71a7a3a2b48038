/- Numbers: masks and shifts of naturals below 2^64. -/
import Derived.Test.YtlkocnmgpalmnaaEvS
namespace Go.EV
open Go

theorem ofInt_toNat {x : Nat} (h : x < 18446744073709551616) : (BitVec.ofInt 64 (x : Int)).toNat = x := by
  rw [BitVec.toNat_ofInt]
  omega

theorem wrapU_nat {x : Nat} (h : x < 18446744073709551616) : IntKind.wrap .u64 (x : Int) = x := wrapU_id (by omega) (by omega)

theorem iand_mask {x : Nat} (h : x < 18446744073709551616) (k : Nat) (hk : k < 64) : iand .u64 x ((2 ^ k - 1 : Nat) : Int) = ((x % 2 ^ k : Nat) : Int) := by
  unfold iand
  have h2 : 2 ^ k ≤ 2 ^ 63 := Nat.pow_le_pow_right (by omega) (by omega)
  have h3 : (2 : Nat) ^ 63 = 9223372036854775808 := by decide
  show IntKind.wrap .u64 (((BitVec.ofInt 64 (x : Int) &&& BitVec.ofInt 64 ((2 ^ k - 1 : Nat) : Int)).toNat : Nat) : Int) = _
  rw [BitVec.toNat_and, ofInt_toNat h, ofInt_toNat (by omega), Nat.and_two_pow_sub_one_eq_mod]
  have : x % 2 ^ k ≤ x := Nat.mod_le _ _
  exact wrapU_nat (by omega)

theorem iandn_mask {x : Nat} (h : x < 18446744073709551616) (k : Nat) (hk : k < 64) : iandn .u64 x ((2 ^ k - 1 : Nat) : Int) = ((x - x % 2 ^ k : Nat) : Int) := by
  unfold iandn
  have h2 : 2 ^ k ≤ 2 ^ 63 := Nat.pow_le_pow_right (by omega) (by omega)
  have h3 : (2 : Nat) ^ 63 = 9223372036854775808 := by decide
  show IntKind.wrap .u64 (((BitVec.ofInt 64 (x : Int) &&& ~~~(BitVec.ofInt 64 ((2 ^ k - 1 : Nat) : Int))).toNat : Nat) : Int) = _
  have e : (BitVec.ofInt 64 (x : Int) &&& ~~~(BitVec.ofInt 64 ((2 ^ k - 1 : Nat) : Int))).toNat = x / 2 ^ k * 2 ^ k := by
    apply Nat.eq_of_testBit_eq
    intro i
    rw [BitVec.toNat_and, Nat.testBit_and, ofInt_toNat h, Nat.testBit_mul_two_pow, Nat.testBit_div_two_pow]
    have hn : (~~~(BitVec.ofInt 64 ((2 ^ k - 1 : Nat) : Int))).toNat.testBit i = (decide (i < 64) && !decide (i < k)) := by
      rw [← BitVec.getLsbD, BitVec.getLsbD_not, BitVec.getLsbD, ofInt_toNat (by omega), Nat.testBit_two_pow_sub_one]
    rw [hn]
    by_cases hi : k ≤ i
    · by_cases hi2 : i < 64
      · simp [hi, hi2]
        try omega
      · have : x.testBit i = false := Nat.testBit_lt_two_pow (Nat.lt_of_lt_of_le h (by
          have : (2 : Nat) ^ 64 ≤ 2 ^ i := Nat.pow_le_pow_right (by omega) (by omega)
          have h4 : (2 : Nat) ^ 64 = 18446744073709551616 := by decide
          omega))
        have hk2 : i - k + k = i := by omega
        simp [this, hk2]
    · simp [hi]
      try omega
  rw [e]
  have h5 : x / 2 ^ k * 2 ^ k = x - x % 2 ^ k := by
    have := Nat.div_add_mod x (2 ^ k)
    rw [Nat.mul_comm] at this
    omega
  rw [h5]
  exact wrapU_nat (by omega)

theorem ishr_nat (x k : Nat) (hk : k ≤ 64) : ishr .u64 x (k : Int) = ((x / 2 ^ k : Nat) : Int) := by
  unfold ishr
  have : min ((k : Int).toNat) (IntKind.bits .u64) = k := by
    have : IntKind.bits .u64 = 64 := rfl
    rw [this]; omega
  rw [this]
  rw [Int.fdiv_eq_ediv_of_nonneg _ (by exact Int.le_of_lt (Int.pow_pos (by omega)))]
  rw [show (2 : Int) ^ k = ((2 ^ k : Nat) : Int) by simp]
  rfl

end Go.EV
