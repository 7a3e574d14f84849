/- Fields of words as whole numbers: plain laws, no program in sight. -/
import Derived.Test.YtfiofjalpaeohaaBase
import Derived.Laws.Bits64b
namespace Go.Proofs.Ytfiofjalpaeohaa
set_option linter.unusedVariables false
set_option linter.unusedSimpArgs false
open Go.RowKit

theorem two64 : (2 : Nat) ^ 64 = 18446744073709551616 := rfl

/-- The bits of a field. -/
def maskN (low n : Nat) : Nat := (2 ^ n - 1) * 2 ^ low

theorem maskN_bit (low n i : Nat) : (maskN low n).testBit i = (decide (low ≤ i) && decide (i < low + n)) := by
  unfold maskN
  rw [Nat.testBit_mul_two_pow, Nat.testBit_two_pow_sub_one]
  by_cases h : low ≤ i
  · simp [h]; omega
  · simp [h]

theorem maskN_lt (low n : Nat) (h : low + n ≤ 64) : maskN low n < 18446744073709551616 := by
  rw [← two64]
  refine Nat.lt_pow_two_of_testBit _ fun i hi => ?_
  rw [maskN_bit]
  simp; omega

theorem maskN_pos (low n : Nat) (h : 1 ≤ n) : 0 < maskN low n := by
  unfold maskN
  exact Nat.mul_pos (Nat.sub_pos_of_lt (Nat.one_lt_two_pow (by omega))) (Nat.two_pow_pos _)

/-- A field's number. -/
def fieldN (w low n : Nat) : Nat := w / 2 ^ low % 2 ^ n

theorem fieldN_bit (w low n i : Nat) : (fieldN w low n).testBit i = (decide (i < n) && w.testBit (low + i)) := by
  unfold fieldN
  rw [Nat.testBit_mod_two_pow, Nat.testBit_div_two_pow]
  rw [Nat.add_comm]

theorem fieldN_and (w low n : Nat) : (w &&& maskN low n) / 2 ^ low = fieldN w low n := by
  refine Nat.eq_of_testBit_eq fun i => ?_
  rw [Nat.testBit_div_two_pow, Nat.testBit_and, maskN_bit, fieldN_bit, Nat.add_comm]
  by_cases h : i < n <;> cases w.testBit (low + i) <;> simp [h] <;> omega

/-- The bits of w that m lacks. -/
def lessN (w m : Nat) : Nat := w ^^^ (w &&& m)
theorem lessN_bit (w m i : Nat) : (lessN w m).testBit i = (w.testBit i && !m.testBit i) := by
  unfold lessN
  rw [Nat.testBit_xor, Nat.testBit_and]
  cases w.testBit i <;> cases m.testBit i <;> rfl
theorem lessN_lt (w m : Nat) (hw : w < 18446744073709551616) : lessN w m < 18446744073709551616 := by
  rw [← two64] at hw ⊢
  refine Nat.lt_pow_two_of_testBit _ fun i hi => ?_
  rw [lessN_bit, Nat.testBit_lt_two_pow (Nat.lt_of_lt_of_le hw (Nat.pow_le_pow_right (by decide) hi))]
  rfl

theorem bits_andNot_u64_nat (a b : Nat) (ha : a < 18446744073709551616) (hb : b < 18446744073709551616) : bits .andNot .u64 (a : Int) (b : Int) = ((lessN a b : Nat) : Int) := by
  have hx := lessN_lt a b ha
  have h1 : (BitVec.ofInt 64 (a : Int)).toNat = a := by
    rw [BitVec.ofInt_natCast, BitVec.toNat_ofNat]; exact Nat.mod_eq_of_lt (by omega)
  have h2 : (BitVec.ofInt 64 (b : Int)).toNat = b := by
    rw [BitVec.ofInt_natCast, BitVec.toNat_ofNat]; exact Nat.mod_eq_of_lt (by omega)
  have h3 : (BitVec.ofInt 64 (a : Int) &&& ~~~ BitVec.ofInt 64 (b : Int)).toNat = lessN a b := by
    refine Nat.eq_of_testBit_eq fun i => ?_
    rw [lessN_bit, BitVec.testBit_toNat, BitVec.getLsbD_and, BitVec.getLsbD_not, ← BitVec.testBit_toNat, ← BitVec.testBit_toNat, h1, h2]
    by_cases hi : i < 64
    · simp [hi]
    · have ea : a.testBit i = false := Nat.testBit_lt_two_pow (Nat.lt_of_lt_of_le (by rw [two64]; exact ha) (Nat.pow_le_pow_right (by decide) (by omega)))
      rw [ea]
      simp [hi]
  show IntKind.u64.wrap ((BitVec.ofInt 64 (a : Int) &&& ~~~ BitVec.ofInt 64 (b : Int)).toNat : Int) = _
  rw [h3, IntKind.wrap_u64]
  omega

/-- A word with a field put in. -/
def setN (w low n v : Nat) : Nat := lessN w (maskN low n) ||| (v * 2 ^ low % 18446744073709551616 &&& maskN low n)

theorem setN_bit (w low n v i : Nat) (h : low + n ≤ 64) : (setN w low n v).testBit i = if low ≤ i ∧ i < low + n then v.testBit (i - low) else w.testBit i := by
  unfold setN
  rw [Nat.testBit_or, lessN_bit, Nat.testBit_and, maskN_bit, ← two64, Nat.testBit_mod_two_pow, Nat.testBit_mul_two_pow]
  by_cases h1 : low ≤ i <;> by_cases h2 : i < low + n <;> simp [h1, h2]
  omega

theorem setN_lt (w low n v : Nat) (hw : w < 18446744073709551616) (h : low + n ≤ 64) : setN w low n v < 18446744073709551616 := by
  rw [← two64] at hw ⊢
  refine Nat.lt_pow_two_of_testBit _ fun i hi => ?_
  rw [setN_bit _ _ _ _ _ h, if_neg (by omega)]
  exact Nat.testBit_lt_two_pow (Nat.lt_of_lt_of_le hw (Nat.pow_le_pow_right (by decide) hi))

end Go.Proofs.Ytfiofjalpaeohaa
