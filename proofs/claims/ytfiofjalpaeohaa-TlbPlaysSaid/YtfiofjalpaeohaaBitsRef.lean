/- Contracts of the package demesneref4: what takes words alone; its loops. -/
import Derived.Test.YtfiofjalpaeohaaBitsPure
namespace Go.Proofs.Ytfiofjalpaeohaa
set_option linter.unusedVariables false
set_option linter.unusedSimpArgs false
open Go.RowKit

theorem half_bit (w i : Nat) : w / 2 ^ i = 2 * (w / 2 ^ (i + 1)) + w / 2 ^ i % 2 := by
  rw [Nat.pow_succ, ← Nat.div_div_eq_div_mul]
  omega

/-- What the loop has behind the bits i and above. -/
def upN (r i : Nat) : Nat := r / 2 ^ i

theorem bit_mod (r i : Nat) (b : Bool) (h : r.testBit i = b) : r / 2 ^ i % 2 = b.toNat := by
  subst h
  have := Nat.testBit_eq_decide_div_mod_eq (x := r) (i := i)
  rw [this]
  have b1 := Nat.mod_two_eq_zero_or_one (r / 2 ^ i)
  rcases b1 with e | e <;> rw [e] <;> rfl

theorem up_step (r i y s : Nat) (h : r.testBit i = y.testBit s) : upN r i = 2 * upN r (i + 1) + y / 2 ^ s % 2 := by
  unfold upN
  rw [bit_mod y s _ rfl, ← h, ← bit_mod r i _ rfl]
  exact half_bit _ _

theorem up_top (r n : Nat) (h : r < 2 ^ n) : upN r n = 0 := Nat.div_eq_of_lt h
theorem up_zero (r : Nat) : upN r 0 = r := by simp [upN]
theorem up_lt (r i : Nat) (h : r < 18446744073709551616) : upN r i < 18446744073709551616 := Nat.lt_of_le_of_lt (Nat.div_le_self _ _) h

theorem and_one_val (y s : Nat) (hy : y < 18446744073709551616) : bits .and .u64 ((y : Int) / 2 ^ s) 1 = ((y / 2 ^ s % 2 : Nat) : Int) := by
  have e : (y : Int) / 2 ^ s = ((y / 2 ^ s : Nat) : Int) := by rw [Int.natCast_ediv, Int.natCast_pow]; rfl
  rw [e]
  have := bits_and_u64_nat (y / 2 ^ s) 1 (up_lt y s hy) (by decide)
  rw [Nat.and_one_is_mod] at this
  exact this

theorem step_val (r i y s : Nat) (hr : r < 18446744073709551616) (hy : y < 18446744073709551616) (h : r.testBit i = y.testBit s) :
    IntKind.u64.wrap (IntKind.u64.wrap ((upN r (i + 1) : Nat) * 2) + bits .and .u64 ((y : Int) / 2 ^ s) 1) = (upN r i : Nat) := by
  rw [and_one_val y s hy]
  have e := up_step r i y s h
  have l := up_lt r i hr
  rw [IntKind.wrap_u64, IntKind.wrap_u64]
  omega

theorem fieldN_lt (x low n : Nat) (h : n ≤ 64) : fieldN x low n < 18446744073709551616 := by
  rw [← two64]
  exact Nat.lt_of_lt_of_le (Nat.mod_lt _ (Nat.two_pow_pos n)) (Nat.pow_le_pow_right (by decide) h)

/-- How many bytes an entry of a level has. -/
def spanN (l : Nat) : Nat := if l = 0 then 549755813888 else if l = 1 then 1073741824 else if l = 2 then 2097152 else 4096
theorem spanN_pow (l : Nat) (h : l ≤ 3) : spanN l = 2 ^ (12 + 9 * (3 - l)) := by
  obtain rfl | rfl | rfl | rfl : l = 0 ∨ l = 1 ∨ l = 2 ∨ l = 3 := by omega
  all_goals rfl

theorem span_next (j : Nat) (h : j ≤ 3) (h0 : 0 < j) : IntKind.u64.wrap (((spanN j : Nat) : Int) * 512) = (spanN (j - 1) : Nat) := by
  obtain rfl | rfl | rfl : j = 1 ∨ j = 2 ∨ j = 3 := by omega
  all_goals rfl

/-- An address' index of a level. -/
def indexN (x l : Nat) : Nat := fieldN x (12 + 9 * (3 - l)) 9
theorem indexN_lt (x l : Nat) : indexN x l < 512 := Nat.mod_lt _ (by decide)
theorem indexN_div (x l : Nat) (h : l ≤ 3) : x / spanN l % 512 = indexN x l := by rw [spanN_pow l h]; rfl

end Go.Proofs.Ytfiofjalpaeohaa
