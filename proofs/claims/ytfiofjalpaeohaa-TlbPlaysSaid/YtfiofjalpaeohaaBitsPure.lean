/- Contracts of the packages bits and demesneref4: what takes words alone. -/
import Derived.Test.YtfiofjalpaeohaaBitsNat
import Derived.Test.YtfiofjalpaeohaaSeq
namespace Go.Proofs.Ytfiofjalpaeohaa
set_option linter.unusedVariables false
set_option linter.unusedSimpArgs false
open Go.RowKit

theorem mask_value (low n : Nat) (h1 : 1 ≤ n) (h2 : low + n ≤ 64) : IntKind.u64.wrap (IntKind.u64.wrap (IntKind.u64.wrap (2 ^ n) - 1) * 2 ^ low) = (maskN low n : Nat) := by
  have hlt := maskN_lt low n h2
  by_cases hn : n = 64
  · subst hn
    obtain rfl : low = 0 := by omega
    rfl
  · have hP : (2 : Nat) ^ n < 18446744073709551616 := by
      rw [← two64]; exact Nat.pow_lt_pow_right (by decide) (by omega)
    have hP0 : 0 < (2 : Nat) ^ n := Nat.two_pow_pos n
    rw [show ((2 : Int) ^ n) = ((2 ^ n : Nat) : Int) by push_cast; rfl, show ((2 : Int) ^ low) = ((2 ^ low : Nat) : Int) by push_cast; rfl]
    rw [show IntKind.u64.wrap ((2 ^ n : Nat) : Int) = ((2 ^ n : Nat) : Int) by rw [IntKind.wrap_u64]; omega]
    rw [show IntKind.u64.wrap (((2 ^ n : Nat) : Int) - 1) = ((2 ^ n - 1 : Nat) : Int) by rw [IntKind.wrap_u64]; omega]
    rw [← Int.natCast_mul, show (2 ^ n - 1) * 2 ^ low = maskN low n from rfl, IntKind.wrap_u64]
    omega

/-- Are there such bits? -/
def Bitsy (low n : Nat) : Prop := 1 ≤ n ∧ low + n ≤ 64

end Go.Proofs.Ytfiofjalpaeohaa
