/- Contracts of the packages bits and demesneref4: what takes words alone. -/
import Derived.Test.YtlbehhbicmmdoaaBitsNat
import Derived.Test.YtlbehhbicmmdoaaSeq
namespace Go.Proofs.Ytlbehhbicmmdoaa
set_option linter.unusedVariables false
set_option linter.unusedSimpArgs false
open Go.RowKit

set_option maxHeartbeats 1000000 in
theorem mask_no (li ni : Int) (w : World) (h : ¬ (0 ≤ li ∧ li < 64 ∧ 1 ≤ ni ∧ ni ≤ 64 - li)) : Calls Try.prog 79 #[.int .i64 li, .int .i64 ni] w (RetB w (.int .u64 0)) := by
  by_cases h1 : li < 0
  · clear h
    go_enter Try.func79, Try.ntmps79
    go_wp2
    go_ret
    exact ⟨rfl, old_refl _⟩
  by_cases h2 : 64 ≤ li
  · clear h
    go_enter Try.func79, Try.ntmps79
    go_wp2
    go_ret
    exact ⟨rfl, old_refl _⟩
  by_cases h3 : ni < 1
  · clear h
    go_enter Try.func79, Try.ntmps79
    go_wp2
    go_ret
    exact ⟨rfl, old_refl _⟩
  have h4 : 64 - li < ni := by omega
  clear h
  go_enter Try.func79, Try.ntmps79
  go_wp2
  go_ret
  exact ⟨rfl, old_refl _⟩

theorem mask_value (low n : Nat) (h1 : 1 ≤ n) (h2 : low + n ≤ 64) : IntKind.u64.wrap (IntKind.u64.wrap (IntKind.u64.wrap (2 ^ n) - 1) * 2 ^ low) = (maskN low n : Nat) := by
  have hlt := maskN_lt low n h2
  by_cases hn : n = 64
  · subst hn
    obtain rfl : low = 0 := by omega
    rfl
  · have hP : (2 : Nat) ^ n < 18446744073709551616 := by
      rw [← two64]; exact Nat.pow_lt_pow_right (by decide) (by omega)
    have hP0 : 0 < (2 : Nat) ^ n := Nat.two_pow_pos n
    rw [show ((2 : Int) ^ n) = ((2 ^ n : Nat) : Int) by push_cast; rfl, show ((2 : Int) ^ low) = ((2 ^ low : Nat) : Int) by push_cast; rfl]
    rw [show IntKind.u64.wrap ((2 ^ n : Nat) : Int) = ((2 ^ n : Nat) : Int) by rw [IntKind.wrap_u64]; omega]
    rw [show IntKind.u64.wrap (((2 ^ n : Nat) : Int) - 1) = ((2 ^ n - 1 : Nat) : Int) by rw [IntKind.wrap_u64]; omega]
    rw [← Int.natCast_mul, show (2 ^ n - 1) * 2 ^ low = maskN low n from rfl, IntKind.wrap_u64]
    omega

set_option maxHeartbeats 1000000 in
theorem mask_yes (li ni : Int) (low n : Nat) (hl : li = low) (hn : ni = n) (w : World) (h1 : 1 ≤ n) (h2 : low + n ≤ 64) : Calls Try.prog 79 #[.int .i64 li, .int .i64 ni] w (RetB w (.int .u64 (maskN low n : Nat))) := by
  subst hl hn
  go_enter Try.func79, Try.ntmps79
  go_wp2
  go_ret
  refine ⟨?_, old_refl _⟩
  rw [← mask_value low n h1 h2]
  rfl

/-- Are there such bits? -/
def Bitsy (low n : Nat) : Prop := 1 ≤ n ∧ low + n ≤ 64

set_option maxHeartbeats 1000000 in
theorem field_no (x : Int) (li ni : Int) (w : World) (h : ¬ (0 ≤ li ∧ li < 64 ∧ 1 ≤ ni ∧ ni ≤ 64 - li)) : Calls Try.prog 70 #[.int .u64 x, .int .i64 li, .int .i64 ni] w (RetB w (.int .u64 0)) := by
  have H := Lib.hid h
  clear h
  go_enter Try.func70, Try.ntmps70
  go_wp2_with fail
  (with_reducible refine (mask_no li ni _ H.out).mono ?_)
  rintro e w1 ⟨rfl, hb1⟩
  go_wp2
  go_ret
  exact ⟨rfl, hb1⟩

set_option maxHeartbeats 1000000 in
theorem field_yes (xi li ni : Int) (x low n : Nat) (hx : xi = x) (hl : li = low) (hn : ni = n) (w : World) (hxl : x < 18446744073709551616) (h1 : 1 ≤ n) (h2 : low + n ≤ 64) :
    Calls Try.prog 70 #[.int .u64 xi, .int .i64 li, .int .i64 ni] w (RetB w (.int .u64 (fieldN x low n : Nat))) := by
  subst hx hl hn
  have hand := bits_and_u64_nat x (maskN low n) hxl (maskN_lt low n h2)
  have hm := maskN_pos low n h1
  have hmb : (((maskN low n : Nat) : Int) != 0) = true := by rw [bne_iff_ne]; omega
  have hv : ((x &&& maskN low n : Nat) : Int) / 2 ^ low = ((fieldN x low n : Nat) : Int) := by rw [← fieldN_and]; push_cast; rfl
  go_enter Try.func70, Try.ntmps70
  go_wp2_with fail
  (with_reducible refine (mask_yes low n low n rfl rfl _ h1 h2).mono ?_)
  rintro e w1 ⟨rfl, hb1⟩
  generalize hmm : maskN low n = m at *
  go_wp2
  go_ret
  refine ⟨?_, hb1⟩
  rw [← hv]
  rfl

end Go.Proofs.Ytlbehhbicmmdoaa
