/- The statements BitsFields and BitsIndexes: their walks. -/
import Derived.Test.YtlbehhbicmmdoaaBitsTold
import Derived.Test.YtlbehhbicmmdoaaBits
namespace Go.Proofs.Ytlbehhbicmmdoaa
set_option linter.unusedVariables false
set_option linter.unusedSimpArgs false
open Go.RowKit

theorem wf_u64 {x : Int} (h : (Lit.int .u64 x).wf = true) : ∃ n : Nat, x = n ∧ n < 18446744073709551616 := by
  simp only [Lit.wf, Bool.and_eq_true, decide_eq_true_eq] at h
  have e1 : IntKind.u64.min = 0 := rfl
  have e2 : IntKind.u64.max = 18446744073709551615 := rfl
  rw [e1, e2] at h
  exact ⟨x.toNat, by omega, by omega⟩
theorem wf_i64 {x : Int} (h : (Lit.int .i64 x).wf = true) : -9223372036854775808 ≤ x ∧ x ≤ 9223372036854775807 := by
  simp only [Lit.wf, Bool.and_eq_true, decide_eq_true_eq] at h
  exact h

theorem both_span (li : Int) : ∃ r : Int, (∀ w : World, Calls Try.prog 53 #[.int .i64 li] w (RetB w (.int .u64 r))) ∧
    ∀ w : World, Calls Try.prog 52 #[.int .i64 li] w (RetB w (.int .u64 r)) := by
  by_cases h : 0 ≤ li ∧ li ≤ 3
  · exact ⟨_, fun w => span_yes li li.toNat (by omega) w (by omega), fun w => refSpan_yes li li.toNat (by omega) w (by omega)⟩
  · exact ⟨0, fun w => span_no li w h, fun w => refSpan_no li w h⟩
theorem both_index (x : Nat) (li : Int) (hx : x < 18446744073709551616) : ∃ r : Int, (∀ w : World, Calls Try.prog 46 #[.int .u64 x, .int .i64 li] w (RetB w (.int .i64 r))) ∧
    ∀ w : World, Calls Try.prog 48 #[.int .u64 x, .int .i64 li] w (RetB w (.int .i64 r)) := by
  by_cases h : 0 ≤ li ∧ li ≤ 3
  · exact ⟨_, fun w => index_yes x li x li.toNat rfl (by omega) w hx (by omega), fun w => refIndex_yes x li x li.toNat rfl (by omega) w hx (by omega)⟩
  · exact ⟨0, fun w => index_no x li w h, fun w => refIndex_no x li w h⟩

end Go.Proofs.Ytlbehhbicmmdoaa
