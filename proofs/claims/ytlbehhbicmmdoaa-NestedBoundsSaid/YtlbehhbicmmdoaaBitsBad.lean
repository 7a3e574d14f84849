/- Contracts of the packages bits and demesneref4: why no number stands there, by the document. -/
import Derived.Test.YtlbehhbicmmdoaaBitsBytes
namespace Go.Proofs.Ytlbehhbicmmdoaa
set_option linter.unusedVariables false
set_option linter.unusedSimpArgs false
open Go.RowKit

set_option maxHeartbeats 2000000 in
theorem bad_calls (n : Nat) (p s : Int) (w : World) (hn : n ≤ maxLen) : Calls Try.prog 81 #[.int .i64 n, .int .i64 p, .int .i64 s] w (RetB w (.int .i64 (checkN n p s))) := by
  have hn63 : n ≤ 9223372036854775807 := hn
  by_cases hs : s = 1 ∨ s = 2 ∨ s = 4 ∨ s = 8
  · have hs0 : s ≠ 0 := by omega
    by_cases h2 : p % s = 0
    · have h2t := (tmod_zero p s).2 h2
      by_cases h3 : p < 0 ∨ (n : Int) < p + s
      · rw [checkN_range hs h2 h3]
        by_cases h4 : p < 0
        · clear h3 h2
          rcases hs with rfl | rfl | rfl | rfl
          all_goals
            go_enter Try.func81, Try.ntmps81
            go_wp2
            go_ret
            exact ⟨rfl, old_refl _⟩
        · by_cases h5 : (n : Int) < s
          · clear h3 h2
            rcases hs with rfl | rfl | rfl | rfl
            all_goals
              go_enter Try.func81, Try.ntmps81
              go_wp2
              go_ret
              exact ⟨rfl, old_refl _⟩
          · have h6 : (n : Int) - s < p := by omega
            have h7 : 1 ≤ s ∧ s ≤ 8 := by omega
            clear h3 h2
            rcases hs with rfl | rfl | rfl | rfl
            all_goals
              go_enter Try.func81, Try.ntmps81
              go_wp2
              go_ret
              exact ⟨rfl, old_refl _⟩
      · rw [checkN_ok hs h2 h3]
        have h4 : 0 ≤ p := by omega
        have h5 : s ≤ (n : Int) := by omega
        have h6 : p ≤ (n : Int) - s := by omega
        have h7 : 1 ≤ s ∧ s ≤ 8 := by omega
        clear h3 h2
        rcases hs with rfl | rfl | rfl | rfl
        all_goals
          go_enter Try.func81, Try.ntmps81
          go_wp2
          go_ret
          exact ⟨rfl, old_refl _⟩
    · rw [checkN_align hs h2]
      have h2t : (p.tmod s != 0) = true := by rw [bne_iff_ne, ne_eq, tmod_zero]; exact h2
      rcases hs with rfl | rfl | rfl | rfl
      · exact absurd (by omega) h2
      all_goals
        clear h2
        go_enter Try.func81, Try.ntmps81
        go_wp2
        go_ret
        exact ⟨rfl, old_refl _⟩
  · rw [checkN_arg hs]
    have h1 : (s != 1) = true := by rw [bne_iff_ne]; omega
    have h2 : (s != 2) = true := by rw [bne_iff_ne]; omega
    have h4 : (s != 4) = true := by rw [bne_iff_ne]; omega
    have h8 : (s != 8) = true := by rw [bne_iff_ne]; omega
    clear hs
    go_enter Try.func81, Try.ntmps81
    go_wp2
    go_ret
    exact ⟨rfl, old_refl _⟩
end Go.Proofs.Ytlbehhbicmmdoaa
