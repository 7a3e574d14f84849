/- Contracts of the packages bits and demesneref4: numbers in bytes. -/
import Derived.Test.YtfiofjalpaeohaaBitsRef
import Derived.Test.YtfiofjalpaeohaaGoto
namespace Go.Proofs.Ytfiofjalpaeohaa
set_option linter.unusedVariables false
set_option linter.unusedSimpArgs false
open Go.RowKit

/-- The frame of 'sized' at its labels. -/
def SizedFrame (s j : Int) (a : Act) : Prop := ∃ u1 u4 u5 u6 u7 u8 u9 u10 u11 u12 u13 : Value, a = { tmps := #[.int .i64 s, u1, .bool false, .int .i64 j, u4, u5, u6, u7, u8, u9, u10, u11, u12, u13], defers := [] }

def SizedJ (s : Int) (W : World) (l k : Nat) (a : Act) (w : World) : Prop :=
  Old W w ∧ ((l = 0 ∧ k = 0 ∧ (s = 1 ∨ s = 2 ∨ s = 4 ∨ s = 8) ∧ ∃ j, SizedFrame s j a) ∨
    (l = 1 ∧ k = 3 ∧ s ≠ 1 ∧ SizedFrame s 1 a) ∨ (l = 1 ∧ k = 2 ∧ s ≠ 1 ∧ s ≠ 2 ∧ SizedFrame s 2 a) ∨ (l = 1 ∧ k = 1 ∧ s ≠ 1 ∧ s ≠ 2 ∧ s ≠ 4 ∧ SizedFrame s 3 a))

set_option maxHeartbeats 1000000 in
theorem sized_calls (s : Int) (w : World) : Calls Try.prog 95 #[.int .i64 s] w (RetB w (.bool (decide (s = 1 ∨ s = 2 ∨ s = 4 ∨ s = 8)))) := by
  go_enter Try.func95, Try.ntmps95
  go_wp2
  refine wp_scope_labels (SizedJ s w) ?_ ?_
  · by_cases h : s = 1
    · go_wp2
      go_step3
      go_wp2
      go_step3
      exact ⟨0, old_refl _, .inl ⟨rfl, rfl, .inl h, _, _, _, _, _, _, _, _, _, _, _, _, rfl⟩⟩
    · go_wp2
      go_step3
      go_wp2
      go_step3
      exact ⟨3, old_refl _, .inr (.inl ⟨rfl, rfl, h, _, _, _, _, _, _, _, _, _, _, _, rfl⟩)⟩
  · rintro l k a x ⟨hO, ⟨rfl, rfl, hs, j, hf⟩ | ⟨rfl, rfl, h1, hf⟩ | ⟨rfl, rfl, h1, h2, hf⟩ | ⟨rfl, rfl, h1, h2, h4, hf⟩⟩
    · obtain ⟨u1, u4, u5, u6, u7, u8, u9, u10, u11, u12, u13, rfl⟩ := hf
      refine ⟨_, rfl, ?_⟩
      have hd : decide (s = 1 ∨ s = 2 ∨ s = 4 ∨ s = 8) = true := decide_eq_true hs
      rw [hd]
      clear hd hs
      go_wp2
      go_ret
      exact ⟨rfl, hO⟩
    · obtain ⟨u1, u4, u5, u6, u7, u8, u9, u10, u11, u12, u13, rfl⟩ := hf
      refine ⟨_, rfl, ?_⟩
      by_cases h : s = 2
      · go_wp2
        go_step3
        exact ⟨0, by omega, hO, .inl ⟨rfl, rfl, .inr (.inl h), _, _, _, _, _, _, _, _, _, _, _, _, rfl⟩⟩
      · go_wp2
        go_step3
        exact ⟨2, by omega, hO, .inr (.inr (.inl ⟨rfl, rfl, h1, h, _, _, _, _, _, _, _, _, _, _, _, rfl⟩))⟩
    · obtain ⟨u1, u4, u5, u6, u7, u8, u9, u10, u11, u12, u13, rfl⟩ := hf
      refine ⟨_, rfl, ?_⟩
      by_cases h : s = 4
      · go_wp2
        go_step3
        exact ⟨0, by omega, hO, .inl ⟨rfl, rfl, .inr (.inr (.inl h)), _, _, _, _, _, _, _, _, _, _, _, _, rfl⟩⟩
      · go_wp2
        go_step3
        exact ⟨1, by omega, hO, .inr (.inr (.inr ⟨rfl, rfl, h1, h2, h, _, _, _, _, _, _, _, _, _, _, _, rfl⟩))⟩
    · obtain ⟨u1, u4, u5, u6, u7, u8, u9, u10, u11, u12, u13, rfl⟩ := hf
      refine ⟨_, rfl, ?_⟩
      by_cases h : s = 8
      · go_wp2
        go_step3
        exact ⟨0, by omega, hO, .inl ⟨rfl, rfl, .inr (.inr (.inr h)), _, _, _, _, _, _, _, _, _, _, _, _, rfl⟩⟩
      · have hd : decide (s = 1 ∨ s = 2 ∨ s = 4 ∨ s = 8) = false := decide_eq_false (by omega)
        rw [hd]
        clear hd
        go_wp2
        go_ret
        exact ⟨rfl, hO⟩

/-- Why no number stands there (0: one does), among n bytes. -/
def checkN (n : Nat) (p s : Int) : Int := if ¬ (s = 1 ∨ s = 2 ∨ s = 4 ∨ s = 8) then 1 else if p % s ≠ 0 then 3 else if p < 0 ∨ (n : Int) < p + s then 2 else 0

theorem checkN_arg {n : Nat} {p s : Int} (h : ¬ (s = 1 ∨ s = 2 ∨ s = 4 ∨ s = 8)) : checkN n p s = 1 := by unfold checkN; rw [if_pos h]
theorem checkN_align {n : Nat} {p s : Int} (h : s = 1 ∨ s = 2 ∨ s = 4 ∨ s = 8) (h2 : p % s ≠ 0) : checkN n p s = 3 := by unfold checkN; rw [if_neg (not_not_intro h), if_pos h2]
theorem checkN_range {n : Nat} {p s : Int} (h : s = 1 ∨ s = 2 ∨ s = 4 ∨ s = 8) (h2 : p % s = 0) (h3 : p < 0 ∨ (n : Int) < p + s) : checkN n p s = 2 := by unfold checkN; rw [if_neg (not_not_intro h), if_neg (not_not_intro h2), if_pos h3]
theorem checkN_ok {n : Nat} {p s : Int} (h : s = 1 ∨ s = 2 ∨ s = 4 ∨ s = 8) (h2 : p % s = 0) (h3 : ¬ (p < 0 ∨ (n : Int) < p + s)) : checkN n p s = 0 := by unfold checkN; rw [if_neg (not_not_intro h), if_neg (not_not_intro h2), if_neg h3]

theorem tmod_zero (p s : Int) : p.tmod s = 0 ↔ p % s = 0 := by
  rw [← Int.dvd_iff_tmod_eq_zero, Int.dvd_iff_emod_eq_zero]

set_option maxHeartbeats 2000000 in
theorem check_calls (ad : Option Addr) (n c : Nat) (p s : Int) (w : World) (hn : n ≤ maxLen) : Calls Try.prog 94 #[.slice ad n c, .int .i64 p, .int .i64 s] w (RetB w (.int .i64 (checkN n p s))) := by
  by_cases hs : s = 1 ∨ s = 2 ∨ s = 4 ∨ s = 8
  · have hd : decide (s = 1 ∨ s = 2 ∨ s = 4 ∨ s = 8) = true := decide_eq_true hs
    have hs0 : s ≠ 0 := by omega
    have hn63 : n ≤ 9223372036854775807 := hn
    by_cases h2 : p % s = 0
    · have h2t := (tmod_zero p s).2 h2
      by_cases h3 : p < 0 ∨ (n : Int) < p + s
      · rw [checkN_range hs h2 h3]
        by_cases h4 : p < 0
        · clear h3
          have HS := Lib.hid hs
          clear hs h2
          go_enter Try.func94, Try.ntmps94
          go_wp2_with fail
          (with_reducible refine (sized_calls s _).mono ?_)
          rw [hd]
          rintro e w1 ⟨rfl, hb1⟩
          go_wp2
          go_ret
          exact ⟨rfl, hb1⟩
        · by_cases h5 : (n : Int) < s
          · clear h3
            have HS := Lib.hid hs
            clear hs h2
            go_enter Try.func94, Try.ntmps94
            go_wp2_with fail
            (with_reducible refine (sized_calls s _).mono ?_)
            rw [hd]
            rintro e w1 ⟨rfl, hb1⟩
            go_wp2
            go_ret
            exact ⟨rfl, hb1⟩
          · have h6 : (n : Int) - s < p := by omega
            have h7 : 1 ≤ s ∧ s ≤ 8 := by omega
            clear h3
            have HS := Lib.hid hs
            clear hs h2
            go_enter Try.func94, Try.ntmps94
            go_wp2_with fail
            (with_reducible refine (sized_calls s _).mono ?_)
            rw [hd]
            rintro e w1 ⟨rfl, hb1⟩
            go_wp2
            go_ret
            exact ⟨rfl, hb1⟩
      · rw [checkN_ok hs h2 h3]
        have h4 : 0 ≤ p := by omega
        have h5 : s ≤ (n : Int) := by omega
        have h6 : p ≤ (n : Int) - s := by omega
        have h7 : 1 ≤ s ∧ s ≤ 8 := by omega
        clear h3
        have HS := Lib.hid hs
        clear hs h2
        go_enter Try.func94, Try.ntmps94
        go_wp2_with fail
        (with_reducible refine (sized_calls s _).mono ?_)
        rw [hd]
        rintro e w1 ⟨rfl, hb1⟩
        go_wp2
        go_ret
        exact ⟨rfl, hb1⟩
    · rw [checkN_align hs h2]
      have h2t : (p.tmod s != 0) = true := by rw [bne_iff_ne, ne_eq, tmod_zero]; exact h2
      have HS := Lib.hid hs
      clear hs h2
      go_enter Try.func94, Try.ntmps94
      go_wp2_with fail
      (with_reducible refine (sized_calls s _).mono ?_)
      rw [hd]
      rintro e w1 ⟨rfl, hb1⟩
      go_wp2
      go_ret
      exact ⟨rfl, hb1⟩
  · have hd : decide (s = 1 ∨ s = 2 ∨ s = 4 ∨ s = 8) = false := decide_eq_false hs
    rw [checkN_arg hs]
    clear hs
    go_enter Try.func94, Try.ntmps94
    go_wp2_with fail
    (with_reducible refine (sized_calls s _).mono ?_)
    rw [hd]
    rintro e w1 ⟨rfl, hb1⟩
    go_wp2
    go_ret
    exact ⟨rfl, hb1⟩
end Go.Proofs.Ytfiofjalpaeohaa
