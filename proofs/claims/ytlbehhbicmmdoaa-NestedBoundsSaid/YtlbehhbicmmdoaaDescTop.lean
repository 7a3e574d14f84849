/- Contracts of desc.Top, desc.place, desc.flag and of the document's Top and bit. -/
import Derived.Test.YtlbehhbicmmdoaaBitsFields
namespace Go.Proofs.Ytlbehhbicmmdoaa
set_option linter.unusedVariables false
set_option linter.unusedSimpArgs false
open Go.RowKit

/-- The first address beyond. -/
def topN (st : Int) : Nat := if st = 1 then 1099511627776 else if st = 2 then 4294967296 else 0
def Place (st lv : Int) : Prop := (st = 1 ∨ st = 2) ∧ 0 ≤ lv ∧ lv ≤ 3
instance (st lv : Int) : Decidable (Place st lv) := by unfold Place; infer_instance
/-- A bit of a word. -/
def flagN (b : Bool) (i : Nat) : Nat := bif b then 2 ^ i else 0

theorem topN_le (st : Int) : topN st ≤ 1099511627776 := by
  unfold topN; split
  · decide
  split <;> decide
theorem topN_lt (st : Int) : topN st < 18446744073709551616 := Nat.lt_of_le_of_lt (topN_le st) (by decide)

theorem top_calls (st : Int) (w : World) : Calls Try.prog 45 #[.int .i64 st] w (RetB w (.int .u64 (topN st : Nat))) := by
  by_cases h1 : st = 1
  · subst h1
    go_enter Try.func45, Try.ntmps45
    go_wp2
    go_ret
    exact ⟨rfl, old_refl _⟩
  by_cases h2 : st = 2
  · subst h2
    go_enter Try.func45, Try.ntmps45
    go_wp2
    go_ret
    exact ⟨rfl, old_refl _⟩
  have ht : topN st = 0 := by unfold topN; rw [if_neg h1, if_neg h2]
  rw [ht]
  go_enter Try.func45, Try.ntmps45
  go_wp2
  go_ret
  exact ⟨rfl, old_refl _⟩

theorem refTop_calls (st : Int) (w : World) : Calls Try.prog 51 #[.int .i64 st] w (RetB w (.int .u64 (topN st : Nat))) := by
  by_cases h1 : st = 1
  · subst h1
    go_enter Try.func51, Try.ntmps51
    go_wp2
    go_ret
    exact ⟨rfl, old_refl _⟩
  by_cases h2 : st = 2
  · subst h2
    go_enter Try.func51, Try.ntmps51
    go_wp2
    go_ret
    exact ⟨rfl, old_refl _⟩
  have ht : topN st = 0 := by unfold topN; rw [if_neg h1, if_neg h2]
  rw [ht]
  go_enter Try.func51, Try.ntmps51
  go_wp2
  go_ret
  exact ⟨rfl, old_refl _⟩

theorem place_calls (st lv : Int) (p : Bool) (hp : decide (Place st lv) = p) (w : World) : Calls Try.prog 71 #[.int .i64 st, .int .i64 lv] w (RetB w (.bool p)) := by
  subst hp
  have ht := top_calls st
  by_cases h1 : topN st = 0
  · have hd : decide (Place st lv) = false := decide_eq_false (by
      unfold topN at h1
      rintro ⟨rfl | rfl, _⟩ <;> simp at h1)
    rw [h1] at ht
    rw [hd]
    clear hd h1
    go_enter Try.func71, Try.ntmps71
    go_wp2_with fail
    refine (ht _).mono ?_
    rintro e w1 ⟨rfl, hb1⟩
    go_wp2
    go_ret
    exact ⟨rfl, hb1⟩
  · have hs : st = 1 ∨ st = 2 := by
      unfold topN at h1
      by_cases a : st = 1
      · exact .inl a
      by_cases b : st = 2
      · exact .inr b
      rw [if_neg a, if_neg b] at h1
      exact absurd rfl h1
    have hn : (((topN st : Nat) : Int) != 0) = true := bne_iff_ne.2 (by omega)
    have hd : decide (Place st lv) = (decide (0 ≤ lv) && decide (lv ≤ 3)) := by unfold Place; simp [hs]
    rw [hd]
    generalize ((topN st : Nat) : Int) = T at *
    clear hd h1 hs
    by_cases h2 : 0 ≤ lv
    · rw [decide_eq_true h2, Bool.true_and]
      go_enter Try.func71, Try.ntmps71
      go_wp2_with fail
      refine (ht _).mono ?_
      rintro e w1 ⟨rfl, hb1⟩
      go_wp2
      go_ret
      exact ⟨rfl, hb1⟩
    · rw [decide_eq_false h2]
      go_enter Try.func71, Try.ntmps71
      go_wp2_with fail
      refine (ht _).mono ?_
      rintro e w1 ⟨rfl, hb1⟩
      go_wp2
      go_ret
      exact ⟨rfl, hb1⟩

theorem flag_calls (b : Bool) (ii : Int) (i : Nat) (hii : ii = i) (hi : i = 1 ∨ i = 6 ∨ i = 7 ∨ i = 8) (w : World) : Calls Try.prog 80 #[.bool b, .int .i64 ii] w (RetB w (.int .u64 (flagN b i : Nat))) := by
  subst hii
  rcases hi with rfl | rfl | rfl | rfl <;> cases b
  all_goals
    go_enter Try.func80, Try.ntmps80
    go_wp2
    go_ret
    exact ⟨rfl, old_refl _⟩

theorem refBit_calls (b : Bool) (ii : Int) (i : Nat) (hii : ii = i) (hi : i = 1 ∨ i = 6 ∨ i = 7 ∨ i = 8) (w : World) : Calls Try.prog 69 #[.bool b, .int .i64 ii] w (RetB w (.int .u64 (flagN b i : Nat))) := by
  subst hii
  rcases hi with rfl | rfl | rfl | rfl <;> cases b
  all_goals
    go_enter Try.func69, Try.ntmps69
    go_wp2
    go_ret
    exact ⟨rfl, old_refl _⟩

end Go.Proofs.Ytlbehhbicmmdoaa
