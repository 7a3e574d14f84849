/- Contracts of the package demesneref4: what takes words alone; its loops. -/
import Derived.Test.YtlbehhbicmmdoaaBitsPure
namespace Go.Proofs.Ytlbehhbicmmdoaa
set_option linter.unusedVariables false
set_option linter.unusedSimpArgs false
open Go.RowKit

theorem half_bit (w i : Nat) : w / 2 ^ i = 2 * (w / 2 ^ (i + 1)) + w / 2 ^ i % 2 := by
  rw [Nat.pow_succ, ← Nat.div_div_eq_div_mul]
  omega

/-- What the loop has behind the bits i and above. -/
def upN (r i : Nat) : Nat := r / 2 ^ i

theorem bit_mod (r i : Nat) (b : Bool) (h : r.testBit i = b) : r / 2 ^ i % 2 = b.toNat := by
  subst h
  have := Nat.testBit_eq_decide_div_mod_eq (x := r) (i := i)
  rw [this]
  have b1 := Nat.mod_two_eq_zero_or_one (r / 2 ^ i)
  rcases b1 with e | e <;> rw [e] <;> rfl

theorem up_step (r i y s : Nat) (h : r.testBit i = y.testBit s) : upN r i = 2 * upN r (i + 1) + y / 2 ^ s % 2 := by
  unfold upN
  rw [bit_mod y s _ rfl, ← h, ← bit_mod r i _ rfl]
  exact half_bit _ _

theorem up_top (r n : Nat) (h : r < 2 ^ n) : upN r n = 0 := Nat.div_eq_of_lt h
theorem up_zero (r : Nat) : upN r 0 = r := by simp [upN]
theorem up_lt (r i : Nat) (h : r < 18446744073709551616) : upN r i < 18446744073709551616 := Nat.lt_of_le_of_lt (Nat.div_le_self _ _) h

theorem and_one_val (y s : Nat) (hy : y < 18446744073709551616) : bits .and .u64 ((y : Int) / 2 ^ s) 1 = ((y / 2 ^ s % 2 : Nat) : Int) := by
  have e : (y : Int) / 2 ^ s = ((y / 2 ^ s : Nat) : Int) := by rw [Int.natCast_ediv, Int.natCast_pow]; rfl
  rw [e]
  have := bits_and_u64_nat (y / 2 ^ s) 1 (up_lt y s hy) (by decide)
  rw [Nat.and_one_is_mod] at this
  exact this

theorem step_val (r i y s : Nat) (hr : r < 18446744073709551616) (hy : y < 18446744073709551616) (h : r.testBit i = y.testBit s) :
    IntKind.u64.wrap (IntKind.u64.wrap ((upN r (i + 1) : Nat) * 2) + bits .and .u64 ((y : Int) / 2 ^ s) 1) = (upN r i : Nat) := by
  rw [and_one_val y s hy]
  have e := up_step r i y s h
  have l := up_lt r i hr
  rw [IntKind.wrap_u64, IntKind.wrap_u64]
  omega

theorem fieldN_lt (x low n : Nat) (h : n ≤ 64) : fieldN x low n < 18446744073709551616 := by
  rw [← two64]
  exact Nat.lt_of_lt_of_le (Nat.mod_lt _ (Nat.two_pow_pos n)) (Nat.pow_le_pow_right (by decide) h)

/-- How many bytes an entry of a level has. -/
def spanN (l : Nat) : Nat := if l = 0 then 549755813888 else if l = 1 then 1073741824 else if l = 2 then 2097152 else 4096
theorem spanN_pow (l : Nat) (h : l ≤ 3) : spanN l = 2 ^ (12 + 9 * (3 - l)) := by
  obtain rfl | rfl | rfl | rfl : l = 0 ∨ l = 1 ∨ l = 2 ∨ l = 3 := by omega
  all_goals rfl

theorem span_no (li : Int) (w : World) (h : ¬ (0 ≤ li ∧ li ≤ 3)) : Calls Try.prog 53 #[.int .i64 li] w (RetB w (.int .u64 0)) := by
  by_cases h1 : li < 0
  · clear h
    go_enter Try.func53, Try.ntmps53
    go_wp2
    go_ret
    exact ⟨rfl, old_refl _⟩
  · have h2 : 4 ≤ li := by omega
    clear h
    go_enter Try.func53, Try.ntmps53
    go_wp2
    go_ret
    exact ⟨rfl, old_refl _⟩

theorem span_yes (li : Int) (l : Nat) (hl : li = l) (w : World) (h : l ≤ 3) : Calls Try.prog 53 #[.int .i64 li] w (RetB w (.int .u64 (spanN l : Nat))) := by
  subst hl
  obtain rfl | rfl | rfl | rfl : l = 0 ∨ l = 1 ∨ l = 2 ∨ l = 3 := by omega
  all_goals
    go_enter Try.func53, Try.ntmps53
    go_wp2
    go_ret
    exact ⟨rfl, old_refl _⟩

theorem refSpan_no (li : Int) (w : World) (h : ¬ (0 ≤ li ∧ li ≤ 3)) : Calls Try.prog 52 #[.int .i64 li] w (RetB w (.int .u64 0)) := by
  by_cases h1 : li < 0
  · clear h
    go_enter Try.func52, Try.ntmps52
    go_wp2
    go_ret
    exact ⟨rfl, old_refl _⟩
  · have h2 : 3 < li := by omega
    clear h
    go_enter Try.func52, Try.ntmps52
    go_wp2
    go_ret
    exact ⟨rfl, old_refl _⟩

theorem span_next (j : Nat) (h : j ≤ 3) (h0 : 0 < j) : IntKind.u64.wrap (((spanN j : Nat) : Int) * 512) = (spanN (j - 1) : Nat) := by
  obtain rfl | rfl | rfl : j = 1 ∨ j = 2 ∨ j = 3 := by omega
  all_goals rfl

set_option maxHeartbeats 1000000 in
theorem refSpan_yes (li : Int) (l : Nat) (hl : li = l) (w : World) (h : l ≤ 3) : Calls Try.prog 52 #[.int .i64 li] w (RetB w (.int .u64 (spanN l : Nat))) := by
  subst hl
  go_enter Try.func52, Try.ntmps52
  go_wp2
  go_loopw [3, 4] (fun s i wr => ∃ j : Nat, i = .int .i64 j ∧ l ≤ j ∧ j ≤ 3 ∧ s = .int .u64 (spanN j : Nat) ∧ Old w wr) (fun _ i _ => (intOf i).toNat)
  case atStart => exact ⟨3, rfl, h, by omega, rfl, old_refl _⟩
  case round =>
    obtain ⟨j, rfl, hj, hj3, rfl, hO⟩ := hrel
    by_cases hjl : j = l
    · subst hjl
      go_wp2
      go_ret
      exact ⟨rfl, hO⟩
    · have hnx := span_next j hj3 (by omega)
      go_wp2
      go_roundw
      case rel => exact ⟨j - 1, by rw [Int.natCast_sub (by omega)]; rfl, by omega, by omega, by first | rfl | rw [← hnx], hO⟩
      case measure => (simp [intOf]) <;> omega

/-- An address' index of a level. -/
def indexN (x l : Nat) : Nat := fieldN x (12 + 9 * (3 - l)) 9
theorem indexN_lt (x l : Nat) : indexN x l < 512 := Nat.mod_lt _ (by decide)
theorem indexN_div (x l : Nat) (h : l ≤ 3) : x / spanN l % 512 = indexN x l := by rw [spanN_pow l h]; rfl

theorem index_no (x : Int) (li : Int) (w : World) (h : ¬ (0 ≤ li ∧ li ≤ 3)) : Calls Try.prog 46 #[.int .u64 x, .int .i64 li] w (RetB w (.int .i64 0)) := by
  by_cases h1 : li < 0
  · clear h
    go_enter Try.func46, Try.ntmps46
    go_wp2
    go_ret
    exact ⟨rfl, old_refl _⟩
  · have h2 : 4 ≤ li := by omega
    clear h
    go_enter Try.func46, Try.ntmps46
    go_wp2
    go_ret
    exact ⟨rfl, old_refl _⟩

theorem index_yes (xi li : Int) (x l : Nat) (hx : xi = x) (hl : li = l) (w : World) (hxl : x < 18446744073709551616) (h : l ≤ 3) :
    Calls Try.prog 46 #[.int .u64 xi, .int .i64 li] w (RetB w (.int .i64 (indexN x l : Nat))) := by
  subst hx hl
  have hlt := indexN_lt x l
  have hf : fieldN x (12 + 9 * (3 - l)) 9 = indexN x l := rfl
  go_enter Try.func46, Try.ntmps46
  go_wp2_with fail
  (with_reducible refine (field_yes x _ 9 x (12 + 9 * (3 - l)) 9 rfl (by omega) rfl _ hxl (by omega) (by omega)).mono ?_)
  rw [hf]
  rintro e w1 ⟨rfl, hb1⟩
  go_wp2
  go_ret
  exact ⟨rfl, hb1⟩

theorem refIndex_no (x : Int) (li : Int) (w : World) (h : ¬ (0 ≤ li ∧ li ≤ 3)) : Calls Try.prog 48 #[.int .u64 x, .int .i64 li] w (RetB w (.int .i64 0)) := by
  have H := Lib.hid h
  clear h
  go_enter Try.func48, Try.ntmps48
  go_wp2_with fail
  (with_reducible refine (refSpan_no li _ H.out).mono ?_)
  rintro e w1 ⟨rfl, hb1⟩
  go_wp2
  go_ret
  exact ⟨rfl, hb1⟩

theorem refIndex_yes (xi li : Int) (x l : Nat) (hx : xi = x) (hl : li = l) (w : World) (hxl : x < 18446744073709551616) (h : l ≤ 3) :
    Calls Try.prog 48 #[.int .u64 xi, .int .i64 li] w (RetB w (.int .i64 (indexN x l : Nat))) := by
  subst hx hl
  have hlt := indexN_lt x l
  have hd := indexN_div x l h
  have hs0 : 0 < spanN l := by rw [spanN_pow l h]; exact Nat.two_pow_pos _
  have hv : wrap64 ((IntKind.u64.wrap ((x : Int) / ((spanN l : Nat) : Int))).tmod 512) = ((indexN x l : Nat) : Int) := by
    have hle := Nat.div_le_self x (spanN l)
    rw [← Int.natCast_ediv]
    generalize x / spanN l = q at *
    rw [show IntKind.u64.wrap (q : Int) = (q : Int) by rw [IntKind.wrap_u64]; omega]
    rw [Int.tmod_eq_emod_of_nonneg (Int.natCast_nonneg _), show (q : Int) % 512 = ((q % 512 : Nat) : Int) by omega, hd]
    exact IntWalk.wrap64_in _ (by omega)
  go_enter Try.func48, Try.ntmps48
  go_wp2_with fail
  (with_reducible refine (refSpan_yes l l rfl _ h).mono ?_)
  rintro e w1 ⟨rfl, hb1⟩
  have hsb : (((spanN l : Nat) : Int) == 0) = false := by rw [beq_eq_false_iff_ne]; omega
  generalize spanN l = s at *
  go_wp2
  go_ret
  refine ⟨?_, hb1⟩
  rw [← hv]
  rfl
end Go.Proofs.Ytlbehhbicmmdoaa
