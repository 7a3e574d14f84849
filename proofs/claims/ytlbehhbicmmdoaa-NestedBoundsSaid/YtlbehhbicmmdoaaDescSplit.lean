/- The contract of the document's split. -/
import Derived.Test.YtlbehhbicmmdoaaDescDec
namespace Go.Proofs.Ytlbehhbicmmdoaa
set_option linter.unusedVariables false
set_option linter.unusedSimpArgs false
open Go.RowKit

theorem and_field (x : Nat) : x &&& 281474976706560 = decA x := by
  refine Nat.eq_of_testBit_eq fun i => ?_
  have hm : (281474976706560 : Nat) = maskN 12 36 := by decide
  have hd : decA x = fieldN x 12 36 * 2 ^ 12 := rfl
  rw [hm, hd, Nat.testBit_and, maskN_bit, Nat.testBit_mul_two_pow, fieldN_bit]
  by_cases h : 12 ≤ i
  · rw [show 12 + (i - 12) = i by omega]
    by_cases h2 : i < 12 + 36
    · simp [h, h2]; omega
    · simp [h, h2]; omega
  · simp [h]

theorem and_addr (x : Nat) (hx : x < 18446744073709551616) : bits .and .u64 (x : Int) 281474976706560 = ((decA x : Nat) : Int) := by
  rw [← and_field]; exact bits_and_u64_nat x 281474976706560 hx (by decide)
theorem and_soft (x : Nat) (hx : x < 18446744073709551616) : wrap64 (bits .and .u64 ((x : Int) / 36028797018963968) 15) = ((decS x : Nat) : Int) := by
  have h1 := bits_and_u64_nat (x / 36028797018963968) 15 (by omega) (by decide)
  rw [show ((x : Int) / 36028797018963968) = ((x / 36028797018963968 : Nat) : Int) by omega]
  rw [show (15 : Int) = ((15 : Nat) : Int) from rfl, h1]
  have h2 : x / 36028797018963968 &&& 15 = decS x := Nat.and_two_pow_sub_one_eq_mod _ 4
  rw [h2]
  have := decS_le x
  exact IntWalk.wrap64_in _ (by omega)
theorem and_bit (x i : Nat) (hx : x < 18446744073709551616) (d : Int) (hd : (x : Int) / d = ((x / 2 ^ i : Nat) : Int)) : (bits .and .u64 ((x : Int) / d) 1 == 1) = bitB x i := by
  have hle := Nat.div_le_self x (2 ^ i)
  have h1 := bits_and_u64_nat (x / 2 ^ i) 1 (by omega) (by decide)
  rw [hd, show (1 : Int) = ((1 : Nat) : Int) from rfl, h1]
  have h2 : x / 2 ^ i &&& 1 = x / 2 ^ i % 2 := Nat.and_one_is_mod _
  rw [h2]
  unfold bitB
  by_cases h : x / 2 ^ i % 2 = 1
  · rw [decide_eq_true h, h]; rfl
  · rw [decide_eq_false h, beq_eq_false_iff_ne]; omega
theorem and_two (x : Nat) (hx : x < 18446744073709551616) : (bits .and .u64 (x : Int) 2 != 0) = bitB x 1 := by
  have h1 := bits_and_u64_nat x 2 hx (by decide)
  rw [show (2 : Int) = ((2 : Nat) : Int) from rfl, h1]
  have h2 : x &&& 2 = x / 2 % 2 * 2 := by
    refine Nat.eq_of_testBit_eq fun i => ?_
    have e : x / 2 % 2 * 2 = fieldN x 1 1 * 2 ^ 1 := rfl
    have hm : (2 : Nat) = maskN 1 1 := by decide
    rw [e, Nat.testBit_and, Nat.testBit_mul_two_pow, fieldN_bit]
    rw [show (2 : Nat).testBit i = (maskN 1 1).testBit i by rw [← hm], maskN_bit]
    by_cases h : 1 ≤ i
    · rw [show 1 + (i - 1) = i by omega]
      by_cases h3 : i < 1 + 1
      · simp [h, h3]; omega
      · simp [h, h3]; omega
    · simp [h]
  rw [h2]
  unfold bitB
  by_cases h : x / 2 ^ 1 % 2 = 1
  · rw [decide_eq_true h, bne_iff_ne]; omega
  · rw [decide_eq_false h, bne_eq_false_iff_eq]; omega

set_option maxHeartbeats 2000000 in
set_option maxRecDepth 100000 in
theorem split_calls (lv : Int) (x : Nat) (w : World) (hx : x < 18446744073709551616) :
    Calls Try.prog 75 #[.int .i64 lv, .int .u64 (x : Nat)] w (RetB w (descV (decK lv x) (decA x) (bitB x 6) (bitB x 7) (bitB x 8) (decS x : Nat))) := by
  have hA := and_addr x hx
  have hS := and_soft x hx
  have h6 := and_bit x 6 hx 64 (by simp only [Nat.reducePow]; omega)
  have h7 := and_bit x 7 hx 128 (by simp only [Nat.reducePow]; omega)
  have h8 := and_bit x 8 hx 256 (by simp only [Nat.reducePow]; omega)
  have h2 := and_two x hx
  have H := Lib.hid (And.intro hA (And.intro hS (And.intro h6 (And.intro h7 (And.intro h8 h2)))))
  clear hA hS h6 h7 h8 h2
  go_enter Try.func75, Try.ntmps75
  go_wp2
  all_goals
    obtain ⟨hA, hS, h6, h7, h8, h2⟩ := H.out
    rw [hA, hS, h6, h7, h8]
    have k9 : ∀ (C : Array Value) (t : TypeId) (o' : Obj) (i : Nat), ((w.alloc (.cells C t)).alloc o').cell? ⟨w.heap.size, i, none⟩ = C[i]? := fun C t o' i => cell_of (keep_old (old_alloc (old_refl _) o') (new_block w (.cells C t))) i
    clear hA hS h6 h7 h8
    refine bodyPost_ret (by simp [results, Try.results75, go_sem, k9]; try rfl) rfl ?_
    refine ⟨?_, old_alloc (old_alloc (old_refl w) _) _⟩
    clear k9
    unfold decK descV
    rw [← h2]
    clear H h2
    simp_all <;> rw [show (bits .and .u64 (x : Int) 2 != 0) = true from bne_iff_ne.2 (by assumption)] <;> rfl
end Go.Proofs.Ytlbehhbicmmdoaa
