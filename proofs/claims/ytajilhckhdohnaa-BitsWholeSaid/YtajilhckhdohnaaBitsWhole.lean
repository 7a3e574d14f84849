/- The statement BitsWhole: its walk. -/
import Derived.Test.YtajilhckhdohnaaBitsSpans
namespace Go.Proofs.Ytajilhckhdohnaa
set_option linter.unusedVariables false
set_option linter.unusedSimpArgs false
open Go.RowKit

theorem set_field (w low n v : Nat) (h : low + n ≤ 64) : fieldN (setN w low n v) low n = v &&& maskN 0 n := by
  refine Nat.eq_of_testBit_eq fun i => ?_
  rw [fieldN_bit, setN_bit _ _ _ _ _ h, Nat.testBit_and, maskN_bit]
  by_cases hi : i < n
  · rw [if_pos ⟨by omega, by omega⟩, show low + i - low = i by omega]
    simp [hi]
  · simp [hi]
theorem set_less (w low n v : Nat) (h : low + n ≤ 64) : lessN (setN w low n v) (maskN low n) = lessN w (maskN low n) := by
  refine Nat.eq_of_testBit_eq fun i => ?_
  rw [lessN_bit, lessN_bit, setN_bit _ _ _ _ _ h, maskN_bit]
  by_cases hi : low ≤ i ∧ i < low + n
  · rw [if_pos hi]
    simp [hi.1, hi.2]
  · rw [if_neg hi]
theorem set_back (w low n v : Nat) (h : low + n ≤ 64) : setN (setN w low n v) low n (fieldN w low n) = w := by
  refine Nat.eq_of_testBit_eq fun i => ?_
  rw [setN_bit _ _ _ _ _ h, setN_bit _ _ _ _ _ h, fieldN_bit]
  by_cases hi : low ≤ i ∧ i < low + n
  · rw [if_pos hi, show low + (i - low) = i by omega]
    have : i - low < n := by omega
    simp [this]
  · rw [if_neg hi, if_neg hi]

theorem ones_value (n : Nat) (h1 : 1 ≤ n) (h : n ≤ 64) : IntKind.u64.wrap (IntKind.u64.wrap (2 ^ n) - 1) = ((maskN 0 n : Nat) : Int) := by
  have h := mask_value 0 n h1 (by omega)
  rw [show (2 : Int) ^ 0 = 1 from rfl, Int.mul_one] at h
  rw [← h]
  generalize IntKind.u64.wrap (2 ^ n) - 1 = z
  rw [IntKind.wrap_u64, IntKind.wrap_u64]
  omega
theorem mask_shift (lo n : Nat) : maskN 0 n * 2 ^ lo = maskN lo n := by
  unfold maskN
  rw [Nat.pow_zero, Nat.mul_one]

/-- The lowest bits of an address, and its indices so far. -/
def sumN (x k : Nat) : Nat := x % 4096 + baseN x k
theorem sum_all (x : Nat) : sumN x 4 = x % 281474976710656 := by
  obtain ⟨_, _, _, _, b4⟩ := base_vals x
  unfold sumN
  rw [b4]
  omega
theorem sum_wrap (x k : Nat) (hk : k ≤ 3) : IntKind.u64.wrap (((sumN x k : Nat) : Int) + (prodN x k : Nat)) = (sumN x (k + 1) : Nat) := by
  have := base_le x (k + 1) (by omega)
  have e : sumN x (k + 1) = sumN x k + prodN x k := by unfold sumN; rw [baseN]; omega
  have e2 : sumN x (k + 1) ≤ 4096 + 281474976710656 := by unfold sumN; omega
  rw [← Int.natCast_add, ← e, IntKind.wrap_u64]
  omega
theorem and4095 (x : Nat) (hx : x < 18446744073709551616) : bits .and .u64 (x : Int) 4095 = ((sumN x 0 : Nat) : Int) := by
  have := bits_and_u64_nat x 4095 hx (by decide)
  rw [show (4095 : Nat) = 2 ^ 12 - 1 from rfl, Nat.and_two_pow_sub_one_eq_mod] at this
  exact this

set_option maxHeartbeats 4000000 in
set_option maxRecDepth 100000 in
theorem bitsWhole_walk (x : Int) (hx0 : (Lit.int .u64 x).wf = true) (y : Int) (hy0 : (Lit.int .u64 y).wf = true) (l : Int) (_ : (Lit.int .i64 l).wf = true) (n : Int) (_ : (Lit.int .i64 n).wf = true) (v : Int) (hv0 : (Lit.int .u64 v).wf = true) (w : World) :
    Calls Try.prog 7 #[.int .u64 x, .int .u64 y, .int .i64 l, .int .i64 n, .int .u64 v] w (RetB w (.bool true)) := by
  obtain ⟨x, rfl, hx⟩ := wf_u64 hx0
  obtain ⟨y, rfl, hy⟩ := wf_u64 hy0
  obtain ⟨v, rfl, hv⟩ := wf_u64 hv0
  clear hx0 hy0 hv0
  have hml := i64_mask63 l
  have hmn := i64_mask63 n
  obtain ⟨lo, hlo⟩ : ∃ lo : Nat, l % 64 = lo := ⟨(l % 64).toNat, by omega⟩
  have hlo63 : lo ≤ 63 := by omega
  rw [hlo] at hml
  clear hlo
  obtain ⟨m, hm⟩ : ∃ m : Nat, n % 64 = m := ⟨(n % 64).toNat, by omega⟩
  rw [hm] at hmn
  clear hm
  have hmod : ((m : Int)).tmod (64 - lo) = ((m % (64 - lo) : Nat) : Int) := by
    rw [Int.tmod_eq_emod_of_nonneg (Int.natCast_nonneg _), show (64 : Int) - lo = ((64 - lo : Nat) : Int) by omega]
    exact (Int.natCast_emod _ _).symm
  have hlt : m % (64 - lo) < 64 - lo := Nat.mod_lt _ (by omega)
  generalize m % (64 - lo) = q at *
  have ha := and4095 x hx
  have ha48 := and48 x hx
  rw [← sum_all x] at ha48
  go_enter Try.func7, Try.ntmps7
  go_wp2
  go_loopw [11, 12] (fun b i wr => ∃ k : Nat, i = .int .i64 k ∧ k ≤ 4 ∧ b = .int .u64 (sumN x k : Nat) ∧ Old w wr) (fun _ i _ => (5 - intOf i).toNat)
  case atStart => exact ⟨0, rfl, by omega, rfl, old_refl _⟩
  case round =>
    obtain ⟨k, rfl, hk, rfl, hO⟩ := hrel
    by_cases hk4 : k < 4
    · clear ha ha48
      have hp := prod_wrap x k (by omega)
      have hb := sum_wrap x k (by omega)
      have hilt := indexN_lt x k
      go_wp2_with (first | (go_at_call 24; (with_reducible refine (index_yes x k x k rfl rfl _ hx (by omega)).mono ?_); rintro e w9 ⟨rfl, hb9⟩; replace hO := old_then hO hb9; clear hb9) | (go_at_call 26; (with_reducible refine (span_yes k k rfl _ (by omega)).mono ?_); rintro e w9 ⟨rfl, hb9⟩; replace hO := old_then hO hb9; clear hb9))
      go_roundw
      case rel => exact ⟨k + 1, by go_num, by omega, rfl, hO⟩
      case measure => (simp [intOf]) <;> omega
    · obtain rfl : k = 4 := by omega
      clear ha
      go_upto_region 8 with (fail)
      go_upto_if 39 with (fail)
      go_cut [13] (fun s13 wx => s13 = .int .u64 (maskN 0 (q + 1) : Nat) ∧ Old w wx)
      case first =>
        by_cases h63 : q = 63
        · subst h63
          go_wp2
          go_meet
          case rel => exact ⟨rfl, hO⟩
        · have hq : q < 63 := by omega
          go_wp2
          go_meet
          case rel =>
            refine ⟨?_, hO⟩
            rw [Nat.add_comm 1 q, ones_value (q + 1) (by omega) (by omega)]
      case rest =>
        obtain ⟨rfl, hO⟩ := hcut
        have h2 : lo + (q + 1) ≤ 64 := by omega
        have hX := setN_lt y lo (q + 1) v hy h2
        have hF : fieldN (setN y lo (q + 1) v) lo (q + 1) = v &&& maskN 0 (q + 1) := set_field y lo (q + 1) v h2
        have hD : lessN (setN y lo (q + 1) v) (maskN lo (q + 1)) = lessN y (maskN lo (q + 1)) := set_less y lo (q + 1) v h2
        have hB := set_back y lo (q + 1) v h2
        have hml2 := maskN_lt lo (q + 1) h2
        have hC1 : ∀ w : World, Calls Try.prog 22 #[.int .u64 y, .int .i64 lo, .int .i64 (1 + q), .int .u64 v] w (RetB w (.int .u64 (setN y lo (q + 1) v : Nat))) := fun w => set_yes y lo (1 + q) v y lo (q + 1) v rfl rfl (by omega) rfl w hy (by omega) h2
        have hC2 : ∀ w : World, Calls Try.prog 20 #[.int .u64 (setN y lo (q + 1) v : Nat), .int .i64 lo, .int .i64 (1 + q)] w (RetB w (.int .u64 (fieldN (setN y lo (q + 1) v) lo (q + 1) : Nat))) := fun w => field_yes _ lo (1 + q) _ lo (q + 1) rfl rfl (by omega) w hX (by omega) h2
        have hC3 : ∀ w : World, Calls Try.prog 20 #[.int .u64 y, .int .i64 lo, .int .i64 (1 + q)] w (RetB w (.int .u64 (fieldN y lo (q + 1) : Nat))) := fun w => field_yes _ lo (1 + q) _ lo (q + 1) rfl rfl (by omega) w hy (by omega) h2
        have hC4 : ∀ w : World, Calls Try.prog 22 #[.int .u64 (setN y lo (q + 1) v : Nat), .int .i64 lo, .int .i64 (1 + q), .int .u64 (fieldN y lo (q + 1) : Nat)] w (RetB w (.int .u64 (setN (setN y lo (q + 1) v) lo (q + 1) (fieldN y lo (q + 1)) : Nat))) := fun w => set_yes _ lo (1 + q) _ _ lo (q + 1) _ rfl rfl (by omega) rfl w hX (by omega) h2
        have hand := bits_and_u64_nat v (maskN 0 (q + 1)) hv (maskN_lt 0 (q + 1) (by omega))
        have hsh : IntKind.u64.wrap (((maskN 0 (q + 1) : Nat) : Int) * 2 ^ lo) = (maskN lo (q + 1) : Nat) := by
          rw [show ((maskN 0 (q + 1) : Nat) : Int) * 2 ^ lo = ((maskN lo (q + 1) : Nat) : Int) by rw [← mask_shift lo (q + 1), Int.natCast_mul, Int.natCast_pow]; rfl, IntKind.wrap_u64]
          omega
        have hl1 := bits_andNot_u64_nat (setN y lo (q + 1) v) (maskN lo (q + 1)) hX hml2
        have hl2 := bits_andNot_u64_nat y (maskN lo (q + 1)) hy hml2
        rw [hB] at hC4
        rw [hF] at hC2
        rw [hD] at hl1
        clear hB hF hD
        generalize setN y lo (q + 1) v = X at *
        generalize v &&& maskN 0 (q + 1) = F at *
        generalize lessN y (maskN lo (q + 1)) = D at *
        generalize maskN lo (q + 1) = M at *
        generalize maskN 0 (q + 1) = K at *
        generalize fieldN y lo (q + 1) = G at *
        generalize sumN x 4 = S at *
        go_wp2_with (first | (go_at_call 19; (with_reducible refine (bitsTold_calls _).mono ?_); rintro e w9 ⟨rfl, hb9⟩; replace hO := old_then hO hb9; clear hb9) | (go_at_call 22; (first | (with_reducible refine (hC1 _).mono ?_) | (with_reducible refine (hC4 _).mono ?_)); rintro e w9 ⟨rfl, hb9⟩; replace hO := old_then hO hb9; clear hb9) | (go_at_call 20; (first | (with_reducible refine (hC2 _).mono ?_) | (with_reducible refine (hC3 _).mono ?_)); rintro e w9 ⟨rfl, hb9⟩; replace hO := old_then hO hb9; clear hb9))
        go_ret
        exact ⟨rfl, hO⟩
end Go.Proofs.Ytajilhckhdohnaa
