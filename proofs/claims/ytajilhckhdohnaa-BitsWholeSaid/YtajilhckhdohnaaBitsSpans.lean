/- The statement BitsSpans: its walk. -/
import Derived.Test.YtajilhckhdohnaaBitsFields
namespace Go.Proofs.Ytajilhckhdohnaa
set_option linter.unusedVariables false
set_option linter.unusedSimpArgs false
open Go.RowKit

def prodN (x k : Nat) : Nat := indexN x k * spanN k
/-- The part of an address above a level. -/
def baseN (x : Nat) : Nat → Nat
  | 0 => 0
  | k + 1 => baseN x k + prodN x k

theorem and48 (x : Nat) (hx : x < 18446744073709551616) : bits .and .u64 (x : Int) 281474976710655 = ((x % 281474976710656 : Nat) : Int) := by
  have := bits_and_u64_nat x 281474976710655 hx (by decide)
  rw [show (281474976710655 : Nat) = 2 ^ 48 - 1 from rfl, Nat.and_two_pow_sub_one_eq_mod] at this
  exact this

theorem index_lit (x k : Nat) (hk : k ≤ 3) : indexN x k = x / spanN k % 512 := (indexN_div x k hk).symm

theorem base_vals (x : Nat) : baseN x 0 = 0 ∧ baseN x 1 = x / 549755813888 % 512 * 549755813888 ∧ baseN x 2 = x / 549755813888 % 512 * 549755813888 + x / 1073741824 % 512 * 1073741824 ∧
    baseN x 3 = x / 549755813888 % 512 * 549755813888 + x / 1073741824 % 512 * 1073741824 + x / 2097152 % 512 * 2097152 ∧ baseN x 4 = x / 549755813888 % 512 * 549755813888 + x / 1073741824 % 512 * 1073741824 + x / 2097152 % 512 * 2097152 + x / 4096 % 512 * 4096 := by
  have e0 := index_lit x 0 (by decide)
  have e1 := index_lit x 1 (by decide)
  have e2 := index_lit x 2 (by decide)
  have e3 := index_lit x 3 (by decide)
  have s0 : spanN 0 = 549755813888 := rfl
  have s1 : spanN 1 = 1073741824 := rfl
  have s2 : spanN 2 = 2097152 := rfl
  have s3 : spanN 3 = 4096 := rfl
  rw [s0] at e0; rw [s1] at e1; rw [s2] at e2; rw [s3] at e3
  simp only [baseN, prodN, e0, e1, e2, e3, s0, s1, s2, s3, Nat.zero_add]
  exact ⟨trivial, trivial, trivial, trivial, trivial⟩

theorem prod_le (x k : Nat) (hk : k ≤ 3) : prodN x k ≤ 512 * 549755813888 := by
  unfold prodN
  have h1 := indexN_lt x k
  have h2 : spanN k ≤ 549755813888 := by
    obtain rfl | rfl | rfl | rfl : k = 0 ∨ k = 1 ∨ k = 2 ∨ k = 3 := by omega
    all_goals decide
  exact Nat.mul_le_mul (by omega) h2

theorem base_le (x k : Nat) (hk : k ≤ 4) : baseN x k ≤ 281474976710656 := by
  obtain ⟨b0, b1, b2, b3, b4⟩ := base_vals x
  obtain rfl | rfl | rfl | rfl | rfl : k = 0 ∨ k = 1 ∨ k = 2 ∨ k = 3 ∨ k = 4 := by omega
  all_goals omega

theorem prod_wrap (x k : Nat) (hk : k ≤ 3) : IntKind.u64.wrap (((indexN x k : Nat) : Int) * (spanN k : Nat)) = (prodN x k : Nat) := by
  have := prod_le x k hk
  rw [← Int.natCast_mul, show indexN x k * spanN k = prodN x k from rfl, IntKind.wrap_u64]
  omega
theorem base_wrap (x k : Nat) (hk : k ≤ 3) : IntKind.u64.wrap (((baseN x k : Nat) : Int) + (prodN x k : Nat)) = (baseN x (k + 1) : Nat) := by
  have := base_le x (k + 1) (by omega)
  rw [← Int.natCast_add, show baseN x k + prodN x k = baseN x (k + 1) from rfl, IntKind.wrap_u64]
  omega

/-- An address lies in its entry's span. -/
theorem in_span (x k : Nat) (hk : k ≤ 3) : baseN x (k + 1) ≤ x % 281474976710656 ∧ x % 281474976710656 < baseN x (k + 1) + spanN k := by
  obtain ⟨b0, b1, b2, b3, b4⟩ := base_vals x
  obtain rfl | rfl | rfl | rfl : k = 0 ∨ k = 1 ∨ k = 2 ∨ k = 3 := by omega
  · rw [b1, show spanN 0 = 549755813888 from rfl]; omega
  · rw [b2, show spanN 1 = 1073741824 from rfl]; omega
  · rw [b3, show spanN 2 = 2097152 from rfl]; omega
  · rw [b4, show spanN 3 = 4096 from rfl]; omega

theorem next_index (x k : Nat) (hk : k ≤ 3) (hx : x < 18446744073709551616) : indexN ((x + spanN k) % 18446744073709551616) k = (indexN x k + 1) % 512 := by
  rw [index_lit _ _ hk, index_lit _ _ hk]
  obtain rfl | rfl | rfl | rfl : k = 0 ∨ k = 1 ∨ k = 2 ∨ k = 3 := by omega
  · rw [show spanN 0 = 549755813888 from rfl]; omega
  · rw [show spanN 1 = 1073741824 from rfl]; omega
  · rw [show spanN 2 = 2097152 from rfl]; omega
  · rw [show spanN 3 = 4096 from rfl]; omega

theorem span_512 (k : Nat) (hk : k < 3) : IntKind.u64.wrap (512 * ((spanN (k + 1) : Nat) : Int)) = (spanN k : Nat) := by
  obtain rfl | rfl | rfl : k = 0 ∨ k = 1 ∨ k = 2 := by omega
  all_goals rfl

set_option maxHeartbeats 4000000 in
set_option maxRecDepth 100000 in
theorem bitsSpans_walk (x : Int) (hx0 : (Lit.int .u64 x).wf = true) (l : Int) (_ : (Lit.int .i64 l).wf = true) (w : World) :
    Calls Try.prog 8 #[.int .u64 x, .int .i64 l] w (RetB w (.bool true)) := by
  obtain ⟨x, rfl, hx⟩ := wf_u64 hx0
  clear hx0
  have hm := i64_mask3 l
  obtain ⟨L, hL⟩ : ∃ L : Nat, l % 4 = L := ⟨(l % 4).toNat, by omega⟩
  have hL3 : L ≤ 3 := by omega
  rw [hL] at hm
  clear hL
  have ha := and48 x hx
  have hin := in_span x L hL3
  generalize x % 281474976710656 = a at *
  have hp := prod_wrap x L hL3
  have hb := base_wrap x L hL3
  have hilt := indexN_lt x L
  have hble := base_le x (L + 1) (by omega)
  have hbs : baseN x (L + 1) = baseN x L + prodN x L := rfl
  have hnx := next_index x L hL3 hx
  go_enter Try.func8, Try.ntmps8
  go_upto_region 2 with (fail)
  go_cut [22] (fun s22 wx => s22 = .bool false ∧ Old w wx)
  case first =>
    by_cases h3 : L < 3
    · have h512 := span_512 L h3
      have HH := Lib.hid hin
      clear hin hp hb hbs hnx hble hilt ha
      go_wp2_with fail
      (with_reducible refine (span_yes L L rfl _ hL3).mono ?_)
      rintro e w1 ⟨rfl, hb1⟩
      go_wp2_with fail
      (with_reducible refine (span_yes _ (L + 1) (by omega) _ (by omega)).mono ?_)
      rintro e w2 ⟨rfl, hb2⟩
      have hO := old_then hb1 hb2
      go_wp2
      go_meet
      case rel => exact ⟨rfl, hO⟩
    · go_wp2
      go_meet
      case rel => exact ⟨rfl, old_refl _⟩
  case rest =>
    obtain ⟨rfl, hcut⟩ := hcut
    go_wp2_with fail
    (with_reducible refine (index_yes x L x L rfl rfl _ hx hL3).mono ?_)
    rintro e w1 ⟨rfl, hb1⟩
    have hO1 := old_then hcut hb1
    clear hcut hb1
    go_wp2
    go_loopw [8, 9] (fun b i wr => ∃ k : Nat, i = .int .i64 k ∧ k ≤ L ∧ b = .int .u64 (baseN x k : Nat) ∧ Old w wr) (fun _ i _ => (4 - intOf i).toNat)
    case atStart => exact ⟨0, rfl, by omega, rfl, hO1⟩
    case round =>
      clear hO1
      obtain ⟨k, rfl, hk, rfl, hO⟩ := hrel
      by_cases hkL : k < L
      · clear hp hb hilt hnx
        have hp := prod_wrap x k (by omega)
        have hb := base_wrap x k (by omega)
        have hilt := indexN_lt x k
        go_wp2_with (first | (go_at_call 24; (with_reducible refine (index_yes x k x k rfl rfl _ hx (by omega)).mono ?_); rintro e w9 ⟨rfl, hb9⟩; replace hO := old_then hO hb9; clear hb9) | (go_at_call 26; (with_reducible refine (span_yes k k rfl _ (by omega)).mono ?_); rintro e w9 ⟨rfl, hb9⟩; replace hO := old_then hO hb9; clear hb9))
        go_roundw
        case rel => exact ⟨k + 1, by go_num, by omega, rfl, hO⟩
        case measure => (simp [intOf]) <;> omega
      · obtain rfl : k = L := by omega
        generalize hY : (x + spanN k) % 18446744073709551616 = Y at *
        have hadd : IntKind.u64.wrap ((x : Int) + (spanN k : Nat)) = (Y : Nat) := by rw [← hY, IntKind.wrap_u64]; omega
        have hY64 : Y < 18446744073709551616 := by rw [← hY]; exact Nat.mod_lt _ (by decide)
        have hspan : spanN k ≤ 549755813888 := by
          obtain rfl | rfl | rfl | rfl : k = 0 ∨ k = 1 ∨ k = 2 ∨ k = 3 := by omega
          all_goals decide
        clear hY
        have hC1 : ∀ w : World, Calls Try.prog 26 #[.int .i64 k] w (RetB w (.int .u64 (spanN k : Nat))) := fun w => span_yes k k rfl w hL3
        have hC2 : ∀ w : World, Calls Try.prog 24 #[.int .u64 Y, .int .i64 k] w (RetB w (.int .i64 (indexN Y k : Nat))) := fun w => index_yes Y k Y k rfl rfl w hY64 hL3
        generalize indexN Y k = j at *
        generalize indexN x k = i at *
        generalize spanN k = s at *
        generalize baseN x k = b at *
        generalize prodN x k = pr at *
        generalize baseN x (k + 1) = t at *
        have hw1 : IntKind.u64.wrap ((a : Int) - b) = ((a - b : Nat) : Int) := by rw [IntKind.wrap_u64]; omega
        have hw2 : IntKind.u64.wrap (((a - b : Nat) : Int) - pr) = ((a - b - pr : Nat) : Int) := by rw [IntKind.wrap_u64]; omega
        have hlt : a - b - pr < s := by omega
        generalize a - b - pr = d at *
        generalize a - b = c at *
        go_wp2_with (first | (go_at_call 19; (with_reducible refine (bitsTold_calls _).mono ?_); rintro e w9 ⟨rfl, hb9⟩; replace hO := old_then hO hb9; clear hb9) | (go_at_call 24; (with_reducible refine (hC2 _).mono ?_); rintro e w9 ⟨rfl, hb9⟩; replace hO := old_then hO hb9; clear hb9) | (go_at_call 26; (with_reducible refine (hC1 _).mono ?_); rintro e w9 ⟨rfl, hb9⟩; replace hO := old_then hO hb9; clear hb9))
        go_ret
        exact ⟨rfl, hO⟩
end Go.Proofs.Ytajilhckhdohnaa
