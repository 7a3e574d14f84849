/- The statement WalkNear: its plain part. -/
import Derived.Test.YtlbehhbicmmdoaaWalkWay
import Derived.Test.YtlbehhbicmmdoaaWalkOut
namespace Go.Proofs.Ytlbehhbicmmdoaa
set_option linter.unusedVariables false
set_option linter.unusedSimpArgs false
open Go.RowKit

/-- Which word stands at an address. -/
def readO : List Nat → List Nat → Nat → Option Nat
  | a :: A, w :: W, x => if a = x then some w else readO A W x
  | _, _, _ => none
def readR (A W : List Nat) (x : Nat) : Nat := (readO A W x).getD 0
theorem readO_mem : ∀ (A W : List Nat) (x w : Nat), readO A W x = some w → w ∈ W
  | [], _, x, w, h => by cases h
  | _ :: _, [], x, w, h => by cases h
  | a :: A, v :: W, x, w, h => by
    unfold readO at h
    split at h
    · rw [Option.some.inj h]; exact List.mem_cons_self ..
    · exact List.mem_cons_of_mem _ (readO_mem A W x w h)
theorem readR_lt (A W : List Nat) (hW : ∀ w ∈ W, w < 18446744073709551616) (x : Nat) : readR A W x < 18446744073709551616 := by
  unfold readR
  cases h : readO A W x with
  | none => decide
  | some w => exact hW w (readO_mem A W x w h)
/-- A walk looks at its address by the indices of the levels that it visits alone. -/
theorem walk_near (raw : Nat → Nat) (st : Int) (a b : Nat) : ∀ (n lv root : Nat), (∀ k, k < (walkN raw (fun _ => true) st a n lv root).1.length → indexN b (lv + k) = indexN a (lv + k)) → walkN raw (fun _ => true) st b n lv root = walkN raw (fun _ => true) st a n lv root := by
  intro n
  induction n with
  | zero => intro lv root _; rfl
  | succ n ih =>
    intro lv root h
    have hone : 0 < (walkN raw (fun _ => true) st a (n + 1) lv root).1.length → atN root b lv = atN root a lv := fun hp => by
      have := h 0 hp
      unfold atN
      rw [Nat.add_zero] at this
      rw [this]
    by_cases h2 : decE st lv (raw (atN root a lv)) = 2
    · have e := walkN_range (raw := raw) (ok := fun _ => true) (n := n) rfl h2
      have e1 := hone (by rw [e]; simp)
      rw [e, ← e1] 
      rw [← e1] at h2
      exact walkN_range (raw := raw) (ok := fun _ => true) (n := n) rfl h2
    · by_cases h0 : decE st lv (raw (atN root a lv)) = 0
      · by_cases hk : (decD st lv (raw (atN root a lv))).k = 0
        · have e := walkN_none (raw := raw) (ok := fun _ => true) (n := n) rfl h0 hk
          have e1 := hone (by rw [e]; simp)
          rw [e, ← e1]
          rw [← e1] at h0 hk
          exact walkN_none (raw := raw) (ok := fun _ => true) (n := n) rfl h0 hk
        · by_cases hk1 : (decD st lv (raw (atN root a lv))).k = 1
          · have e := walkN_table (raw := raw) (ok := fun _ => true) (n := n) rfl h0 hk1
            have e1 := hone (by rw [e]; simp)
            have hr := ih (lv + 1) (decD st lv (raw (atN root a lv))).a (fun k hk' => by
              have := h (k + 1) (by rw [e]; simp; exact hk')
              rw [show lv + 1 + k = lv + (k + 1) by omega]
              exact this)
            rw [e, ← hr, ← e1]
            rw [← e1] at h0 hk1
            exact walkN_table (raw := raw) (ok := fun _ => true) (n := n) rfl h0 hk1
          · have e := walkN_leaf (raw := raw) (ok := fun _ => true) (n := n) rfl h0 hk hk1
            have e1 := hone (by rw [e]; simp)
            rw [e, ← e1]
            rw [← e1] at h0 hk hk1
            exact walkN_leaf (raw := raw) (ok := fun _ => true) (n := n) rfl h0 hk hk1
      · have e := walkN_form (raw := raw) (ok := fun _ => true) (n := n) rfl h2 h0
        have e1 := hone (by rw [e]; simp)
        rw [e, ← e1]
        rw [← e1] at h2 h0
        exact walkN_form (raw := raw) (ok := fun _ => true) (n := n) rfl h2 h0
/-- The other address: the same above the span. -/
def nearO (a low S : Nat) : Nat := a / S * S + low % S
theorem nearO_div (a low S : Nat) (h : 0 < S) : nearO a low S / S = a / S := by
  unfold nearO
  rw [Nat.add_comm, Nat.add_mul_div_right _ _ h, Nat.div_eq_of_lt (Nat.mod_lt _ h), Nat.zero_add]
theorem nearO_mod (a low S : Nat) (h : 0 < S) : nearO a low S % S = low % S := by
  unfold nearO
  rw [Nat.add_comm, Nat.add_mul_mod_self_right, Nat.mod_mod]
theorem nearO_index (a low L k : Nat) (hL : L ≤ 3) (hk : k ≤ L) : indexN (nearO a low (2 ^ (39 - 9 * L))) k = indexN a k := by
  have hp : 0 < 2 ^ (39 - 9 * L) := Nat.pow_pos (by decide)
  have key : ∀ x, indexN x k = x / 2 ^ (39 - 9 * L) / 2 ^ (9 * (L - k)) % 512 := by
    intro x
    unfold indexN fieldN
    rw [Nat.div_div_eq_div_mul, ← Nat.pow_add, show 12 + 9 * (3 - k) = 39 - 9 * L + 9 * (L - k) by omega]
  rw [key, key, nearO_div _ _ _ hp]
theorem nearO_lt (a low S : Nat) (hS : 0 < S) (hd : 18446744073709551616 % S = 0) (ha : a < 18446744073709551616) : nearO a low S < 18446744073709551616 := by
  unfold nearO
  have h1 := Nat.mod_lt low hS
  have h2 : a / S < 18446744073709551616 / S := by
    rw [Nat.div_lt_iff_lt_mul hS, Nat.div_mul_cancel (Nat.dvd_of_mod_eq_zero hd)]
    exact ha
  have h3 : (a / S + 1) * S ≤ 18446744073709551616 / S * S := Nat.mul_le_mul_right _ h2
  rw [Nat.div_mul_cancel (Nat.dvd_of_mod_eq_zero hd), Nat.add_mul] at h3
  omega
theorem lessN_low (a k : Nat) : lessN a (2 ^ k - 1) = a / 2 ^ k * 2 ^ k := by
  apply Nat.eq_of_testBit_eq
  intro i
  rw [lessN_bit, Nat.testBit_two_pow_sub_one, Nat.testBit_mul_two_pow]
  by_cases h : i < k
  · have h1 : ¬ k ≤ i := by omega
    simp [h, h1]
  · have h1 : k ≤ i := by omega
    rw [Nat.testBit_div_two_pow]
    simp [h, h1]
theorem near_bits (a low k : Nat) (ha : a < 18446744073709551616) (hl : low < 18446744073709551616) (hk : k ≤ 39) :
    bits .or .u64 (bits .andNot .u64 (a : Int) (((2 ^ k - 1 : Nat)) : Int)) (bits .and .u64 (low : Int) (((2 ^ k - 1 : Nat)) : Int)) = ((nearO a low (2 ^ k) : Nat) : Int) := by
  have hp : 2 ^ k ≤ 2 ^ 39 := Nat.pow_le_pow_right (by decide) hk
  have hm : 2 ^ k - 1 < 18446744073709551616 := by omega
  rw [bits_andNot_u64_nat _ _ ha hm, bits_and_u64_nat _ _ hl hm, lessN_low, Nat.and_two_pow_sub_one_eq_mod]
  have h1 : a / 2 ^ k * 2 ^ k ≤ a := Nat.div_mul_le_self _ _
  have h2 : low % 2 ^ k ≤ low := Nat.mod_le _ _
  rw [bits_or_u64_nat _ _ (by omega) (by omega)]
  unfold nearO
  rw [Nat.mul_comm (a / 2 ^ k), Nat.two_pow_add_eq_or_of_lt (Nat.mod_lt _ (Nat.pow_pos (by decide)))]
/-- Where the two come out. -/
theorem near_out (a low L : Nat) (hL : L ≤ 3) (k : Int) (d : Nat) (hk : k = 2 ∨ k = 3) :
    IntKind.u64.wrap (((outN (nearO a low (2 ^ (39 - 9 * L))) L k d : Nat) : Int) - ((outN a L k d : Nat) : Int)) = IntKind.u64.wrap (((nearO a low (2 ^ (39 - 9 * L)) : Nat) : Int) - (a : Int)) := by
  have hS : spanO (L : Nat) = 2 ^ (39 - 9 * L) := by
    unfold spanO
    rw [if_pos (by omega)]
    show spanN L = _
    rw [spanN_pow L hL, show 12 + 9 * (3 - L) = 39 - 9 * L by omega]
  have hp : 0 < 2 ^ (39 - 9 * L) := Nat.pow_pos (by decide)
  unfold outN
  rw [if_pos hk, if_pos hk, hS, nearO_mod _ _ _ hp]
  have h1 : a = a / 2 ^ (39 - 9 * L) * 2 ^ (39 - 9 * L) + a % 2 ^ (39 - 9 * L) := by rw [Nat.mul_comm]; exact (Nat.div_add_mod a _).symm
  unfold nearO
  generalize a / 2 ^ (39 - 9 * L) * 2 ^ (39 - 9 * L) = Q at *
  generalize a % 2 ^ (39 - 9 * L) = M at *
  generalize low % 2 ^ (39 - 9 * L) = M' at *
  subst h1
  rw [IntKind.wrap_u64, IntKind.wrap_u64]
  omega
end Go.Proofs.Ytlbehhbicmmdoaa
