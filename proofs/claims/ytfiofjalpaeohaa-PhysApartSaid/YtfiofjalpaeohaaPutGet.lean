/- What was put is got, part by part: plain. -/
import Derived.Test.YtfiofjalpaeohaaBitsPut
import Derived.Test.YtfiofjalpaeohaaBitsGet
namespace Go.Proofs.Ytfiofjalpaeohaa
set_option linter.unusedVariables false
set_option linter.unusedSimpArgs false
open Go.RowKit

theorem putL_at (l : List Nat) (p v : Nat) : ∀ (k i : Nat), (putL l p v k)[i]? = if p ≤ i ∧ i < p + k ∧ i < l.length then some (v / 2 ^ (8 * (i - p)) % 256) else l[i]?
  | 0, i => by rw [putL, if_neg (by omega)]
  | k + 1, i => by
    rw [putL, List.getElem?_set, putL_length]
    by_cases h : p + k = i
    · subst h
      by_cases hl : p + k < l.length
      · rw [if_pos rfl, if_pos hl, if_pos ⟨by omega, by omega, hl⟩, Nat.add_sub_cancel_left]
      · rw [if_pos rfl, if_neg hl, if_neg (by omega), List.getElem?_eq_none (by omega)]
    · rw [if_neg h, putL_at l p v k i]
      by_cases h2 : p ≤ i ∧ i < p + k ∧ i < l.length
      · rw [if_pos h2, if_pos ⟨h2.1, by omega, h2.2.2⟩]
      · rw [if_neg h2, if_neg (by omega)]
theorem get_put_part (l : List Nat) (p v i s : Nat) (h8 : i + s ≤ 8) (h : p + 8 ≤ l.length) : getN (putL l p v 8) (p + i) s = v / 2 ^ (8 * i) % 2 ^ (8 * s) := by
  have key : ∀ k, k ≤ s → getN (putL l p v 8) (p + i) k = v / 2 ^ (8 * i) % 2 ^ (8 * k) := by
    intro k
    induction k with
    | zero => intro _; simp [getN, Nat.mod_one]
    | succ k ih =>
      intro hk
      rw [getN, ih (by omega), List.getD_eq_getElem?_getD, putL_at, if_pos ⟨by omega, by omega, by omega⟩, Option.getD_some, show p + i + k - p = i + k by omega]
      rw [show 8 * (i + k) = 8 * i + 8 * k by omega, Nat.pow_add, ← Nat.div_div_eq_div_mul, show 8 * (k + 1) = 8 * k + 8 by omega, Nat.pow_add, Nat.mod_mul]
      rw [Nat.mul_comm (2 ^ (8 * k))]
  exact key s (Nat.le_refl _)
theorem put_zero (l : List Nat) (p v : Nat) (hv : v < 2 ^ 64) (hl : ∀ x ∈ l, x = 0) (h : p + 8 ≤ l.length) : (∀ x ∈ putL l p v 8, x = 0) ↔ v = 0 := by
  constructor
  · intro hz
    have h1 := get_put_part l p v 0 8 (by omega) h
    have h2 : ∀ k, getN (putL l p v 8) (p + 0) k = 0 := by
      intro k
      induction k with
      | zero => rfl
      | succ k ih =>
        rw [getN, ih, List.getD_eq_getElem?_getD]
        cases hx : (putL l p v 8)[p + 0 + k]? with
        | none => simp
        | some x => simp [hz x (List.mem_of_getElem? hx)]
    rw [h2] at h1
    simp at h1
    omega
  · rintro rfl x hx
    obtain ⟨i, hi⟩ := List.mem_iff_getElem?.1 hx
    rw [putL_at] at hi
    split at hi
    · simp at hi; exact hi.symm
    · exact hl x (List.mem_of_getElem? hi)
/-- The upper part, and the next one below. -/
theorem or_next (v m s : Nat) (hs : s ≤ m) (h64 : v < 18446744073709551616) : bits .or .u64 ((v / 2 ^ (8 * m) * 2 ^ (8 * s) : Nat) : Int) ((v / 2 ^ (8 * (m - s)) % 2 ^ (8 * s) : Nat) : Int) = ((v / 2 ^ (8 * (m - s)) : Nat) : Int) := by
  have hd : v / 2 ^ (8 * m) = v / 2 ^ (8 * (m - s)) / 2 ^ (8 * s) := by
    rw [Nat.div_div_eq_div_mul, ← Nat.pow_add]
    congr 2
    omega
  have hle : v / 2 ^ (8 * (m - s)) ≤ v := Nat.div_le_self _ _
  rw [hd]
  generalize v / 2 ^ (8 * (m - s)) = y at *
  have hor : y / 2 ^ (8 * s) * 2 ^ (8 * s) ||| y % 2 ^ (8 * s) = y := by
    rw [Nat.mul_comm, ← Nat.two_pow_add_eq_or_of_lt (Nat.mod_lt _ (Nat.two_pow_pos _))]
    exact Nat.div_add_mod y _
  have h1 : y / 2 ^ (8 * s) * 2 ^ (8 * s) ≤ y := Nat.div_mul_le_self _ _
  have h2 : y % 2 ^ (8 * s) ≤ y := Nat.mod_le _ _
  show IntKind.u64.wrap ((BitVec.ofInt 64 _ ||| BitVec.ofInt 64 _).toNat : Int) = _
  rw [BitVec.toNat_or, BitVec.ofInt_natCast, BitVec.ofInt_natCast, BitVec.toNat_ofNat, BitVec.toNat_ofNat, Nat.mod_eq_of_lt (by omega), Nat.mod_eq_of_lt (by omega), hor]
  exact IntWalk.u64_in _ (by omega)
end Go.Proofs.Ytfiofjalpaeohaa
