/- Contracts of the packages bits and demesneref4: the number at a place. -/
import Derived.Test.YtfiofjalpaeohaaBitsBad
import Derived.Test.YtfiofjalpaeohaaBytes
namespace Go.Proofs.Ytfiofjalpaeohaa
set_option linter.unusedVariables false
set_option linter.unusedSimpArgs false
open Go.RowKit

/-- The number that k bytes make, the lowest first. -/
def getN (l : List Nat) (p : Nat) : Nat → Nat
  | 0 => 0
  | k + 1 => getN l p k + l.getD (p + k) 0 * 2 ^ (8 * k)

theorem getN_lt {l : List Nat} (hl : ∀ x ∈ l, x < 256) (p k : Nat) : getN l p k < 2 ^ (8 * k) := by
  induction k with
  | zero => simp [getN]
  | succ k ih =>
    have hx : l.getD (p + k) 0 < 256 := by
      rw [List.getD_eq_getElem?_getD]
      cases e : l[p + k]? with
      | none => simp
      | some x => exact hl x (List.mem_of_getElem? e)
    have e : (2 : Nat) ^ (8 * (k + 1)) = 256 * 2 ^ (8 * k) := by rw [show 8 * (k + 1) = 8 + 8 * k by omega, Nat.pow_add]
    show getN l p k + l.getD (p + k) 0 * 2 ^ (8 * k) < _
    rw [e]
    calc getN l p k + l.getD (p + k) 0 * 2 ^ (8 * k) < 2 ^ (8 * k) + l.getD (p + k) 0 * 2 ^ (8 * k) := by omega
      _ = (l.getD (p + k) 0 + 1) * 2 ^ (8 * k) := by rw [Nat.add_mul, Nat.one_mul, Nat.add_comm]
      _ ≤ 256 * 2 ^ (8 * k) := Nat.mul_le_mul_right _ (by omega)

/-- One byte more. -/
theorem get_step {l : List Nat} (hl : ∀ x ∈ l, x < 256) {p k x : Nat} (hx : l[p + k]? = some x) (hk : k < 8) :
    bits .or .u64 ((getN l p k : Nat) : Int) (IntKind.u64.wrap ((x : Int) * 2 ^ (8 * k))) = (getN l p (k + 1) : Nat) := by
  have h0 : getN l p (k + 1) = getN l p k + x * 2 ^ (8 * k) := by
    show getN l p k + l.getD (p + k) 0 * 2 ^ (8 * k) = _
    rw [List.getD_eq_getElem?_getD, hx]; rfl
  have h1 := getN_lt hl p k
  have h2 := getN_lt hl p (k + 1)
  have h3 : (2 : Nat) ^ (8 * (k + 1)) ≤ 18446744073709551616 := by rw [← two64]; exact Nat.pow_le_pow_right (by decide) (by omega)
  have h4 : IntKind.u64.wrap ((x : Int) * 2 ^ (8 * k)) = ((x * 2 ^ (8 * k) : Nat) : Int) := by
    rw [show (x : Int) * 2 ^ (8 * k) = ((x * 2 ^ (8 * k) : Nat) : Int) by rw [Int.natCast_mul, Int.natCast_pow]; rfl, IntKind.wrap_u64]
    omega
  rw [h4, bits_or_u64_nat _ _ (by omega) (by omega), h0]
  have h5 := Nat.two_pow_add_eq_or_of_lt h1 x
  rw [Nat.or_comm, Nat.mul_comm x, ← h5, Nat.add_comm]

set_option maxHeartbeats 2000000 in
theorem get_fail (ad : Option Addr) (n c : Nat) (p s : Int) (w : World) (hn : n ≤ maxLen) (e : Int) (he : checkN n p s = e) (h0 : e ≠ 0) : Calls Try.prog 82 #[.slice ad n c, .int .i64 p, .int .i64 s] w (RetB w (.tuple #[.int .u64 0, .int .i64 e])) := by
  have hb : (e != 0) = true := bne_iff_ne.2 h0
  go_enter Try.func82, Try.ntmps82
  go_wp2_with fail
  (with_reducible refine (check_calls ad n c p s _ hn).mono ?_)
  rw [he]
  rintro e w1 ⟨rfl, hb1⟩
  go_wp2
  go_ret2
  exact ⟨rfl, hb1⟩

set_option maxHeartbeats 2000000 in
theorem get_ok (ad : Option Addr) (l : List Nat) (c : Nat) (pi si : Int) (p s : Nat) (hp : pi = p) (hs : si = s) (w : World) (hB : Bytes w ad c l) (h0 : checkN l.length p s = 0) (hps : p + s ≤ l.length) (hs1 : 1 ≤ s) (hs8 : s ≤ 8) :
    Calls Try.prog 82 #[.slice ad l.length c, .int .i64 pi, .int .i64 si] w (RetB w (.tuple #[.int .u64 (getN l p s : Nat), .int .i64 0])) := by
  subst hp hs
  have hn : l.length ≤ maxLen := Nat.le_trans hB.1 hB.2.1
  have hn63 : l.length ≤ 9223372036854775807 := hn
  obtain ⟨bb, off, rfl, hcells⟩ := bytes_some hB (by omega)
  go_enter Try.func82, Try.ntmps82
  go_wp2_with fail
  (with_reducible refine (check_calls _ _ c p s _ hn).mono ?_)
  rw [h0]
  rintro e w1 ⟨rfl, hb1⟩
  have hB1 := bytes_old hB hb1
  clear hB h0
  go_wp2
  go_loopw [9, 19] (fun v i wr => ∃ k : Nat, i = .int .i64 k ∧ k ≤ s ∧ v = .int .u64 (getN l p k : Nat) ∧ Old w wr ∧ Old w1 wr) (fun _ i _ => (9 - intOf i).toNat)
  case atStart => exact ⟨0, rfl, by omega, rfl, hb1, old_refl _⟩
  case round =>
    clear hb1
    obtain ⟨k, rfl, hk, rfl, hO, hO1⟩ := hrel
    by_cases hks : k < s
    · obtain ⟨x, bb', off', hx, hx256, e, hbl, hc⟩ := bytes_at (bytes_old hB1 hO1) (p + k) (by omega)
      cases e
      have hst := get_step (bytes_lt hB1) hx (by omega)
      have HB := Lib.hid hB1
      have HC := Lib.hid hcells
      clear hB1 hcells hx
      go_wp2
      go_roundw
      case rel => exact ⟨k + 1, by go_num, by omega, rfl, hO, hO1⟩
      case measure => (simp [intOf]) <;> omega
    · have hks' : k = s := by omega
      subst hks'
      clear hB1 hcells
      go_wp2
      go_ret2
      exact ⟨rfl, hO⟩

theorem getN_front (l : List Nat) (p k : Nat) : getN l p (k + 1) = l.getD p 0 + 256 * getN l (p + 1) k := by
  induction k with
  | zero => simp [getN]
  | succ k ih =>
    show getN l p (k + 1) + l.getD (p + (k + 1)) 0 * 2 ^ (8 * (k + 1)) = l.getD p 0 + 256 * (getN l (p + 1) k + l.getD (p + 1 + k) 0 * 2 ^ (8 * k))
    rw [ih, show p + (k + 1) = p + 1 + k by omega, show (2 : Nat) ^ (8 * (k + 1)) = 256 * 2 ^ (8 * k) by rw [show 8 * (k + 1) = 8 + 8 * k by omega, Nat.pow_add], Nat.mul_add, Nat.mul_left_comm]
    omega

theorem refGet_step {l : List Nat} (hl : ∀ x ∈ l, x < 256) {p k x : Nat} (hx : l[p]? = some x) (hk : k < 8) :
    IntKind.u64.wrap (IntKind.u64.wrap (((getN l (p + 1) k : Nat) : Int) * 256) + (x : Int)) = (getN l p (k + 1) : Nat) := by
  have h0 := getN_front l p k
  have h1 := getN_lt hl p (k + 1)
  have h3 : (2 : Nat) ^ (8 * (k + 1)) ≤ 18446744073709551616 := by rw [← two64]; exact Nat.pow_le_pow_right (by decide) (by omega)
  rw [List.getD_eq_getElem?_getD, hx] at h0
  simp only [Option.getD_some] at h0
  rw [IntKind.wrap_u64, IntKind.wrap_u64]
  omega

end Go.Proofs.Ytfiofjalpaeohaa
