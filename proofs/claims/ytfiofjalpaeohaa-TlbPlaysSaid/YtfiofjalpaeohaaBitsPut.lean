/- Contracts of the packages bits and demesneref4: a number put in. -/
import Derived.Test.YtfiofjalpaeohaaBitsGet
namespace Go.Proofs.Ytfiofjalpaeohaa
set_option linter.unusedVariables false
set_option linter.unusedSimpArgs false
open Go.RowKit

/-- Bytes with a number put in. -/
def putL (l : List Nat) (p v : Nat) : Nat → List Nat
  | 0 => l
  | k + 1 => (putL l p v k).set (p + k) (v / 2 ^ (8 * k) % 256)
theorem putL_length (l : List Nat) (p v k : Nat) : (putL l p v k).length = l.length := by
  induction k with
  | zero => rfl
  | succ k ih => rw [putL, List.length_set, ih]

theorem byte_shift (v k : Nat) : IntKind.u8.wrap ((v : Int) / 2 ^ (8 * k)) = ((v / 2 ^ (8 * k) % 256 : Nat) : Int) := by
  rw [show (v : Int) / 2 ^ (8 * k) = ((v / 2 ^ (8 * k) : Nat) : Int) by rw [Int.natCast_ediv, Int.natCast_pow]; rfl, IntKind.wrap_u8]
  omega

/-- A new row of bytes was told. -/
def RetRow (w : World) (e0 : Value) (l : List Nat) (e : Ending) (w' : World) : Prop :=
  ∃ g cap, e = .returned (.tuple #[.slice (some ⟨g, 0, none⟩) l.length cap, e0]) ∧ Row w' w.heap.size g cap l ∧ Old w w'

set_option maxHeartbeats 2000000 in
theorem put_fail (ad : Option Addr) (n c : Nat) (p s : Int) (v : Int) (w : World) (hn : n ≤ maxLen) (e : Int) (he : checkN n p s = e) (h0 : e ≠ 0) : Calls Try.prog 84 #[.slice ad n c, .int .i64 p, .int .i64 s, .int .u64 v] w (RetB w (.tuple #[.slice none 0 0, .int .i64 e])) := by
  have hb : (e != 0) = true := bne_iff_ne.2 h0
  go_enter Try.func84, Try.ntmps84
  go_wp2_with fail
  (with_reducible refine (check_calls ad n c p s _ hn).mono ?_)
  rw [he]
  rintro e w1 ⟨rfl, hb1⟩
  go_wp2
  go_ret2
  exact ⟨rfl, hb1⟩

set_option maxHeartbeats 2000000 in
theorem put_ok (ad : Option Addr) (l : List Nat) (c : Nat) (pi si vi : Int) (p s v : Nat) (hp : pi = p) (hs : si = s) (hv : vi = v) (w : World) (hB : Bytes w ad c l) (h0 : checkN l.length p s = 0) (hps : p + s ≤ l.length) (hs1 : 1 ≤ s) (hs8 : s ≤ 8) (hbig : l.length ≤ 1000000) :
    Calls Try.prog 84 #[.slice ad l.length c, .int .i64 pi, .int .i64 si, .int .u64 vi] w (RetRow w (.int .i64 0) (putL l p v s)) := by
  subst hp hs hv
  have hn : l.length ≤ maxLen := Nat.le_trans hB.1 hB.2.1
  have hn63 : l.length ≤ 9223372036854775807 := hn
  obtain ⟨bb, off, rfl, hcells⟩ := bytes_some hB (by omega)
  clear hcells
  obtain ⟨i0, hi, hz0, hz1, hz2⟩ := info_parts u8_info
  go_enter Try.func84, Try.ntmps84
  go_wp2_with fail
  (with_reducible refine (check_calls _ _ c p s _ hn).mono ?_)
  rw [h0]
  rintro e w1 ⟨rfl, hb1⟩
  have hB1 := bytes_old hB hb1
  clear hB h0
  go_wp2_with (at_builtin; refine wpList_append_own _ rfl _ _ 31 rfl w.heap.size 5 i0 (.int .u8 0) 1 1 Try.underlying31 hi hz0 hz1 hz2 rfl (by decide) _ _ [] rfl (World.ownsRow_nil _ _ _ _) ⟨bb, off, none⟩ l.length c (l.map vb) rfl (by simp) (bytes_news hB1) (vb_one l) (by omega) (by omega) hb1.size ?_; intro v' w2 hown hgrow h9; clear h9)
  simp only [Nat.zero_add, List.nil_append] at hown
  obtain ⟨g, cap, rfl, hrow⟩ := row_of hown rfl (by omega) (bytes_lt hB1)
  have hO2 := old_grown hb1 hgrow (fun g e => by cases e)
  clear hown hgrow hB1 hb1
  go_loopw [12, 23] (fun _ i wr => ∃ k : Nat, i = .int .i64 k ∧ k ≤ s ∧ Row wr w.heap.size g cap (putL l p v k) ∧ Old w wr) (fun _ i _ => (9 - intOf i).toNat)
  case atStart => exact ⟨0, rfl, by omega, hrow, hO2⟩
  case round =>
    clear hrow hO2
    obtain ⟨k, rfl, hk, hrow, hO⟩ := hrel
    by_cases hks : k < s
    · have hbyte := byte_shift v k
      have hb256 : v / 2 ^ (8 * k) % 256 < 256 := Nat.mod_lt _ (by decide)
      have hstep : putL l p v (k + 1) = (putL l p v k).set (p + k) (v / 2 ^ (8 * k) % 256) := rfl
      generalize v / 2 ^ (8 * k) % 256 = b at *
      have hlen := putL_length l p v k
      obtain ⟨x, hx⟩ : ∃ x, (putL l p v k)[p + k]? = some x := ⟨_, List.getElem?_eq_getElem (by omega)⟩
      have ck := row_cell hrow hx
      have fk := row_frozen hrow (p + k)
      have hnew := row_set hrow (p + k) b hb256
      have hold := old_set hO (row_parts hrow).1 (p + k) (.int .u8 b)
      rw [← hstep] at hnew
      generalize hW : wr.setCell ⟨g, p + k, none⟩ (.int .u8 b) = W at *
      have HN := Lib.hid hnew
      clear hnew hrow hx hstep
      go_wp2
      go_roundw
      case rel => exact ⟨k + 1, by go_num, by omega, HN.out, hold⟩
      case measure => (simp [intOf]) <;> omega
    · obtain rfl : k = s := by omega
      have HN := Lib.hid hrow
      clear hrow
      go_wp2
      go_ret2
      exact ⟨g, cap, by rw [putL_length]; rfl, HN.out, hO⟩

/-- What is left of v behind k bytes. -/
def leftN (v k : Nat) : Nat := v / 2 ^ (8 * k)
theorem left_next (v k : Nat) (hv : v < 18446744073709551616) : IntKind.u64.wrap ((leftN v k : Nat) / 256) = (leftN v (k + 1) : Nat) := by
  have e : leftN v (k + 1) = leftN v k / 256 := by
    unfold leftN
    rw [show 8 * (k + 1) = 8 * k + 8 by omega, Nat.pow_add, ← Nat.div_div_eq_div_mul]
  have l : leftN v k ≤ v := Nat.div_le_self _ _
  rw [e, IntKind.wrap_u64]
  omega
theorem left_byte (v k : Nat) : IntKind.u8.wrap (((leftN v k : Nat) : Int).tmod 256) = ((leftN v k % 256 : Nat) : Int) := by
  rw [Int.tmod_eq_emod_of_nonneg (Int.natCast_nonneg _), IntKind.wrap_u8]
  omega

end Go.Proofs.Ytfiofjalpaeohaa
