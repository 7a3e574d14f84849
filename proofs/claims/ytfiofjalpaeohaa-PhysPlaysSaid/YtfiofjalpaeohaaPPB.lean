/- Texts on the way to the statement PhysPlays, several in one file: each part says what it is. -/
import Derived.Test.YtfiofjalpaeohaaPPA
import Derived.MapKept
import Derived.WideLaws
import Derived.Carry
import Derived.Laws.OwnMore
import Derived.ArgAppend
namespace Go.Proofs.Ytfiofjalpaeohaa
set_option linter.unusedVariables false
set_option linter.unusedSimpArgs false
open Go.RowKit
/-- The frame of 'sized' at its labels. -/
def SizedFrame (s j : Int) (a : Act) : Prop := ∃ u1 u4 u5 u6 u7 u8 u9 u10 u11 u12 u13 : Value, a = { tmps := #[.int .i64 s, u1, .bool false, .int .i64 j, u4, u5, u6, u7, u8, u9, u10, u11, u12, u13], defers := [] }
def SizedJ (s : Int) (W : World) (l k : Nat) (a : Act) (w : World) : Prop :=
  Old W w ∧ ((l = 0 ∧ k = 0 ∧ (s = 1 ∨ s = 2 ∨ s = 4 ∨ s = 8) ∧ ∃ j, SizedFrame s j a) ∨
    (l = 1 ∧ k = 3 ∧ s ≠ 1 ∧ SizedFrame s 1 a) ∨ (l = 1 ∧ k = 2 ∧ s ≠ 1 ∧ s ≠ 2 ∧ SizedFrame s 2 a) ∨ (l = 1 ∧ k = 1 ∧ s ≠ 1 ∧ s ≠ 2 ∧ s ≠ 4 ∧ SizedFrame s 3 a))
set_option maxHeartbeats 1000000 in
theorem sized_calls (s : Int) (w : World) : Calls Try.prog 95 #[.int .i64 s] w (RetB w (.bool (decide (s = 1 ∨ s = 2 ∨ s = 4 ∨ s = 8)))) := by
  go_enter Try.func95, Try.ntmps95
  go_wp2
  refine wp_scope_labels (SizedJ s w) ?_ ?_
  · by_cases h : s = 1
    · go_wp2
      go_step3
      go_wp2
      go_step3
      exact ⟨0, old_refl _, .inl ⟨rfl, rfl, .inl h, _, _, _, _, _, _, _, _, _, _, _, _, rfl⟩⟩
    · go_wp2
      go_step3
      go_wp2
      go_step3
      exact ⟨3, old_refl _, .inr (.inl ⟨rfl, rfl, h, _, _, _, _, _, _, _, _, _, _, _, rfl⟩)⟩
  · rintro l k a x ⟨hO, ⟨rfl, rfl, hs, j, hf⟩ | ⟨rfl, rfl, h1, hf⟩ | ⟨rfl, rfl, h1, h2, hf⟩ | ⟨rfl, rfl, h1, h2, h4, hf⟩⟩
    · obtain ⟨u1, u4, u5, u6, u7, u8, u9, u10, u11, u12, u13, rfl⟩ := hf
      refine ⟨_, rfl, ?_⟩
      have hd : decide (s = 1 ∨ s = 2 ∨ s = 4 ∨ s = 8) = true := decide_eq_true hs
      rw [hd]
      clear hd hs
      go_wp2
      go_ret
      exact ⟨rfl, hO⟩
    · obtain ⟨u1, u4, u5, u6, u7, u8, u9, u10, u11, u12, u13, rfl⟩ := hf
      refine ⟨_, rfl, ?_⟩
      by_cases h : s = 2
      · go_wp2
        go_step3
        exact ⟨0, by omega, hO, .inl ⟨rfl, rfl, .inr (.inl h), _, _, _, _, _, _, _, _, _, _, _, _, rfl⟩⟩
      · go_wp2
        go_step3
        exact ⟨2, by omega, hO, .inr (.inr (.inl ⟨rfl, rfl, h1, h, _, _, _, _, _, _, _, _, _, _, _, rfl⟩))⟩
    · obtain ⟨u1, u4, u5, u6, u7, u8, u9, u10, u11, u12, u13, rfl⟩ := hf
      refine ⟨_, rfl, ?_⟩
      by_cases h : s = 4
      · go_wp2
        go_step3
        exact ⟨0, by omega, hO, .inl ⟨rfl, rfl, .inr (.inr (.inl h)), _, _, _, _, _, _, _, _, _, _, _, _, rfl⟩⟩
      · go_wp2
        go_step3
        exact ⟨1, by omega, hO, .inr (.inr (.inr ⟨rfl, rfl, h1, h2, h, _, _, _, _, _, _, _, _, _, _, _, rfl⟩))⟩
    · obtain ⟨u1, u4, u5, u6, u7, u8, u9, u10, u11, u12, u13, rfl⟩ := hf
      refine ⟨_, rfl, ?_⟩
      by_cases h : s = 8
      · go_wp2
        go_step3
        exact ⟨0, by omega, hO, .inl ⟨rfl, rfl, .inr (.inr (.inr h)), _, _, _, _, _, _, _, _, _, _, _, _, rfl⟩⟩
      · have hd : decide (s = 1 ∨ s = 2 ∨ s = 4 ∨ s = 8) = false := decide_eq_false (by omega)
        rw [hd]
        clear hd
        go_wp2
        go_ret
        exact ⟨rfl, hO⟩
/-- Why no number stands there (0: one does), among n bytes. -/
def checkN (n : Nat) (p s : Int) : Int := if ¬ (s = 1 ∨ s = 2 ∨ s = 4 ∨ s = 8) then 1 else if p % s ≠ 0 then 3 else if p < 0 ∨ (n : Int) < p + s then 2 else 0
theorem checkN_arg {n : Nat} {p s : Int} (h : ¬ (s = 1 ∨ s = 2 ∨ s = 4 ∨ s = 8)) : checkN n p s = 1 := by unfold checkN; rw [if_pos h]
theorem checkN_align {n : Nat} {p s : Int} (h : s = 1 ∨ s = 2 ∨ s = 4 ∨ s = 8) (h2 : p % s ≠ 0) : checkN n p s = 3 := by unfold checkN; rw [if_neg (not_not_intro h), if_pos h2]
theorem checkN_range {n : Nat} {p s : Int} (h : s = 1 ∨ s = 2 ∨ s = 4 ∨ s = 8) (h2 : p % s = 0) (h3 : p < 0 ∨ (n : Int) < p + s) : checkN n p s = 2 := by unfold checkN; rw [if_neg (not_not_intro h), if_neg (not_not_intro h2), if_pos h3]
theorem checkN_ok {n : Nat} {p s : Int} (h : s = 1 ∨ s = 2 ∨ s = 4 ∨ s = 8) (h2 : p % s = 0) (h3 : ¬ (p < 0 ∨ (n : Int) < p + s)) : checkN n p s = 0 := by unfold checkN; rw [if_neg (not_not_intro h), if_neg (not_not_intro h2), if_neg h3]
theorem tmod_zero (p s : Int) : p.tmod s = 0 ↔ p % s = 0 := by
  rw [← Int.dvd_iff_tmod_eq_zero, Int.dvd_iff_emod_eq_zero]
set_option maxHeartbeats 2000000 in
theorem check_calls (ad : Option Addr) (n c : Nat) (p s : Int) (w : World) (hn : n ≤ maxLen) : Calls Try.prog 94 #[.slice ad n c, .int .i64 p, .int .i64 s] w (RetB w (.int .i64 (checkN n p s))) := by
  by_cases hs : s = 1 ∨ s = 2 ∨ s = 4 ∨ s = 8
  · have hd : decide (s = 1 ∨ s = 2 ∨ s = 4 ∨ s = 8) = true := decide_eq_true hs
    have hs0 : s ≠ 0 := by omega
    have hn63 : n ≤ 9223372036854775807 := hn
    by_cases h2 : p % s = 0
    · have h2t := (tmod_zero p s).2 h2
      by_cases h3 : p < 0 ∨ (n : Int) < p + s
      · rw [checkN_range hs h2 h3]
        by_cases h4 : p < 0
        · clear h3
          have HS := Lib.hid hs
          clear hs h2
          go_enter Try.func94, Try.ntmps94
          go_wp2_with fail
          (with_reducible refine (sized_calls s _).mono ?_)
          rw [hd]
          rintro e w1 ⟨rfl, hb1⟩
          go_wp2
          go_ret
          exact ⟨rfl, hb1⟩
        · by_cases h5 : (n : Int) < s
          · clear h3
            have HS := Lib.hid hs
            clear hs h2
            go_enter Try.func94, Try.ntmps94
            go_wp2_with fail
            (with_reducible refine (sized_calls s _).mono ?_)
            rw [hd]
            rintro e w1 ⟨rfl, hb1⟩
            go_wp2
            go_ret
            exact ⟨rfl, hb1⟩
          · have h6 : (n : Int) - s < p := by omega
            have h7 : 1 ≤ s ∧ s ≤ 8 := by omega
            clear h3
            have HS := Lib.hid hs
            clear hs h2
            go_enter Try.func94, Try.ntmps94
            go_wp2_with fail
            (with_reducible refine (sized_calls s _).mono ?_)
            rw [hd]
            rintro e w1 ⟨rfl, hb1⟩
            go_wp2
            go_ret
            exact ⟨rfl, hb1⟩
      · rw [checkN_ok hs h2 h3]
        have h4 : 0 ≤ p := by omega
        have h5 : s ≤ (n : Int) := by omega
        have h6 : p ≤ (n : Int) - s := by omega
        have h7 : 1 ≤ s ∧ s ≤ 8 := by omega
        clear h3
        have HS := Lib.hid hs
        clear hs h2
        go_enter Try.func94, Try.ntmps94
        go_wp2_with fail
        (with_reducible refine (sized_calls s _).mono ?_)
        rw [hd]
        rintro e w1 ⟨rfl, hb1⟩
        go_wp2
        go_ret
        exact ⟨rfl, hb1⟩
    · rw [checkN_align hs h2]
      have h2t : (p.tmod s != 0) = true := by rw [bne_iff_ne, ne_eq, tmod_zero]; exact h2
      have HS := Lib.hid hs
      clear hs h2
      go_enter Try.func94, Try.ntmps94
      go_wp2_with fail
      (with_reducible refine (sized_calls s _).mono ?_)
      rw [hd]
      rintro e w1 ⟨rfl, hb1⟩
      go_wp2
      go_ret
      exact ⟨rfl, hb1⟩
  · have hd : decide (s = 1 ∨ s = 2 ∨ s = 4 ∨ s = 8) = false := decide_eq_false hs
    rw [checkN_arg hs]
    clear hs
    go_enter Try.func94, Try.ntmps94
    go_wp2_with fail
    (with_reducible refine (sized_calls s _).mono ?_)
    rw [hd]
    rintro e w1 ⟨rfl, hb1⟩
    go_wp2
    go_ret
    exact ⟨rfl, hb1⟩
end Go.Proofs.Ytfiofjalpaeohaa
namespace Go.Proofs.Ytfiofjalpaeohaa
set_option linter.unusedVariables false
set_option linter.unusedSimpArgs false
open Go.RowKit
end Go.Proofs.Ytfiofjalpaeohaa
namespace Go.Proofs.Ytfiofjalpaeohaa
set_option linter.unusedVariables false
set_option linter.unusedSimpArgs false
open Go.RowKit
/-- The number that k bytes make, the lowest first. -/
def getN (l : List Nat) (p : Nat) : Nat → Nat
  | 0 => 0
  | k + 1 => getN l p k + l.getD (p + k) 0 * 2 ^ (8 * k)
theorem getN_lt {l : List Nat} (hl : ∀ x ∈ l, x < 256) (p k : Nat) : getN l p k < 2 ^ (8 * k) := by
  induction k with
  | zero => simp [getN]
  | succ k ih =>
    have hx : l.getD (p + k) 0 < 256 := by
      rw [List.getD_eq_getElem?_getD]
      cases e : l[p + k]? with
      | none => simp
      | some x => exact hl x (List.mem_of_getElem? e)
    have e : (2 : Nat) ^ (8 * (k + 1)) = 256 * 2 ^ (8 * k) := by rw [show 8 * (k + 1) = 8 + 8 * k by omega, Nat.pow_add]
    show getN l p k + l.getD (p + k) 0 * 2 ^ (8 * k) < _
    rw [e]
    calc getN l p k + l.getD (p + k) 0 * 2 ^ (8 * k) < 2 ^ (8 * k) + l.getD (p + k) 0 * 2 ^ (8 * k) := by omega
      _ = (l.getD (p + k) 0 + 1) * 2 ^ (8 * k) := by rw [Nat.add_mul, Nat.one_mul, Nat.add_comm]
      _ ≤ 256 * 2 ^ (8 * k) := Nat.mul_le_mul_right _ (by omega)
/-- One byte more. -/
theorem get_step {l : List Nat} (hl : ∀ x ∈ l, x < 256) {p k x : Nat} (hx : l[p + k]? = some x) (hk : k < 8) :
    bits .or .u64 ((getN l p k : Nat) : Int) (IntKind.u64.wrap ((x : Int) * 2 ^ (8 * k))) = (getN l p (k + 1) : Nat) := by
  have h0 : getN l p (k + 1) = getN l p k + x * 2 ^ (8 * k) := by
    show getN l p k + l.getD (p + k) 0 * 2 ^ (8 * k) = _
    rw [List.getD_eq_getElem?_getD, hx]; rfl
  have h1 := getN_lt hl p k
  have h2 := getN_lt hl p (k + 1)
  have h3 : (2 : Nat) ^ (8 * (k + 1)) ≤ 18446744073709551616 := by rw [← two64]; exact Nat.pow_le_pow_right (by decide) (by omega)
  have h4 : IntKind.u64.wrap ((x : Int) * 2 ^ (8 * k)) = ((x * 2 ^ (8 * k) : Nat) : Int) := by
    rw [show (x : Int) * 2 ^ (8 * k) = ((x * 2 ^ (8 * k) : Nat) : Int) by rw [Int.natCast_mul, Int.natCast_pow]; rfl, IntKind.wrap_u64]
    omega
  rw [h4, bits_or_u64_nat _ _ (by omega) (by omega), h0]
  have h5 := Nat.two_pow_add_eq_or_of_lt h1 x
  rw [Nat.or_comm, Nat.mul_comm x, ← h5, Nat.add_comm]
set_option maxHeartbeats 2000000 in
theorem get_fail (ad : Option Addr) (n c : Nat) (p s : Int) (w : World) (hn : n ≤ maxLen) (e : Int) (he : checkN n p s = e) (h0 : e ≠ 0) : Calls Try.prog 82 #[.slice ad n c, .int .i64 p, .int .i64 s] w (RetB w (.tuple #[.int .u64 0, .int .i64 e])) := by
  have hb : (e != 0) = true := bne_iff_ne.2 h0
  go_enter Try.func82, Try.ntmps82
  go_wp2_with fail
  (with_reducible refine (check_calls ad n c p s _ hn).mono ?_)
  rw [he]
  rintro e w1 ⟨rfl, hb1⟩
  go_wp2
  go_ret2
  exact ⟨rfl, hb1⟩
set_option maxHeartbeats 2000000 in
theorem get_ok (ad : Option Addr) (l : List Nat) (c : Nat) (pi si : Int) (p s : Nat) (hp : pi = p) (hs : si = s) (w : World) (hB : Bytes w ad c l) (h0 : checkN l.length p s = 0) (hps : p + s ≤ l.length) (hs1 : 1 ≤ s) (hs8 : s ≤ 8) :
    Calls Try.prog 82 #[.slice ad l.length c, .int .i64 pi, .int .i64 si] w (RetB w (.tuple #[.int .u64 (getN l p s : Nat), .int .i64 0])) := by
  subst hp hs
  have hn : l.length ≤ maxLen := Nat.le_trans hB.1 hB.2.1
  have hn63 : l.length ≤ 9223372036854775807 := hn
  obtain ⟨bb, off, rfl, hcells⟩ := bytes_some hB (by omega)
  go_enter Try.func82, Try.ntmps82
  go_wp2_with fail
  (with_reducible refine (check_calls _ _ c p s _ hn).mono ?_)
  rw [h0]
  rintro e w1 ⟨rfl, hb1⟩
  have hB1 := bytes_old hB hb1
  clear hB h0
  go_wp2
  go_loopw [9, 19] (fun v i wr => ∃ k : Nat, i = .int .i64 k ∧ k ≤ s ∧ v = .int .u64 (getN l p k : Nat) ∧ Old w wr ∧ Old w1 wr) (fun _ i _ => (9 - intOf i).toNat)
  case atStart => exact ⟨0, rfl, by omega, rfl, hb1, old_refl _⟩
  case round =>
    clear hb1
    obtain ⟨k, rfl, hk, rfl, hO, hO1⟩ := hrel
    by_cases hks : k < s
    · obtain ⟨x, bb', off', hx, hx256, e, hbl, hc⟩ := bytes_at (bytes_old hB1 hO1) (p + k) (by omega)
      cases e
      have hst := get_step (bytes_lt hB1) hx (by omega)
      have HB := Lib.hid hB1
      have HC := Lib.hid hcells
      clear hB1 hcells hx
      go_wp2
      go_roundw
      case rel => exact ⟨k + 1, by go_num, by omega, rfl, hO, hO1⟩
      case measure => (simp [intOf]) <;> omega
    · have hks' : k = s := by omega
      subst hks'
      clear hB1 hcells
      go_wp2
      go_ret2
      exact ⟨rfl, hO⟩
theorem getN_front (l : List Nat) (p k : Nat) : getN l p (k + 1) = l.getD p 0 + 256 * getN l (p + 1) k := by
  induction k with
  | zero => simp [getN]
  | succ k ih =>
    show getN l p (k + 1) + l.getD (p + (k + 1)) 0 * 2 ^ (8 * (k + 1)) = l.getD p 0 + 256 * (getN l (p + 1) k + l.getD (p + 1 + k) 0 * 2 ^ (8 * k))
    rw [ih, show p + (k + 1) = p + 1 + k by omega, show (2 : Nat) ^ (8 * (k + 1)) = 256 * 2 ^ (8 * k) by rw [show 8 * (k + 1) = 8 + 8 * k by omega, Nat.pow_add], Nat.mul_add, Nat.mul_left_comm]
    omega
end Go.Proofs.Ytfiofjalpaeohaa
namespace Go.Proofs.Ytfiofjalpaeohaa
set_option linter.unusedVariables false
set_option linter.unusedSimpArgs false
open Go.RowKit
/-- Bytes with a number put in. -/
def putL (l : List Nat) (p v : Nat) : Nat → List Nat
  | 0 => l
  | k + 1 => (putL l p v k).set (p + k) (v / 2 ^ (8 * k) % 256)
theorem putL_length (l : List Nat) (p v k : Nat) : (putL l p v k).length = l.length := by
  induction k with
  | zero => rfl
  | succ k ih => rw [putL, List.length_set, ih]
theorem byte_shift (v k : Nat) : IntKind.u8.wrap ((v : Int) / 2 ^ (8 * k)) = ((v / 2 ^ (8 * k) % 256 : Nat) : Int) := by
  rw [show (v : Int) / 2 ^ (8 * k) = ((v / 2 ^ (8 * k) : Nat) : Int) by rw [Int.natCast_ediv, Int.natCast_pow]; rfl, IntKind.wrap_u8]
  omega
/-- A new row of bytes was told. -/
def RetRow (w : World) (e0 : Value) (l : List Nat) (e : Ending) (w' : World) : Prop :=
  ∃ g cap, e = .returned (.tuple #[.slice (some ⟨g, 0, none⟩) l.length cap, e0]) ∧ Row w' w.heap.size g cap l ∧ Old w w'
set_option maxHeartbeats 2000000 in
theorem put_ok (ad : Option Addr) (l : List Nat) (c : Nat) (pi si vi : Int) (p s v : Nat) (hp : pi = p) (hs : si = s) (hv : vi = v) (w : World) (hB : Bytes w ad c l) (h0 : checkN l.length p s = 0) (hps : p + s ≤ l.length) (hs1 : 1 ≤ s) (hs8 : s ≤ 8) (hbig : l.length ≤ 1000000) :
    Calls Try.prog 84 #[.slice ad l.length c, .int .i64 pi, .int .i64 si, .int .u64 vi] w (RetRow w (.int .i64 0) (putL l p v s)) := by
  subst hp hs hv
  have hn : l.length ≤ maxLen := Nat.le_trans hB.1 hB.2.1
  have hn63 : l.length ≤ 9223372036854775807 := hn
  obtain ⟨bb, off, rfl, hcells⟩ := bytes_some hB (by omega)
  clear hcells
  obtain ⟨i0, hi, hz0, hz1, hz2⟩ := info_parts u8_info
  go_enter Try.func84, Try.ntmps84
  go_wp2_with fail
  (with_reducible refine (check_calls _ _ c p s _ hn).mono ?_)
  rw [h0]
  rintro e w1 ⟨rfl, hb1⟩
  have hB1 := bytes_old hB hb1
  clear hB h0
  go_wp2_with (at_builtin; refine wpList_append_own _ rfl _ _ 31 rfl w.heap.size 5 i0 (.int .u8 0) 1 1 Try.underlying31 hi hz0 hz1 hz2 rfl (by decide) _ _ [] rfl (World.ownsRow_nil _ _ _ _) ⟨bb, off, none⟩ l.length c (l.map vb) rfl (by simp) (bytes_news hB1) (vb_one l) (by omega) (by omega) hb1.size ?_; intro v' w2 hown hgrow h9; clear h9)
  simp only [Nat.zero_add, List.nil_append] at hown
  obtain ⟨g, cap, rfl, hrow⟩ := row_of hown rfl (by omega) (bytes_lt hB1)
  have hO2 := old_grown hb1 hgrow (fun g e => by cases e)
  clear hown hgrow hB1 hb1
  go_loopw [12, 23] (fun _ i wr => ∃ k : Nat, i = .int .i64 k ∧ k ≤ s ∧ Row wr w.heap.size g cap (putL l p v k) ∧ Old w wr) (fun _ i _ => (9 - intOf i).toNat)
  case atStart => exact ⟨0, rfl, by omega, hrow, hO2⟩
  case round =>
    clear hrow hO2
    obtain ⟨k, rfl, hk, hrow, hO⟩ := hrel
    by_cases hks : k < s
    · have hbyte := byte_shift v k
      have hb256 : v / 2 ^ (8 * k) % 256 < 256 := Nat.mod_lt _ (by decide)
      have hstep : putL l p v (k + 1) = (putL l p v k).set (p + k) (v / 2 ^ (8 * k) % 256) := rfl
      generalize v / 2 ^ (8 * k) % 256 = b at *
      have hlen := putL_length l p v k
      obtain ⟨x, hx⟩ : ∃ x, (putL l p v k)[p + k]? = some x := ⟨_, List.getElem?_eq_getElem (by omega)⟩
      have ck := row_cell hrow hx
      have fk := row_frozen hrow (p + k)
      have hnew := row_set hrow (p + k) b hb256
      have hold := old_set hO (row_parts hrow).1 (p + k) (.int .u8 b)
      rw [← hstep] at hnew
      generalize hW : wr.setCell ⟨g, p + k, none⟩ (.int .u8 b) = W at *
      have HN := Lib.hid hnew
      clear hnew hrow hx hstep
      go_wp2
      go_roundw
      case rel => exact ⟨k + 1, by go_num, by omega, HN.out, hold⟩
      case measure => (simp [intOf]) <;> omega
    · obtain rfl : k = s := by omega
      have HN := Lib.hid hrow
      clear hrow
      go_wp2
      go_ret2
      exact ⟨g, cap, by rw [putL_length]; rfl, HN.out, hO⟩
end Go.Proofs.Ytfiofjalpaeohaa
/- A map from whole numbers: a block that reads as a function and a count. No function of the program stands here. -/
namespace Go.Proofs.Ytfiofjalpaeohaa
set_option linter.unusedVariables false
set_option linter.unusedSimpArgs false
open Go.RowKit Go.MapKept
/-- The first with a key, and its place. -/
def seekL : List (Int × Value) → Int → Nat → Option (Nat × Value)
  | [], _, _ => none
  | x :: l, k, i => if k = x.1 then some (i, x.2) else seekL l k (i + 1)
def assocL (l : List (Int × Value)) (k : Int) : Option Value := (seekL l k 0).map (·.2)
theorem seekL_shift : ∀ (l : List (Int × Value)) (k : Int) (i : Nat), seekL l k (i + 1) = (seekL l k i).map fun x => (x.1 + 1, x.2)
  | [], k, i => rfl
  | x :: l, k, i => by
    unfold seekL
    split
    · rfl
    · exact seekL_shift l k (i + 1)
theorem assocL_cons (x : Int × Value) (l : List (Int × Value)) (k : Int) : assocL (x :: l) k = if k = x.1 then some x.2 else assocL l k := by
  unfold assocL
  rw [seekL]
  split
  · rfl
  · rw [seekL_shift]
    cases seekL l k 0 <;> rfl
/-- The entries of an array, as pairs. -/
def Entries (es : List MapEntry) (l : List (Int × Value)) : Prop := es.map (fun e => (e.key, e.val)) = l.map (fun x => (Value.int .i64 x.1, x.2))
theorem find_now : ∀ (es : List MapEntry) (l : List (Int × Value)) (k : Int) (i : Nat), Entries es l → Instr.findNow (.int .i64) (.int .i64 k) es i = some (seekL l k i)
  | [], [], k, i, _ => rfl
  | [], x :: l, k, i, h => by simp [Entries] at h
  | e :: es, [], k, i, h => by simp [Entries] at h
  | e :: es, x :: l, k, i, h => by
    obtain ⟨h1, h2⟩ : ((e.key, e.val) = (Value.int .i64 x.1, x.2)) ∧ Entries es l := by
      unfold Entries at h
      simp only [List.map_cons, List.cons.injEq] at h
      exact h
    have hk : e.key = .int .i64 x.1 := (Prod.mk.inj h1).1
    have hv : e.val = x.2 := (Prod.mk.inj h1).2
    unfold Instr.findNow seekL
    rw [hk]
    by_cases hkx : k = x.1
    · have hb : (k == x.1) = true := beq_iff_eq.2 hkx
      simp [Instr.sameNow, hkx, hv]
    · have hb : (k == x.1) = false := beq_eq_false_iff_ne.2 hkx
      simp only [Instr.sameNow, if_true, hb, if_neg hkx]
      exact find_now es l k (i + 1) h2
/-- Block m is a map that reads as f, of n keys. -/
def IsMap (w : World) (m : Nat) (f : Int → Option Value) (n : Nat) : Prop :=
  ∃ es clock l, w.heap[m]? = some (.map es clock) ∧ Entries es.toList l ∧ (l.map Prod.fst).Nodup ∧ l.length = n ∧ ∀ k, f k = assocL l k
theorem isMap_old {w x : World} {m n : Nat} {f : Int → Option Value} (h : IsMap w m f n) (ho : Old w x) : IsMap x m f n := by
  obtain ⟨es, clock, l, hb, r⟩ := h
  exact ⟨es, clock, l, keep_old ho hb, r⟩
theorem isMap_only {F : Nat → Prop} {w x : World} {m n : Nat} {f : Int → Option Value} (h : IsMap w m f n) (ho : Only F w x) (hF : ¬ F m) : IsMap x m f n := by
  obtain ⟨es, clock, l, hb, r⟩ := h
  exact ⟨es, clock, l, keep_only ho hF hb, r⟩
theorem isMap_lt {w : World} {m n : Nat} {f : Int → Option Value} (h : IsMap w m f n) : m < w.heap.size := by
  obtain ⟨es, clock, l, hb, r⟩ := h
  exact lt_of_block hb
theorem isMap_made (w : World) : IsMap (w.alloc (.map #[] 0)) w.heap.size (fun _ => none) 0 := ⟨#[], 0, [], new_block w _, rfl, List.nodup_nil, rfl, fun _ => rfl⟩
section
variable {P : Program} {t k e : TypeId} {w : World} {m n : Nat} {f : Int → Option Value}
theorem map_seek (hk : P.underlying k = some (.int .i64)) {es : Array MapEntry} {l : List (Int × Value)} (he : Entries es.toList l) (x : Int) :
    (Instr.findKey k (.int .i64 x) es.toList).run P w = .ok (seekL l x 0) w := run_findKey hk (find_now _ _ _ _ he)
theorem map_lookup (ht : P.underlying t = some (.map k e)) (hk : P.underlying k = some (.int .i64)) (h : IsMap w m f n) {x : Int} {v : Value} (hx : f x = some v) :
    (Instr.lookup t (.map (some m)) (.int .i64 x) true).run P w = .ok (.tuple #[v, .bool true]) w := by
  obtain ⟨es, clock, l, hb, he, _, _, hf⟩ := h
  rw [hf, assocL] at hx
  obtain ⟨y, hy, rfl⟩ := Option.map_eq_some_iff.1 hx
  have h1 := Go.MapKept.run_getObj_map (P := P) hb
  have h2 := run_checkKey (P := P) (w := w) (k := .int .i64 x) hk (by first | trivial | exact ⟨_, rfl⟩ | simp [IsKey]) es.isEmpty 9999
  have h3 := map_seek (w := w) hk he x
  rw [hy] at h3
  simp [Instr.lookup, Sem.run_bind, run_underlying ht, Result.andThen, h1, h2, h3]
theorem map_miss (ht : P.underlying t = some (.map k e)) (hk : P.underlying k = some (.int .i64)) {z : Value} (hz : (zeroValue e).run P w = .ok z w) (h : IsMap w m f n) {x : Int} (hx : f x = none) :
    (Instr.lookup t (.map (some m)) (.int .i64 x) true).run P w = .ok (.tuple #[z, .bool false]) w := by
  obtain ⟨es, clock, l, hb, he, _, _, hf⟩ := h
  rw [hf, assocL] at hx
  have hy : seekL l x 0 = none := Option.map_eq_none_iff.1 hx
  have h1 := Go.MapKept.run_getObj_map (P := P) hb
  have h2 := run_checkKey (P := P) (w := w) (k := .int .i64 x) hk (by first | trivial | exact ⟨_, rfl⟩ | simp [IsKey]) es.isEmpty 9999
  have h3 := map_seek (w := w) hk he x
  rw [hy] at h3
  simp [Instr.lookup, Sem.run_bind, run_underlying ht, Result.andThen, h1, h2, h3, hz]
/-- Another value at a key. -/
def updF (f : Int → Option Value) (x : Int) (v : Option Value) : Int → Option Value := fun y => if y = x then v else f y
theorem seek_some : ∀ {l : List (Int × Value)} {x : Int} {i : Nat} {y : Nat × Value}, seekL l x i = some y → ∃ a b, l = a ++ (x, y.2) :: b ∧ y.1 = i + a.length ∧ x ∉ a.map Prod.fst
  | [], x, i, y, h => by cases h
  | z :: l, x, i, y, h => by
    unfold seekL at h
    split at h
    · rename_i hx
      obtain rfl := Option.some.inj h
      exact ⟨[], l, by rw [hx]; rfl, by simp, by simp⟩
    · rename_i hx
      obtain ⟨a, b, rfl, h2, h3⟩ := seek_some h
      refine ⟨z :: a, b, rfl, by simp; omega, ?_⟩
      simp only [List.map_cons, List.mem_cons, not_or]
      exact ⟨hx, h3⟩
theorem assocL_append : ∀ (a b : List (Int × Value)) (k : Int), assocL (a ++ b) k = (assocL a k).or (assocL b k)
  | [], b, k => rfl
  | z :: a, b, k => by
    rw [List.cons_append, assocL_cons, assocL_cons, assocL_append a b k]
    split <;> rfl
theorem assocL_none : ∀ {a : List (Int × Value)} {k : Int}, k ∉ a.map Prod.fst → assocL a k = none
  | [], k, _ => rfl
  | z :: a, k, h => by
    simp only [List.map_cons, List.mem_cons, not_or] at h
    rw [assocL_cons, if_neg h.1, assocL_none h.2]
theorem assocL_mem : ∀ {a : List (Int × Value)} {k : Int}, assocL a k = none → k ∉ a.map Prod.fst
  | [], k, _ => by simp
  | z :: a, k, h => by
    rw [assocL_cons] at h
    split at h
    · cases h
    · rename_i hk
      simp only [List.map_cons, List.mem_cons, not_or]
      exact ⟨hk, assocL_mem h⟩
theorem entries_split {es : List MapEntry} {a b : List (Int × Value)} {y : Int × Value} (h : Entries es (a ++ y :: b)) :
    ∃ ea ee eb, es = ea ++ ee :: eb ∧ Entries ea a ∧ ee.key = .int .i64 y.1 ∧ ee.val = y.2 ∧ Entries eb b := by
  unfold Entries at h
  rw [List.map_append, List.map_cons] at h
  obtain ⟨ea, er, rfl, h1, h2⟩ := List.map_eq_append_iff.1 h
  obtain ⟨ee, eb, rfl, h3, h4⟩ := List.map_eq_cons_iff.1 h2
  exact ⟨ea, ee, eb, rfl, h1, (Prod.mk.inj h3).1, (Prod.mk.inj h3).2, h4⟩
theorem entries_join {ea eb : List MapEntry} {ee : MapEntry} {a b : List (Int × Value)} {y : Int × Value} (h1 : Entries ea a) (h2 : ee.key = .int .i64 y.1) (h3 : ee.val = y.2) (h4 : Entries eb b) : Entries (ea ++ ee :: eb) (a ++ y :: b) := by
  unfold Entries at *
  rw [List.map_append, List.map_cons, List.map_append, List.map_cons, h1, h4, h2, h3]
theorem entries_length {es : List MapEntry} {l : List (Int × Value)} (h : Entries es l) : es.length = l.length := by
  have := congrArg List.length h
  simpa using this
theorem modify_at {α : Type} (f : α → α) (x : α) (b : List α) : ∀ a : List α, (a ++ x :: b).modify a.length f = a ++ f x :: b
  | [] => by simp
  | z :: a => by
    have := modify_at f x b a
    simp [this]
theorem erase_at {α : Type} (x : α) (b : List α) : ∀ a : List α, (a ++ x :: b).eraseIdx a.length = a ++ b
  | [] => by simp
  | z :: a => by
    have := erase_at x b a
    simpa using this
/-- What a store or a delete leaves: block m is another map, all else is as it was. -/
theorem map_put (ht : P.underlying t = some (.map k e)) (hk : P.underlying k = some (.int .i64)) (h : IsMap w m f n) (x : Int) (v : Value) :
    ∃ w', (Instr.mapUpdate t (.map (some m)) (.int .i64 x) v).run P w = .ok () w' ∧ IsMap w' m (updF f x (some v)) (if (f x).isSome then n else n + 1) ∧ Only (fun j => j = m) w w' := by
  obtain ⟨es, clock, l, hb, he, hnd, hn, hf⟩ := h
  have h1 := Go.MapKept.run_getObj_map (P := P) hb
  have h2 := run_checkKey (P := P) (w := w) (k := .int .i64 x) hk (by first | trivial | exact ⟨_, rfl⟩ | simp [IsKey]) false 9999
  have h3 := map_seek (w := w) hk he x
  cases hs : seekL l x 0 with
  | none =>
    rw [hs] at h3
    have hfx : assocL l x = none := by rw [assocL, hs]; rfl
    refine ⟨putB w m (.map (es.push { key := .int .i64 x, val := v, born := clock }) (clock + 1)), ?_, ⟨_, _, l ++ [(x, v)], putB_same _ (lt_of_block hb), ?_, ?_, ?_, fun y => ?_⟩, (Only.refl _ w).putB _ fun _ => rfl⟩
    · have h4 := Go.MapKept.run_setObj_map (P := P) (.map (es.push { key := .int .i64 x, val := v, born := clock }) (clock + 1)) hb
      simp [Instr.mapUpdate, Sem.run_bind, run_underlying ht, Result.andThen, h1, h2, h3, h4]
      rfl
    · rw [Array.toList_push]
      exact entries_join (b := []) (eb := []) he rfl rfl rfl
    · rw [List.map_append, List.nodup_append]
      refine ⟨hnd, by simp, fun a ha b hb' => ?_⟩
      simp at hb'
      subst hb'
      intro hab
      subst hab
      exact assocL_mem hfx ha
    · rw [hf, hfx, List.length_append, hn]
      rfl
    · unfold updF
      rw [assocL_append, ← hf y, assocL_cons]
      by_cases hy : y = x
      · subst hy
        rw [if_pos rfl, hf, hfx, if_pos rfl]; rfl
      · rw [if_neg hy, if_neg hy]
        cases f y <;> rfl
  | some q =>
    rw [hs] at h3
    obtain ⟨a, b, rfl, hq, hna⟩ := seek_some hs
    obtain ⟨ea, ee, eb, hes, e1, e2, e3, e4⟩ := entries_split he
    have hfx : assocL (a ++ (x, q.2) :: b) x = some q.2 := by rw [assocL_append, assocL_none hna, assocL_cons, if_pos rfl]; rfl
    have hql : q.1 = ea.length := by rw [hq, entries_length e1]; omega
    have hget : es[q.1]? = some ee := by
      rw [← Array.getElem?_toList, hes, hql, List.getElem?_append_right (Nat.le_refl _)]
      simp
    have hmod : (es.modify q.1 fun z => { z with key := .int .i64 x, val := v }).toList = ea ++ { ee with key := .int .i64 x, val := v } :: eb := by
      rw [Array.toList_modify, hes, hql]
      exact modify_at _ _ _ _
    have hstay : (Instr.keyThatStays (.int .i64 x) (.int .i64 x)).run P w = .ok (.int .i64 x) w := by
      unfold Instr.keyThatStays
      rw [if_pos (by simp [Instr.sameBits])]
      rfl
    refine ⟨putB w m (.map (es.modify q.1 fun z => { z with key := .int .i64 x, val := v }) clock), ?_, ⟨_, _, a ++ (x, v) :: b, putB_same _ (lt_of_block hb), ?_, ?_, ?_, fun y => ?_⟩, (Only.refl _ w).putB _ fun _ => rfl⟩
    · have h4 := Go.MapKept.run_setObj_map (P := P) (.map (es.modify q.1 fun z => { z with key := .int .i64 x, val := v }) clock) hb
      simp [Instr.mapUpdate, Sem.run_bind, run_underlying ht, Result.andThen, h1, h2, h3, hget, e2, hstay, h4]
      rfl
    · rw [hmod]
      exact entries_join e1 rfl rfl e4
    · simpa using hnd
    · rw [hf, hfx]
      simpa using hn
    · unfold updF
      rw [hf y, assocL_append, assocL_append, assocL_cons, assocL_cons]
      by_cases hy : y = x
      · subst hy
        rw [if_pos rfl, if_pos rfl, assocL_none hna]; rfl
      · rw [if_neg hy, if_neg hy, if_neg hy]
theorem map_del (ht : P.underlying t = some (.map k e)) (hk : P.underlying k = some (.int .i64)) (h : IsMap w m f n) (x : Int) (v : Value) (hx : f x = some v) :
    ∃ w', (∀ t2 ty : TypeId, (Builtin.delete_ #[t, t2] ty #[.map (some m), .int .i64 x]).run P w = .ok (.tuple #[]) w') ∧ IsMap w' m (updF f x none) (n - 1) ∧ 1 ≤ n ∧ Only (fun j => j = m) w w' := by
  obtain ⟨es, clock, l, hb, he, hnd, hn, hf⟩ := h
  have h1 := Go.MapKept.run_getObj_map (P := P) hb
  have h2 := run_checkKey (P := P) (w := w) (k := .int .i64 x) hk (by first | trivial | exact ⟨_, rfl⟩ | simp [IsKey]) es.isEmpty 9999
  have h3 := map_seek (w := w) hk he x
  cases hs : seekL l x 0 with
  | none =>
    have hfx : assocL l x = none := by rw [assocL, hs]; rfl
    rw [hf, hfx] at hx
    cases hx
  | some q =>
    rw [hs] at h3
    obtain ⟨a, b, rfl, hq, hna⟩ := seek_some hs
    obtain ⟨ea, ee, eb, hes, e1, e2, e3, e4⟩ := entries_split he
    have hql : q.1 = ea.length := by rw [hq, entries_length e1]; omega
    have hnb : x ∉ b.map Prod.fst := by
      have := hnd
      rw [List.map_append, List.map_cons, List.nodup_append] at this
      exact (List.nodup_cons.1 this.2.1).1
    refine ⟨putB w m (.map (es.eraseIdxIfInBounds q.1) clock), fun t2 ty => ?_, ⟨_, _, a ++ b, putB_same _ (lt_of_block hb), ?_, ?_, ?_, fun y => ?_⟩, ?_, (Only.refl _ w).putB _ fun _ => rfl⟩
    · have h4 := Go.MapKept.run_setObj_map (P := P) (.map (es.eraseIdxIfInBounds q.1) clock) hb
      simp [Builtin.delete_, Sem.run_bind, run_underlying ht, Result.andThen, h1, h2, h3, h4]
      rfl
    · have : (es.eraseIdxIfInBounds q.1).toList = ea ++ eb := by
        rw [Array.toList_eraseIdxIfInBounds, hes, hql]
        exact erase_at _ _ _
      rw [this]
      unfold Entries at *
      rw [List.map_append, List.map_append, e1, e4]
    · rw [List.map_append, List.map_cons] at hnd
      rw [List.map_append]
      exact (hnd.sublist (List.Sublist.append_left (List.sublist_cons_self _ _) _))
    · simp at hn ⊢
      omega
    · unfold updF
      rw [hf y, assocL_append, assocL_append, assocL_cons]
      by_cases hy : y = x
      · subst hy
        rw [if_pos rfl, assocL_none hna, assocL_none hnb]; rfl
      · rw [if_neg hy, if_neg hy]
    · simp at hn
      omega
end
end Go.Proofs.Ytfiofjalpaeohaa
/- Contracts of the package disk. -/
namespace Go.Proofs.Ytfiofjalpaeohaa
set_option linter.unusedVariables false
set_option linter.unusedSimpArgs false
open Go.RowKit
/-- Another page at a slot. -/
def updP (pg : Int → Option (List Nat)) (k : Int) (v : Option (List Nat)) : Int → Option (List Nat) := fun y => if y = k then v else pg y
/-- A page's slice. -/
def PageIs (w : World) (X : Nat → Prop) (p m : Nat) (v : Value) (l : List Nat) : Prop :=
  ∃ g c, v = .slice (some ⟨g, 0, none⟩) 4096 c ∧ l.length = 4096 ∧ Row w 0 g c l ∧ ¬ X g ∧ g ≠ p ∧ g ≠ m
section
variable {w x : World} {X Y : Nat → Prop} {p m slots : Nat} {pg : Int → Option (List Nat)} {F : List Bool} {v : Value} {l : List Nat}
theorem page_only {G : Nat → Prop} (h : PageIs w X p m v l) (ho : Only G w x) (hG : ∀ b, ¬ X b → b ≠ p → b ≠ m → ¬ G b) : PageIs x X p m v l := by
  obtain ⟨g, c, rfl, h1, h2, h3, h4, h5⟩ := h
  exact ⟨g, c, rfl, h1, row_only h2 ho (hG g h3 h4 h5), h3, h4, h5⟩
end
end Go.Proofs.Ytfiofjalpaeohaa
/- Contracts of the package disk: what turns it. -/
namespace Go.Proofs.Ytfiofjalpaeohaa
set_option linter.unusedVariables false
set_option linter.unusedSimpArgs false
open Go.RowKit
section
variable {w : World} {X : Nat → Prop} {p m slots : Nat} {pg : Int → Option (List Nat)} {F F' : List Bool} {f : Int → Option Value} {fv fv' : Value}
end
end Go.Proofs.Ytfiofjalpaeohaa
/- Contracts of the package disk: New, Fail, Give. -/
namespace Go.Proofs.Ytfiofjalpaeohaa
set_option linter.unusedVariables false
set_option linter.unusedSimpArgs false
open Go.RowKit
/-- A slice of truths reads as l. -/
def Bools (w : World) (ad : Option Addr) (c : Nat) (l : List Bool) : Prop :=
  l.length ≤ c ∧ c ≤ maxLen ∧ (ad = none → c = 0) ∧ ∀ (k : Nat) (x : Bool), l[k]? = some x → ∃ bb off, ad = some ⟨bb, off, none⟩ ∧ bb < w.heap.size ∧ w.cell? ⟨bb, off + k, none⟩ = some (.bool x)
end Go.Proofs.Ytfiofjalpaeohaa
/- Contracts of the package disk: Give, Read, Write. -/
namespace Go.Proofs.Ytfiofjalpaeohaa
set_option linter.unusedVariables false
set_option linter.unusedSimpArgs false
open Go.RowKit
theorem zero_bytes (w : World) : (zeroValue 31).run Try.prog w = .ok (.slice none 0 0) w := by kernel_rfl
section
variable {w w' : World} {X : Nat → Prop} {p m slots : Nat} {pg pg' : Int → Option (List Nat)} {F F' : List Bool} {f f' : Int → Option Value} {fv fv' : Value}
end
end Go.Proofs.Ytfiofjalpaeohaa
/- Contracts of the package disk: Read, Write. -/
namespace Go.Proofs.Ytfiofjalpaeohaa
set_option linter.unusedVariables false
set_option linter.unusedSimpArgs false
open Go.RowKit
end Go.Proofs.Ytfiofjalpaeohaa
/- Contracts of the package disk: Write. -/
namespace Go.Proofs.Ytfiofjalpaeohaa
set_option linter.unusedVariables false
set_option linter.unusedSimpArgs false
open Go.RowKit
end Go.Proofs.Ytfiofjalpaeohaa
/- Contracts of the package disk: Take. -/
namespace Go.Proofs.Ytfiofjalpaeohaa
set_option linter.unusedVariables false
set_option linter.unusedSimpArgs false
open Go.RowKit
def zeros4096 : List Nat := List.replicate 4096 0
theorem zeros4096_length : zeros4096.length = 4096 := List.length_replicate
/-- A new page, all 0. -/
theorem make_page (w : World) : ∃ w', (Instr.makeSlice 31 (.int .i64 4096) (.int .i64 4096)).run Try.prog w = .ok (.slice (some ⟨w.heap.size, 0, none⟩) 4096 4096) w' ∧ Row w' w.heap.size w.heap.size 4096 zeros4096 ∧ Old w w' := by
  obtain ⟨i0, hi, hz0, hz1, hz2⟩ := info_parts u8_info
  obtain ⟨w', hrun, hown, hg⟩ := run_make_full (P := Try.prog) w w.heap.size 31 5 i0 (.int .u8 0) 1 Try.underlying31 hi hz0 hz1 .i64 .i64 4096 (by omega) (by unfold maxLen; omega) (Nat.le_refl _)
  refine ⟨w', hrun, ⟨?_, ?_⟩, old_grown (old_refl w) hg (fun g e => by cases e)⟩
  · have e : (madeCells (Value.int .u8 0).cells (4096 * 1)).toList = zeros4096.map vb := by
      rw [show (Value.int .u8 0).cells = #[.int .u8 0] from rfl, toList_madeCells_one]
      unfold zeros4096
      rw [List.map_replicate]
      rfl
    rw [zeros4096_length, ← e]
    exact hown
  · intro x hx
    have := List.eq_of_mem_replicate hx
    omega
end Go.Proofs.Ytfiofjalpaeohaa
/- Contracts of the package phys: the memory, what it holds, has, Frames, Ops, page, place, New. -/
namespace Go.Proofs.Ytfiofjalpaeohaa
set_option linter.unusedVariables false
set_option linter.unusedSimpArgs false
open Go.RowKit Go.MapKept
section
variable {P : Program} {t k e : TypeId} {w : World} {m n : Nat} {f : Int → Option Value}
theorem map_get (ht : P.underlying t = some (.map k e)) (hk : P.underlying k = some (.int .i64)) (h : IsMap w m f n) {x : Int} {v : Value} (hx : f x = some v) :
    (Instr.lookup t (.map (some m)) (.int .i64 x) false).run P w = .ok v w := by
  obtain ⟨es, clock, l, hb, he, _, _, hf⟩ := h
  rw [hf, assocL] at hx
  obtain ⟨y, hy, rfl⟩ := Option.map_eq_some_iff.1 hx
  have h1 := Go.MapKept.run_getObj_map (P := P) hb
  have h2 := run_checkKey (P := P) (w := w) (k := .int .i64 x) hk (by first | trivial | exact ⟨_, rfl⟩ | simp [IsKey]) es.isEmpty 9999
  have h3 := map_seek (w := w) hk he x
  rw [hy] at h3
  simp [Instr.lookup, Sem.run_bind, run_underlying ht, Result.andThen, h1, h2, h3]
theorem map_get_none (ht : P.underlying t = some (.map k e)) (hk : P.underlying k = some (.int .i64)) {z : Value} (hz : (zeroValue e).run P w = .ok z w) (h : IsMap w m f n) {x : Int} (hx : f x = none) :
    (Instr.lookup t (.map (some m)) (.int .i64 x) false).run P w = .ok z w := by
  obtain ⟨es, clock, l, hb, he, _, _, hf⟩ := h
  rw [hf, assocL] at hx
  have hy : seekL l x 0 = none := Option.map_eq_none_iff.1 hx
  have h1 := Go.MapKept.run_getObj_map (P := P) hb
  have h2 := run_checkKey (P := P) (w := w) (k := .int .i64 x) hk (by first | trivial | exact ⟨_, rfl⟩ | simp [IsKey]) es.isEmpty 9999
  have h3 := map_seek (w := w) hk he x
  rw [hy] at h3
  simp [Instr.lookup, Sem.run_bind, run_underlying ht, Result.andThen, h1, h2, h3, hz]
theorem map_del_none (ht : P.underlying t = some (.map k e)) (hk : P.underlying k = some (.int .i64)) (h : IsMap w m f n) (x : Int) (hx : f x = none) :
    ∀ t2 ty : TypeId, (Builtin.delete_ #[t, t2] ty #[.map (some m), .int .i64 x]).run P w = .ok (.tuple #[]) w := by
  obtain ⟨es, clock, l, hb, he, hnd, hn, hf⟩ := h
  rw [hf, assocL] at hx
  have hy : seekL l x 0 = none := Option.map_eq_none_iff.1 hx
  have h1 := Go.MapKept.run_getObj_map (P := P) hb
  have h2 := run_checkKey (P := P) (w := w) (k := .int .i64 x) hk (by first | trivial | exact ⟨_, rfl⟩ | simp [IsKey]) es.isEmpty 9999
  have h3 := map_seek (w := w) hk he x
  rw [hy] at h3
  intro t2 ty
  have h4 := Go.MapKept.run_setObj_map (P := P) (.map es clock) hb
  have hid : putB w m (.map es clock) = w := by
    unfold putB
    have : w.heap.setIfInBounds m (.map es clock) = w.heap := by
      apply Array.ext_getElem?
      intro i
      rw [Array.getElem?_setIfInBounds]
      by_cases hi : m = i
      · subst hi
        rw [if_pos rfl, hb, if_pos (lt_of_block hb)]
      · rw [if_neg hi]
    rw [this]
  simp [Builtin.delete_, Sem.run_bind, run_underlying ht, Result.andThen, h1, h2, h3, h4]
  exact hid
end
/-- The cells of a memory. -/
def memCells (frames m ops : Nat) : Array Value := #[.int .i64 frames, .map (some m), .int .i64 ops]
/-- Block p holds a memory; X: blocks that are not its own. -/
def IsMem (w : World) (X : Nat → Prop) (p frames : Nat) (pg : Int → Option (List Nat)) (ops : Nat) : Prop :=
  ∃ m f n, w.heap[p]? = some (.cells (memCells frames m ops) 134) ∧ ¬ X p ∧ IsMap w m f n ∧ ¬ X m ∧ m ≠ p ∧ (1 ≤ frames ∧ frames ≤ 1048576) ∧
    (∀ k, pg k = none → f k = none) ∧ (∀ k l, pg k = some l → ∃ v, f k = some v ∧ PageIs w X p m v l)
/-- A frame's bytes. -/
def pageOf (pg : Int → Option (List Nat)) (k : Int) : List Nat := (pg k).getD zeros4096
section
variable {w x : World} {X Y : Nat → Prop} {p frames ops : Nat} {pg : Int → Option (List Nat)}
/-- Others' blocks were turned. -/
theorem mem_only {G : Nat → Prop} (h : IsMem w X p frames pg ops) (ho : Only G w x) (hG : ∀ b, ¬ X b → ¬ G b) : IsMem x X p frames pg ops := by
  obtain ⟨m, f, n, h1, h2, h3, h4, h5, h6, h7, h8⟩ := h
  refine ⟨m, f, n, keep_only ho (hG p h2) h1, h2, isMap_only h3 ho (hG m h4), h4, h5, h6, h7, fun k l hk => ?_⟩
  obtain ⟨v, a, b⟩ := h8 k l hk
  exact ⟨v, a, page_only b ho fun b hb _ _ => hG b hb⟩
theorem mem_old (h : IsMem w X p frames pg ops) (ho : Old w x) : IsMem x X p frames pg ops := mem_only h (Only.of_below ho) fun _ _ f => f
/-- More blocks that are not the memory's own. -/
theorem mem_more (h : IsMem w X p frames pg ops) (hY : ∀ b, Y b → X b ∨ w.heap.size ≤ b) : IsMem w Y p frames pg ops := by
  obtain ⟨m, f, n, h1, h2, h3, h4, h5, h6, h7, h8⟩ := h
  have key : ∀ b, ¬ X b → b < w.heap.size → ¬ Y b := fun b hb hl hy => (hY b hy).elim hb (by omega)
  refine ⟨m, f, n, h1, key p h2 (lt_of_block h1), h3, key m h4 (isMap_lt h3), h5, h6, h7, fun k l hk => ?_⟩
  obtain ⟨v, a, g, c, rfl, b1, b2, b3, b4, b5⟩ := h8 k l hk
  exact ⟨_, a, g, c, rfl, b1, b2, key g b3 (row_parts b2).2.1, b4, b5⟩
theorem pageOf_length (h : IsMem w X p frames pg ops) (k : Int) : (pageOf pg k).length = 4096 := by
  unfold pageOf
  cases hk : pg k with
  | none => exact zeros4096_length
  | some l =>
    obtain ⟨m, f, n, h1, h2, h3, h4, h5, h6, h7, h8⟩ := h
    obtain ⟨v, _, g, c, _, hl, _⟩ := h8 k l hk
    exact hl
/-- Another count of reads and writes. -/
theorem mem_ops (h : IsMem w X p frames pg ops) (o2 : Nat) : ∃ C, w.heap[p]? = some (.cells C 134) ∧ C[2]? = some (.int .i64 ops) ∧ IsMem (putB w p (.cells (C.setIfInBounds 2 (.int .i64 o2)) 134)) X p frames pg o2 ∧ Only (fun b => ¬ X b) w (putB w p (.cells (C.setIfInBounds 2 (.int .i64 o2)) 134)) := by
  obtain ⟨m, f, n, h1, h2, h3, h4, h5, h6, h7, h8⟩ := h
  have hp := lt_of_block h1
  have ho : Only (fun b => b = p) w (putB w p (.cells (memCells frames m o2) 134)) := (Only.refl _ _).putB _ (fun _ => rfl)
  refine ⟨_, h1, rfl, ⟨m, f, n, putB_same _ hp, h2, isMap_only h3 ho (fun e => h5 e), h4, h5, h6, h7, fun k l hk => ?_⟩, ho.mono fun b _ e => by rw [e]; exact h2⟩
  obtain ⟨v, a, b⟩ := h8 k l hk
  exact ⟨v, a, page_only b ho fun b _ hp _ e => hp e⟩
/-- A page laid. -/
theorem mem_page (h : IsMem w X p frames pg ops) (k : Int) (l : List Nat) (B g c : Nat) (hr : Row w B g c l) (hl : l.length = 4096) (hg : ¬ X g) (hgp : g ≠ p) (hgm : ∀ m, w.cell? ⟨p, 1, none⟩ = some (.map (some m)) → g ≠ m) :
    ∃ m, w.cell? ⟨p, 1, none⟩ = some (.map (some m)) ∧ ∃ w', (Instr.mapUpdate 106 (.map (some m)) (.int .i64 k) (.slice (some ⟨g, 0, none⟩) 4096 c)).run Try.prog w = .ok () w' ∧ IsMem w' X p frames (updP pg k (some l)) ops ∧ Only (fun b => ¬ X b) w w' := by
  obtain ⟨m, f, n, h1, h2, h3, h4, h5, h6, h7, h8⟩ := h
  have c1 : w.cell? ⟨p, 1, none⟩ = some (.map (some m)) := by rw [cell_of h1]; rfl
  obtain ⟨w', hput, hmap, ho⟩ := map_put (P := Try.prog) (t := 106) Try.underlying106 Try.underlying3 h3 k (.slice (some ⟨g, 0, none⟩) 4096 c)
  refine ⟨m, c1, w', hput, ⟨m, _, _, keep_only ho (fun e => h5 e.symm) h1, h2, hmap, h4, h5, h6, fun j hj => ?_, fun j lj hj => ?_⟩, ho.mono fun b _ e => by rw [e]; exact h4⟩
  · unfold updP at hj
    unfold updF
    by_cases e : j = k
    · rw [if_pos e] at hj; cases hj
    · rw [if_neg e] at hj ⊢; exact h7 j hj
  · unfold updP at hj
    unfold updF
    by_cases e : j = k
    · rw [if_pos e] at hj ⊢
      obtain rfl := Option.some.inj hj
      have hr0 : Row w 0 g c l := by
        refine ⟨⟨hr.1.1, ?_⟩, hr.2⟩
        rcases hr.1.2 with h' | ⟨g', cap', cur, h', hb, rest⟩
        · exact .inl h'
        · exact .inr ⟨g', cap', cur, h', Nat.zero_le _, rest⟩
      exact ⟨_, rfl, g, c, rfl, hl, row_only hr0 ho (fun e => hgm m c1 e), hg, hgp, hgm m c1⟩
    · rw [if_neg e] at hj ⊢
      obtain ⟨v, a, b⟩ := h8 j lj hj
      exact ⟨v, a, page_only b ho fun b _ _ hm e => hm e⟩
/-- A page taken away. -/
theorem mem_zero (h : IsMem w X p frames pg ops) (k : Int) :
    ∃ m, w.cell? ⟨p, 1, none⟩ = some (.map (some m)) ∧ ∃ w', (∀ ty : TypeId, (Builtin.delete_ #[106, 3] ty #[.map (some m), .int .i64 k]).run Try.prog w = .ok (.tuple #[]) w') ∧ IsMem w' X p frames (updP pg k none) ops ∧ Only (fun b => ¬ X b) w w' := by
  obtain ⟨m, f, n, h1, h2, h3, h4, h5, h6, h7, h8⟩ := h
  have c1 : w.cell? ⟨p, 1, none⟩ = some (.map (some m)) := by rw [cell_of h1]; rfl
  cases hk : pg k with
  | none =>
    have hdel := map_del_none (P := Try.prog) (t := 106) Try.underlying106 Try.underlying3 h3 k (h7 k hk)
    have e : updP pg k none = pg := by
      funext j
      unfold updP
      by_cases hj : j = k
      · rw [if_pos hj, hj, hk]
      · rw [if_neg hj]
    rw [e]
    exact ⟨m, c1, w, fun ty => hdel 3 ty, ⟨m, f, n, h1, h2, h3, h4, h5, h6, h7, h8⟩, Only.refl _ _⟩
  | some l =>
    obtain ⟨v, hv, hpg⟩ := h8 k l hk
    obtain ⟨w', hdel, hmap, -, ho⟩ := map_del (P := Try.prog) (t := 106) Try.underlying106 Try.underlying3 h3 k v hv
    refine ⟨m, c1, w', fun ty => hdel 3 ty, ⟨m, _, _, keep_only ho (fun e => h5 e.symm) h1, h2, hmap, h4, h5, h6, fun j hj => ?_, fun j lj hj => ?_⟩, ho.mono fun b _ e => by rw [e]; exact h4⟩
    · unfold updP at hj
      unfold updF
      by_cases e : j = k
      · rw [if_pos e]
      · rw [if_neg e] at hj ⊢; exact h7 j hj
    · unfold updP at hj
      unfold updF
      by_cases e : j = k
      · rw [if_pos e] at hj; cases hj
      · rw [if_neg e] at hj ⊢
        obtain ⟨v, a, b⟩ := h8 j lj hj
        exact ⟨v, a, page_only b ho fun b _ _ hm e => hm e⟩
end
/-- What a method of the memory leaves. -/
def RetMem (w : World) (X : Nat → Prop) (p frames : Nat) (v : Value) (pg : Int → Option (List Nat)) (ops : Nat) (e : Ending) (w' : World) : Prop :=
  e = .returned v ∧ IsMem w' X p frames pg ops ∧ Only (fun b => ¬ X b) w w'
theorem physNew_none (s : Int) (w : World) (h : ¬ (1 ≤ s ∧ s ≤ 1048576)) : Calls Try.prog 47 #[.int .i64 s] w (RetB w (.tuple #[.pointer none, .int .i64 1])) := by
  by_cases h1 : s < 1
  · clear h
    go_enter Try.func47, Try.ntmps47
    go_wp2
    go_ret2
    exact ⟨rfl, old_refl _⟩
  · have h2 : 1048576 < s := by omega
    clear h
    go_enter Try.func47, Try.ntmps47
    go_wp2
    go_ret2
    exact ⟨rfl, old_refl _⟩
theorem physNew_calls (n : Nat) (w : World) (h1 : 1 ≤ n) (h2 : n ≤ 1048576) : Calls Try.prog 47 #[.int .i64 n] w (fun e w' =>
    e = .returned (.tuple #[.pointer (some ⟨w.heap.size + 1, 0, none⟩), .int .i64 0]) ∧ Old w w' ∧ w'.heap.size = w.heap.size + 2 ∧ ∀ X : Nat → Prop, (∀ b, X b → b < w.heap.size) → IsMem w' X (w.heap.size + 1) n (fun _ => none) 0) := by
  have i1 : (1 : Int) ≤ n := by omega
  have i2 : (n : Int) ≤ 1048576 := by omega
  have hmm := @run_makeMap Try.prog
  go_enter Try.func47, Try.ntmps47
  go_wp2
  go_ret2
  refine ⟨?_, old_alloc (old_alloc (old_refl w) _) _, by simp, fun X hX => ⟨w.heap.size, fun _ => none, 0, ?_, fun f => by have := hX _ f; omega, isMap_old (isMap_made w) (old_alloc (old_refl _) _), fun f => by have := hX _ f; omega, by omega, ⟨h1, h2⟩, fun _ _ => rfl, fun k l hk => by cases hk⟩⟩
  · first | rfl | simp
  · exact alloc_heap_new _ _ _ (by simp)
section
variable {X : Nat → Prop} {p frames ops : Nat} {pg : Int → Option (List Nat)} {w : World}
theorem frames_calls (h : IsMem w X p frames pg ops) : Calls Try.prog 65 #[.pointer (some ⟨p, 0, none⟩)] w (RetB w (.int .i64 frames)) := by
  obtain ⟨m, f, n, h1, h2, h3, h4, h5, h6, h7, h8⟩ := h
  have c0 : w.cell? ⟨p, 0, none⟩ = some (.int .i64 frames) := by rw [cell_of h1]; rfl
  clear h1 h2 h3 h4 h5 h6 h7 h8
  go_enter Try.func65, Try.ntmps65
  go_wp2
  go_ret
  exact ⟨rfl, old_refl _⟩
theorem ops_calls (h : IsMem w X p frames pg ops) : Calls Try.prog 52 #[.pointer (some ⟨p, 0, none⟩)] w (RetB w (.int .i64 ops)) := by
  obtain ⟨m, f, n, h1, h2, h3, h4, h5, h6, h7, h8⟩ := h
  have c2 : w.cell? ⟨p, 2, none⟩ = some (.int .i64 ops) := by rw [cell_of h1]; rfl
  clear h1 h2 h3 h4 h5 h6 h7 h8
  go_enter Try.func52, Try.ntmps52
  go_wp2
  go_ret
  exact ⟨rfl, old_refl _⟩
def hasB (frames : Nat) (k : Int) : Bool := decide (0 ≤ k) && decide (k < frames)
theorem has_calls (h : IsMem w X p frames pg ops) (k : Int) : Calls Try.prog 85 #[.pointer (some ⟨p, 0, none⟩), .int .i64 k] w (RetB w (.bool (hasB frames k))) := by
  obtain ⟨m, f, n, h1, h2, h3, h4, h5, h6, h7, h8⟩ := h
  have c0 : w.cell? ⟨p, 0, none⟩ = some (.int .i64 frames) := by rw [cell_of h1]; rfl
  clear h1 h2 h3 h4 h5 h6 h7 h8
  by_cases k0 : 0 ≤ k
  · by_cases k1 : k < frames
    · have e : hasB frames k = true := by unfold hasB; simp [k0, k1]
      rw [e]
      clear e
      go_enter Try.func85, Try.ntmps85
      go_wp2
      go_ret
      exact ⟨rfl, old_refl _⟩
    · have e : hasB frames k = false := by unfold hasB; simp [k1]
      rw [e]
      clear e
      go_enter Try.func85, Try.ntmps85
      go_wp2
      go_ret
      exact ⟨rfl, old_refl _⟩
  · have e : hasB frames k = false := by unfold hasB; simp [k0]
    rw [e]
    clear e
    go_enter Try.func85, Try.ntmps85
    go_wp2
    go_ret
    exact ⟨rfl, old_refl _⟩
/-- page tells a frame's bytes: its own block, or a new one. -/
theorem page_calls (h : IsMem w X p frames pg ops) (k : Int) : Calls Try.prog 83 #[.pointer (some ⟨p, 0, none⟩), .int .i64 k] w (fun e w' => ∃ g c, e = .returned (.slice (some ⟨g, 0, none⟩) 4096 c) ∧ Row w' 0 g c (pageOf pg k) ∧ Old w w') := by
  have hl := pageOf_length h k
  obtain ⟨m, f, n, h1, h2, h3, h4, h5, h6, h7, h8⟩ := h
  have c1 : w.cell? ⟨p, 1, none⟩ = some (.map (some m)) := by rw [cell_of h1]; rfl
  cases hk : pg k with
  | none =>
    have hlk := map_miss (P := Try.prog) (t := 106) Try.underlying106 Try.underlying3 (zero_bytes w) h3 (h7 k hk)
    obtain ⟨w2, hmk, hrow, hO⟩ := make_page w
    have hp0 : pageOf pg k = zeros4096 := by unfold pageOf; rw [hk]; rfl
    rw [hp0]
    have hr0 : Row w2 0 w.heap.size 4096 zeros4096 := by
      refine ⟨⟨hrow.1.1, ?_⟩, hrow.2⟩
      rcases hrow.1.2 with h' | ⟨g', cap', cur, h', hb, rest⟩
      · exact .inl h'
      · exact .inr ⟨g', cap', cur, h', Nat.zero_le _, rest⟩
    have HR := Lib.hid (And.intro hr0 hO)
    clear h1 h2 h3 h4 h5 h6 h7 h8 hl hk hrow hO hr0 hp0
    go_enter Try.func83, Try.ntmps83
    go_wp2
    go_ret
    exact ⟨_, _, rfl, HR.out.1, HR.out.2⟩
  | some l =>
    obtain ⟨v, hv, g, c, rfl, b1, b2, b3, b4, b5⟩ := h8 k l hk
    have hlk := map_lookup (P := Try.prog) (t := 106) Try.underlying106 Try.underlying3 h3 hv
    have hp0 : pageOf pg k = l := by unfold pageOf; rw [hk]; rfl
    rw [hp0]
    have HR := Lib.hid b2
    clear h1 h2 h3 h4 h5 h6 h7 h8 hl hk hv b1 b2 b3 b4 b5 hp0
    go_enter Try.func83, Try.ntmps83
    go_wp2
    go_ret
    exact ⟨_, _, rfl, HR.out, old_refl _⟩
end
end Go.Proofs.Ytfiofjalpaeohaa
/- Contracts of the package phys: place, Read, Write. -/
namespace Go.Proofs.Ytfiofjalpaeohaa
set_option linter.unusedVariables false
set_option linter.unusedSimpArgs false
open Go.RowKit
/-- Why a word may not be. -/
def placeE (frames : Nat) (addr : Nat) (s : Int) : Int := if checkN 4096 ((addr % 4096 : Nat) : Int) s ≠ 0 then checkN 4096 ((addr % 4096 : Nat) : Int) s else if frames ≤ addr / 4096 then 2 else 0
section
variable {X : Nat → Prop} {p frames ops : Nat} {pg : Int → Option (List Nat)} {w : World}
theorem mplace_calls (h : IsMem w X p frames pg ops) (addr : Nat) (ha : addr < 18446744073709551616) (s : Int) :
    Calls Try.prog 81 #[.pointer (some ⟨p, 0, none⟩), .int .u64 (addr : Nat), .int .i64 s] w
      (RetB w (.tuple (if placeE frames addr s = 0 then #[.int .i64 (addr / 4096 : Nat), .int .i64 (addr % 4096 : Nat), .int .i64 0] else #[.int .i64 0, .int .i64 0, .int .i64 (placeE frames addr s)]))) := by
  obtain ⟨w1, hmk, hrow, hO⟩ := make_page w
  obtain ⟨m, f, n, h1, h2, h3, h4, h5, h6, h7, h8⟩ := h
  have c0 : w.cell? ⟨p, 0, none⟩ = some (.int .i64 frames) := by rw [cell_of h1]; rfl
  have hB := row_bytes hrow
  have hp := lt_of_block h1
  have e1 : ((addr : Int) % 4096) = ((addr % 4096 : Nat) : Int) := by omega
  have e2 : ((addr : Int) / 4096) = ((addr / 4096 : Nat) : Int) := by omega
  have hfr : IntKind.u64.wrap (frames : Int) = frames := IntWalk.u64_in _ (by omega)
  have hlo : addr % 4096 < 4096 := Nat.mod_lt _ (by decide)
  have hhi : addr / 4096 ≤ 9007199254740992 := by omega
  generalize hA : addr % 4096 = at_ at *
  generalize hF : addr / 4096 = fr at *
  have HA := Lib.hid (And.intro hA hF)
  have hPE : placeE frames addr s = if checkN 4096 (at_ : Int) s ≠ 0 then checkN 4096 (at_ : Int) s else if frames ≤ fr then 2 else 0 := by unfold placeE; rw [hA, hF]
  rw [hPE]
  clear hPE
  by_cases hc : checkN 4096 (at_ : Int) s = 0
  case neg =>
    have e : (if checkN 4096 (at_ : Int) s ≠ 0 then checkN 4096 (at_ : Int) s else if frames ≤ fr then 2 else 0) = checkN 4096 (at_ : Int) s := if_pos hc
    rw [e, if_neg hc]
    clear e
    have hget := fun x => get_fail (some ⟨w.heap.size, 0, none⟩) 4096 4096 (at_ : Int) s x (by decide) _ rfl hc
    generalize checkN 4096 (at_ : Int) s = E at *
    have hb : (E != 0) = true := by simp [hc]
    have HO := Lib.hid hO
    clear h1 h2 h3 h4 h5 h6 h7 h8 hA hF hB hrow hO hc c0
    go_enter Try.func81, Try.ntmps81
    go_wp2_with fail
    (with_reducible refine (hget _).mono ?_)
    rintro e w2 ⟨rfl, hb2⟩
    go_wp2
    go_ret3
    exact ⟨rfl, old_then HO.out hb2⟩
  case pos =>
  have e : (if checkN 4096 (at_ : Int) s ≠ 0 then checkN 4096 (at_ : Int) s else if frames ≤ fr then (2 : Int) else 0) = if frames ≤ fr then 2 else 0 := if_neg (by simp [hc])
  rw [e]
  clear e
  have hs : 1 ≤ s ∧ s ≤ 8 ∧ (at_ : Int) + s ≤ 4096 := by
    unfold checkN at hc
    split at hc
    · cases hc
    split at hc
    · cases hc
    split at hc
    · cases hc
    rename_i g1 g2 g3
    have g1' := Classical.not_not.1 g1
    omega
  obtain ⟨sn, rfl⟩ : ∃ sn : Nat, s = sn := ⟨s.toNat, by omega⟩
  have hz := zeros4096_length
  have hget := fun x (hBx : Bytes x (some ⟨w.heap.size, 0, none⟩) 4096 zeros4096) => get_ok (some ⟨w.heap.size, 0, none⟩) zeros4096 4096 (at_ : Int) (sn : Int) at_ sn rfl rfl x hBx (by rw [hz]; exact hc) (by omega) (by omega) (by omega)
  rw [hz] at hget
  have hg1 := hget w1 hB
  generalize getN zeros4096 at_ sn = gv at *
  have HO := Lib.hid hO
  have H1 := Lib.hid h1
  have hold : ∀ y, Old w1 y → y.cell? ⟨p, 0, none⟩ = some (.int .i64 frames) := fun y hy => by rw [cell_of (keep_old hy (keep_old hO h1))]; rfl
  have HC := Lib.hid hold
  have hcast : IntKind.i64.wrap (fr : Int) = fr := IntWalk.i64_in _ (by omega)
  by_cases hr : frames ≤ fr
  · have e : (if frames ≤ fr then (2 : Int) else 0) = 2 := if_pos hr
    rw [e, if_neg (by decide)]
    clear e
    clear h1 h2 h3 h4 h5 h6 h7 h8 hA hF hB hrow hO hc c0 hz hget hold
    go_enter Try.func81, Try.ntmps81
    go_wp2_with fail
    (with_reducible refine hg1.mono ?_)
    rintro e w2 ⟨rfl, hb2⟩
    have c0 := HC.out _ hb2
    go_wp2
    go_ret3
    exact ⟨rfl, old_then HO.out hb2⟩
  · have e : (if frames ≤ fr then (2 : Int) else 0) = 0 := if_neg hr
    rw [e, if_pos rfl]
    clear e
    clear h1 h2 h3 h4 h5 h6 h7 h8 hA hF hB hrow hO hc c0 hz hget hold
    go_enter Try.func81, Try.ntmps81
    go_wp2_with fail
    (with_reducible refine hg1.mono ?_)
    rintro e w2 ⟨rfl, hb2⟩
    have c0 := HC.out _ hb2
    go_wp2
    go_ret3
    exact ⟨rfl, old_then HO.out hb2⟩
end
end Go.Proofs.Ytfiofjalpaeohaa
/- Contracts of the package phys: Read, Write; bytes.Clone, bytes.Equal. -/
namespace Go.Proofs.Ytfiofjalpaeohaa
set_option linter.unusedVariables false
set_option linter.unusedSimpArgs false
open Go.RowKit
theorem placeE_zero {frames addr : Nat} {s : Int} (h : placeE frames addr s = 0) : checkN 4096 ((addr % 4096 : Nat) : Int) s = 0 ∧ addr / 4096 < frames ∧ 1 ≤ s ∧ s ≤ 8 ∧ ((addr % 4096 : Nat) : Int) + s ≤ 4096 := by
  have hc : checkN 4096 ((addr % 4096 : Nat) : Int) s = 0 := by
    unfold placeE at h
    split at h
    · rename_i h1; exact absurd h h1
    · rename_i h1; exact Classical.not_not.1 h1
  have hf : addr / 4096 < frames := by
    unfold placeE at h
    rw [if_neg (fun g => g hc)] at h
    split at h
    · cases h
    · omega
  refine ⟨hc, hf, ?_⟩
  unfold checkN at hc
  split at hc
  · cases hc
  split at hc
  · cases hc
  split at hc
  · cases hc
  rename_i g1 g2 g3
  have g1' := Classical.not_not.1 g1
  omega
section
variable {X : Nat → Prop} {p frames ops : Nat} {pg : Int → Option (List Nat)} {w : World}
theorem read_fail2 (h : IsMem w X p frames pg ops) (addr : Nat) (ha : addr < 18446744073709551616) (s : Int) (he : placeE frames addr s ≠ 0) :
    Calls Try.prog 48 #[.pointer (some ⟨p, 0, none⟩), .int .u64 (addr : Nat), .int .i64 s] w (RetB w (.tuple #[.int .u64 0, .int .i64 (placeE frames addr s)])) := by
  have hp := mplace_calls h addr ha s
  rw [if_neg he] at hp
  generalize placeE frames addr s = E at *
  have hb : (E != 0) = true := by simp [he]
  clear he h
  go_enter Try.func48, Try.ntmps48
  go_wp2_with fail
  (with_reducible refine hp.mono ?_)
  rintro e w1 ⟨rfl, hb1⟩
  go_wp2
  go_ret2
  exact ⟨rfl, hb1⟩
/-- What a frame's number is. -/
def wordOf (pg : Int → Option (List Nat)) (addr : Nat) (s : Int) : Nat := getN (pageOf pg ((addr / 4096 : Nat) : Int)) (addr % 4096) s.toNat
set_option maxHeartbeats 1000000 in
theorem read_ok2 (h : IsMem w X p frames pg ops) (addr : Nat) (ha : addr < 18446744073709551616) (s : Int) (he : placeE frames addr s = 0) (ho : ops < 4611686018427387904) :
    Calls Try.prog 48 #[.pointer (some ⟨p, 0, none⟩), .int .u64 (addr : Nat), .int .i64 s] w (RetMem w X p frames (.tuple #[.int .u64 (wordOf pg addr s : Nat), .int .i64 0]) pg (ops + 1)) := by
  have hp := mplace_calls h addr ha s
  rw [if_pos he] at hp
  obtain ⟨hc, hf, hs1, hs8, hle⟩ := placeE_zero he
  obtain ⟨sn, rfl⟩ : ∃ sn : Nat, s = sn := ⟨s.toNat, by omega⟩
  have hl := fun k => pageOf_length h k
  have H := Lib.hid h
  have hv : wordOf pg addr (sn : Int) = getN (pageOf pg ((addr / 4096 : Nat) : Int)) (addr % 4096) sn := rfl
  rw [hv]
  clear hv
  generalize addr / 4096 = fr at *
  generalize addr % 4096 = at_ at *
  have hget := fun x c g (hBx : Bytes x (some ⟨g, 0, none⟩) c (pageOf pg (fr : Int))) => get_ok (some ⟨g, 0, none⟩) (pageOf pg (fr : Int)) c (at_ : Int) (sn : Int) at_ sn rfl rfl x hBx (by rw [hl]; exact hc) (by rw [hl]; omega) (by omega) (by omega)
  simp only [hl] at hget
  have HG := Lib.hid hget
  clear h he hc hf hle hl hget
  go_enter Try.func48, Try.ntmps48
  go_wp2_with fail
  (with_reducible refine hp.mono ?_)
  rintro e w1 ⟨rfl, hb1⟩
  obtain ⟨C, hC1, hC2, hm, hOn⟩ := mem_ops (mem_old H.out hb1) (ops + 1)
  have hcell : w1.cell? ⟨p, 2, none⟩ = some (.int .i64 ops) := by rw [cell_of hC1]; exact hC2
  have hfr := frozen_of hC1 2
  have hset : w1.setCell ⟨p, 2, none⟩ (.int .i64 ((ops : Int) + 1)) = putB w1 p (.cells (C.setIfInBounds 2 (.int .i64 ((ops + 1 : Nat) : Int))) 134) := by rw [set_of hC1]; rfl
  generalize putB w1 p (.cells (C.setIfInBounds 2 (.int .i64 ((ops + 1 : Nat) : Int))) 134) = W at *
  have hO1 : Only (fun b => ¬ X b) w W := ((Only.of_below hb1).mono fun b _ f => f.elim).trans hOn
  have hpg := page_calls hm (fr : Int)
  have HM := Lib.hid (And.intro hm hO1)
  clear hC1 hC2 hm hOn hO1 hb1 hp
  go_wp2_with fail
  (with_reducible refine hpg.mono ?_)
  rintro e w2 ⟨g, c, rfl, hrow, hO2⟩
  have hg1 := HG.out w2 c g (row_bytes hrow)
  have HM2 := Lib.hid (And.intro (mem_old HM.out.1 hO2) (HM.out.2.trans ((Only.of_below hO2).mono fun b _ f => f.elim)))
  clear hpg hrow hO2
  go_wp2_with fail
  (with_reducible refine hg1.mono ?_)
  rintro e w3 ⟨rfl, hO3⟩
  have HM3 := Lib.hid (And.intro (mem_old HM2.out.1 hO3) (HM2.out.2.trans ((Only.of_below hO3).mono fun b _ f => f.elim)))
  clear hg1 hO3
  go_wp2
  go_ret2
  exact ⟨rfl, HM3.out.1, HM3.out.2⟩
theorem write_fail2 (h : IsMem w X p frames pg ops) (addr : Nat) (ha : addr < 18446744073709551616) (s : Int) (v : Int) (he : placeE frames addr s ≠ 0) :
    Calls Try.prog 49 #[.pointer (some ⟨p, 0, none⟩), .int .u64 (addr : Nat), .int .i64 s, .int .u64 v] w (RetB w (.int .i64 (placeE frames addr s))) := by
  have hp := mplace_calls h addr ha s
  rw [if_neg he] at hp
  generalize placeE frames addr s = E at *
  have hb : (E != 0) = true := by simp [he]
  clear he h
  go_enter Try.func49, Try.ntmps49
  go_wp2_with fail
  (with_reducible refine hp.mono ?_)
  rintro e w1 ⟨rfl, hb1⟩
  go_wp2
  go_ret
  exact ⟨rfl, hb1⟩
/-- A frame with another number. -/
def wroteOf (pg : Int → Option (List Nat)) (addr : Nat) (s : Int) (v : Nat) : List Nat := putL (pageOf pg ((addr / 4096 : Nat) : Int)) (addr % 4096) v s.toNat
set_option maxHeartbeats 1000000 in
theorem write_ok2 (h : IsMem w X p frames pg ops) (hX : ∀ b, X b → b < w.heap.size) (addr : Nat) (ha : addr < 18446744073709551616) (s : Int) (v : Nat) (he : placeE frames addr s = 0) (ho : ops < 4611686018427387904) :
    Calls Try.prog 49 #[.pointer (some ⟨p, 0, none⟩), .int .u64 (addr : Nat), .int .i64 s, .int .u64 (v : Nat)] w (RetMem w X p frames (.int .i64 0) (updP pg ((addr / 4096 : Nat) : Int) (some (wroteOf pg addr s v))) (ops + 1)) := by
  have hp := mplace_calls h addr ha s
  rw [if_pos he] at hp
  obtain ⟨hc, hf, hs1, hs8, hle⟩ := placeE_zero he
  obtain ⟨sn, rfl⟩ : ∃ sn : Nat, s = sn := ⟨s.toNat, by omega⟩
  have hl := fun k => pageOf_length h k
  have H := Lib.hid h
  have hv : wroteOf pg addr (sn : Int) v = putL (pageOf pg ((addr / 4096 : Nat) : Int)) (addr % 4096) v sn := rfl
  rw [hv]
  clear hv
  generalize addr / 4096 = fr at *
  generalize addr % 4096 = at_ at *
  have hput := fun x c g (hBx : Bytes x (some ⟨g, 0, none⟩) c (pageOf pg (fr : Int))) => put_ok (some ⟨g, 0, none⟩) (pageOf pg (fr : Int)) c (at_ : Int) (sn : Int) (v : Int) at_ sn v rfl rfl rfl x hBx (by rw [hl]; exact hc) (by rw [hl]; omega) (by omega) (by omega) (by rw [hl]; decide)
  simp only [hl] at hput
  have hll := putL_length (pageOf pg (fr : Int)) at_ v sn
  rw [hl] at hll
  have HG := Lib.hid hput
  have HLL := Lib.hid hll
  clear h he hc hf hle hl hput hll
  go_enter Try.func49, Try.ntmps49
  go_wp2_with fail
  (with_reducible refine hp.mono ?_)
  rintro e w1 ⟨rfl, hb1⟩
  obtain ⟨C, hC1, hC2, hm, hOn⟩ := mem_ops (mem_old H.out hb1) (ops + 1)
  have hcell : w1.cell? ⟨p, 2, none⟩ = some (.int .i64 ops) := by rw [cell_of hC1]; exact hC2
  have hfr := frozen_of hC1 2
  have hset : w1.setCell ⟨p, 2, none⟩ (.int .i64 ((ops : Int) + 1)) = putB w1 p (.cells (C.setIfInBounds 2 (.int .i64 ((ops + 1 : Nat) : Int))) 134) := by rw [set_of hC1]; rfl
  generalize putB w1 p (.cells (C.setIfInBounds 2 (.int .i64 ((ops + 1 : Nat) : Int))) 134) = W at *
  have hO1 : Only (fun b => ¬ X b) w W := ((Only.of_below hb1).mono fun b _ f => f.elim).trans hOn
  have hpg := page_calls hm (fr : Int)
  have HM := Lib.hid (And.intro hm hO1)
  clear hC1 hC2 hm hOn hO1 hb1 hp
  go_wp2_with fail
  (with_reducible refine hpg.mono ?_)
  rintro e w2 ⟨g, c, rfl, hrow, hO2⟩
  have hg1 := HG.out w2 c g (row_bytes hrow)
  have HM2 := Lib.hid (And.intro (mem_old HM.out.1 hO2) (HM.out.2.trans ((Only.of_below hO2).mono fun b _ f => f.elim)))
  clear hpg hrow hO2
  go_wp2_with fail
  (with_reducible refine hg1.mono ?_)
  rintro e w3 ⟨g2, c2, rfl, hrow2, hO3⟩
  have hm3 := mem_old HM2.out.1 hO3
  have hOn3 : Only (fun b => ¬ X b) w w3 := HM2.out.2.trans ((Only.of_below hO3).mono fun b _ f => f.elim)
  have hge := (row_parts hrow2).1
  have hsz := HM2.out.2.size
  have hpm : ∀ m, w3.cell? ⟨p, 1, none⟩ = some (.map (some m)) → g2 ≠ m ∧ g2 ≠ p := by
    intro m hcm
    obtain ⟨m', f', n', k1, k2, k3, k4, k5, k6, k7, k8⟩ := HM2.out.1
    have c1 : w3.cell? ⟨p, 1, none⟩ = some (.map (some m')) := by rw [cell_of (keep_old hO3 k1)]; rfl
    rw [c1] at hcm
    have hmm : m' = m := by simpa using hcm
    subst hmm
    have e1 := isMap_lt k3
    have e2 := lt_of_block k1
    omega
  have hgp : g2 ≠ p := by
    obtain ⟨m', f', n', k1, k2, k3, k4, k5, k6, k7, k8⟩ := hm3
    exact (hpm m' (by rw [cell_of k1]; rfl)).2
  obtain ⟨m, c1, W4, hput, hm4, hO4⟩ := mem_page hm3 (fr : Int) _ _ g2 c2 hrow2 HLL.out (fun f => by have := hX _ f; omega) hgp (fun m hm => (hpm m hm).1)
  rw [HLL.out]
  have HF := Lib.hid (And.intro hm4 (hOn3.trans hO4))
  clear hg1 hO3 hm3 hOn3 hge hsz hpm hgp hm4 hO4 hrow2
  go_wp2
  go_ret
  exact ⟨rfl, HF.out.1, HF.out.2⟩
end
theorem strOf_inj {l m : List Nat} (hl : ∀ x ∈ l, x < 256) (hm : ∀ x ∈ m, x < 256) (h : strOf l = strOf m) : l = m := by
  have h1 : l.map UInt8.ofNat = m.map UInt8.ofNat := by
    have := congrArg (fun s : ByteArray => s.data.toList) h
    simpa [strOf] using this
  have key : ∀ (l m : List Nat), (∀ x ∈ l, x < 256) → (∀ x ∈ m, x < 256) → l.map UInt8.ofNat = m.map UInt8.ofNat → l = m := by
    intro l
    induction l with
    | nil => intro m _ _ h; cases m with
      | nil => rfl
      | cons y m => simp at h
    | cons x l ih => intro m hl hm h; cases m with
      | nil => simp at h
      | cons y m =>
        simp only [List.map_cons, List.cons.injEq] at h
        have hx := hl x (by simp)
        have hy := hm y (by simp)
        have hxy : x = y := by
          have := congrArg UInt8.toNat h.1
          rw [UInt8.toNat_ofNat', UInt8.toNat_ofNat'] at this
          omega
        rw [hxy, ih m (fun z hz => hl z (by simp [hz])) (fun z hz => hm z (by simp [hz])) h.2]
  exact key l m hl hm h1
theorem equal_calls (a b : Addr) (l m : List Nat) (c d : Nat) (w : World) (hl : Bytes w (some a) c l) (hm : Bytes w (some b) d m) :
    Calls Try.prog 87 #[.slice (some a) l.length c, .slice (some b) m.length d] w (RetB w (.bool (decide (l = m)))) := by
  have h1 := conv_bytes hl
  have h2 := conv_bytes hm
  have e : ((strOf l).toList == (strOf m).toList) = decide (l = m) := by
    rw [str_beq]
    by_cases h : l = m
    · simp [h]
    · rw [decide_eq_false h, decide_eq_false (fun e => h (strOf_inj (bytes_lt hl) (bytes_lt hm) e))]
  generalize decide (l = m) = B at *
  clear hl hm
  go_enter Try.func87, Try.ntmps87
  go_wp2
  go_ret
  exact ⟨rfl, old_refl _⟩
theorem eq_nil_bytes (a : Addr) (n c : Nat) (w : World) : (binOp .eql 31 (.slice (some a) n c) (.slice none 0 0)).run Try.prog w = .ok (.bool false) w := by kernel_rfl
set_option maxRecDepth 100000 in
theorem clone_fix (a : Addr) (l : List Nat) (c : Nat) (w : World) (hl : Bytes w (some a) c l) (h0 : 0 < l.length) (hbig : l.length ≤ 1000000) :
    ∃ g cap w2, Row w2 w.heap.size g cap l ∧ Old w w2 ∧ Calls Try.prog 86 #[.slice (some a) l.length c] w (fun e y => e = .returned (.slice (some ⟨g, 0, none⟩) l.length cap) ∧ w2 = y) := by
  obtain ⟨v, w2, hrun, hown, hO, -⟩ := copy_run 31 w (some a) c l hl hbig
  obtain ⟨g, cap, rfl, hrow⟩ := row_of hown rfl h0 (bytes_lt hl)
  refine ⟨g, cap, w2, hrow, hO, ?_⟩
  have hn := eq_nil_bytes a l.length c
  clear hl hown hrow hO
  go_enter Try.func86, Try.ntmps86
  go_wp2_with (at_builtin; refine wpList_append_run rfl _ _ 31 rfl _ _ rfl rfl _ _ hrun ?_; clear hrun)
  go_ret
  exact ⟨rfl, rfl⟩
theorem clone_calls (a : Addr) (l : List Nat) (c : Nat) (w : World) (hl : Bytes w (some a) c l) (h0 : 0 < l.length) (hbig : l.length ≤ 1000000) :
    Calls Try.prog 86 #[.slice (some a) l.length c] w (fun e w' => ∃ g cap, e = .returned (.slice (some ⟨g, 0, none⟩) l.length cap) ∧ Row w' w.heap.size g cap l ∧ Old w w') := by
  obtain ⟨g, cap, w2, h1, h2, h3⟩ := clone_fix a l c w hl h0 hbig
  exact h3.mono fun e y ⟨he, hy⟩ => by subst hy; exact ⟨g, cap, he, h1, h2⟩
end Go.Proofs.Ytfiofjalpaeohaa
/- What was put is got, part by part: plain. -/
namespace Go.Proofs.Ytfiofjalpaeohaa
set_option linter.unusedVariables false
set_option linter.unusedSimpArgs false
open Go.RowKit
theorem putL_at (l : List Nat) (p v : Nat) : ∀ (k i : Nat), (putL l p v k)[i]? = if p ≤ i ∧ i < p + k ∧ i < l.length then some (v / 2 ^ (8 * (i - p)) % 256) else l[i]?
  | 0, i => by rw [putL, if_neg (by omega)]
  | k + 1, i => by
    rw [putL, List.getElem?_set, putL_length]
    by_cases h : p + k = i
    · subst h
      by_cases hl : p + k < l.length
      · rw [if_pos rfl, if_pos hl, if_pos ⟨by omega, by omega, hl⟩, Nat.add_sub_cancel_left]
      · rw [if_pos rfl, if_neg hl, if_neg (by omega), List.getElem?_eq_none (by omega)]
    · rw [if_neg h, putL_at l p v k i]
      by_cases h2 : p ≤ i ∧ i < p + k ∧ i < l.length
      · rw [if_pos h2, if_pos ⟨h2.1, by omega, h2.2.2⟩]
      · rw [if_neg h2, if_neg (by omega)]
end Go.Proofs.Ytfiofjalpaeohaa
/- A memory by its words: contracts of phys.New, Read and Write of eight bytes. -/
namespace Go.Proofs.Ytfiofjalpaeohaa
set_option linter.unusedVariables false
set_option linter.unusedSimpArgs false
open Go.RowKit
section
variable {w x : World} {X Y : Nat → Prop} {p frames N M : Nat} {wd : Nat → Nat}
end
end Go.Proofs.Ytfiofjalpaeohaa
namespace Go.Proofs.Ytfiofjalpaeohaa
set_option linter.unusedVariables false
set_option linter.unusedSimpArgs false
open Go.RowKit
section
variable {w x y : World} {q c n ops : Nat} {ad : Option Addr} {L : List (Nat × Nat)}
/-- No byte of a frame. -/
def clear5B (L : List (Nat × Nat)) (f : Nat) : Bool := L.all (fun p => decide (p.1 / 4096 ≠ f))
set_option maxHeartbeats 2000000 in
set_option maxRecDepth 100000 in
theorem r5has_calls (h : IsR5 w q ad c n ops L) (k : Int) : Calls Try.prog 91 #[.pointer (some ⟨q, 0, none⟩), .int .i64 k] w (RetB w (.bool (hasB n k))) := by
  obtain ⟨c0, z0, zz⟩ := of_block h.hq
  clear h
  by_cases k0 : 0 ≤ k
  · by_cases k1 : k < n
    · have e : hasB n k = true := by unfold hasB; simp [k0, k1]
      rw [e]
      clear e
      go_enter Try.func91, Try.ntmps91
      go_wp2
      go_ret
      exact ⟨rfl, old_refl _⟩
    · have e : hasB n k = false := by unfold hasB; simp [k1]
      rw [e]
      clear e
      go_enter Try.func91, Try.ntmps91
      go_wp2
      go_ret
      exact ⟨rfl, old_refl _⟩
  · have e : hasB n k = false := by unfold hasB; simp [k0]
    rw [e]
    clear e
    go_enter Try.func91, Try.ntmps91
    go_wp2
    go_ret
    exact ⟨rfl, old_refl _⟩
/-- A frame as a word. -/
def frW (k : Int) : Nat := (IntKind.u64.wrap k).toNat
theorem frW_eq (k : Int) : IntKind.u64.wrap k = (frW k : Nat) := by
  unfold frW
  rw [IntKind.wrap_u64]
  omega
set_option maxHeartbeats 8000000 in
set_option maxRecDepth 100000 in
theorem r5clear_walk (h : IsR5 w q ad c n ops L) (k : Int) :
    Calls Try.prog 63 #[.pointer (some ⟨q, 0, none⟩), .int .i64 k] w (RetB w (.bool (clear5B L (frW k) && hasB n k))) := by
  obtain ⟨r, hr⟩ : ∃ r, (clear5B L (frW k) && hasB n k) = r := ⟨_, rfl⟩
  rw [hr]
  have n512 : (L.length : Int) ≤ 200000 := by have := h.lim; omega
  have hh := fun x (hx : Old w x) => r5has_calls (r5_old h hx) k
  have hat := h.at_
  have hn := h.hn
  have H := Lib.hid h
  have HH := Lib.hid hh
  have HA := Lib.hid hat
  have HR := Lib.hid hr
  have hw := frW_eq k
  obtain ⟨u, hu⟩ : ∃ u, frW k = u := ⟨_, rfl⟩
  rw [hu] at hw HR
  have HN := Lib.hid hn
  clear h hr hh hat hu hn
  go_enter Try.func63, Try.ntmps63
  go_wp2
  go_loopw [5] (fun s5 wx => ∃ j : Nat, j ≤ L.length ∧ s5 = .int .i64 (j : Nat) ∧ Old w wx ∧ (clear5B (L.drop j) u && hasB n k) = r) (fun s5 _ => L.length - (intOf s5).toNat)
  case atStart => exact ⟨0, by omega, rfl, old_refl _, by rw [List.drop_zero]; exact HR.out⟩
  case round =>
    obtain ⟨j, hk, rfl, hO, ht⟩ := hrel
    have hT := r5_old H.out hO
    obtain ⟨k0, z0, zz⟩ := of_block hT.hq
    by_cases hkn : j = L.length
    · rw [List.drop_eq_nil_of_le (by omega)] at ht
      have hrt : hasB n k = r := ht
      have hh := HH.out _ hO
      rw [hrt] at hh
      have HO := Lib.hid hO
      clear hk ht hO hT hrt
      go_wp2_with fail
      (with_reducible refine hh.mono ?_)
      rintro e w1 ⟨rfl, hb1⟩
      go_wp2
      go_ret
      exact ⟨rfl, old_then HO.out hb1⟩
    · have hlt : j < L.length := by omega
      obtain ⟨p, hp⟩ : ∃ p, L[j]? = some p := ⟨_, List.getElem?_eq_getElem hlt⟩
      have hpa := HA.out p (List.mem_of_getElem? hp)
      rw [drop5 _ _ _ hp] at ht
      have i1 : (j : Int) < L.length := by omega
      rcases r5_slice hT with ⟨_, _, h0⟩ | ⟨g, hg, _, hc, _, _⟩
      · rw [h0] at hlt; exact absurd hlt (Nat.not_lt_zero _)
      have hc0 : wr.cell? ⟨g, j * 2, none⟩ = some (.int .u64 (p.1 : Nat)) := r5_cell hT hg hp 0 _ rfl
      have hc1 : wr.cell? ⟨g, j * 2 + 1, none⟩ = some (.int .u8 (p.2 : Nat)) := r5_cell hT hg hp 1 _ rfl
      subst hg
      obtain ⟨pa, pb⟩ := p
      have hlim : (pa : Int) < 4294967296 := by have := HN.out; simp only at hpa; omega
      have HO := Lib.hid hO
      have HLT := Lib.hid hlt
      have HT := Lib.hid ht
      clear hk hO ht hlt hp hT hpa
      by_cases hpa : pa / 4096 = u
      · have hrf : r = false := by
          rw [← HT.out]
          unfold clear5B
          rw [List.all_cons, show decide ((pa, pb).1 / 4096 ≠ u) = false from decide_eq_false (fun e => e hpa)]; rfl
        subst hrf
        have e1 : (IntKind.u64.wrap ((pa : Int) / 4096) == (u : Int)) = true := by rw [beq_iff_eq, IntKind.wrap_u64]; omega
        clear HT hlim
        go_wp2
        go_ret
        exact ⟨rfl, HO.out⟩
      · have ht : (clear5B (L.drop (j + 1)) u && hasB n k) = r := by
          have ht := HT.out
          unfold clear5B at ht ⊢
          rw [List.all_cons, show decide ((pa, pb).1 / 4096 ≠ u) = true from decide_eq_true hpa, Bool.true_and] at ht
          exact ht
        have HT2 := Lib.hid ht
        have e1 : (IntKind.u64.wrap ((pa : Int) / 4096) == (u : Int)) = false := by rw [beq_eq_false_iff_ne, IntKind.wrap_u64]; omega
        clear HT ht hpa hlim
        go_wp2
        go_roundw
        case rel => exact ⟨j + 1, HLT.out, by simp, HO.out, HT2.out⟩
        case measure =>
          have hlt := HLT.out
          clear hw e1 zz z0 k0
          simp only [intOf]
          omega
/-- Why a word may not be: the same answer as the program's. -/
theorem placeE_five {n addr : Nat} {s : Int} : placeE n addr s = if ¬ (s = 1 ∨ s = 2 ∨ s = 4 ∨ s = 8) then 1 else if (addr : Int) % s ≠ 0 then 3 else if n * 4096 ≤ addr then 2 else 0 := by
  by_cases hs : s = 1 ∨ s = 2 ∨ s = 4 ∨ s = 8
  · rw [if_neg (not_not_intro hs)]
    have e1 : ((addr % 4096 : Nat) : Int) % s = (addr : Int) % s := by rcases hs with rfl | rfl | rfl | rfl <;> omega
    by_cases h2 : (addr : Int) % s ≠ 0
    · rw [if_pos h2]
      unfold placeE
      rw [checkN_align hs (by rw [e1]; exact h2)]; rfl
    · rw [if_neg h2]
      have h2' := Classical.not_not.1 h2
      have e2 : checkN 4096 ((addr % 4096 : Nat) : Int) s = 0 := checkN_ok hs (by rw [e1]; exact h2') (by rcases hs with rfl | rfl | rfl | rfl <;> omega)
      unfold placeE
      rw [e2, if_neg (by simp)]
      by_cases h3 : n * 4096 ≤ addr
      · rw [if_pos h3, if_pos (by omega)]
      · rw [if_neg h3, if_neg (by omega)]
  · rw [if_pos hs]
    unfold placeE
    rw [checkN_arg hs]; rfl
set_option maxHeartbeats 8000000 in
set_option maxRecDepth 100000 in
theorem r5bad_calls (h : IsR5 w q ad c n ops L) (addr : Nat) (ha : addr < 18446744073709551616) (s : Int) :
    Calls Try.prog 88 #[.pointer (some ⟨q, 0, none⟩), .int .u64 (addr : Nat), .int .i64 s] w (RetB w (.int .i64 (placeE n addr s))) := by
  obtain ⟨c0, z0, zz⟩ := of_block h.hq
  have hn := h.hn
  rw [placeE_five]
  clear h
  by_cases hs : s = 1 ∨ s = 2 ∨ s = 4 ∨ s = 8
  · rw [if_neg (not_not_intro hs)]
    have e4 : IntKind.u64.wrap ((n : Int) * 4096) = (n : Int) * 4096 := by rw [IntKind.wrap_u64]; omega
    have e5 : IntKind.u64.wrap (n : Int) = (n : Int) := by rw [IntKind.wrap_u64]; omega
    have HN := Lib.hid hn
    have HS := Lib.hid hs
    clear hn hs
    by_cases h2 : (addr : Int) % s = 0
    · rw [if_neg (not_not_intro h2)]
      by_cases h3 : n * 4096 ≤ addr
      · rw [if_pos h3]
        have b3 : decide ((addr : Int) ≥ (n : Int) * 4096) = true := decide_eq_true (by omega)
        have b3' : decide ((n : Int) * 4096 ≤ (addr : Int)) = true := decide_eq_true (by omega)
        have b3'' : (n : Int) * 4096 ≤ (addr : Int) := by omega
        clear h3
        rcases HS.out with rfl | rfl | rfl | rfl
        all_goals
          clear HS
          have b2 := h2
          clear h2
          go_enter Try.func88, Try.ntmps88
          go_wp2
          go_ret
          exact ⟨rfl, old_refl _⟩
      · rw [if_neg h3]
        have b3 : decide ((addr : Int) ≥ (n : Int) * 4096) = false := decide_eq_false (by omega)
        have b3' : decide ((n : Int) * 4096 ≤ (addr : Int)) = false := decide_eq_false (by omega)
        have b3'' : ¬ (n : Int) * 4096 ≤ (addr : Int) := by omega
        clear h3
        rcases HS.out with rfl | rfl | rfl | rfl
        all_goals
          clear HS
          have b2 := h2
          clear h2
          go_enter Try.func88, Try.ntmps88
          go_wp2
          go_ret
          exact ⟨rfl, old_refl _⟩
    · rw [if_pos h2]
      rcases HS.out with rfl | rfl | rfl | rfl
      · exact absurd (by omega) h2
      all_goals
        clear HS
        have b2 : ((addr : Int) % _ != 0) = true := bne_iff_ne.2 h2
        clear h2
        go_enter Try.func88, Try.ntmps88
        go_wp2
        go_ret
        exact ⟨rfl, old_refl _⟩
  · rw [if_pos hs]
    have b1 : (s != 1) = true := by rw [bne_iff_ne]; omega
    have b2 : (s != 2) = true := by rw [bne_iff_ne]; omega
    have b4 : (s != 4) = true := by rw [bne_iff_ne]; omega
    have b8 : (s != 8) = true := by rw [bne_iff_ne]; omega
    clear hs
    go_enter Try.func88, Try.ntmps88
    go_wp2
    go_ret
    exact ⟨rfl, old_refl _⟩
end
end Go.Proofs.Ytfiofjalpaeohaa
namespace Go.Proofs.Ytfiofjalpaeohaa
set_option linter.unusedVariables false
set_option linter.unusedSimpArgs false
open Go.RowKit
/-- Block q holds the document's memory with the bytes wd; X: blocks that are not its own. -/
def IsR (w : World) (X : Nat → Prop) (q n : Nat) (wd : Nat → Nat) (ops lim : Nat) : Prop :=
  ∃ ad c L, IsR5 w q ad c n ops L ∧ ¬ X q ∧ (∀ b off, ad = some ⟨b, off, none⟩ → ¬ X b) ∧ L.length ≤ lim ∧ ∀ a, look5 L a = wd a
def RetR (w : World) (X : Nat → Prop) (q n : Nat) (v : Value) (wd : Nat → Nat) (ops lim : Nat) (e : Ending) (y : World) : Prop :=
  e = .returned v ∧ IsR y X q n wd ops lim ∧ Only (fun b => ¬ X b) w y
theorem flat5_set : ∀ (L : List (Nat × Nat)) (i b : Nat) (p : Nat × Nat), L[i]? = some p → (flatC c5 L).set (i * 2 + 1) (.int .u8 (b : Nat)) = flatC c5 (L.set i (p.1, b))
  | [], i, b, p, h => by simp at h
  | t :: l, 0, b, p, h => by
    simp at h; subst h
    rfl
  | t :: l, i + 1, b, p, h => by
    have := flat5_set l i b p (by simpa using h)
    rw [show (i + 1) * 2 + 1 = (i * 2 + 1) + 1 + 1 by omega]
    simp only [flatC, c5, List.cons_append, List.nil_append, List.set_cons_succ, ← this]
section
variable {w x y : World} {q c n ops : Nat} {ad : Option Addr} {L : List (Nat × Nat)}
/-- A byte changed in its cell. -/
theorem r5_put {g i a b pb : Nat} {cur : Array Value} {y : World} (h : IsR5 w q (some ⟨g, 0, none⟩) c n ops L) (hp : L[i]? = some (a, pb)) (ho : Only (fun z => g = z) w y)
    (hy : y = putB w g (.cells (cur.setIfInBounds (i * 2 + 1) (.int .u8 (b : Nat))) 146)) (hcu : w.heap[g]? = some (.cells cur 146))
    (r1 : L.length ≤ c) (r2 : c ≤ maxLen) (r3 : cur.size = c * 2) (r4 : List.take (L.length * 2) cur.toList = flatC c5 L) (hb : b ≠ 0) (hb2 : b < 256) : IsR5 y q (some ⟨g, 0, none⟩) c n ops (L.set i (a, b)) := by
  have hi : i < L.length := (List.getElem?_eq_some_iff.1 hp).1
  have hl : (L.set i (a, b)).length = L.length := List.length_set
  have hm := h.at_ _ (List.mem_of_getElem? hp)
  have hat : ∀ p ∈ L.set i (a, b), p.1 < n * 4096 := fun p hp' => by
    rcases List.mem_or_eq_of_mem_set hp' with h' | h'
    · exact h.at_ p h'
    · rw [h']; exact hm
  refine ⟨by rw [hl]; exact keep_only ho (h.ne g 0 rfl) h.hq, ?_, h.ne, (put5 h.good hp hb hb2).1, by rw [hl]; exact h.lim, h.hn, hat⟩
  rw [hl]
  have hfs := flat5_set L i b (a, pb) hp
  refine ⟨by rw [← hfs, List.length_set]; exact h.hL.1, .inr ⟨g, c, cur.setIfInBounds (i * 2 + 1) (.int .u8 (b : Nat)), rfl, Nat.zero_le _, ?_, r1, r2, by simpa using r3, ?_⟩⟩
  · rw [hy]; exact putB_same _ (lt_of_block hcu)
  · rw [← hfs, ← r4, Array.toList_setIfInBounds, List.take_set]
set_option maxHeartbeats 8000000 in
set_option maxRecDepth 100000 in
theorem r5set_none (h : IsR5 w q ad c n ops L) (a b : Nat) (hno : ∀ p ∈ L, p.1 ≠ a) (hb : b = 0) :
    Calls Try.prog 89 #[.pointer (some ⟨q, 0, none⟩), .int .u64 (a : Nat), .int .u8 (b : Nat)] w (RetB w (.tuple #[])) := by
  subst hb
  have n512 : (L.length : Int) ≤ 200000 := by have := h.lim; omega
  have H := Lib.hid h
  have HN := Lib.hid hno
  clear h hno
  go_enter Try.func89, Try.ntmps89
  go_wp2
  go_loopw [6] (fun s6 wx => ∃ k : Nat, k ≤ L.length ∧ s6 = .int .i64 (k : Nat) ∧ Old w wx) (fun s6 _ => L.length - (intOf s6).toNat)
  case atStart => exact ⟨0, by omega, rfl, old_refl _⟩
  case round =>
    obtain ⟨k, hk, rfl, hO⟩ := hrel
    have hT := r5_old H.out hO
    obtain ⟨k0, z0, zz⟩ := of_block hT.hq
    by_cases hkn : k = L.length
    · have HO := Lib.hid hO
      clear hk hO hT
      go_wp2
      first | (refine bodyPost_end (v := .tuple #[]) (by first | rfl | kernel_rfl) rfl ?_) | (refine bodyPost_ret (v := .tuple #[]) (by first | rfl | kernel_rfl) rfl ?_)
      exact ⟨rfl, HO.out⟩
    · have hlt : k < L.length := by omega
      obtain ⟨p, hp⟩ : ∃ p, L[k]? = some p := ⟨_, List.getElem?_eq_getElem hlt⟩
      have i1 : (k : Int) < L.length := by omega
      rcases r5_slice hT with ⟨_, _, h0⟩ | ⟨g, hg, _, hc, _, _⟩
      · rw [h0] at hlt; exact absurd hlt (Nat.not_lt_zero _)
      have hc0 : wr.cell? ⟨g, k * 2, none⟩ = some (.int .u64 (p.1 : Nat)) := r5_cell hT hg hp 0 _ rfl
      have hpa := HN.out p (List.mem_of_getElem? hp)
      subst hg
      obtain ⟨pa, pb⟩ := p
      have HO := Lib.hid hO
      have HLT := Lib.hid hlt
      have hpb : ((pa : Int) == (a : Int)) = false := by rw [beq_eq_false_iff_ne]; simp only at hpa; omega
      clear hk hO hlt hp hT hpa
      go_wp2
      go_roundw
      case rel => exact ⟨k + 1, HLT.out, by simp, HO.out⟩
      case measure => have := HLT.out; (simp [intOf]) <;> omega
set_option maxHeartbeats 8000000 in
set_option maxRecDepth 100000 in
theorem r5set_put (h : IsR5 w q ad c n ops L) (a b i pb : Nat) (hp : L[i]? = some (a, pb)) (hb : b ≠ 0) (hb2 : b < 256) :
    Calls Try.prog 89 #[.pointer (some ⟨q, 0, none⟩), .int .u64 (a : Nat), .int .u8 (b : Nat)] w (fun e y => e = .returned (.tuple #[]) ∧ IsR5 y q ad c n ops (L.set i (a, b)) ∧ Only (fun z => ad = some ⟨z, 0, none⟩) w y) := by
  have n512 : (L.length : Int) ≤ 200000 := by have := h.lim; omega
  have H := Lib.hid h
  have hil : i < L.length := (List.getElem?_eq_some_iff.1 hp).1
  have HP := Lib.hid hp
  have hsp := (split5 h.good hp).1
  have hlater : ∀ k pa pb, k < i → L[k]? = some (pa, pb) → pa ≠ a := fun k pa pb' hk hkp => by
    refine hsp (pa, pb') (List.mem_of_getElem? (i := k) ?_)
    rw [List.getElem?_take, if_pos hk]; exact hkp
  have HL := Lib.hid hlater
  have hb0 : ((b : Int) == 0) = false := by rw [beq_eq_false_iff_ne]; omega
  clear h hp hsp hlater
  go_enter Try.func89, Try.ntmps89
  go_wp2
  go_loop [6] (fun s6 => ∃ k : Nat, k ≤ i ∧ s6 = .int .i64 (k : Nat)) (fun s6 => i + 1 - (intOf s6).toNat)
  case atStart => exact ⟨0, by omega, rfl⟩
  case round =>
    obtain ⟨k, hk, rfl⟩ := hrel
    have hT := H.out
    obtain ⟨k0, z0, zz⟩ := of_block hT.hq
    have hlt : k < L.length := by omega
    have i1 : (k : Int) < L.length := by omega
    rcases r5_slice hT with ⟨_, _, h0⟩ | ⟨g, hg, hgq, hc, _, hgs⟩
    · rw [h0] at hlt; exact absurd hlt (Nat.not_lt_zero _)
    by_cases hki : k = i
    · subst hki
      have hc0 : w.cell? ⟨g, k * 2, none⟩ = some (.int .u64 (a : Nat)) := r5_cell hT hg HP.out 0 _ rfl
      have hc1 : w.cell? ⟨g, k * 2 + 1, none⟩ = some (.int .u8 (pb : Nat)) := r5_cell hT hg HP.out 1 _ rfl
      subst hg
      obtain ⟨g', cap, cur, e', hb', hcu, r1, r2, r3, r4⟩ := hT.hL.2.resolve_left (fun e => by cases e.1)
      simp only [Value.slice.injEq, Option.some.injEq, Addr.mk.injEq, and_true, true_and] at e'
      obtain ⟨rfl, rfl⟩ := e'
      have HR := Lib.hid (And.intro r1 (And.intro r2 (And.intro r3 r4)))
      have HT := Lib.hid hT
      have HCU := Lib.hid hcu
      have hcw := of_block hcu
      obtain ⟨q1, q2, q3⟩ := hcw
      clear hk hlt hT hb' r1 r2 r3 r4 hc
      go_wp2
      first | (refine bodyPost_end (v := .tuple #[]) (by first | rfl | kernel_rfl) rfl ?_) | (refine bodyPost_ret (v := .tuple #[]) (by first | rfl | kernel_rfl) rfl ?_)
      have hOn : Only (fun z => g = z) w (w.setCell ⟨g, k * 2 + 1, none⟩ (.int .u8 (b : Nat))) := (Only.refl _ w).setCell _ _ fun _ => rfl
      refine ⟨rfl, ?_, by simpa using hOn⟩
      exact r5_put HT.out HP.out hOn (set_of HCU.out _ _) HCU.out HR.out.1 HR.out.2.1 HR.out.2.2.1 HR.out.2.2.2 hb hb2
    · obtain ⟨p, hp⟩ : ∃ p, L[k]? = some p := ⟨_, List.getElem?_eq_getElem hlt⟩
      have hc0 : w.cell? ⟨g, k * 2, none⟩ = some (.int .u64 (p.1 : Nat)) := r5_cell hT hg hp 0 _ rfl
      have hpa := HL.out k p.1 p.2 (by omega) hp
      subst hg
      obtain ⟨pa, pb'⟩ := p
      have hlt2 : k < i := by omega
      have HLT := Lib.hid hlt2
      have hpb : ((pa : Int) == (a : Int)) = false := by rw [beq_eq_false_iff_ne]; simp only at hpa; omega
      clear hk hlt hlt2 hp hT hpa hki hil
      go_wp2
      go_round
      case rel => exact ⟨k + 1, HLT.out, by simp⟩
      case measure => have := HLT.out; (simp [intOf]) <;> omega
end
end Go.Proofs.Ytfiofjalpaeohaa
namespace Go.Proofs.Ytfiofjalpaeohaa
set_option linter.unusedVariables false
set_option linter.unusedSimpArgs false
open Go.RowKit
theorem cell5_info : (Try.prog.info? 146).map (fun i => (i.zero, i.size, i.bytes)) = some (some (.agg #[.int .u64 0, .int .u8 0]), 2, 16) := by kernel_rfl
theorem own_weak {w : World} {B : Nat} {e : TypeId} {s n : Nat} {v : Value} {xs : List Value} (h : w.ownsRow B e s v n xs) : w.ownsRow 0 e s v n xs := by
  refine ⟨h.1, ?_⟩
  rcases h.2 with h' | ⟨g, cap, cur, h', _, rest⟩
  · exact .inl h'
  · exact .inr ⟨g, cap, cur, h', Nat.zero_le _, rest⟩
/-- An append to a row of cells: where it lies behind it. -/
theorem row5_append {w : World} {ad : Option Addr} {n c : Nat} {xs : List Value} (hown : w.ownsRow 0 146 2 (.slice ad n c) n xs) (a : Addr) (m cc : Nat) (news : List Value)
    (hl : news.length = m * 2) (hnews : ∀ j u, news[j]? = some u → w.cell? (a.add j) = some u) (h1 : ∀ u ∈ news, u.oneCell' = true) (hlim : n + m ≤ 1000000) :
    ∃ ad' c' w2, (Builtin.append_ #[101, 101] 101 #[.slice ad n c, .slice (some a) m cc]).run Try.prog w = .ok (.slice ad' (n + m) c') w2 ∧
      w2.ownsRow 0 146 2 (.slice ad' (n + m) c') (n + m) (xs ++ news) ∧ Only (fun z => ad = some ⟨z, 0, none⟩) w w2 ∧ (∀ z off, ad' = some ⟨z, off, none⟩ → ad = some ⟨z, 0, none⟩ ∨ w.heap.size ≤ z) := by
  obtain ⟨i0, hi, hz0, hz1, hz2⟩ := info_parts cell5_info
  have weak : ∀ {row : Option Nat} {w2 : World}, w.grownBy w2 row → (∀ b, row = some b → ad = some ⟨b, 0, none⟩) → Only (fun z => ad = some ⟨z, 0, none⟩) w w2 := fun hg hr => (grown_only hg).mono fun b _ e => hr b e.symm
  rcases hown.2 with ⟨h', h0⟩ | ⟨g, cap, cur, h', hb, hcu, r1, r2, r3, r4⟩
  · have hxs : xs = [] := List.length_eq_zero_iff.1 (by rw [hown.1, h0])
    rw [h']
    subst h0 hxs
    simp only [Value.slice.injEq] at h'
    obtain ⟨rfl, -, rfl⟩ := h'
    obtain ⟨v', w2, hrun, ho, hg, -⟩ := run_append_own (P := Try.prog) w w.heap.size 101 101 146 i0 _ 2 16 Try.underlying101 hi hz0 hz1 hz2 rfl (by decide) (.slice none 0 0) 0 [] (World.ownsRow_nil _ _ _ _) a m cc news hl hnews h1 (by unfold maxLen; omega) (by omega) (Nat.le_refl _)
    obtain ⟨ad', c', rfl, -, -, h3, -⟩ := own_value ho
    exact ⟨ad', c', w2, hrun, own_weak ho, weak hg (fun b e => by cases e), fun z off e => .inr (h3 z off e).2.1⟩
  · simp only [Value.slice.injEq, true_and] at h'
    obtain ⟨rfl, rfl⟩ := h'
    by_cases hroom : n + m ≤ c
    · obtain ⟨w2, hrun, ho, hg⟩ := run_append_fits (P := Try.prog) w 0 101 101 146 i0 2 Try.underlying101 hi hz1 g n c xs hown a m cc news hl hnews h1 hroom
      exact ⟨_, _, w2, hrun, ho, weak hg (fun b e => by cases e; rfl), fun z off e => by cases e; exact .inl rfl⟩
    · obtain ⟨v', w2, hrun, ho, hg⟩ := run_append_arg_grows (P := Try.prog) w 101 101 146 i0 _ 2 16 Try.underlying101 hi hz0 hz1 hz2 rfl (by decide) ⟨g, 0, none⟩ n c xs hown.1
        (fun j u hu => by rw [add_eq _ _ rfl]; simpa using own_cell hown rfl j hu) a m cc news hl hnews (by omega) (by unfold maxLen; omega) (by omega)
      obtain ⟨ad', c', rfl, -, -, h3, -⟩ := own_value ho
      exact ⟨ad', c', w2, hrun, own_weak ho, weak hg (fun b e => by cases e), fun z off e => .inr (h3 z off e).2.1⟩
end Go.Proofs.Ytfiofjalpaeohaa
namespace Go.Proofs.Ytfiofjalpaeohaa
set_option linter.unusedVariables false
set_option linter.unusedSimpArgs false
open Go.RowKit
section
variable {w x y : World} {q c n ops : Nat} {ad : Option Addr} {L : List (Nat × Nat)}
/-- Another list behind the same block. -/
theorem r5_new {ad' : Option Addr} {c' : Nat} {L' : List (Nat × Nat)} {w2 : World} (h : IsR5 w q ad c n ops L) (hq2 : w2.heap[q]? = some (.cells #[.int .i64 (n : Nat), .slice ad L.length c, .int .i64 (ops : Nat)] 103))
    (ho : w2.ownsRow 0 146 2 (.slice ad' L'.length c') L'.length (flatC c5 L')) (hne : ∀ b off, ad' = some ⟨b, off, none⟩ → b ≠ q) (hg : Good5 L') (hlim : L'.length ≤ 200000) (hat : ∀ p ∈ L', p.1 < n * 4096) :
    IsR5 (w2.setCell ⟨q, 1, none⟩ (.slice ad' L'.length c')) q ad' c' n ops L' := by
  rw [set_of hq2]
  have hOn : Only (fun z => z = q) w2 (putB w2 q (.cells (#[Value.int .i64 (n : Nat), .slice ad L.length c, .int .i64 (ops : Nat)].setIfInBounds 1 (.slice ad' L'.length c')) 103)) := (Only.refl _ _).putB _ (fun _ => rfl)
  refine ⟨putB_same _ (lt_of_block hq2), ⟨ho.1, ?_⟩, hne, hg, hlim, h.hn, hat⟩
  rcases ho.2 with h' | ⟨g, cap, cur, h', h1, h2, h3⟩
  · exact .inl h'
  · refine .inr ⟨g, cap, cur, h', h1, keep_only hOn (hne g 0 ?_) h2, h3⟩
    simp only [Value.slice.injEq] at h'
    exact h'.1
/-- What a method leaves: the list, its row the old one or a new one. -/
def R5To (w : World) (q : Nat) (ad : Option Addr) (n ops : Nat) (L' : List (Nat × Nat)) (y : World) : Prop :=
  ∃ ad' c', IsR5 y q ad' c' n ops L' ∧ (∀ z off, ad' = some ⟨z, off, none⟩ → ad = some ⟨z, 0, none⟩ ∨ w.heap.size ≤ z) ∧ Only (fun z => z = q ∨ ad = some ⟨z, 0, none⟩) w y
set_option maxHeartbeats 8000000 in
set_option maxRecDepth 100000 in
theorem r5set_add (h : IsR5 w q ad c n ops L) (a b : Nat) (hno : ∀ p ∈ L, p.1 ≠ a) (hb : b ≠ 0) (hb2 : b < 256) (ha : a < n * 4096) (hlim : L.length + 1 ≤ 200000) :
    Calls Try.prog 89 #[.pointer (some ⟨q, 0, none⟩), .int .u64 (a : Nat), .int .u8 (b : Nat)] w (fun e y => e = .returned (.tuple #[]) ∧ R5To w q ad n ops (L ++ [(a, b)]) y) := by
  have n512 : (L.length : Int) ≤ 200000 := by have := h.lim; omega
  have hO1 : Old w (w.alloc (.cells #[.int .u64 (a : Nat), .int .u8 (b : Nat)] 146)) := old_alloc (old_refl w) _
  obtain ⟨ad', c', w2, hrun, hown, hOn, hfr⟩ := row5_append (own_old h.hL hO1) ⟨w.heap.size, 0, none⟩ 1 1 [.int .u64 (a : Nat), .int .u8 (b : Nat)] rfl (news_block w [.int .u64 (a : Nat), .int .u8 (b : Nat)] 146 w.heap.size rfl)
    (by intro u hu; simp only [List.mem_cons, List.not_mem_nil, or_false] at hu; rcases hu with rfl | rfl <;> rfl) (by omega)
  have hq1 := keep_old hO1 h.hq
  have hqa : ¬ ad = some ⟨q, 0, none⟩ := fun e => h.ne q 0 e rfl
  have hq2 := keep_only hOn hqa hq1
  have hqs := lt_of_block h.hq
  have hne : ∀ z off, ad' = some ⟨z, off, none⟩ → z ≠ q := fun z off e => by
    rcases hfr z off e with h' | h'
    · exact h.ne z 0 h'
    · have := hO1.size; omega
  obtain ⟨g1, g2⟩ := add5 h.good hno hb hb2
  have hfl : flatC c5 (L ++ [(a, b)]) = flatC c5 L ++ [.int .u64 (a : Nat), .int .u8 (b : Nat)] := by rw [flatC_append]; rfl
  have hll : (L ++ [(a, b)]).length = L.length + 1 := by simp
  have hnew := r5_new (ad' := ad') (c' := c') (L' := L ++ [(a, b)]) h hq2 (by rw [hfl, hll]; exact hown) hne g1 (by rw [hll]; omega) (fun p hp => by
    rcases List.mem_append.1 hp with hp | hp
    · exact h.at_ p hp
    · rw [List.mem_singleton.1 hp]; exact ha)
  rw [hll] at hnew
  have hfin : Only (fun z => z = q ∨ ad = some ⟨z, 0, none⟩) w (w2.setCell ⟨q, 1, none⟩ (.slice ad' (L.length + 1) c')) :=
    (((Only.of_below hO1).mono fun _ _ f => f.elim).trans (hOn.mono fun _ _ e => .inr e)).setCell _ _ fun _ => .inl rfl
  have HF := Lib.hid (And.intro hnew (And.intro (fun z off e => (hfr z off e).imp id (fun h' => Nat.le_trans hO1.size h') : ∀ z off, ad' = some ⟨z, off, none⟩ → ad = some ⟨z, 0, none⟩ ∨ w.heap.size ≤ z) hfin))
  have H := Lib.hid h
  have HN := Lib.hid hno
  have HQ2 := Lib.hid hq2
  have hb0 : ((b : Int) != 0) = true := by rw [bne_iff_ne]; omega
  have HRun := Lib.hid hrun
  clear h hno hrun hown hOn hfr hq1 hq2 hqa hne g1 g2 hfl hll hnew hfin hO1
  go_enter Try.func89, Try.ntmps89
  go_wp2
  go_loop [6] (fun s6 => ∃ k : Nat, k ≤ L.length ∧ s6 = .int .i64 (k : Nat)) (fun s6 => L.length + 1 - (intOf s6).toNat)
  case atStart => exact ⟨0, by omega, rfl⟩
  case round =>
    obtain ⟨k, hk, rfl⟩ := hrel
    have hT := H.out
    obtain ⟨k0, z0, zz⟩ := of_block hT.hq
    by_cases hkn : k = L.length
    · subst hkn
      have hrun := HRun.out
      obtain ⟨e0, e1, e2⟩ := of_block HQ2.out
      clear hk hT
      go_wp2_with (at_builtin; refine wpList_append_run rfl _ _ 101 rfl _ _ rfl rfl _ _ hrun ?_; clear hrun)
      first | (refine bodyPost_end (v := .tuple #[]) (by first | rfl | kernel_rfl) rfl ?_) | (refine bodyPost_ret (v := .tuple #[]) (by first | rfl | kernel_rfl) rfl ?_)
      exact ⟨rfl, _, _, HF.out.1, HF.out.2.1, HF.out.2.2⟩
    · have hlt : k < L.length := by omega
      obtain ⟨p, hp⟩ : ∃ p, L[k]? = some p := ⟨_, List.getElem?_eq_getElem hlt⟩
      have i1 : (k : Int) < L.length := by omega
      rcases r5_slice hT with ⟨_, _, h0⟩ | ⟨g, hg, _, hc, _, _⟩
      · rw [h0] at hlt; exact absurd hlt (Nat.not_lt_zero _)
      have hc0 : w.cell? ⟨g, k * 2, none⟩ = some (.int .u64 (p.1 : Nat)) := r5_cell hT hg hp 0 _ rfl
      have hpa := HN.out p (List.mem_of_getElem? hp)
      subst hg
      obtain ⟨pa, pb⟩ := p
      have HLT := Lib.hid hlt
      have hpb : ((pa : Int) == (a : Int)) = false := by rw [beq_eq_false_iff_ne]; simp only at hpa; omega
      clear hk hlt hp hT hpa
      go_wp2
      go_round
      case rel => exact ⟨k + 1, HLT.out, by simp⟩
      case measure => have := HLT.out; (simp [intOf]) <;> omega
end
end Go.Proofs.Ytfiofjalpaeohaa
namespace Go.Proofs.Ytfiofjalpaeohaa
set_option linter.unusedVariables false
set_option linter.unusedSimpArgs false
open Go.RowKit
theorem r5new_none (s : Int) (w : World) (h : ¬ (1 ≤ s ∧ s ≤ 1048576)) : Calls Try.prog 56 #[.int .i64 s] w (RetB w (.tuple #[.pointer none, .int .i64 1])) := by
  by_cases h1 : s < 1
  · clear h
    go_enter Try.func56, Try.ntmps56
    go_wp2
    go_ret2
    exact ⟨rfl, old_refl _⟩
  · have h2 : 1048576 < s := by omega
    clear h
    go_enter Try.func56, Try.ntmps56
    go_wp2
    go_ret2
    exact ⟨rfl, old_refl _⟩
theorem r5_made (w : World) (n : Nat) (h : 1 ≤ n ∧ n ≤ 1048576) : IsR5 (w.alloc (.cells #[.int .i64 (n : Nat), .slice none 0 0, .int .i64 ((0 : Nat) : Int)] 103)) w.heap.size none 0 n 0 [] :=
  ⟨new_block _ _, World.ownsRow_nil _ _ _ _, fun b off e => (by cases e), good5_nil, Nat.zero_le _, h, fun p hp => (by cases hp)⟩
theorem r5new_calls (n : Nat) (w : World) (h1 : 1 ≤ n) (h2 : n ≤ 1048576) : Calls Try.prog 56 #[.int .i64 n] w (fun e y =>
    e = .returned (.tuple #[.pointer (some ⟨w.heap.size, 0, none⟩), .int .i64 0]) ∧ Old w y ∧ IsR5 y w.heap.size none 0 n 0 []) := by
  have i1 : (1 : Int) ≤ n := by omega
  have i2 : (n : Int) ≤ 1048576 := by omega
  have HM := Lib.hid (r5_made w n ⟨h1, h2⟩)
  clear h1 h2
  go_enter Try.func56, Try.ntmps56
  go_wp2
  go_ret2
  exact ⟨rfl, old_alloc (old_refl w) _, HM.out⟩
section
variable {w x y : World} {q c n ops : Nat} {ad : Option Addr} {L : List (Nat × Nat)}
set_option maxHeartbeats 2000000 in
theorem r5read_fail (h : IsR5 w q ad c n ops L) (addr : Nat) (ha : addr < 18446744073709551616) (s : Int) (he : placeE n addr s ≠ 0) :
    Calls Try.prog 58 #[.pointer (some ⟨q, 0, none⟩), .int .u64 (addr : Nat), .int .i64 s] w (RetB w (.tuple #[.int .u64 0, .int .i64 (placeE n addr s)])) := by
  have hp := r5bad_calls h addr ha s
  generalize placeE n addr s = E at *
  have hb : (E != 0) = true := by simp [he]
  clear he h
  go_enter Try.func58, Try.ntmps58
  go_wp2_with fail
  (with_reducible refine hp.mono ?_)
  rintro e w1 ⟨rfl, hb1⟩
  go_wp2
  go_ret2
  exact ⟨rfl, hb1⟩
end
end Go.Proofs.Ytfiofjalpaeohaa
namespace Go.Proofs.Ytfiofjalpaeohaa
set_option linter.unusedVariables false
set_option linter.unusedSimpArgs false
open Go.RowKit
/-- A word of bytes, the least one first. -/
def word5 (f : Nat → Nat) : Nat → Nat → Nat
  | _, 0 => 0
  | a, k + 1 => f a + 256 * word5 f (a + 1) k
theorem word5_lt {f : Nat → Nat} (hf : ∀ a, f a < 256) : ∀ (k a : Nat), word5 f a k < 256 ^ k
  | 0, _ => by simp [word5]
  | k + 1, a => by
    have h1 := word5_lt hf k (a + 1)
    have h2 := hf a
    unfold word5
    rw [Nat.pow_succ]
    omega
section
variable {w x y : World} {q c n ops : Nat} {ad : Option Addr} {L : List (Nat × Nat)}
/-- Another count. -/
theorem r5_ops (h : IsR5 w q ad c n ops L) (o2 : Nat) : IsR5 (w.setCell ⟨q, 2, none⟩ (.int .i64 (o2 : Nat))) q ad c n o2 L ∧ Only (fun z => z = q) w (w.setCell ⟨q, 2, none⟩ (.int .i64 (o2 : Nat))) := by
  have hOn : Only (fun z => z = q) w (w.setCell ⟨q, 2, none⟩ (.int .i64 (o2 : Nat))) := (Only.refl _ _).setCell _ _ fun _ => rfl
  refine ⟨?_, hOn⟩
  have hq2 : (w.setCell ⟨q, 2, none⟩ (.int .i64 (o2 : Nat))).heap[q]? = some (.cells #[.int .i64 (n : Nat), .slice ad L.length c, .int .i64 (o2 : Nat)] 103) := by
    rw [set_of h.hq]; exact putB_same _ (lt_of_block h.hq)
  refine { h with hq := hq2, hL := ⟨h.hL.1, ?_⟩ }
  rcases h.hL.2 with h' | ⟨g, cap, cur, h', h1, h2, h3⟩
  · exact .inl h'
  · refine .inr ⟨g, cap, cur, h', h1, keep_only hOn (h.ne g 0 ?_) h2, h3⟩
    simp only [Value.slice.injEq] at h'
    exact h'.1
set_option maxHeartbeats 8000000 in
set_option maxRecDepth 100000 in
theorem r5read_ok (h : IsR5 w q ad c n ops L) (addr : Nat) (ha : addr < 18446744073709551616) (s : Nat) (he : placeE n addr (s : Int) = 0) (ho : ops ≤ 1000000) :
    Calls Try.prog 58 #[.pointer (some ⟨q, 0, none⟩), .int .u64 (addr : Nat), .int .i64 (s : Nat)] w (fun e y =>
      e = .returned (.tuple #[.int .u64 (word5 (look5 L) addr s : Nat), .int .i64 0]) ∧ IsR5 y q ad c n (ops + 1) L ∧ Only (fun z => z = q) w y) := by
  have hp := r5bad_calls h addr ha (s : Int)
  rw [he] at hp
  obtain ⟨-, hf, s1, s8, -⟩ := placeE_zero he
  have hn := h.hn
  have hlt := word5_lt (look5_lt h.good)
  have hby := look5_lt h.good
  have hadr : addr < 4294967296 := by omega
  have hs8 : s ≤ 8 := by omega
  have hs1 : 1 ≤ s := by omega
  obtain ⟨W, hW⟩ : ∃ W, word5 (look5 L) addr s = W := ⟨_, rfl⟩
  rw [hW]
  have H := Lib.hid h
  have HW := Lib.hid hW
  have HLt := Lib.hid hlt
  have HBy := Lib.hid hby
  clear h hW hlt hby hn hf s1 s8 he ha
  go_enter Try.func58, Try.ntmps58
  go_wp2_with fail
  (with_reducible refine hp.mono ?_)
  rintro e w1 ⟨rfl, hb1⟩
  have h1 := r5_old H.out hb1
  obtain ⟨c0, z0, zz⟩ := of_block h1.hq
  have h2 : IsR5 (w1.setCell ⟨q, 2, none⟩ (.int .i64 ((ops : Int) + 1))) q ad c n (ops + 1) L := (r5_ops h1 (ops + 1)).1
  have hO2 : Only (fun z => z = q) w1 (w1.setCell ⟨q, 2, none⟩ (.int .i64 ((ops : Int) + 1))) := (r5_ops h1 (ops + 1)).2
  have hO3 := ((Only.of_below hb1).mono fun _ _ f => f.elim).trans hO2
  have HO3 : Hid (Only (fun z => z = q) w (w1.setCell ⟨q, 2, none⟩ (.int .i64 ((ops : Int) + 1)))) := Lib.hid hO3
  have H2 := Lib.hid h2
  have ho' : (ops : Int) ≤ 1000000 := by omega
  clear hp h1 h2 hO2 hO3 hb1
  go_wp2
  go_loopw [9, 10] (fun s9 s10 wx => ∃ i : Nat, i ≤ s ∧ s10 = .int .i64 ((i : Int) - 1) ∧ s9 = .int .u64 (word5 (look5 L) (addr + i) (s - i) : Nat) ∧ Old (w1.setCell ⟨q, 2, none⟩ (.int .i64 ((ops : Int) + 1))) wx) (fun _ s10 _ => (intOf s10 + 1).toNat)
  case atStart => exact ⟨s, Nat.le_refl _, rfl, by rw [Nat.sub_self]; rfl, old_refl _⟩
  case round =>
    obtain ⟨i, hi, rfl, rfl, hO⟩ := hrel
    have hT := r5_old H2.out hO
    have HO := Lib.hid hO
    by_cases hi0 : i = 0
    · subst hi0
      have hv := HW.out
      rw [Nat.add_zero, Nat.sub_zero, hv]
      have HT := Lib.hid hT
      clear hO hT hi hv
      go_wp2
      go_ret2
      exact ⟨rfl, HT.out, HO3.out.trans ((Only.of_below HO.out).mono fun _ _ f => f.elim)⟩
    · obtain ⟨j, rfl⟩ : ∃ j, i = j + 1 := ⟨i - 1, by omega⟩
      have hcall := r5byte_calls hT (addr + j)
      have hBb := HBy.out (addr + j)
      have hVV : word5 (look5 L) (addr + j) (s - j) = look5 L (addr + j) + 256 * word5 (look5 L) (addr + j + 1) (s - (j + 1)) := by
        rw [show s - j = (s - (j + 1)) + 1 by omega]; rfl
      have hVl : word5 (look5 L) (addr + j) (s - j) < 18446744073709551616 := by
        have h8 : (256 : Nat) ^ (s - j) ≤ 256 ^ 8 := Nat.pow_le_pow_right (by decide) (by omega)
        exact Nat.lt_of_lt_of_le (HLt.out (s - j) (addr + j)) h8
      rw [show addr + (j + 1) = addr + j + 1 by omega, show (((j + 1 : Nat) : Int) - 1) = (j : Int) by omega]
      have HVV := Lib.hid hVV
      generalize word5 (look5 L) (addr + j + 1) (s - (j + 1)) = V at *
      generalize look5 L (addr + j) = B at *
      obtain ⟨A, hA⟩ : ∃ A, addr + j = A := ⟨_, rfl⟩
      obtain ⟨M, hM⟩ : ∃ M, V * 256 = M := ⟨_, rfl⟩
      obtain ⟨N, hN⟩ : ∃ N, M + B = N := ⟨_, rfl⟩
      rw [hA] at hcall
      have e1 : IntKind.u64.wrap ((addr : Int) + (j : Int)) = (A : Int) := by rw [IntKind.wrap_u64]; omega
      have e2 : IntKind.u64.wrap ((V : Int) * 256) = (M : Int) := by rw [IntKind.wrap_u64]; omega
      have e3 : IntKind.u64.wrap ((M : Int) + (B : Int)) = (N : Int) := by rw [IntKind.wrap_u64]; omega
      have e5 : IntKind.u64.wrap (B : Int) = (B : Int) := by rw [IntKind.wrap_u64]; omega
      have HE := Lib.hid (show word5 (look5 L) (addr + j) (s - j) = N by rw [HVV.out]; omega)
      have e4 : IntKind.u64.wrap (j : Int) = (j : Int) := by rw [IntKind.wrap_u64]; omega
      have HJ : Hid (j + 1 ≤ s) := Lib.hid hi
      have hj8 : (j : Int) ≤ 8 := by omega
      clear hO hT hi hBb hVV hVl hi0 hA hM hN HVV
      go_wp2_with fail
      (with_reducible refine hcall.mono ?_)
      rintro e w5 ⟨rfl, hb5⟩
      have HO5 := Lib.hid (old_then HO.out hb5)
      clear hcall hb5
      go_wp2
      go_roundw
      case rel => exact ⟨j, by have := HJ.out; omega, rfl, by first | rw [HE.out] | (rw [HE.out, e5, e3]), HO5.out⟩
      case measure => (simp [intOf]) <;> omega
end
end Go.Proofs.Ytfiofjalpaeohaa
