/- The statement VmidTurns: its walk. -/
import Derived.Test.YtbnbchclbblbkaaVmidLaw
namespace Go.Proofs.Ytbnbchclbblbkaa
set_option linter.unusedVariables false
set_option linter.unusedSimpArgs false
open Go.RowKit

/-- How long ago guest j was asked, where i is asked next (of N + 1 guests by turns). -/
def ageOf (N i j : Int) : Int := if j < i then i - j else i - j + (N + 1)

/-- What holds where guest i is asked next in round R: of one guest more than IDs. -/
def InvMore (N R i given turn : Int) (of : List Int) : Prop :=
  turn * N + given = R * (N + 1) + (i - 1) ∧ 0 ≤ given ∧ given ≤ N ∧ 0 ≤ turn ∧ of.length = 256 ∧
    ∀ (j : Nat) (x : Int), 1 ≤ j → (j : Int) ≤ N + 1 → of[j]? = some x → x ≠ 0 → ageOf N i j ≤ given

/-- The same of as many guests as IDs. -/
def InvLess (N R i given turn : Int) (of : List Int) : Prop :=
  turn = 0 ∧ of.length = 256 ∧
    ((R = 0 ∧ given = i - 1 ∧ (∀ j : Nat, 1 ≤ j → (j : Int) < i → ∃ x, x ≠ 0 ∧ of[j]? = some x) ∧ (∀ j : Nat, i ≤ j → (j : Int) ≤ N → of[j]? = some 0)) ∨
     (1 ≤ R ∧ given = N ∧ ∀ j : Nat, 1 ≤ j → (j : Int) ≤ N → ∃ x, x ≠ 0 ∧ of[j]? = some x))

def InvT (more : Bool) (N R i given turn : Int) (of : List Int) : Prop := if more then InvMore N R i given turn of else InvLess N R i given turn of

/-- What Get may answer. -/
def GetSays (n given turn : Int) (of : List Int) (g : Nat) (ans : Int × Bool × Int × Int × List Int) : Prop :=
  (∃ x, x ≠ 0 ∧ of[g]? = some x ∧ ans = (x, false, given, turn, of)) ∨
  (of[g]? = some 0 ∧ 0 ≤ given ∧ given < n ∧ n ≤ 255 ∧ ans = (given + 1, false, given + 1, turn, of.set g (given + 1))) ∨
  (of[g]? = some 0 ∧ n ≤ given ∧ n ≤ 255 ∧ ans = (0 + 1, true, 0 + 1, turn + 1, zeros256.set g (0 + 1)))

theorem get_says (g p : Nat) (n given turn : Int) (of : List Int) (w : World) (id : Int) (roll : Bool) (given' turn' : Int) (of' : List Int) (hI : IsIDs w p n given turn of) (h1 : 1 ≤ g) (h2 : g ≤ 255) (hn1 : 1 ≤ n)
    (ht0 : 0 ≤ turn) (ht : turn < 4611686018427387904) (h : GetSays n given turn of g (id, roll, given', turn', of')) :
    Calls Try.prog 25 #[.pointer (some ⟨p, 0, none⟩), .int .i64 g] w (RetIDs w p (.tuple #[.int .i64 id, .bool roll, .int .i64 0]) n given' turn' of') :=
  get_calls p n given turn of g w (id, roll, given', turn', of') hI h1 h2 hn1 ht0 ht h

theorem zeros_len : zeros256.length = 256 := by unfold zeros256; exact List.length_replicate

theorem zeros_only {j : Nat} {x : Int} (h : zeros256[j]? = some x) : x = 0 := by
  unfold zeros256 at h
  rw [List.getElem?_replicate] at h
  split at h
  · exact (Option.some.inj h).symm
  · cases h

theorem more_step (N R given turn : Int) (of : List Int) (i : Nat) (hN : 1 ≤ N) (hN2 : N ≤ 20) (hi : 1 ≤ i) (hi2 : (i : Int) ≤ N + 1) (h : InvMore N R i given turn of) :
    ∃ ans, GetSays N given turn of i ans ∧ InvMore N R (i + 1) ans.2.2.1 ans.2.2.2.1 ans.2.2.2.2 ∧ ans.2.2.2.1 = (if ans.2.1 then turn + 1 else turn) := by
  obtain ⟨h1, h2, h3, h4, h5, h6⟩ := h
  have hlt : i < of.length := by omega
  have hz : of[i]? = some 0 := by
    rw [List.getElem?_eq_getElem hlt]
    by_cases hx : of[i] = 0
    · rw [hx]
    · have := h6 i of[i] hi hi2 (List.getElem?_eq_getElem hlt) hx
      unfold ageOf at this
      rw [if_neg (by omega)] at this
      omega
  by_cases hg : given < N
  · refine ⟨(given + 1, false, given + 1, turn, of.set i (given + 1)), .inr (.inl ⟨hz, h2, hg, by omega, rfl⟩), ⟨?_, by show 0 ≤ given + 1; omega, by show given + 1 ≤ N; omega, h4, by simp [h5], ?_⟩, rfl⟩
    · show turn * N + (given + 1) = R * (N + 1) + ((i : Int) + 1 - 1)
      omega
    · intro j x hj hj2 hx hx0
      show ageOf N (i + 1) j ≤ given + 1
      by_cases hij : i = j
      · subst hij
        unfold ageOf
        rw [if_pos (by omega)]
        omega
      · have hx' : of[j]? = some x := by
          have : (of.set i (given + 1))[j]? = of[j]? := List.getElem?_set_ne hij
          rw [← this]; exact hx
        have := h6 j x hj hj2 hx' hx0
        unfold ageOf at this ⊢
        split at this <;> split <;> omega
  · refine ⟨(0 + 1, true, 0 + 1, turn + 1, zeros256.set i (0 + 1)), .inr (.inr ⟨hz, by omega, by omega, rfl⟩), ⟨?_, by show (0 : Int) ≤ 0 + 1; omega, by show (0 : Int) + 1 ≤ N; omega, by show 0 ≤ turn + 1; omega, by rw [List.length_set]; exact zeros_len, ?_⟩, rfl⟩
    · show (turn + 1) * N + (0 + 1) = R * (N + 1) + ((i : Int) + 1 - 1)
      have : (turn + 1) * N = turn * N + N := by rw [Int.add_mul, Int.one_mul]
      omega
    · intro j x hj hj2 hx hx0
      show ageOf N (i + 1) j ≤ 0 + 1
      by_cases hij : i = j
      · subst hij
        unfold ageOf
        rw [if_pos (by omega)]
        omega
      · have : (zeros256.set i (0 + 1))[j]? = zeros256[j]? := List.getElem?_set_ne hij
        rw [this] at hx
        exact absurd (zeros_only hx) hx0

theorem less_step (N R given turn : Int) (of : List Int) (i : Nat) (hN : 1 ≤ N) (hN2 : N ≤ 20) (hi : 1 ≤ i) (hi2 : (i : Int) ≤ N) (h : InvLess N R i given turn of) :
    ∃ ans, GetSays N given turn of i ans ∧ InvLess N R (i + 1) ans.2.2.1 ans.2.2.2.1 ans.2.2.2.2 ∧ ans.2.2.2.1 = (if ans.2.1 then turn + 1 else turn) := by
  obtain ⟨h1, h2, h3⟩ := h
  rcases h3 with ⟨hR, hg, ha, hb⟩ | ⟨hR, hg, ha⟩
  · refine ⟨(given + 1, false, given + 1, turn, of.set i (given + 1)), .inr (.inl ⟨hb i (by omega) hi2, by omega, by omega, by omega, rfl⟩), ⟨h1, by simp [h2], .inl ⟨hR, by show given + 1 = (i : Int) + 1 - 1; omega, fun j hj hj2 => ?_, fun j hj hj2 => ?_⟩⟩, rfl⟩
    · by_cases hij : i = j
      · subst hij
        exact ⟨given + 1, by omega, List.getElem?_set_self (by omega)⟩
      · obtain ⟨x, hx0, hx⟩ := ha j hj (by omega)
        exact ⟨x, hx0, by rw [← hx]; exact List.getElem?_set_ne hij⟩
    · have hij : i ≠ j := by omega
      have := hb j (by omega) hj2
      rw [← this]; exact List.getElem?_set_ne hij
  · obtain ⟨x, hx0, hx⟩ := ha i hi hi2
    exact ⟨(x, false, given, turn, of), .inl ⟨x, hx0, hx, rfl⟩, ⟨h1, h2, .inr ⟨hR, hg, ha⟩⟩, rfl⟩

theorem turns_step (more : Bool) (N R given turn : Int) (of : List Int) (i : Nat) (hN : 1 ≤ N) (hN2 : N ≤ 20) (hi : 1 ≤ i) (hi2 : (i : Int) ≤ (if more then N + 1 else N)) (h : InvT more N R i given turn of) :
    ∃ ans, GetSays N given turn of i ans ∧ InvT more N R (i + 1) ans.2.2.1 ans.2.2.2.1 ans.2.2.2.2 ∧ ans.2.2.2.1 = (if ans.2.1 then turn + 1 else turn) := by
  cases more with
  | true => exact more_step N R given turn of i hN hN2 hi hi2 h
  | false => exact less_step N R given turn of i hN hN2 hi hi2 h

theorem turns_next (more : Bool) (N R given turn : Int) (of : List Int) (hN : 1 ≤ N) (hR : 0 ≤ R) (h : InvT more N R ((if more then N + 1 else N) + 1) given turn of) : InvT more N (R + 1) 1 given turn of := by
  cases more with
  | true =>
    obtain ⟨h1, h2, h3, h4, h5, h6⟩ := h
    refine ⟨?_, h2, h3, h4, h5, fun j x hj hj2 hx hx0 => ?_⟩
    · have : (R + 1) * (N + 1) = R * (N + 1) + (N + 1) := by rw [Int.add_mul, Int.one_mul]
      simp only [if_true] at h1
      omega
    · have := h6 j x hj hj2 hx hx0
      simp only [if_true] at this
      unfold ageOf at this ⊢
      split at this <;> split <;> omega
  | false =>
    obtain ⟨h1, h2, h3⟩ := h
    simp only [Bool.false_eq_true, if_false] at h3
    rcases h3 with ⟨hR0, hg, ha, hb⟩ | ⟨hR1, hg, ha⟩
    · exact ⟨h1, h2, .inr ⟨by omega, by omega, fun j hj hj2 => ha j hj (by omega)⟩⟩
    · exact ⟨h1, h2, .inr ⟨by omega, hg, ha⟩⟩

theorem turns_first (more : Bool) (N : Int) (hN : 1 ≤ N) (hN2 : N ≤ 20) : InvT more N 0 1 0 0 zeros256 := by
  cases more with
  | true => exact ⟨by omega, by omega, by omega, by omega, zeros_len, fun j x _ _ hx hx0 => absurd (zeros_only hx) hx0⟩
  | false => exact ⟨rfl, zeros_len, .inl ⟨rfl, by omega, fun j hj hj2 => by omega, fun j hj hj2 => zeros_get j (by omega)⟩⟩

/-- The turn lies in its range. -/
theorem turns_bound (more : Bool) (N R i given turn : Int) (of : List Int) (hN : 1 ≤ N) (hN2 : N ≤ 20) (hR : 0 ≤ R) (hR2 : R ≤ 8) (hi : 1 ≤ i) (hi2 : i ≤ N + 2) (h : InvT more N R i given turn of) : 0 ≤ turn ∧ turn ≤ 1000 := by
  cases more with
  | true =>
    obtain ⟨h1, h2, h3, h4, _⟩ := h
    have e1 : turn ≤ turn * N := by
      have := Int.mul_le_mul_of_nonneg_left hN h4
      omega
    have e2 : R * (N + 1) ≤ 8 * (N + 1) := Int.mul_le_mul_of_nonneg_right hR2 (by omega)
    omega
  | false => obtain ⟨h1, _⟩ := h; omega

/-- With one more each round rolls the turn. -/
theorem turns_end (N R given turn : Int) (of : List Int) (hN : 1 ≤ N) (hR : 0 ≤ R) (h : InvMore N R 1 given turn of) (hR1 : 1 ≤ R) : R ≤ turn := by
  obtain ⟨h1, h2, h3, h4, _⟩ := h
  by_cases hlt : R ≤ turn
  · exact hlt
  exfalso
  have e1 : turn * N ≤ (R - 1) * N := Int.mul_le_mul_of_nonneg_right (by omega) (by omega)
  have e2 : (R - 1) * N = R * N - N := by rw [Int.sub_mul, Int.one_mul]
  have e3 : R * (N + 1) = R * N + R := by rw [Int.mul_add, Int.mul_one]
  omega

/-- What the loops carry. -/
def TurnsRel (more : Bool) (N : Int) (p : Nat) (w : World) (R i : Int) (rolls : Value) (wr : World) : Prop :=
  ∃ (given turn : Int) (of : List Int), rolls = .int .i64 turn ∧ IsIDs wr p N given turn of ∧ Old w wr ∧ InvT more N R i given turn of

def InnerRel (more : Bool) (N : Int) (p : Nat) (w : World) (R : Int) (rolls i : Value) (wr : World) : Prop :=
  ∃ k : Nat, i = .int .i64 k ∧ 1 ≤ k ∧ (k : Int) ≤ (if more then N + 1 else N) + 1 ∧ TurnsRel more N p w R k rolls wr
def OuterRel (more : Bool) (N RR : Int) (p : Nat) (w : World) (rolls r : Value) (wr : World) : Prop :=
  ∃ R : Nat, r = .int .i64 R ∧ (R : Int) ≤ RR ∧ TurnsRel more N p w R 1 rolls wr

set_option maxHeartbeats 4000000 in
set_option maxRecDepth 100000 in
theorem vmidTurns_true (n : Int) (rounds : Int) (w : World) :
    Calls Try.prog 9 #[.int .i64 n, .bool true, .int .i64 rounds] w (RetB w (.bool true)) := by
  have hm := i64_mask31 n
  have hm7 := i64_mask7 rounds
  have b1 : 0 ≤ n % 32 := by omega
  have b2 : n % 32 < 32 := by omega
  have b3 : 0 ≤ rounds % 8 := by omega
  have b4 : rounds % 8 < 8 := by omega
  have b5 : 0 ≤ n % 32 % 20 := by omega
  have b6 : n % 32 % 20 < 20 := by omega
  have hN1 : 1 ≤ 1 + n % 32 % 20 := by omega
  have hN2 : 1 + n % 32 % 20 ≤ 20 := by omega
  go_enter Try.func9, Try.ntmps9
  go_wp2_with fail
  generalize 1 + n % 32 % 20 = N at *
  (with_reducible refine (vmidNew_calls N _ hN1 (by omega)).mono ?_)
  rintro e w1 ⟨rfl, hw1⟩
  have hI := ids_new w N
  have hO : Old w (w.alloc (.cells (idsCells N 0 0 zeros256) 95)) := old_alloc (old_refl _) _
  rw [← hw1] at hI hO
  clear hw1
  generalize hpp : w.heap.size = p at *
  have Hp := Lib.hid hpp
  clear hpp
  go_wp2
  go_loopw [10, 11] (fun rolls r wr => OuterRel true N (rounds % 8 + 1) p w rolls r wr) (fun _ r _ => (9 - intOf r).toNat)
  case atStart => exact ⟨0, rfl, by omega, 0, 0, zeros256, rfl, hI, hO, turns_first _ _ hN1 hN2⟩
  case round =>
    obtain ⟨R, rfl, hR, given, turn, of, rfl, hI, hO, hInv⟩ := hrel
    obtain ⟨wo, hwo⟩ : ∃ wo, wo = wr := ⟨_, rfl⟩
    rw [← hwo] at hI hO ⊢
    clear hwo
    by_cases hlt : (R : Int) < rounds % 8 + 1
    · go_wp2
      go_loopw [10, 12] (fun rolls i wr => InnerRel true N p w R rolls i wr) (fun _ i _ => (30 - intOf i).toNat)
      case atStart => exact ⟨1, rfl, by omega, by simp only [if_true, Bool.false_eq_true, if_false]; omega, given, turn, of, rfl, hI, hO, hInv⟩
      case round =>
        obtain ⟨k, rfl, hk1, hk2, given, turn, of, rfl, hI, hO, hInv⟩ := hrel
        simp only [if_true, Bool.false_eq_true, if_false] at hk2
        by_cases hle : (k : Int) ≤ N + 1
        · have hb := turns_bound _ N R k given turn of hN1 hN2 (by omega) (by omega) (by omega) (by omega) hInv
          obtain ⟨⟨id, roll, given', turn', of'⟩, hsay, hInv', ht⟩ := turns_step true N R given turn of k hN1 hN2 hk1 (by simp only [if_true, Bool.false_eq_true, if_false]; omega) hInv
          simp only [] at hInv' ht
          go_wp2_with fail
          (with_reducible refine (get_says k p N given turn of _ id roll given' turn' of' hI (by omega) (by omega) hN1 hb.1 (by omega) hsay).mono ?_)
          rintro e w2 ⟨rfl, hI2, ho2⟩
          have hO2 := old_only hO ho2 (by have := Hp.out; omega)
          have hk30 : (k : Int) ≤ 22 := by omega
          have HI2 := Lib.hid hI2
          have HV := Lib.hid hInv'
          clear hInv hInv' hI hI2 hsay
          cases roll
          · simp only [Bool.false_eq_true, if_false] at ht
            subst ht
            go_wp2
            go_roundw
            case rel => exact ⟨k + 1, by go_num, by omega, by simp only [if_true, Bool.false_eq_true, if_false]; omega, given', _, of', rfl, HI2.out, hO2, by have := HV.out; rwa [Int.natCast_add] ⟩
            case measure => simp [intOf]; omega
          · simp only [if_true] at ht
            subst ht
            go_wp2
            go_roundw
            case rel => exact ⟨k + 1, by go_num, by omega, by simp only [if_true, Bool.false_eq_true, if_false]; omega, given', _, of', rfl, HI2.out, hO2, by have := HV.out; rwa [Int.natCast_add] ⟩
            case measure => simp [intOf]; omega
        · have hk : (k : Int) = N + 1 + 1 := by omega
          rw [hk] at hInv
          have hnext := turns_next true N R given turn of hN1 (by omega) (by simp only [if_true, Bool.false_eq_true, if_false]; exact hInv)
          have HN := Lib.hid hnext
          have HI := Lib.hid hI
          clear hk hInv hnext hI
          go_wp2
          go_roundw
          case rel => exact ⟨R + 1, by go_num, by omega, given, turn, of, rfl, HI.out, hO, by have := HN.out; rwa [Int.natCast_add]⟩
          case measure => simp [intOf]; omega
    · have hRR : (R : Int) = rounds % 8 + 1 := by omega
      rw [hRR] at hInv
      have hge := turns_end N (rounds % 8 + 1) given turn of hN1 (by omega) hInv (by omega)
      have ht0 : (turn == 0) = false := by rw [beq_eq_false_iff_ne]; omega
      have HI := Lib.hid hI
      clear hRR hInv hI
      go_wp2_with fail
      (with_reducible refine (vmidTold_calls _).mono ?_)
      rintro e w2 ⟨rfl, hb2⟩
      have hO2 := old_then hO hb2
      have hI2 := ids_old hb2 HI.out
      go_wp2_with fail
      (with_reducible refine (turn_calls p _ _ _ _ _ hI2).mono ?_)
      rintro e w3 ⟨rfl, hb3⟩
      have hO3 := old_then hO2 hb3
      clear hI2
      go_wp2
      go_ret
      exact ⟨rfl, hO3⟩

set_option maxHeartbeats 4000000 in
set_option maxRecDepth 100000 in
theorem vmidTurns_false (n : Int) (rounds : Int) (w : World) :
    Calls Try.prog 9 #[.int .i64 n, .bool false, .int .i64 rounds] w (RetB w (.bool true)) := by
  have hm := i64_mask31 n
  have hm7 := i64_mask7 rounds
  have b1 : 0 ≤ n % 32 := by omega
  have b2 : n % 32 < 32 := by omega
  have b3 : 0 ≤ rounds % 8 := by omega
  have b4 : rounds % 8 < 8 := by omega
  have b5 : 0 ≤ n % 32 % 20 := by omega
  have b6 : n % 32 % 20 < 20 := by omega
  have hN1 : 1 ≤ 1 + n % 32 % 20 := by omega
  have hN2 : 1 + n % 32 % 20 ≤ 20 := by omega
  go_enter Try.func9, Try.ntmps9
  go_wp2_with fail
  generalize 1 + n % 32 % 20 = N at *
  (with_reducible refine (vmidNew_calls N _ hN1 (by omega)).mono ?_)
  rintro e w1 ⟨rfl, hw1⟩
  have hI := ids_new w N
  have hO : Old w (w.alloc (.cells (idsCells N 0 0 zeros256) 95)) := old_alloc (old_refl _) _
  rw [← hw1] at hI hO
  clear hw1
  generalize hpp : w.heap.size = p at *
  have Hp := Lib.hid hpp
  clear hpp
  go_wp2
  go_loopw [10, 11] (fun rolls r wr => OuterRel false N (rounds % 8 + 1) p w rolls r wr) (fun _ r _ => (9 - intOf r).toNat)
  case atStart => exact ⟨0, rfl, by omega, 0, 0, zeros256, rfl, hI, hO, turns_first _ _ hN1 hN2⟩
  case round =>
    obtain ⟨R, rfl, hR, given, turn, of, rfl, hI, hO, hInv⟩ := hrel
    obtain ⟨wo, hwo⟩ : ∃ wo, wo = wr := ⟨_, rfl⟩
    rw [← hwo] at hI hO ⊢
    clear hwo
    by_cases hlt : (R : Int) < rounds % 8 + 1
    · go_wp2
      go_loopw [10, 12] (fun rolls i wr => InnerRel false N p w R rolls i wr) (fun _ i _ => (30 - intOf i).toNat)
      case atStart => exact ⟨1, rfl, by omega, by simp only [if_true, Bool.false_eq_true, if_false]; omega, given, turn, of, rfl, hI, hO, hInv⟩
      case round =>
        obtain ⟨k, rfl, hk1, hk2, given, turn, of, rfl, hI, hO, hInv⟩ := hrel
        simp only [if_true, Bool.false_eq_true, if_false] at hk2
        by_cases hle : (k : Int) ≤ N
        · have hb := turns_bound _ N R k given turn of hN1 hN2 (by omega) (by omega) (by omega) (by omega) hInv
          obtain ⟨⟨id, roll, given', turn', of'⟩, hsay, hInv', ht⟩ := turns_step false N R given turn of k hN1 hN2 hk1 (by simp only [if_true, Bool.false_eq_true, if_false]; omega) hInv
          simp only [] at hInv' ht
          go_wp2_with fail
          (with_reducible refine (get_says k p N given turn of _ id roll given' turn' of' hI (by omega) (by omega) hN1 hb.1 (by omega) hsay).mono ?_)
          rintro e w2 ⟨rfl, hI2, ho2⟩
          have hO2 := old_only hO ho2 (by have := Hp.out; omega)
          have hk30 : (k : Int) ≤ 22 := by omega
          have HI2 := Lib.hid hI2
          have HV := Lib.hid hInv'
          clear hInv hInv' hI hI2 hsay
          cases roll
          · simp only [Bool.false_eq_true, if_false] at ht
            subst ht
            go_wp2
            go_roundw
            case rel => exact ⟨k + 1, by go_num, by omega, by simp only [if_true, Bool.false_eq_true, if_false]; omega, given', _, of', rfl, HI2.out, hO2, by have := HV.out; rwa [Int.natCast_add] ⟩
            case measure => simp [intOf]; omega
          · simp only [if_true] at ht
            subst ht
            go_wp2
            go_roundw
            case rel => exact ⟨k + 1, by go_num, by omega, by simp only [if_true, Bool.false_eq_true, if_false]; omega, given', _, of', rfl, HI2.out, hO2, by have := HV.out; rwa [Int.natCast_add] ⟩
            case measure => simp [intOf]; omega
        · have hk : (k : Int) = N + 1 := by omega
          rw [hk] at hInv
          have hnext := turns_next false N R given turn of hN1 (by omega) (by simp only [if_true, Bool.false_eq_true, if_false]; exact hInv)
          have HN := Lib.hid hnext
          have HI := Lib.hid hI
          clear hk hInv hnext hI
          go_wp2
          go_roundw
          case rel => exact ⟨R + 1, by go_num, by omega, given, turn, of, rfl, HI.out, hO, by have := HN.out; rwa [Int.natCast_add]⟩
          case measure => simp [intOf]; omega
    · have hRR : (R : Int) = rounds % 8 + 1 := by omega
      rw [hRR] at hInv
      have ht : turn = 0 := hInv.1
      subst ht
      have HI := Lib.hid hI
      clear hRR hInv hI
      go_wp2_with fail
      (with_reducible refine (vmidTold_calls _).mono ?_)
      rintro e w2 ⟨rfl, hb2⟩
      have hO2 := old_then hO hb2
      have hI2 := ids_old hb2 HI.out
      go_wp2_with fail
      (with_reducible refine (turn_calls p _ _ _ _ _ hI2).mono ?_)
      rintro e w3 ⟨rfl, hb3⟩
      have hO3 := old_then hO2 hb3
      clear hI2
      go_wp2
      go_ret
      exact ⟨rfl, hO3⟩

theorem vmidTurns_walk (n : Int) (_ : (Lit.int .i64 n).wf = true) (more : Bool) (rounds : Int) (_ : (Lit.int .i64 rounds).wf = true) (w : World) :
    Calls Try.prog 9 #[.int .i64 n, .bool more, .int .i64 rounds] w (RetB w (.bool true)) := by
  cases more
  · exact vmidTurns_false n rounds w
  · exact vmidTurns_true n rounds w

end Go.Proofs.Ytbnbchclbblbkaa
