/- The statement BitsBack: its walk. -/
import Derived.Test.YtajilhckhdohnaaBitsBytesLaw
namespace Go.Proofs.Ytajilhckhdohnaa
set_option linter.unusedVariables false
set_option linter.unusedSimpArgs false
open Go.RowKit

theorem putL_get (l : List Nat) (p v k i : Nat) : (putL l p v k)[i]? = if p ≤ i ∧ i < p + k ∧ i < l.length then some (v / 2 ^ (8 * (i - p)) % 256) else l[i]? := by
  induction k with
  | zero => rw [if_neg (by omega)]; rfl
  | succ k ih =>
    rw [putL, List.getElem?_set, putL_length]
    by_cases h : p + k = i
    · subst h
      rw [if_pos rfl]
      by_cases h2 : p + k < l.length
      · rw [if_pos h2, if_pos ⟨by omega, by omega, h2⟩, Nat.add_sub_cancel_left]
      · rw [if_neg h2, if_neg (by omega), List.getElem?_eq_none (by omega)]
    · rw [if_neg h, ih]
      by_cases h2 : p ≤ i ∧ i < p + k ∧ i < l.length
      · rw [if_pos h2, if_pos ⟨h2.1, by omega, h2.2.2⟩]
      · rw [if_neg h2, if_neg (by omega)]

theorem getN_congr (l m : List Nat) (p k : Nat) (h : ∀ i, i < k → l.getD (p + i) 0 = m.getD (p + i) 0) : getN l p k = getN m p k := by
  induction k with
  | zero => rfl
  | succ k ih => rw [getN, getN, ih (fun i hi => h i (by omega)), h k (by omega)]

/-- What was put is got. -/
theorem get_put (l : List Nat) (p v s : Nat) (h : p + s ≤ l.length) : getN (putL l p v s) p s = v % 2 ^ (8 * s) := by
  have key : ∀ k, k ≤ s → getN (putL l p v s) p k = v % 2 ^ (8 * k) := by
    intro k
    induction k with
    | zero => intro _; simp [getN, Nat.mod_one]
    | succ k ih =>
      intro hk
      rw [getN, ih (by omega), List.getD_eq_getElem?_getD, putL_get, if_pos ⟨by omega, by omega, by omega⟩, Nat.add_sub_cancel_left, Option.getD_some]
      rw [show 8 * (k + 1) = 8 * k + 8 by omega, Nat.pow_add, Nat.mod_mul, Nat.mul_comm (v / 2 ^ (8 * k) % 256)]
  exact key s (Nat.le_refl _)

theorem get_any (ad : Option Addr) (l : List Nat) (c : Nat) (p s : Int) (w : World) (hB : Bytes w ad c l) : ∃ v : Int, Calls Try.prog 15 #[.slice ad l.length c, .int .i64 p, .int .i64 s] w (RetB w (.tuple #[.int .u64 v, .int .i64 (checkN l.length p s)])) := by
  rcases checkN_cases l.length p s with ⟨e, he, he0⟩ | ⟨h0, p', s', rfl, rfl, hps, hs1, hs8⟩
  · rw [he]
    exact ⟨0, get_fail ad l.length c p s w (Nat.le_trans hB.1 hB.2.1) e he he0⟩
  · rw [h0]
    exact ⟨_, get_ok ad l c p' s' p' s' rfl rfl w hB h0 hps hs1 hs8⟩

theorem place_of (y : Int) (n : Nat) (h1 : 1 ≤ n) (h2 : n ≤ 200) : ∃ j : Nat, j < n ∧ (wrap64 (y.tmod n + n)).tmod n = (j : Int) := by
  have a1 := Int.lt_tmod_of_pos y (b := (n : Int)) (by omega)
  have a2 := Int.tmod_lt_of_pos y (b := (n : Int)) (by omega)
  rw [IntWalk.wrap64_in (y.tmod n + n) (by omega)]
  have b1 := Int.tmod_nonneg (a := y.tmod n + n) (n : Int) (by omega)
  have b2 := Int.tmod_lt_of_pos (y.tmod n + n) (b := (n : Int)) (by omega)
  exact ⟨((y.tmod n + n).tmod n).toNat, by omega, by omega⟩

set_option maxHeartbeats 4000000 in
set_option maxRecDepth 100000 in
theorem bitsBack_few (ad : Option Addr) (l : List Nat) (c : Nat) (p k : Int) (v : Int) (w : World) (hB : Bytes w ad c l) (h8 : (l.take 200).length < 8) :
    Calls Try.prog 6 #[.slice ad l.length c, .int .i64 p, .int .i64 k, .int .u64 v] w (RetB w (.bool true)) := by
  have hn : l.length ≤ maxLen := Nat.le_trans hB.1 hB.2.1
  have hfew := few_calls ad l c w hB
  unfold RetFew at hfew
  generalize l.take 200 = L at *
  go_enter Try.func6, Try.ntmps6
  go_wp2_with fail
  (with_reducible refine hfew.mono ?_)
  rintro e w1 ⟨g, cap, rfl, hrow, hO1⟩
  clear hfew
  go_wp2_with fail
  (with_reducible refine (bitsTold_calls _).mono ?_)
  rintro e w2 ⟨rfl, hb2⟩
  have hO2 := old_then hO1 hb2
  go_wp2
  go_ret
  exact ⟨rfl, hO2⟩

set_option maxHeartbeats 4000000 in
set_option maxRecDepth 100000 in
theorem bitsBack_1 (ad : Option Addr) (l : List Nat) (c : Nat) (y k : Int) (v : Nat) (w : World) (hB : Bytes w ad c l) (hv : v < 18446744073709551616) (h8 : ¬ (l.take 200).length < 8) (hk : k % 4 = 0) :
    Calls Try.prog 6 #[.slice ad l.length c, .int .i64 y, .int .i64 k, .int .u64 v] w (RetB w (.bool true)) := by
  have hn : l.length ≤ maxLen := Nat.le_trans hB.1 hB.2.1
  have hL200 : (l.take 200).length ≤ 200 := by rw [List.length_take]; exact Nat.min_le_left _ _
  have hfew := few_calls ad l c w hB
  unfold RetFew at hfew
  generalize l.take 200 = L at *
  have hm3 := i64_mask3 k
  rw [hk] at hm3
  clear hk hB hn
  have hq : ∃ q : Nat, q = L.length ∧ True := ⟨_, rfl, trivial⟩
  obtain ⟨j, hj, hje⟩ := place_of y L.length (by omega) (by omega)
  obtain ⟨p, hp⟩ : ∃ p : Nat, p = j := ⟨_, rfl⟩
  subst hp
  clear hq
  have hps : p + 1 ≤ L.length := by omega
  have hchk : checkN L.length p 1 = 0 := checkN_ok (by decide) (by omega) (by omega)
  have hX := get_put L p v 1 hps
  have hPl := putL_length L p v 1
  have hPg := putL_get L p v 1
  have hand : bits .and .u64 (v : Int) 255 = ((v % 256 : Nat) : Int) := by
    have := bits_and_u64_nat v 255 hv (by decide)
    rw [show (255 : Nat) = 2 ^ 8 - 1 from rfl, Nat.and_two_pow_sub_one_eq_mod] at this
    exact this
  rw [show (2 : Nat) ^ (8 * 1) = 256 from rfl] at hX
  generalize v % 256 = X at *
  have hce : (checkN L.length ((p : Int) + 1) 2 == 1) = false := by
    rw [beq_eq_false_iff_ne]
    rcases checkN_cases L.length ((p : Int) + 1) 2 with ⟨e, he, _⟩ | ⟨h0, _⟩
    · unfold checkN
      rw [if_neg (by decide)]
      split
      · decide
      split <;> decide
    · rw [h0]; decide
  go_enter Try.func6, Try.ntmps6
  go_wp2_with fail
  (with_reducible refine hfew.mono ?_)
  rintro e w1 ⟨g, cap, rfl, hrow, hO1⟩
  clear hfew
  have hput := put_ok _ L cap p 1 v p 1 v rfl rfl rfl _ (bytes_prefix (row_bytes hrow)) hchk hps (by decide) (by decide) (by omega)
  unfold RetRow at hput
  generalize putL L p v 1 = P at *
  go_wp2_with fail
  (with_reducible refine hput.mono ?_)
  rintro e w2 ⟨gp, cp, rfl, hrowp, hb2⟩
  clear hput
  have hrow2 := row_old hrow hb2
  have hO2 := old_then hO1 hb2
  have hget : Calls Try.prog 15 #[.slice (some ⟨gp, 0, none⟩) L.length cp, .int .i64 p, .int .i64 1] w2 (RetB w2 (.tuple #[.int .u64 X, .int .i64 0])) := by
    rw [← hPl, ← hX]
    exact get_ok _ P cp p 1 p 1 rfl rfl _ (row_bytes hrowp) (by rw [hPl]; exact hchk) (by omega) (by decide) (by decide)
  go_wp2_with fail
  (with_reducible refine hget.mono ?_)
  rintro e w3 ⟨rfl, hb3⟩
  clear hget hX
  have hrow3 := row_old hrow2 hb3
  have hrowp3 := row_old hrowp hb3
  have hO3 := old_then hO2 hb3
  have hcp := row_parts hrowp3
  have hcp63 : cp ≤ 9223372036854775807 := hcp.2.2.2
  have hpcp : L.length ≤ cp := by rw [← hPl]; exact hcp.2.2.1
  have hHg := Lib.hid hPg
  have hHl := Lib.hid hPl
  clear hcp hrow hrow2 hrowp hb2 hb3 hO1 hO2 hPg
  go_wp2
  clear hPl
  go_loopw [16] (fun i wr => ∃ k : Nat, i = .int .i64 k ∧ k ≤ L.length ∧ Row wr w1.heap.size gp cp P ∧ Row wr w.heap.size g cap (L ++ [165]) ∧ Old w wr) (fun i _ => (201 - intOf i).toNat)
  case atStart => exact ⟨0, rfl, by omega, hrowp3, hrow3, hO3⟩
  case round =>
  clear hrowp3 hrow3 hO3
  obtain ⟨k, rfl, hk, hrp, hrg, hO⟩ := hrel
  by_cases hkL : k < L.length
  · have hkg : (L ++ [165])[k]? = L[k]? := List.getElem?_append_left hkL
    obtain ⟨x, hx⟩ : ∃ x, L[k]? = some x := ⟨_, List.getElem?_eq_getElem hkL⟩
    have cg := row_cell hrg (hkg.trans hx)
    obtain ⟨z, hz⟩ : ∃ z, P[k]? = some z := ⟨_, List.getElem?_eq_getElem (by rw [hHl.out]; exact hkL)⟩
    have ck := row_cell hrp hz
    have hPk := hHg.out k
    have hrel : Hid (∃ k_1 : Nat, (.int .i64 ((k : Int) + 1) : Value) = .int .i64 k_1 ∧ k_1 ≤ L.length ∧ Row wr.drew w1.heap.size gp cp P ∧ Row wr.drew w.heap.size g cap (L ++ [165]) ∧ Old w wr.drew) :=
      Lib.hid ⟨k + 1, by go_num, by omega, row_old hrp (old_drew (old_refl _)), row_old hrg (old_drew (old_refl _)), old_drew hO⟩
    by_cases hlo : k < p
    · rw [if_neg (by omega), hx, hz] at hPk
      obtain rfl : z = x := Option.some.inj hPk
      clear hrp hrg hx hz hkg hPk
      go_wp2_with fail
      refine wp_region_walked (S := Is wr.drew) (by kernel_rfl) (by kernel_rfl) rfl ?_
      repeat (apply walked_cons; (first | exact gives_and rfl rfl rfl rfl | exact gives_or rfl rfl rfl rfl | (focus (intro wS hS; cases hS; go_wp2; exact ⟨rfl, rfl, rfl⟩; done)) | (focus (apply gives_guard; (focus (first | exact wanted_yes rfl rfl rfl | exact wanted_no rfl rfl rfl | exact wanted_yes2 rfl rfl rfl | exact wanted_no2 rfl rfl rfl)); (focus (intro hx9; (try simp only [Bool.not_eq_true', Bool.and_eq_true, Bool.not_not] at hx9); (try obtain ⟨hx9, hy9⟩ := hx9); (try subst hy9); (try subst hx9); (first | exact gives_and rfl rfl rfl rfl | exact gives_or rfl rfl rfl rfl | (intro wS hS; cases hS; go_wp2; exact ⟨rfl, rfl, rfl⟩; done))))))); rfl; (try simp only [Act.put, List.setIfInBounds_toArray, List.set_cons_succ, List.set_cons_zero]))
      apply walked_nil
      intro wS hS
      cases hS
      go_wp2
      go_roundw
      case rel => exact hrel.out
      case measure => (simp [intOf]) <;> omega
    · by_cases hhi : k < p + 1
      · clear hrp hrg hx hz hkg hPk
        go_wp2_with fail
        refine wp_region_walked (S := Is wr.drew) (by kernel_rfl) (by kernel_rfl) rfl ?_
        repeat (apply walked_cons; (first | exact gives_and rfl rfl rfl rfl | exact gives_or rfl rfl rfl rfl | (focus (intro wS hS; cases hS; go_wp2; exact ⟨rfl, rfl, rfl⟩; done)) | (focus (apply gives_guard; (focus (first | exact wanted_yes rfl rfl rfl | exact wanted_no rfl rfl rfl | exact wanted_yes2 rfl rfl rfl | exact wanted_no2 rfl rfl rfl)); (focus (intro hx9; (try simp only [Bool.not_eq_true', Bool.and_eq_true, Bool.not_not] at hx9); (try obtain ⟨hx9, hy9⟩ := hx9); (try subst hy9); (try subst hx9); (first | exact gives_and rfl rfl rfl rfl | exact gives_or rfl rfl rfl rfl | (intro wS hS; cases hS; go_wp2; exact ⟨rfl, rfl, rfl⟩; done))))))); rfl; (try simp only [Act.put, List.setIfInBounds_toArray, List.set_cons_succ, List.set_cons_zero]))
        apply walked_nil
        intro wS hS
        cases hS
        go_wp2
        go_roundw
        case rel => exact hrel.out
        case measure => (simp [intOf]) <;> omega
      · rw [if_neg (by omega), hx, hz] at hPk
        obtain rfl : z = x := Option.some.inj hPk
        clear hrp hrg hx hz hkg hPk
        go_wp2_with fail
        refine wp_region_walked (S := Is wr.drew) (by kernel_rfl) (by kernel_rfl) rfl ?_
        repeat (apply walked_cons; (first | exact gives_and rfl rfl rfl rfl | exact gives_or rfl rfl rfl rfl | (focus (intro wS hS; cases hS; go_wp2; exact ⟨rfl, rfl, rfl⟩; done)) | (focus (apply gives_guard; (focus (first | exact wanted_yes rfl rfl rfl | exact wanted_no rfl rfl rfl | exact wanted_yes2 rfl rfl rfl | exact wanted_no2 rfl rfl rfl)); (focus (intro hx9; (try simp only [Bool.not_eq_true', Bool.and_eq_true, Bool.not_not] at hx9); (try obtain ⟨hx9, hy9⟩ := hx9); (try subst hy9); (try subst hx9); (first | exact gives_and rfl rfl rfl rfl | exact gives_or rfl rfl rfl rfl | (intro wS hS; cases hS; go_wp2; exact ⟨rfl, rfl, rfl⟩; done))))))); rfl; (try simp only [Act.put, List.setIfInBounds_toArray, List.set_cons_succ, List.set_cons_zero]))
        apply walked_nil
        intro wS hS
        cases hS
        go_wp2
        go_roundw
        case rel => exact hrel.out
        case measure => (simp [intOf]) <;> omega
  · obtain rfl : k = L.length := by omega
    obtain ⟨r, hgetr⟩ := get_any (some ⟨g, 0, none⟩) L cap ((p : Int) + 1) 2 wr (bytes_prefix (row_bytes hrg))
    generalize checkN L.length ((p : Int) + 1) 2 = er at *
    clear hrp hrg
    go_wp2_with fail
    (with_reducible refine hgetr.mono ?_)
    rintro e w4 ⟨rfl, hb4⟩
    have hO4 := old_then hO hb4
    clear hb4 hO hgetr
    go_wp2_with fail
    (with_reducible refine (bitsTold_calls _).mono ?_)
    rintro e w5 ⟨rfl, hb5⟩
    have hO5 := old_then hO4 hb5
    go_wp2
    go_ret
    exact ⟨rfl, hO5⟩

set_option maxHeartbeats 4000000 in
set_option maxRecDepth 100000 in
theorem bitsBack_2 (ad : Option Addr) (l : List Nat) (c : Nat) (y k : Int) (v : Nat) (w : World) (hB : Bytes w ad c l) (hv : v < 18446744073709551616) (h8 : ¬ (l.take 200).length < 8) (hk : k % 4 = 1) :
    Calls Try.prog 6 #[.slice ad l.length c, .int .i64 y, .int .i64 k, .int .u64 v] w (RetB w (.bool true)) := by
  have hn : l.length ≤ maxLen := Nat.le_trans hB.1 hB.2.1
  have hL200 : (l.take 200).length ≤ 200 := by rw [List.length_take]; exact Nat.min_le_left _ _
  have hfew := few_calls ad l c w hB
  unfold RetFew at hfew
  generalize l.take 200 = L at *
  have hm3 := i64_mask3 k
  rw [hk] at hm3
  clear hk hB hn
  have hquo : (L.length : Int).tdiv 2 = ((L.length / 2 : Nat) : Int) := by
    rw [Int.tdiv_eq_ediv_of_nonneg (Int.natCast_nonneg _)]; omega
  have hqb : L.length / 2 * 2 ≤ L.length := Nat.div_mul_le_self _ _
  have hq1 : 1 ≤ L.length / 2 := by omega
  generalize L.length / 2 = q at *
  obtain ⟨j, hj, hje⟩ := place_of y q (by omega) (by omega)
  obtain ⟨p, hp⟩ : ∃ p : Nat, p = j * 2 := ⟨_, rfl⟩
  have hjs : (j : Int) * 2 = (p : Int) := by omega
  have hps : p + 2 ≤ L.length := by omega
  have hchk : checkN L.length p 2 = 0 := checkN_ok (by decide) (by omega) (by omega)
  have hX := get_put L p v 2 hps
  have hPl := putL_length L p v 2
  have hPg := putL_get L p v 2
  have hand : bits .and .u64 (v : Int) 65535 = ((v % 65536 : Nat) : Int) := by
    have := bits_and_u64_nat v 65535 hv (by decide)
    rw [show (65535 : Nat) = 2 ^ 16 - 1 from rfl, Nat.and_two_pow_sub_one_eq_mod] at this
    exact this
  rw [show (2 : Nat) ^ (8 * 2) = 65536 from rfl] at hX
  generalize v % 65536 = X at *
  have hce : (checkN L.length ((p : Int) + 1) 4 == 1) = false := by
    rw [beq_eq_false_iff_ne]
    rcases checkN_cases L.length ((p : Int) + 1) 4 with ⟨e, he, _⟩ | ⟨h0, _⟩
    · unfold checkN
      rw [if_neg (by decide)]
      split
      · decide
      split <;> decide
    · rw [h0]; decide
  clear hp
  go_enter Try.func6, Try.ntmps6
  go_wp2_with fail
  (with_reducible refine hfew.mono ?_)
  rintro e w1 ⟨g, cap, rfl, hrow, hO1⟩
  clear hfew
  have hput := put_ok _ L cap p 2 v p 2 v rfl rfl rfl _ (bytes_prefix (row_bytes hrow)) hchk hps (by decide) (by decide) (by omega)
  unfold RetRow at hput
  generalize putL L p v 2 = P at *
  go_wp2_with fail
  (with_reducible refine hput.mono ?_)
  rintro e w2 ⟨gp, cp, rfl, hrowp, hb2⟩
  clear hput
  have hrow2 := row_old hrow hb2
  have hO2 := old_then hO1 hb2
  have hget : Calls Try.prog 15 #[.slice (some ⟨gp, 0, none⟩) L.length cp, .int .i64 p, .int .i64 2] w2 (RetB w2 (.tuple #[.int .u64 X, .int .i64 0])) := by
    rw [← hPl, ← hX]
    exact get_ok _ P cp p 2 p 2 rfl rfl _ (row_bytes hrowp) (by rw [hPl]; exact hchk) (by omega) (by decide) (by decide)
  go_wp2_with fail
  (with_reducible refine hget.mono ?_)
  rintro e w3 ⟨rfl, hb3⟩
  clear hget hX
  have hrow3 := row_old hrow2 hb3
  have hrowp3 := row_old hrowp hb3
  have hO3 := old_then hO2 hb3
  have hcp := row_parts hrowp3
  have hcp63 : cp ≤ 9223372036854775807 := hcp.2.2.2
  have hpcp : L.length ≤ cp := by rw [← hPl]; exact hcp.2.2.1
  have hHg := Lib.hid hPg
  have hHl := Lib.hid hPl
  clear hcp hrow hrow2 hrowp hb2 hb3 hO1 hO2 hPg
  go_wp2
  clear hPl
  go_loopw [16] (fun i wr => ∃ k : Nat, i = .int .i64 k ∧ k ≤ L.length ∧ Row wr w1.heap.size gp cp P ∧ Row wr w.heap.size g cap (L ++ [165]) ∧ Old w wr) (fun i _ => (201 - intOf i).toNat)
  case atStart => exact ⟨0, rfl, by omega, hrowp3, hrow3, hO3⟩
  case round =>
  clear hrowp3 hrow3 hO3
  obtain ⟨k, rfl, hk, hrp, hrg, hO⟩ := hrel
  by_cases hkL : k < L.length
  · have hkg : (L ++ [165])[k]? = L[k]? := List.getElem?_append_left hkL
    obtain ⟨x, hx⟩ : ∃ x, L[k]? = some x := ⟨_, List.getElem?_eq_getElem hkL⟩
    have cg := row_cell hrg (hkg.trans hx)
    obtain ⟨z, hz⟩ : ∃ z, P[k]? = some z := ⟨_, List.getElem?_eq_getElem (by rw [hHl.out]; exact hkL)⟩
    have ck := row_cell hrp hz
    have hPk := hHg.out k
    have hrel : Hid (∃ k_1 : Nat, (.int .i64 ((k : Int) + 1) : Value) = .int .i64 k_1 ∧ k_1 ≤ L.length ∧ Row wr.drew w1.heap.size gp cp P ∧ Row wr.drew w.heap.size g cap (L ++ [165]) ∧ Old w wr.drew) :=
      Lib.hid ⟨k + 1, by go_num, by omega, row_old hrp (old_drew (old_refl _)), row_old hrg (old_drew (old_refl _)), old_drew hO⟩
    by_cases hlo : k < p
    · rw [if_neg (by omega), hx, hz] at hPk
      obtain rfl : z = x := Option.some.inj hPk
      clear hrp hrg hx hz hkg hPk
      go_wp2_with fail
      refine wp_region_walked (S := Is wr.drew) (by kernel_rfl) (by kernel_rfl) rfl ?_
      repeat (apply walked_cons; (first | exact gives_and rfl rfl rfl rfl | exact gives_or rfl rfl rfl rfl | (focus (intro wS hS; cases hS; go_wp2; exact ⟨rfl, rfl, rfl⟩; done)) | (focus (apply gives_guard; (focus (first | exact wanted_yes rfl rfl rfl | exact wanted_no rfl rfl rfl | exact wanted_yes2 rfl rfl rfl | exact wanted_no2 rfl rfl rfl)); (focus (intro hx9; (try simp only [Bool.not_eq_true', Bool.and_eq_true, Bool.not_not] at hx9); (try obtain ⟨hx9, hy9⟩ := hx9); (try subst hy9); (try subst hx9); (first | exact gives_and rfl rfl rfl rfl | exact gives_or rfl rfl rfl rfl | (intro wS hS; cases hS; go_wp2; exact ⟨rfl, rfl, rfl⟩; done))))))); rfl; (try simp only [Act.put, List.setIfInBounds_toArray, List.set_cons_succ, List.set_cons_zero]))
      apply walked_nil
      intro wS hS
      cases hS
      go_wp2
      go_roundw
      case rel => exact hrel.out
      case measure => (simp [intOf]) <;> omega
    · by_cases hhi : k < p + 2
      · clear hrp hrg hx hz hkg hPk
        go_wp2_with fail
        refine wp_region_walked (S := Is wr.drew) (by kernel_rfl) (by kernel_rfl) rfl ?_
        repeat (apply walked_cons; (first | exact gives_and rfl rfl rfl rfl | exact gives_or rfl rfl rfl rfl | (focus (intro wS hS; cases hS; go_wp2; exact ⟨rfl, rfl, rfl⟩; done)) | (focus (apply gives_guard; (focus (first | exact wanted_yes rfl rfl rfl | exact wanted_no rfl rfl rfl | exact wanted_yes2 rfl rfl rfl | exact wanted_no2 rfl rfl rfl)); (focus (intro hx9; (try simp only [Bool.not_eq_true', Bool.and_eq_true, Bool.not_not] at hx9); (try obtain ⟨hx9, hy9⟩ := hx9); (try subst hy9); (try subst hx9); (first | exact gives_and rfl rfl rfl rfl | exact gives_or rfl rfl rfl rfl | (intro wS hS; cases hS; go_wp2; exact ⟨rfl, rfl, rfl⟩; done))))))); rfl; (try simp only [Act.put, List.setIfInBounds_toArray, List.set_cons_succ, List.set_cons_zero]))
        apply walked_nil
        intro wS hS
        cases hS
        go_wp2
        go_roundw
        case rel => exact hrel.out
        case measure => (simp [intOf]) <;> omega
      · rw [if_neg (by omega), hx, hz] at hPk
        obtain rfl : z = x := Option.some.inj hPk
        clear hrp hrg hx hz hkg hPk
        go_wp2_with fail
        refine wp_region_walked (S := Is wr.drew) (by kernel_rfl) (by kernel_rfl) rfl ?_
        repeat (apply walked_cons; (first | exact gives_and rfl rfl rfl rfl | exact gives_or rfl rfl rfl rfl | (focus (intro wS hS; cases hS; go_wp2; exact ⟨rfl, rfl, rfl⟩; done)) | (focus (apply gives_guard; (focus (first | exact wanted_yes rfl rfl rfl | exact wanted_no rfl rfl rfl | exact wanted_yes2 rfl rfl rfl | exact wanted_no2 rfl rfl rfl)); (focus (intro hx9; (try simp only [Bool.not_eq_true', Bool.and_eq_true, Bool.not_not] at hx9); (try obtain ⟨hx9, hy9⟩ := hx9); (try subst hy9); (try subst hx9); (first | exact gives_and rfl rfl rfl rfl | exact gives_or rfl rfl rfl rfl | (intro wS hS; cases hS; go_wp2; exact ⟨rfl, rfl, rfl⟩; done))))))); rfl; (try simp only [Act.put, List.setIfInBounds_toArray, List.set_cons_succ, List.set_cons_zero]))
        apply walked_nil
        intro wS hS
        cases hS
        go_wp2
        go_roundw
        case rel => exact hrel.out
        case measure => (simp [intOf]) <;> omega
  · obtain rfl : k = L.length := by omega
    obtain ⟨r, hgetr⟩ := get_any (some ⟨g, 0, none⟩) L cap ((p : Int) + 1) 4 wr (bytes_prefix (row_bytes hrg))
    generalize checkN L.length ((p : Int) + 1) 4 = er at *
    clear hrp hrg
    go_wp2_with fail
    (with_reducible refine hgetr.mono ?_)
    rintro e w4 ⟨rfl, hb4⟩
    have hO4 := old_then hO hb4
    clear hb4 hO hgetr
    go_wp2_with fail
    (with_reducible refine (bitsTold_calls _).mono ?_)
    rintro e w5 ⟨rfl, hb5⟩
    have hO5 := old_then hO4 hb5
    go_wp2
    go_ret
    exact ⟨rfl, hO5⟩

set_option maxHeartbeats 4000000 in
set_option maxRecDepth 100000 in
theorem bitsBack_4 (ad : Option Addr) (l : List Nat) (c : Nat) (y k : Int) (v : Nat) (w : World) (hB : Bytes w ad c l) (hv : v < 18446744073709551616) (h8 : ¬ (l.take 200).length < 8) (hk : k % 4 = 2) :
    Calls Try.prog 6 #[.slice ad l.length c, .int .i64 y, .int .i64 k, .int .u64 v] w (RetB w (.bool true)) := by
  have hn : l.length ≤ maxLen := Nat.le_trans hB.1 hB.2.1
  have hL200 : (l.take 200).length ≤ 200 := by rw [List.length_take]; exact Nat.min_le_left _ _
  have hfew := few_calls ad l c w hB
  unfold RetFew at hfew
  generalize l.take 200 = L at *
  have hm3 := i64_mask3 k
  rw [hk] at hm3
  clear hk hB hn
  have hquo : (L.length : Int).tdiv 4 = ((L.length / 4 : Nat) : Int) := by
    rw [Int.tdiv_eq_ediv_of_nonneg (Int.natCast_nonneg _)]; omega
  have hqb : L.length / 4 * 4 ≤ L.length := Nat.div_mul_le_self _ _
  have hq1 : 1 ≤ L.length / 4 := by omega
  generalize L.length / 4 = q at *
  obtain ⟨j, hj, hje⟩ := place_of y q (by omega) (by omega)
  obtain ⟨p, hp⟩ : ∃ p : Nat, p = j * 4 := ⟨_, rfl⟩
  have hjs : (j : Int) * 4 = (p : Int) := by omega
  have hps : p + 4 ≤ L.length := by omega
  have hchk : checkN L.length p 4 = 0 := checkN_ok (by decide) (by omega) (by omega)
  have hX := get_put L p v 4 hps
  have hPl := putL_length L p v 4
  have hPg := putL_get L p v 4
  have hand : bits .and .u64 (v : Int) 4294967295 = ((v % 4294967296 : Nat) : Int) := by
    have := bits_and_u64_nat v 4294967295 hv (by decide)
    rw [show (4294967295 : Nat) = 2 ^ 32 - 1 from rfl, Nat.and_two_pow_sub_one_eq_mod] at this
    exact this
  rw [show (2 : Nat) ^ (8 * 4) = 4294967296 from rfl] at hX
  generalize v % 4294967296 = X at *
  have hce : (checkN L.length ((p : Int) + 1) 8 == 1) = false := by
    rw [beq_eq_false_iff_ne]
    rcases checkN_cases L.length ((p : Int) + 1) 8 with ⟨e, he, _⟩ | ⟨h0, _⟩
    · unfold checkN
      rw [if_neg (by decide)]
      split
      · decide
      split <;> decide
    · rw [h0]; decide
  clear hp
  go_enter Try.func6, Try.ntmps6
  go_wp2_with fail
  (with_reducible refine hfew.mono ?_)
  rintro e w1 ⟨g, cap, rfl, hrow, hO1⟩
  clear hfew
  have hput := put_ok _ L cap p 4 v p 4 v rfl rfl rfl _ (bytes_prefix (row_bytes hrow)) hchk hps (by decide) (by decide) (by omega)
  unfold RetRow at hput
  generalize putL L p v 4 = P at *
  go_wp2_with fail
  (with_reducible refine hput.mono ?_)
  rintro e w2 ⟨gp, cp, rfl, hrowp, hb2⟩
  clear hput
  have hrow2 := row_old hrow hb2
  have hO2 := old_then hO1 hb2
  have hget : Calls Try.prog 15 #[.slice (some ⟨gp, 0, none⟩) L.length cp, .int .i64 p, .int .i64 4] w2 (RetB w2 (.tuple #[.int .u64 X, .int .i64 0])) := by
    rw [← hPl, ← hX]
    exact get_ok _ P cp p 4 p 4 rfl rfl _ (row_bytes hrowp) (by rw [hPl]; exact hchk) (by omega) (by decide) (by decide)
  go_wp2_with fail
  (with_reducible refine hget.mono ?_)
  rintro e w3 ⟨rfl, hb3⟩
  clear hget hX
  have hrow3 := row_old hrow2 hb3
  have hrowp3 := row_old hrowp hb3
  have hO3 := old_then hO2 hb3
  have hcp := row_parts hrowp3
  have hcp63 : cp ≤ 9223372036854775807 := hcp.2.2.2
  have hpcp : L.length ≤ cp := by rw [← hPl]; exact hcp.2.2.1
  have hHg := Lib.hid hPg
  have hHl := Lib.hid hPl
  clear hcp hrow hrow2 hrowp hb2 hb3 hO1 hO2 hPg
  go_wp2
  clear hPl
  go_loopw [16] (fun i wr => ∃ k : Nat, i = .int .i64 k ∧ k ≤ L.length ∧ Row wr w1.heap.size gp cp P ∧ Row wr w.heap.size g cap (L ++ [165]) ∧ Old w wr) (fun i _ => (201 - intOf i).toNat)
  case atStart => exact ⟨0, rfl, by omega, hrowp3, hrow3, hO3⟩
  case round =>
  clear hrowp3 hrow3 hO3
  obtain ⟨k, rfl, hk, hrp, hrg, hO⟩ := hrel
  by_cases hkL : k < L.length
  · have hkg : (L ++ [165])[k]? = L[k]? := List.getElem?_append_left hkL
    obtain ⟨x, hx⟩ : ∃ x, L[k]? = some x := ⟨_, List.getElem?_eq_getElem hkL⟩
    have cg := row_cell hrg (hkg.trans hx)
    obtain ⟨z, hz⟩ : ∃ z, P[k]? = some z := ⟨_, List.getElem?_eq_getElem (by rw [hHl.out]; exact hkL)⟩
    have ck := row_cell hrp hz
    have hPk := hHg.out k
    have hrel : Hid (∃ k_1 : Nat, (.int .i64 ((k : Int) + 1) : Value) = .int .i64 k_1 ∧ k_1 ≤ L.length ∧ Row wr.drew w1.heap.size gp cp P ∧ Row wr.drew w.heap.size g cap (L ++ [165]) ∧ Old w wr.drew) :=
      Lib.hid ⟨k + 1, by go_num, by omega, row_old hrp (old_drew (old_refl _)), row_old hrg (old_drew (old_refl _)), old_drew hO⟩
    by_cases hlo : k < p
    · rw [if_neg (by omega), hx, hz] at hPk
      obtain rfl : z = x := Option.some.inj hPk
      clear hrp hrg hx hz hkg hPk
      go_wp2_with fail
      refine wp_region_walked (S := Is wr.drew) (by kernel_rfl) (by kernel_rfl) rfl ?_
      repeat (apply walked_cons; (first | exact gives_and rfl rfl rfl rfl | exact gives_or rfl rfl rfl rfl | (focus (intro wS hS; cases hS; go_wp2; exact ⟨rfl, rfl, rfl⟩; done)) | (focus (apply gives_guard; (focus (first | exact wanted_yes rfl rfl rfl | exact wanted_no rfl rfl rfl | exact wanted_yes2 rfl rfl rfl | exact wanted_no2 rfl rfl rfl)); (focus (intro hx9; (try simp only [Bool.not_eq_true', Bool.and_eq_true, Bool.not_not] at hx9); (try obtain ⟨hx9, hy9⟩ := hx9); (try subst hy9); (try subst hx9); (first | exact gives_and rfl rfl rfl rfl | exact gives_or rfl rfl rfl rfl | (intro wS hS; cases hS; go_wp2; exact ⟨rfl, rfl, rfl⟩; done))))))); rfl; (try simp only [Act.put, List.setIfInBounds_toArray, List.set_cons_succ, List.set_cons_zero]))
      apply walked_nil
      intro wS hS
      cases hS
      go_wp2
      go_roundw
      case rel => exact hrel.out
      case measure => (simp [intOf]) <;> omega
    · by_cases hhi : k < p + 4
      · clear hrp hrg hx hz hkg hPk
        go_wp2_with fail
        refine wp_region_walked (S := Is wr.drew) (by kernel_rfl) (by kernel_rfl) rfl ?_
        repeat (apply walked_cons; (first | exact gives_and rfl rfl rfl rfl | exact gives_or rfl rfl rfl rfl | (focus (intro wS hS; cases hS; go_wp2; exact ⟨rfl, rfl, rfl⟩; done)) | (focus (apply gives_guard; (focus (first | exact wanted_yes rfl rfl rfl | exact wanted_no rfl rfl rfl | exact wanted_yes2 rfl rfl rfl | exact wanted_no2 rfl rfl rfl)); (focus (intro hx9; (try simp only [Bool.not_eq_true', Bool.and_eq_true, Bool.not_not] at hx9); (try obtain ⟨hx9, hy9⟩ := hx9); (try subst hy9); (try subst hx9); (first | exact gives_and rfl rfl rfl rfl | exact gives_or rfl rfl rfl rfl | (intro wS hS; cases hS; go_wp2; exact ⟨rfl, rfl, rfl⟩; done))))))); rfl; (try simp only [Act.put, List.setIfInBounds_toArray, List.set_cons_succ, List.set_cons_zero]))
        apply walked_nil
        intro wS hS
        cases hS
        go_wp2
        go_roundw
        case rel => exact hrel.out
        case measure => (simp [intOf]) <;> omega
      · rw [if_neg (by omega), hx, hz] at hPk
        obtain rfl : z = x := Option.some.inj hPk
        clear hrp hrg hx hz hkg hPk
        go_wp2_with fail
        refine wp_region_walked (S := Is wr.drew) (by kernel_rfl) (by kernel_rfl) rfl ?_
        repeat (apply walked_cons; (first | exact gives_and rfl rfl rfl rfl | exact gives_or rfl rfl rfl rfl | (focus (intro wS hS; cases hS; go_wp2; exact ⟨rfl, rfl, rfl⟩; done)) | (focus (apply gives_guard; (focus (first | exact wanted_yes rfl rfl rfl | exact wanted_no rfl rfl rfl | exact wanted_yes2 rfl rfl rfl | exact wanted_no2 rfl rfl rfl)); (focus (intro hx9; (try simp only [Bool.not_eq_true', Bool.and_eq_true, Bool.not_not] at hx9); (try obtain ⟨hx9, hy9⟩ := hx9); (try subst hy9); (try subst hx9); (first | exact gives_and rfl rfl rfl rfl | exact gives_or rfl rfl rfl rfl | (intro wS hS; cases hS; go_wp2; exact ⟨rfl, rfl, rfl⟩; done))))))); rfl; (try simp only [Act.put, List.setIfInBounds_toArray, List.set_cons_succ, List.set_cons_zero]))
        apply walked_nil
        intro wS hS
        cases hS
        go_wp2
        go_roundw
        case rel => exact hrel.out
        case measure => (simp [intOf]) <;> omega
  · obtain rfl : k = L.length := by omega
    obtain ⟨r, hgetr⟩ := get_any (some ⟨g, 0, none⟩) L cap ((p : Int) + 1) 8 wr (bytes_prefix (row_bytes hrg))
    generalize checkN L.length ((p : Int) + 1) 8 = er at *
    clear hrp hrg
    go_wp2_with fail
    (with_reducible refine hgetr.mono ?_)
    rintro e w4 ⟨rfl, hb4⟩
    have hO4 := old_then hO hb4
    clear hb4 hO hgetr
    go_wp2_with fail
    (with_reducible refine (bitsTold_calls _).mono ?_)
    rintro e w5 ⟨rfl, hb5⟩
    have hO5 := old_then hO4 hb5
    go_wp2
    go_ret
    exact ⟨rfl, hO5⟩

set_option maxHeartbeats 4000000 in
set_option maxRecDepth 100000 in
theorem bitsBack_8 (ad : Option Addr) (l : List Nat) (c : Nat) (y k : Int) (v : Nat) (w : World) (hB : Bytes w ad c l) (hv : v < 18446744073709551616) (h8 : ¬ (l.take 200).length < 8) (hk : k % 4 = 3) :
    Calls Try.prog 6 #[.slice ad l.length c, .int .i64 y, .int .i64 k, .int .u64 v] w (RetB w (.bool true)) := by
  have hn : l.length ≤ maxLen := Nat.le_trans hB.1 hB.2.1
  have hL200 : (l.take 200).length ≤ 200 := by rw [List.length_take]; exact Nat.min_le_left _ _
  have hfew := few_calls ad l c w hB
  unfold RetFew at hfew
  generalize l.take 200 = L at *
  have hm3 := i64_mask3 k
  rw [hk] at hm3
  clear hk hB hn
  have hquo : (L.length : Int).tdiv 8 = ((L.length / 8 : Nat) : Int) := by
    rw [Int.tdiv_eq_ediv_of_nonneg (Int.natCast_nonneg _)]; omega
  have hqb : L.length / 8 * 8 ≤ L.length := Nat.div_mul_le_self _ _
  have hq1 : 1 ≤ L.length / 8 := by omega
  generalize L.length / 8 = q at *
  obtain ⟨j, hj, hje⟩ := place_of y q (by omega) (by omega)
  obtain ⟨p, hp⟩ : ∃ p : Nat, p = j * 8 := ⟨_, rfl⟩
  have hjs : (j : Int) * 8 = (p : Int) := by omega
  have hps : p + 8 ≤ L.length := by omega
  have hchk : checkN L.length p 8 = 0 := checkN_ok (by decide) (by omega) (by omega)
  have hX := get_put L p v 8 hps
  have hPl := putL_length L p v 8
  have hPg := putL_get L p v 8
  rw [show (2 : Nat) ^ (8 * 8) = 18446744073709551616 from rfl, Nat.mod_eq_of_lt hv] at hX
  have hce : checkN L.length ((p : Int) + 1) 16 = 1 := checkN_arg (by decide)
  clear hp
  go_enter Try.func6, Try.ntmps6
  go_wp2_with fail
  (with_reducible refine hfew.mono ?_)
  rintro e w1 ⟨g, cap, rfl, hrow, hO1⟩
  clear hfew
  have hput := put_ok _ L cap p 8 v p 8 v rfl rfl rfl _ (bytes_prefix (row_bytes hrow)) hchk hps (by decide) (by decide) (by omega)
  unfold RetRow at hput
  generalize putL L p v 8 = P at *
  go_wp2_with fail
  (with_reducible refine hput.mono ?_)
  rintro e w2 ⟨gp, cp, rfl, hrowp, hb2⟩
  clear hput
  have hrow2 := row_old hrow hb2
  have hO2 := old_then hO1 hb2
  have hget : Calls Try.prog 15 #[.slice (some ⟨gp, 0, none⟩) L.length cp, .int .i64 p, .int .i64 8] w2 (RetB w2 (.tuple #[.int .u64 v, .int .i64 0])) := by
    rw [← hPl, ← hX]
    exact get_ok _ P cp p 8 p 8 rfl rfl _ (row_bytes hrowp) (by rw [hPl]; exact hchk) (by omega) (by decide) (by decide)
  go_wp2_with fail
  (with_reducible refine hget.mono ?_)
  rintro e w3 ⟨rfl, hb3⟩
  clear hget hX
  have hrow3 := row_old hrow2 hb3
  have hrowp3 := row_old hrowp hb3
  have hO3 := old_then hO2 hb3
  have hcp := row_parts hrowp3
  have hcp63 : cp ≤ 9223372036854775807 := hcp.2.2.2
  have hpcp : L.length ≤ cp := by rw [← hPl]; exact hcp.2.2.1
  have hHg := Lib.hid hPg
  have hHl := Lib.hid hPl
  clear hcp hrow hrow2 hrowp hb2 hb3 hO1 hO2 hPg
  go_wp2
  clear hPl
  go_loopw [16] (fun i wr => ∃ k : Nat, i = .int .i64 k ∧ k ≤ L.length ∧ Row wr w1.heap.size gp cp P ∧ Row wr w.heap.size g cap (L ++ [165]) ∧ Old w wr) (fun i _ => (201 - intOf i).toNat)
  case atStart => exact ⟨0, rfl, by omega, hrowp3, hrow3, hO3⟩
  case round =>
  clear hrowp3 hrow3 hO3
  obtain ⟨k, rfl, hk, hrp, hrg, hO⟩ := hrel
  by_cases hkL : k < L.length
  · have hkg : (L ++ [165])[k]? = L[k]? := List.getElem?_append_left hkL
    obtain ⟨x, hx⟩ : ∃ x, L[k]? = some x := ⟨_, List.getElem?_eq_getElem hkL⟩
    have cg := row_cell hrg (hkg.trans hx)
    obtain ⟨z, hz⟩ : ∃ z, P[k]? = some z := ⟨_, List.getElem?_eq_getElem (by rw [hHl.out]; exact hkL)⟩
    have ck := row_cell hrp hz
    have hPk := hHg.out k
    have hrel : Hid (∃ k_1 : Nat, (.int .i64 ((k : Int) + 1) : Value) = .int .i64 k_1 ∧ k_1 ≤ L.length ∧ Row wr.drew w1.heap.size gp cp P ∧ Row wr.drew w.heap.size g cap (L ++ [165]) ∧ Old w wr.drew) :=
      Lib.hid ⟨k + 1, by go_num, by omega, row_old hrp (old_drew (old_refl _)), row_old hrg (old_drew (old_refl _)), old_drew hO⟩
    by_cases hlo : k < p
    · rw [if_neg (by omega), hx, hz] at hPk
      obtain rfl : z = x := Option.some.inj hPk
      clear hrp hrg hx hz hkg hPk
      go_wp2_with fail
      refine wp_region_walked (S := Is wr.drew) (by kernel_rfl) (by kernel_rfl) rfl ?_
      repeat (apply walked_cons; (first | exact gives_and rfl rfl rfl rfl | exact gives_or rfl rfl rfl rfl | (focus (intro wS hS; cases hS; go_wp2; exact ⟨rfl, rfl, rfl⟩; done)) | (focus (apply gives_guard; (focus (first | exact wanted_yes rfl rfl rfl | exact wanted_no rfl rfl rfl | exact wanted_yes2 rfl rfl rfl | exact wanted_no2 rfl rfl rfl)); (focus (intro hx9; (try simp only [Bool.not_eq_true', Bool.and_eq_true, Bool.not_not] at hx9); (try obtain ⟨hx9, hy9⟩ := hx9); (try subst hy9); (try subst hx9); (first | exact gives_and rfl rfl rfl rfl | exact gives_or rfl rfl rfl rfl | (intro wS hS; cases hS; go_wp2; exact ⟨rfl, rfl, rfl⟩; done))))))); rfl; (try simp only [Act.put, List.setIfInBounds_toArray, List.set_cons_succ, List.set_cons_zero]))
      apply walked_nil
      intro wS hS
      cases hS
      go_wp2
      go_roundw
      case rel => exact hrel.out
      case measure => (simp [intOf]) <;> omega
    · by_cases hhi : k < p + 8
      · clear hrp hrg hx hz hkg hPk
        go_wp2_with fail
        refine wp_region_walked (S := Is wr.drew) (by kernel_rfl) (by kernel_rfl) rfl ?_
        repeat (apply walked_cons; (first | exact gives_and rfl rfl rfl rfl | exact gives_or rfl rfl rfl rfl | (focus (intro wS hS; cases hS; go_wp2; exact ⟨rfl, rfl, rfl⟩; done)) | (focus (apply gives_guard; (focus (first | exact wanted_yes rfl rfl rfl | exact wanted_no rfl rfl rfl | exact wanted_yes2 rfl rfl rfl | exact wanted_no2 rfl rfl rfl)); (focus (intro hx9; (try simp only [Bool.not_eq_true', Bool.and_eq_true, Bool.not_not] at hx9); (try obtain ⟨hx9, hy9⟩ := hx9); (try subst hy9); (try subst hx9); (first | exact gives_and rfl rfl rfl rfl | exact gives_or rfl rfl rfl rfl | (intro wS hS; cases hS; go_wp2; exact ⟨rfl, rfl, rfl⟩; done))))))); rfl; (try simp only [Act.put, List.setIfInBounds_toArray, List.set_cons_succ, List.set_cons_zero]))
        apply walked_nil
        intro wS hS
        cases hS
        go_wp2
        go_roundw
        case rel => exact hrel.out
        case measure => (simp [intOf]) <;> omega
      · rw [if_neg (by omega), hx, hz] at hPk
        obtain rfl : z = x := Option.some.inj hPk
        clear hrp hrg hx hz hkg hPk
        go_wp2_with fail
        refine wp_region_walked (S := Is wr.drew) (by kernel_rfl) (by kernel_rfl) rfl ?_
        repeat (apply walked_cons; (first | exact gives_and rfl rfl rfl rfl | exact gives_or rfl rfl rfl rfl | (focus (intro wS hS; cases hS; go_wp2; exact ⟨rfl, rfl, rfl⟩; done)) | (focus (apply gives_guard; (focus (first | exact wanted_yes rfl rfl rfl | exact wanted_no rfl rfl rfl | exact wanted_yes2 rfl rfl rfl | exact wanted_no2 rfl rfl rfl)); (focus (intro hx9; (try simp only [Bool.not_eq_true', Bool.and_eq_true, Bool.not_not] at hx9); (try obtain ⟨hx9, hy9⟩ := hx9); (try subst hy9); (try subst hx9); (first | exact gives_and rfl rfl rfl rfl | exact gives_or rfl rfl rfl rfl | (intro wS hS; cases hS; go_wp2; exact ⟨rfl, rfl, rfl⟩; done))))))); rfl; (try simp only [Act.put, List.setIfInBounds_toArray, List.set_cons_succ, List.set_cons_zero]))
        apply walked_nil
        intro wS hS
        cases hS
        go_wp2
        go_roundw
        case rel => exact hrel.out
        case measure => (simp [intOf]) <;> omega
  · obtain rfl : k = L.length := by omega
    obtain ⟨r, hgetr⟩ := get_any (some ⟨g, 0, none⟩) L cap ((p : Int) + 1) 16 wr (bytes_prefix (row_bytes hrg))
    rw [hce] at hgetr
    clear hrp hrg
    go_wp2_with fail
    (with_reducible refine hgetr.mono ?_)
    rintro e w4 ⟨rfl, hb4⟩
    have hO4 := old_then hO hb4
    clear hb4 hO hgetr
    go_wp2_with fail
    (with_reducible refine (bitsTold_calls _).mono ?_)
    rintro e w5 ⟨rfl, hb5⟩
    have hO5 := old_then hO4 hb5
    go_wp2
    go_ret
    exact ⟨rfl, hO5⟩

theorem bitsBack_calls (ad : Option Addr) (l : List Nat) (c : Nat) (y k : Int) (v : Int) (w : World) (hB : Bytes w ad c l) (hv0 : (Lit.int .u64 v).wf = true) :
    Calls Try.prog 6 #[.slice ad l.length c, .int .i64 y, .int .i64 k, .int .u64 v] w (RetB w (.bool true)) := by
  obtain ⟨v, rfl, hv⟩ := wf_u64 hv0
  by_cases h8 : (l.take 200).length < 8
  · exact bitsBack_few ad l c y k v w hB h8
  have : k % 4 = 0 ∨ k % 4 = 1 ∨ k % 4 = 2 ∨ k % 4 = 3 := by omega
  rcases this with h | h | h | h
  · exact bitsBack_1 ad l c y k v w hB hv h8 h
  · exact bitsBack_2 ad l c y k v w hB hv h8 h
  · exact bitsBack_4 ad l c y k v w hB hv h8 h
  · exact bitsBack_8 ad l c y k v w hB hv h8 h
end Go.Proofs.Ytajilhckhdohnaa
