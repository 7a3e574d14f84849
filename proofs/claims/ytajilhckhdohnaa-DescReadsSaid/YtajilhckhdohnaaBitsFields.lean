/- The statements BitsFields and BitsIndexes: their walks. -/
import Derived.Test.YtajilhckhdohnaaBitsTold
import Derived.Test.YtajilhckhdohnaaBits
namespace Go.Proofs.Ytajilhckhdohnaa
set_option linter.unusedVariables false
set_option linter.unusedSimpArgs false
open Go.RowKit

theorem wf_u64 {x : Int} (h : (Lit.int .u64 x).wf = true) : ∃ n : Nat, x = n ∧ n < 18446744073709551616 := by
  simp only [Lit.wf, Bool.and_eq_true, decide_eq_true_eq] at h
  have e1 : IntKind.u64.min = 0 := rfl
  have e2 : IntKind.u64.max = 18446744073709551615 := rfl
  rw [e1, e2] at h
  exact ⟨x.toNat, by omega, by omega⟩
theorem wf_i64 {x : Int} (h : (Lit.int .i64 x).wf = true) : -9223372036854775808 ≤ x ∧ x ≤ 9223372036854775807 := by
  simp only [Lit.wf, Bool.and_eq_true, decide_eq_true_eq] at h
  exact h

/-- Both packages answer alike. -/
theorem both_field (x : Nat) (li ni : Int) (hx : x < 18446744073709551616) : ∃ r : Int, (∀ w : World, Calls Try.prog 20 #[.int .u64 x, .int .i64 li, .int .i64 ni] w (RetB w (.int .u64 r))) ∧
    ∀ w : World, Calls Try.prog 21 #[.int .u64 x, .int .i64 li, .int .i64 ni] w (RetB w (.int .u64 r)) := by
  by_cases h : 0 ≤ li ∧ li < 64 ∧ 1 ≤ ni ∧ ni ≤ 64 - li
  · exact ⟨_, fun w => field_yes x li ni x li.toNat ni.toNat rfl (by omega) (by omega) w hx (by omega) (by omega), fun w => refField_yes x li ni x li.toNat ni.toNat rfl (by omega) (by omega) w hx (by omega) (by omega)⟩
  · exact ⟨0, fun w => field_no x li ni w h, fun w => refField_no x li ni w h⟩
theorem both_set (x v : Nat) (li ni : Int) (hx : x < 18446744073709551616) (hv : v < 18446744073709551616) : ∃ r : Int, (∀ w : World, Calls Try.prog 22 #[.int .u64 x, .int .i64 li, .int .i64 ni, .int .u64 v] w (RetB w (.int .u64 r))) ∧
    ∀ w : World, Calls Try.prog 23 #[.int .u64 x, .int .i64 li, .int .i64 ni, .int .u64 v] w (RetB w (.int .u64 r)) := by
  by_cases h : 0 ≤ li ∧ li < 64 ∧ 1 ≤ ni ∧ ni ≤ 64 - li
  · exact ⟨_, fun w => set_yes x li ni v x li.toNat ni.toNat v rfl (by omega) (by omega) rfl w hx (by omega) (by omega), fun w => refSet_yes x li ni v x li.toNat ni.toNat v rfl (by omega) (by omega) rfl w hx hv (by omega) (by omega)⟩
  · exact ⟨x, fun w => set_no x v li ni w h, fun w => refSet_no x v li ni w h⟩
theorem both_span (li : Int) : ∃ r : Int, (∀ w : World, Calls Try.prog 26 #[.int .i64 li] w (RetB w (.int .u64 r))) ∧
    ∀ w : World, Calls Try.prog 27 #[.int .i64 li] w (RetB w (.int .u64 r)) := by
  by_cases h : 0 ≤ li ∧ li ≤ 3
  · exact ⟨_, fun w => span_yes li li.toNat (by omega) w (by omega), fun w => refSpan_yes li li.toNat (by omega) w (by omega)⟩
  · exact ⟨0, fun w => span_no li w h, fun w => refSpan_no li w h⟩
theorem both_index (x : Nat) (li : Int) (hx : x < 18446744073709551616) : ∃ r : Int, (∀ w : World, Calls Try.prog 24 #[.int .u64 x, .int .i64 li] w (RetB w (.int .i64 r))) ∧
    ∀ w : World, Calls Try.prog 25 #[.int .u64 x, .int .i64 li] w (RetB w (.int .i64 r)) := by
  by_cases h : 0 ≤ li ∧ li ≤ 3
  · exact ⟨_, fun w => index_yes x li x li.toNat rfl (by omega) w hx (by omega), fun w => refIndex_yes x li x li.toNat rfl (by omega) w hx (by omega)⟩
  · exact ⟨0, fun w => index_no x li w h, fun w => refIndex_no x li w h⟩

set_option maxHeartbeats 4000000 in
theorem bitsFields_walk (x : Int) (hx0 : (Lit.int .u64 x).wf = true) (l : Int) (_ : (Lit.int .i64 l).wf = true) (n : Int) (_ : (Lit.int .i64 n).wf = true) (v : Int) (hv0 : (Lit.int .u64 v).wf = true) (w : World) :
    Calls Try.prog 4 #[.int .u64 x, .int .i64 l, .int .i64 n, .int .u64 v] w (RetB w (.bool true)) := by
  obtain ⟨x, rfl, hx⟩ := wf_u64 hx0
  clear hx0
  obtain ⟨v, rfl, hv⟩ := wf_u64 hv0
  clear hv0
  obtain ⟨r, h1, h2⟩ := both_field x l n hx
  obtain ⟨s, h3, h4⟩ := both_set x v l n hx hv
  go_enter Try.func4, Try.ntmps4
  go_wp2_with fail
  (with_reducible refine (bitsTold_calls _).mono ?_)
  rintro e w1 ⟨rfl, hO1⟩
  go_wp2_with fail
  (with_reducible refine (h1 _).mono ?_)
  rintro e w2 ⟨rfl, hb2⟩
  have hO2 := old_then hO1 hb2
  go_wp2_with fail
  (with_reducible refine (h2 _).mono ?_)
  rintro e w3 ⟨rfl, hb3⟩
  have hO3 := old_then hO2 hb3
  go_wp2_with fail
  (with_reducible refine (h3 _).mono ?_)
  rintro e w4 ⟨rfl, hb4⟩
  have hO4 := old_then hO3 hb4
  go_wp2_with fail
  (with_reducible refine (h4 _).mono ?_)
  rintro e w5 ⟨rfl, hb5⟩
  have hO5 := old_then hO4 hb5
  go_wp2
  go_ret
  exact ⟨rfl, hO5⟩

set_option maxHeartbeats 4000000 in
theorem bitsIndexes_walk (x : Int) (hx0 : (Lit.int .u64 x).wf = true) (l : Int) (_ : (Lit.int .i64 l).wf = true) (w : World) :
    Calls Try.prog 5 #[.int .u64 x, .int .i64 l] w (RetB w (.bool true)) := by
  obtain ⟨x, rfl, hx⟩ := wf_u64 hx0
  clear hx0
  obtain ⟨r, h1, h2⟩ := both_index x l hx
  obtain ⟨s, h3, h4⟩ := both_span l
  obtain ⟨t, h5, h6⟩ := both_span (l % 4)
  have hm := i64_mask3 l
  go_enter Try.func5, Try.ntmps5
  go_wp2_with fail
  (with_reducible refine (bitsTold_calls _).mono ?_)
  rintro e w1 ⟨rfl, hO1⟩
  go_wp2_with fail
  (with_reducible refine (h1 _).mono ?_)
  rintro e w2 ⟨rfl, hb2⟩
  have hO2 := old_then hO1 hb2
  go_wp2_with fail
  (with_reducible refine (h2 _).mono ?_)
  rintro e w3 ⟨rfl, hb3⟩
  have hO3 := old_then hO2 hb3
  go_wp2_with fail
  (with_reducible refine (h3 _).mono ?_)
  rintro e w4 ⟨rfl, hb4⟩
  have hO4 := old_then hO3 hb4
  go_wp2_with fail
  (with_reducible refine (h4 _).mono ?_)
  rintro e w5 ⟨rfl, hb5⟩
  have hO5 := old_then hO4 hb5
  go_wp2_with fail
  (with_reducible refine (h5 _).mono ?_)
  rintro e w6 ⟨rfl, hb6⟩
  have hO6 := old_then hO5 hb6
  go_wp2_with fail
  (with_reducible refine (h6 _).mono ?_)
  rintro e w7 ⟨rfl, hb7⟩
  have hO7 := old_then hO6 hb7
  go_wp2
  go_ret
  exact ⟨rfl, hO7⟩
end Go.Proofs.Ytajilhckhdohnaa
