/- The helpers of the statements on permissions. -/
import Derived.Test.YtbnbchclbblbkaaPerm3
namespace Go.Proofs.Ytbnbchclbblbkaa
set_option linter.unusedVariables false
set_option linter.unusedSimpArgs false
open Go.RowKit

theorem permText_inj {a0 a1 a2 b0 b1 b2 : Bool} (h : permText a0 a1 a2 = permText b0 b1 b2) : a0 = b0 ∧ a1 = b1 ∧ a2 = b2 := by
  revert h
  cases a0 <;> cases a1 <;> cases a2 <;> cases b0 <;> cases b1 <;> cases b2 <;> decide

/-- Parse of a text that is one. -/
theorem says_good {a0 a1 a2 : Bool} {s : ByteArray} {v : Value} (hs : permText a0 a1 a2 = s) (h : ParseSays s v) : v = .tuple #[.agg #[.bool a0, .bool a1, .bool a2], .int .i64 0] := by
  rcases h with ⟨b0, b1, b2, hb, rfl⟩ | ⟨hn, _⟩
  · obtain ⟨rfl, rfl, rfl⟩ := permText_inj (hs.trans hb.symm); rfl
  · exact absurd hs (hn a0 a1 a2)

theorem says_bad {s : ByteArray} {v : Value} (hs : ∀ a0 a1 a2, permText a0 a1 a2 ≠ s) (h : ParseSays s v) : v = .tuple #[.agg #[.bool false, .bool false, .bool false], .int .i64 4] := by
  rcases h with ⟨b0, b1, b2, hb, _⟩ | ⟨_, rfl⟩
  · exact absurd hb (hs b0 b1 b2)
  · rfl

theorem parse_good (a0 a1 a2 : Bool) (s : ByteArray) (hs : permText a0 a1 a2 = s) (w : World) :
    Calls Try.prog 15 #[.string s] w (RetB w (.tuple #[.agg #[.bool a0, .bool a1, .bool a2], .int .i64 0])) :=
  (parse_calls s w).mono fun e w' ⟨v, hv, he, hb⟩ => ⟨by rw [he, says_good hs hv], hb⟩

theorem parse_bad (s : ByteArray) (hs : ∀ a0 a1 a2, permText a0 a1 a2 ≠ s) (w : World) :
    Calls Try.prog 15 #[.string s] w (RetB w (.tuple #[.agg #[.bool false, .bool false, .bool false], .int .i64 4])) :=
  (parse_calls s w).mono fun e w' ⟨v, hv, he, hb⟩ => ⟨by rw [he, says_bad hs hv], hb⟩

theorem short_bad : ∀ a0 a1 a2, permText a0 a1 a2 ≠ ⟨#[114, 45]⟩ := by
  intro a0 a1 a2 h
  have := congrArg ByteArray.size h
  exact absurd this (by cases a0 <;> cases a1 <;> cases a2 <;> decide)

theorem judge_any (a0 a1 a2 b0 b1 b2 : Bool) (k j : Int) (hj : judgeI a0 a1 a2 b0 b1 b2 k = j) (w : World) :
    Calls Try.prog 22 #[.agg #[.bool a0, .bool a1, .bool a2], .agg #[.bool b0, .bool b1, .bool b2], .int .i64 k] w (RetB w (.int .i64 j)) := hj ▸ judge_calls _ _ _ _ _ _ _ _

theorem allows_any (a0 a1 a2 : Bool) (k : Int) (j : Bool) (hj : allowsB a0 a1 a2 k = j) (w : World) :
    Calls Try.prog 20 #[.agg #[.bool a0, .bool a1, .bool a2], .int .i64 k] w (RetB w (.bool j)) := hj ▸ allows_calls _ _ _ _ _

theorem text_any (a0 a1 a2 : Bool) (s : ByteArray) (hs : permText a0 a1 a2 = s) (w : World) :
    Calls Try.prog 17 #[.agg #[.bool a0, .bool a1, .bool a2]] w (RetB w (.string s)) := hs ▸ text_calls _ _ _ _

set_option maxHeartbeats 4000000 in
set_option maxRecDepth 100000 in
theorem permTold_calls (w : World) : Calls Try.prog 16 #[] w (RetB w (.bool true)) := by
  have hq := eq_perm
  go_enter Try.func16, Try.ntmps16
  go_wp2_with fail
  refine (parse_good true false true _ rfl _).mono ?_
  rintro e w1 ⟨rfl, hb1⟩
  have hB1 : Old w w1 := old_then (old_alloc (old_refl _) _) hb1
  have hL1 := keep_old hb1 (new_block w _)
  obtain ⟨c1, f1, z1⟩ := of_block hL1
  go_wp2_with fail
  refine (parse_bad _ short_bad _).mono ?_
  rintro e w2 ⟨rfl, hb2⟩
  have hB2 : Old w w2 := old_then (old_alloc hB1 _) hb2
  have hL1 := keep_old hb2 (keep_alloc _ hL1)
  have hL2 := keep_old hb2 (new_block w1 _)
  obtain ⟨c1, f1, z1⟩ := of_block hL1
  obtain ⟨c2, f2, z2⟩ := of_block hL2
  go_wp2_with fail
  refine (text_any true true false ⟨#[114, 119, 45]⟩ rfl _).mono ?_
  rintro e w3 ⟨rfl, hb3⟩
  have hB3 : Old w w3 := old_then (old_alloc hB2 _) hb3
  have hL1 := keep_old hb3 (keep_alloc _ hL1)
  have hL2 := keep_old hb3 (keep_alloc _ hL2)
  obtain ⟨c1, f1, z1⟩ := of_block hL1
  obtain ⟨c2, f2, z2⟩ := of_block hL2
  go_wp2_with fail
  refine (judge_any _ _ _ _ _ _ _ 1 rfl _).mono ?_
  rintro e w4 ⟨rfl, hb4⟩
  have hB4 : Old w w4 := old_then hB3 hb4
  have hL1 := keep_old hb4 hL1
  have hL2 := keep_old hb4 hL2
  obtain ⟨c1, f1, z1⟩ := of_block hL1
  obtain ⟨c2, f2, z2⟩ := of_block hL2
  go_wp2_with fail
  refine (judge_any _ _ _ _ _ _ _ 2 rfl _).mono ?_
  rintro e w5 ⟨rfl, hb5⟩
  have hB5 : Old w w5 := old_then hB4 hb5
  have hL1 := keep_old hb5 hL1
  have hL2 := keep_old hb5 hL2
  obtain ⟨c1, f1, z1⟩ := of_block hL1
  obtain ⟨c2, f2, z2⟩ := of_block hL2
  go_wp2_with fail
  refine (judge_any _ _ _ _ _ _ _ 0 rfl _).mono ?_
  rintro e w6 ⟨rfl, hb6⟩
  have hB6 : Old w w6 := old_then hB5 hb6
  have hL1 := keep_old hb6 hL1
  have hL2 := keep_old hb6 hL2
  obtain ⟨c1, f1, z1⟩ := of_block hL1
  obtain ⟨c2, f2, z2⟩ := of_block hL2
  go_wp2_with fail
  refine (allows_any _ _ _ _ true rfl _).mono ?_
  rintro e w7 ⟨rfl, hb7⟩
  have hB7 : Old w w7 := old_then hB6 hb7
  have hL1 := keep_old hb7 hL1
  have hL2 := keep_old hb7 hL2
  obtain ⟨c1, f1, z1⟩ := of_block hL1
  obtain ⟨c2, f2, z2⟩ := of_block hL2
  go_wp2_with fail
  refine (allows_any _ _ _ _ false rfl _).mono ?_
  rintro e w8 ⟨rfl, hb8⟩
  have hB8 : Old w w8 := old_then hB7 hb8
  have hL1 := keep_old hb8 hL1
  have hL2 := keep_old hb8 hL2
  obtain ⟨c1, f1, z1⟩ := of_block hL1
  obtain ⟨c2, f2, z2⟩ := of_block hL2
  go_wp2
  go_returns
  exact ⟨rfl, hB8⟩

/-! The statements' own helpers. -/

set_option maxHeartbeats 400000 in
theorem letter_calls (x : Bool) (c : ByteArray) (w : World) :
    Calls Try.prog 14 #[.bool x, .string c] w (RetB w (.string (if x then c else ⟨#[45]⟩))) := by
  cases x
  all_goals
    go_enter Try.func14, Try.ntmps14
    go_wp2
    go_returns
    exact ⟨rfl, old_refl _⟩

set_option maxHeartbeats 400000 in
theorem lawAllows_calls (a0 a1 a2 : Bool) (k : Int) (w : World) :
    Calls Try.prog 18 #[.agg #[.bool a0, .bool a1, .bool a2], .int .i64 k] w (RetB w (.bool (allowsB a0 a1 a2 k))) := by
  by_cases h1 : k = 1
  · subst h1
    cases a0
    all_goals
      go_enter Try.func18, Try.ntmps18
      go_wp2
      go_returns
      exact ⟨by simp [allowsB], by repeat (first | exact old_refl _ | assumption | apply old_drew | apply old_alloc | refine old_put ?_ _ (by omega) | refine old_then ?_ (by assumption))⟩
  by_cases h2 : k = 2
  · subst h2
    cases a1
    all_goals
      go_enter Try.func18, Try.ntmps18
      go_wp2
      go_returns
      exact ⟨by simp [allowsB], by repeat (first | exact old_refl _ | assumption | apply old_drew | apply old_alloc | refine old_put ?_ _ (by omega) | refine old_then ?_ (by assumption))⟩
  by_cases h3 : k = 3
  · subst h3
    cases a2
    all_goals
      go_enter Try.func18, Try.ntmps18
      go_wp2
      go_returns
      exact ⟨by simp [allowsB], by repeat (first | exact old_refl _ | assumption | apply old_drew | apply old_alloc | refine old_put ?_ _ (by omega) | refine old_then ?_ (by assumption))⟩
  have e1 : (k == 1) = false := beq_eq_false_iff_ne.2 h1
  have e2 : (k == 2) = false := beq_eq_false_iff_ne.2 h2
  have e3 : (k == 3) = false := beq_eq_false_iff_ne.2 h3
  have H1 := Lib.hid h1; have H2 := Lib.hid h2; have H3 := Lib.hid h3
  clear h1 h2 h3
  go_enter Try.func18, Try.ntmps18
  go_wp2
  go_returns
  exact ⟨by unfold allowsB; rw [if_neg H1.out, if_neg H2.out, if_neg H3.out]; rfl, by repeat (first | exact old_refl _ | assumption | apply old_drew | apply old_alloc | refine old_put ?_ _ (by omega) | refine old_then ?_ (by assumption))⟩

end Go.Proofs.Ytbnbchclbblbkaa
