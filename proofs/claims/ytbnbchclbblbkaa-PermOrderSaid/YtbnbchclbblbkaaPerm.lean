/- Contracts of the package perm: what each of its functions returns. -/
import Derived.Test.YtbnbchclbblbkaaBase
namespace Go.Proofs.Ytbnbchclbblbkaa
set_option linter.unusedVariables false
set_option linter.unusedSimpArgs false
open Go.RowKit
attribute [local go_sem] cell_mark_at frozen_mark_at setCell_mark_at

/-- The text of a permission. -/
def permText (r wr x : Bool) : ByteArray := ⟨#[if r then 114 else 45, if wr then 119 else 45, if x then 120 else 45]⟩

set_option maxHeartbeats 400000 in
theorem and_calls (a0 a1 a2 b0 b1 b2 : Bool) (w : World) :
    Calls Try.prog 19 #[.agg #[.bool a0, .bool a1, .bool a2], .agg #[.bool b0, .bool b1, .bool b2]] w (RetB w (.agg #[.bool (a0 && b0), .bool (a1 && b1), .bool (a2 && b2)])) := by
  cases a0 <;> cases a1 <;> cases a2
  all_goals
    go_enter Try.func19, Try.ntmps19
    go_wp2
    go_returns
    exact ⟨by simp, by go_grown⟩

/-- What a permission allows. -/
def allowsB (a0 a1 a2 : Bool) (k : Int) : Bool := if k = 1 then a0 else if k = 2 then a1 else if k = 3 then a2 else false

set_option maxHeartbeats 400000 in
theorem allows_calls (a0 a1 a2 : Bool) (k : Int) (w : World) :
    Calls Try.prog 20 #[.agg #[.bool a0, .bool a1, .bool a2], .int .i64 k] w (RetB w (.bool (allowsB a0 a1 a2 k))) := by
  by_cases h1 : k = 1
  · subst h1
    go_enter Try.func20, Try.ntmps20
    go_wp2
    go_returns
    exact ⟨by simp [allowsB], by go_grown⟩
  by_cases h2 : k = 2
  · subst h2
    go_enter Try.func20, Try.ntmps20
    go_wp2
    go_returns
    exact ⟨by simp [allowsB], by go_grown⟩
  by_cases h3 : k = 3
  · subst h3
    go_enter Try.func20, Try.ntmps20
    go_wp2
    go_returns
    exact ⟨by simp [allowsB], by go_grown⟩
  have e1 : (k == 1) = false := beq_eq_false_iff_ne.2 h1
  have e2 : (k == 2) = false := beq_eq_false_iff_ne.2 h2
  have e3 : (k == 3) = false := beq_eq_false_iff_ne.2 h3
  have H1 := Lib.hid h1; have H2 := Lib.hid h2; have H3 := Lib.hid h3
  clear h1 h2 h3
  go_enter Try.func20, Try.ntmps20
  go_wp2
  go_returns
  exact ⟨by unfold allowsB; rw [if_neg H1.out, if_neg H2.out, if_neg H3.out]; rfl, by go_grown⟩

theorem arr3_0 (x0 x1 x2 : Bool) (w : World) : (Instr.index 92 (.agg #[.bool x0, .bool x1, .bool x2]) (.int .i64 0)).run Try.prog w = .ok (.bool x0) w := by kernel_rfl
theorem arr3_1 (x0 x1 x2 : Bool) (w : World) : (Instr.index 92 (.agg #[.bool x0, .bool x1, .bool x2]) (.int .i64 1)).run Try.prog w = .ok (.bool x1) w := by kernel_rfl
theorem arr3_2 (x0 x1 x2 : Bool) (w : World) : (Instr.index 92 (.agg #[.bool x0, .bool x1, .bool x2]) (.int .i64 2)).run Try.prog w = .ok (.bool x2) w := by kernel_rfl

set_option maxHeartbeats 4000000 in
set_option maxRecDepth 100000 in
theorem text_calls (a0 a1 a2 : Bool) (w : World) :
    Calls Try.prog 17 #[.agg #[.bool a0, .bool a1, .bool a2]] w (RetB w (.string (permText a0 a1 a2))) := by
  have kc := run_const_bytes (P := Try.prog) 68 5 Try.underlying68 Try.underlying5
  have ks := run_three_string (P := Try.prog) 68 9 5 Try.underlying68 Try.underlying5 Try.underlying9
  have i0 := arr3_0
  have i1 := arr3_1
  have i2 := arr3_2
  cases a0 <;> cases a1 <;> cases a2
  all_goals
    go_enter Try.func17, Try.ntmps17
    go_wp2
    go_rounds 4
    go_returns
    exact ⟨by rfl, by go_grown⟩


end Go.Proofs.Ytbnbchclbblbkaa
