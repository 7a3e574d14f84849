/- Contracts of the package perm, and of the law's own helpers. -/
import Derived.Test.YtbnbchclbblbkaaPerm2
namespace Go.Proofs.Ytbnbchclbblbkaa
set_option linter.unusedVariables false
set_option linter.unusedSimpArgs false
open Go.RowKit

def withinB (a0 a1 a2 b0 b1 b2 : Bool) : Bool := (!a0 || b0) && (!a1 || b1) && (!a2 || b2)
def judgeI (a0 a1 a2 b0 b1 b2 : Bool) (k : Int) : Int := if allowsB a0 a1 a2 k then if allowsB b0 b1 b2 k then 0 else 2 else 1

theorem eq_perm (x0 x1 x2 y0 y1 y2 : Bool) (w : World) :
    (Op.equalIn 10000 23 (.agg #[.bool x0, .bool x1, .bool x2]) (.agg #[.bool y0, .bool y1, .bool y2])).run Try.prog w = .ok (x0 == y0 && (x1 == y1 && (x2 == y2 && true))) w := by
  refine same_struct (d := 9999) Try.underlying23 (by kernel_rfl) ?_
  refine same_cons (by rfl) (by go_simp; rfl) (by go_simp; rfl) (by go_simp) ?_
  refine same_cons (by rfl) (by go_simp; rfl) (by go_simp; rfl) (by go_simp) ?_
  refine same_cons (by rfl) (by go_simp; rfl) (by go_simp; rfl) (by go_simp) ?_
  exact same_nil

theorem within_and (a0 a1 a2 b0 b1 b2 : Bool) : ((a0 && b0) == a0 && ((a1 && b1) == a1 && ((a2 && b2) == a2 && true))) = withinB a0 a1 a2 b0 b1 b2 := by
  cases a0 <;> cases a1 <;> cases a2 <;> cases b0 <;> cases b1 <;> cases b2 <;> rfl

set_option maxHeartbeats 400000 in
theorem within_calls (a0 a1 a2 b0 b1 b2 : Bool) (w : World) :
    Calls Try.prog 21 #[.agg #[.bool a0, .bool a1, .bool a2], .agg #[.bool b0, .bool b1, .bool b2]] w
      (RetB w (.bool (withinB a0 a1 a2 b0 b1 b2))) := by
  have hq : ∀ w' : World, (Op.equalIn 10000 23 (.agg #[.bool (a0 && b0), .bool (a1 && b1), .bool (a2 && b2)]) (.agg #[.bool a0, .bool a1, .bool a2])).run Try.prog w' = .ok (withinB a0 a1 a2 b0 b1 b2) w' :=
    fun w' => by rw [eq_perm, within_and]
  go_enter Try.func21, Try.ntmps21
  go_wp2
  go_region_held3 (fun w' => w'.cell? ⟨w.heap.size, 0, none⟩ = some (.bool a0) ∧ w'.cell? ⟨w.heap.size, 1, none⟩ = some (.bool a1) ∧ w'.cell? ⟨w.heap.size, 2, none⟩ = some (.bool a2) ∧
      w'.cell? ⟨w.heap.size + 1, 0, none⟩ = some (.bool b0) ∧ w'.cell? ⟨w.heap.size + 1, 1, none⟩ = some (.bool b1) ∧ w'.cell? ⟨w.heap.size + 1, 2, none⟩ = some (.bool b2)) (go_keep)
    (first | (go_at_call 19; refine (and_calls _ _ _ _ _ _ _).mono ?_; rintro e w1 ⟨rfl, hb1⟩; obtain ⟨hc1, hf1⟩ := reads_below hb1; have k0 := fun i => hc1 w.heap.size i (by simp <;> omega)))
  go_wp2
  go_returns
  exact ⟨rfl, below_then (by repeat (first | exact Below.refl _ _ | assumption | apply Below.drew | refine Below.alloc ?_ (by simp <;> omega) _ | refine below_putB ?_ _ (by omega))) hb1 (Nat.le_refl _)⟩

set_option maxHeartbeats 400000 in
theorem judge_calls (a0 a1 a2 b0 b1 b2 : Bool) (k : Int) (w : World) :
    Calls Try.prog 22 #[.agg #[.bool a0, .bool a1, .bool a2], .agg #[.bool b0, .bool b1, .bool b2], .int .i64 k] w
      (RetB w (.int .i64 (judgeI a0 a1 a2 b0 b1 b2 k))) := by
  go_enter Try.func22, Try.ntmps22
  go_wp2_with fail
  refine (allows_calls _ _ _ _ _).mono ?_
  rintro e w1 ⟨rfl, hb1⟩
  obtain ⟨hc1, hf1⟩ := reads_below hb1
  have hb1' : Below w.heap.size w w1 := below_then (by repeat (first | exact Below.refl _ _ | assumption | apply Below.drew | refine Below.alloc ?_ (by simp <;> omega) _ | refine below_putB ?_ _ (by omega))) hb1 (Nat.le_refl _)
  cases h1 : allowsB a0 a1 a2 k with
  | false =>
    have H1 := Lib.hid h1
    clear h1
    go_wp2
    go_returns
    exact ⟨by simp [judgeI, H1.out], hb1'⟩
  | true =>
    have H1 := Lib.hid h1
    clear h1
    go_wp2_with fail
    refine (allows_calls _ _ _ _ _).mono ?_
    rintro e w2 ⟨rfl, hb2⟩
    cases h2 : allowsB b0 b1 b2 k with
    | false =>
      have H2 := Lib.hid h2
      clear h2
      go_wp2
      go_returns
      exact ⟨by simp [judgeI, H1.out, H2.out], below_then hb1' hb2 (Nat.le_refl _)⟩
    | true =>
      have H2 := Lib.hid h2
      clear h2
      go_wp2
      go_returns
      exact ⟨by simp [judgeI, H1.out, H2.out], below_then hb1' hb2 (Nat.le_refl _)⟩

end Go.Proofs.Ytbnbchclbblbkaa
