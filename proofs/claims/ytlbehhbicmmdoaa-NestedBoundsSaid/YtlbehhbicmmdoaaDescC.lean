/- What desc.Check answers, as a plain function. -/
import Derived.Test.YtlbehhbicmmdoaaDescTop
namespace Go.Proofs.Ytlbehhbicmmdoaa
set_option linter.unusedVariables false
set_option linter.unusedSimpArgs false
open Go.RowKit

def checkC (st lv k : Int) (a : Nat) (r wr x : Bool) (s : Int) : Int :=
  if ¬ Place st lv ∨ k < 0 ∨ 3 < k ∨ s < 0 ∨ 15 < s then 1
  else if (k = 1 ∧ lv = 3) ∨ (k = 2 ∧ (lv = 0 ∨ lv = 3)) ∨ (k = 3 ∧ lv ≠ 3) then 4
  else if (k ≤ 1 ∧ (r || wr || x) = true) ∨ (wr && !r) = true ∨ (k = 0 ∧ (a ≠ 0 ∨ s ≠ 0)) then 4
  else if topN st ≤ a then 2
  else if a % 4096 ≠ 0 ∨ (k = 2 ∧ a % spanN lv.toNat ≠ 0) then 3
  else 0

theorem checkC_arg {st lv k : Int} {a : Nat} {r wr x : Bool} {s : Int} (h : ¬ Place st lv ∨ k < 0 ∨ 3 < k ∨ s < 0 ∨ 15 < s) : checkC st lv k a r wr x s = 1 := by
  unfold checkC; rw [if_pos h]
theorem checkC_kind {st lv k : Int} {a : Nat} {r wr x : Bool} {s : Int} (h : ¬ (¬ Place st lv ∨ k < 0 ∨ 3 < k ∨ s < 0 ∨ 15 < s))
    (h2 : (k = 1 ∧ lv = 3) ∨ (k = 2 ∧ (lv = 0 ∨ lv = 3)) ∨ (k = 3 ∧ lv ≠ 3)) : checkC st lv k a r wr x s = 4 := by
  unfold checkC; rw [if_neg h, if_pos h2]
theorem checkC_form {st lv k : Int} {a : Nat} {r wr x : Bool} {s : Int} (h : ¬ (¬ Place st lv ∨ k < 0 ∨ 3 < k ∨ s < 0 ∨ 15 < s))
    (h2 : ¬ ((k = 1 ∧ lv = 3) ∨ (k = 2 ∧ (lv = 0 ∨ lv = 3)) ∨ (k = 3 ∧ lv ≠ 3))) (h3 : (k ≤ 1 ∧ (r || wr || x) = true) ∨ (wr && !r) = true ∨ (k = 0 ∧ (a ≠ 0 ∨ s ≠ 0))) : checkC st lv k a r wr x s = 4 := by
  unfold checkC; rw [if_neg h, if_neg h2, if_pos h3]
theorem checkC_range {st lv k : Int} {a : Nat} {r wr x : Bool} {s : Int} (h : ¬ (¬ Place st lv ∨ k < 0 ∨ 3 < k ∨ s < 0 ∨ 15 < s))
    (h2 : ¬ ((k = 1 ∧ lv = 3) ∨ (k = 2 ∧ (lv = 0 ∨ lv = 3)) ∨ (k = 3 ∧ lv ≠ 3))) (h3 : ¬ ((k ≤ 1 ∧ (r || wr || x) = true) ∨ (wr && !r) = true ∨ (k = 0 ∧ (a ≠ 0 ∨ s ≠ 0))))
    (h4 : topN st ≤ a) : checkC st lv k a r wr x s = 2 := by
  unfold checkC; rw [if_neg h, if_neg h2, if_neg h3, if_pos h4]
theorem checkC_align {st lv k : Int} {a : Nat} {r wr x : Bool} {s : Int} (h : ¬ (¬ Place st lv ∨ k < 0 ∨ 3 < k ∨ s < 0 ∨ 15 < s))
    (h2 : ¬ ((k = 1 ∧ lv = 3) ∨ (k = 2 ∧ (lv = 0 ∨ lv = 3)) ∨ (k = 3 ∧ lv ≠ 3))) (h3 : ¬ ((k ≤ 1 ∧ (r || wr || x) = true) ∨ (wr && !r) = true ∨ (k = 0 ∧ (a ≠ 0 ∨ s ≠ 0))))
    (h4 : ¬ topN st ≤ a) (h5 : a % 4096 ≠ 0 ∨ (k = 2 ∧ a % spanN lv.toNat ≠ 0)) : checkC st lv k a r wr x s = 3 := by
  unfold checkC; rw [if_neg h, if_neg h2, if_neg h3, if_neg h4, if_pos h5]
theorem checkC_ok {st lv k : Int} {a : Nat} {r wr x : Bool} {s : Int} (h : ¬ (¬ Place st lv ∨ k < 0 ∨ 3 < k ∨ s < 0 ∨ 15 < s))
    (h2 : ¬ ((k = 1 ∧ lv = 3) ∨ (k = 2 ∧ (lv = 0 ∨ lv = 3)) ∨ (k = 3 ∧ lv ≠ 3))) (h3 : ¬ ((k ≤ 1 ∧ (r || wr || x) = true) ∨ (wr && !r) = true ∨ (k = 0 ∧ (a ≠ 0 ∨ s ≠ 0))))
    (h4 : ¬ topN st ≤ a) (h5 : ¬ (a % 4096 ≠ 0 ∨ (k = 2 ∧ a % spanN lv.toNat ≠ 0))) : checkC st lv k a r wr x s = 0 := by
  unfold checkC; rw [if_neg h, if_neg h2, if_neg h3, if_neg h4, if_neg h5]

end Go.Proofs.Ytlbehhbicmmdoaa
