/- A drawn statement one of whose operations turns the world. No function of the program stands here. -/
import Derived.Test.YtfiofjalpaeohaaStage
namespace Go.Proofs.Ytfiofjalpaeohaa
set_option linter.unusedVariables false
set_option linter.unusedSimpArgs false
open Go.RowKit

/-- World A until operation J has come, then world B. -/
def StageS (J : Nat) (A B : World) (l : Array Bool) (x : World) : Prop := x = bif l.getD J false then B else A
section
variable {J : Nat} {A B x : World} {l : Array Bool}
theorem stage_other (j : Nat) (hj : j ≠ J) (h : StageS J A B l x) : StageS J A B (l.setIfInBounds j true) x := by
  unfold StageS at h ⊢
  rw [getD_set_ne false hj]; exact h
theorem stage_cell {a : Addr} {v : Option Value} (h : StageS J A B l x) (hA : A.cell? a = v) (hB : B.cell? a = v) : x.cell? a = v := by
  unfold StageS at h
  rw [h]
  cases l.getD J false
  · exact hA
  · exact hB
theorem stage_before (hn : l.getD J false = false) (h : StageS J A B l x) : x = A := by
  unfold StageS at h
  rw [hn] at h; exact h
theorem stage_after (hn : l.getD J false = true) (h : StageS J A B l x) : x = B := by
  unfold StageS at h
  rw [hn] at h; exact h
theorem stage_done {n : Nat} (hz : l.size = n) (hJ : J < n) : StageS J A B (l.setIfInBounds J true) B := by
  have e : (l.setIfInBounds J true).getD J false = true := by simp [hz, hJ]
  unfold StageS
  rw [e]; rfl
end

end Go.Proofs.Ytfiofjalpaeohaa
