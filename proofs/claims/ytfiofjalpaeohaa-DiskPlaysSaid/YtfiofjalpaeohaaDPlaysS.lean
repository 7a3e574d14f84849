/- What Read tells, as a text. -/
import Derived.Test.YtfiofjalpaeohaaDPlays3
namespace Go.Proofs.Ytfiofjalpaeohaa
set_option linter.unusedVariables false
set_option linter.unusedSimpArgs false
open Go.RowKit

theorem conv_nil (w : World) : (convert 31 9 (.slice none 0 0)).run Try.prog w = .ok (.string (strOf [])) w := by kernel_rfl

/-- The text of what a Read tells. -/
def textOf (o : Option (List Nat)) : ByteArray := strOf (o.getD [])
theorem readV_text {y : World} {B : Nat} {v : Value} {o : Option (List Nat)} (h : ReadV y B v o) : (convert 31 9 v).run Try.prog y = .ok (.string (textOf o)) y := by
  cases o with
  | none =>
    obtain rfl : v = .slice none 0 0 := h
    exact conv_nil y
  | some l =>
    obtain ⟨g, c, rfl, hl, hr⟩ := h
    have := conv_bytes (row_bytes hr)
    rw [hl] at this
    exact this
/-- How long it is. -/
def lenOf (o : Option (List Nat)) : Nat := match o with | none => 0 | some _ => 4096
end Go.Proofs.Ytfiofjalpaeohaa
