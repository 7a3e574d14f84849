/- Contracts of the package perm whose results are given. -/
import Derived.Test.YtbnbchclbblbkaaPerm4
namespace Go.Proofs.Ytbnbchclbblbkaa
set_option linter.unusedVariables false
set_option linter.unusedSimpArgs false
open Go.RowKit

theorem within_any (a0 a1 a2 b0 b1 b2 : Bool) (j : Bool) (hj : withinB a0 a1 a2 b0 b1 b2 = j) (w : World) :
    Calls Try.prog 21 #[.agg #[.bool a0, .bool a1, .bool a2], .agg #[.bool b0, .bool b1, .bool b2]] w (RetB w (.bool j)) := hj ▸ within_calls _ _ _ _ _ _ _

theorem and_any (a0 a1 a2 b0 b1 b2 c0 c1 c2 : Bool) (h0 : (a0 && b0) = c0) (h1 : (a1 && b1) = c1) (h2 : (a2 && b2) = c2) (w : World) :
    Calls Try.prog 19 #[.agg #[.bool a0, .bool a1, .bool a2], .agg #[.bool b0, .bool b1, .bool b2]] w (RetB w (.agg #[.bool c0, .bool c1, .bool c2])) := by
  subst h0 h1 h2; exact and_calls _ _ _ _ _ _ _

end Go.Proofs.Ytbnbchclbblbkaa
