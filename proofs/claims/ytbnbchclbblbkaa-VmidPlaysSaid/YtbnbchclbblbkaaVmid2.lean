/- Contracts of the package vmid at guests that are none. -/
import Derived.Test.YtbnbchclbblbkaaVmidLaw
namespace Go.Proofs.Ytbnbchclbblbkaa
set_option linter.unusedVariables false
set_option linter.unusedSimpArgs false
open Go.RowKit

set_option maxHeartbeats 400000 in
theorem drop_none (p : Nat) (n given turn : Int) (of : List Int) (g : Int) (w : World) (hI : IsIDs w p n given turn of) (h : ¬ (1 ≤ g ∧ g ≤ 255)) :
    Calls Try.prog 27 #[.pointer (some ⟨p, 0, none⟩), .int .i64 g] w (RetIDs w p (.bool false) n given turn of) := by
  have H := Lib.hid h
  have HI := Lib.hid hI
  clear h hI
  go_enter Try.func27, Try.ntmps27
  go_wp2_with fail
  (with_reducible refine (has_none p g _ H.out).mono ?_)
  rintro e w1 ⟨rfl, hb1⟩
  go_wp2
  go_ret
  exact ⟨rfl, ids_old hb1 HI.out, (Only.of_below hb1).mono (fun i _ h => h.elim)⟩

end Go.Proofs.Ytbnbchclbblbkaa
