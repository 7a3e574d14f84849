/- The statement VmidPlays where there are no such numbers: its walk. -/
import Derived.Test.YtbnbchclbblbkaaPlaysStep
namespace Go.Proofs.Ytbnbchclbblbkaa
set_option linter.unusedVariables false
set_option linter.unusedSimpArgs false
open Go.RowKit

set_option maxHeartbeats 4000000 in
set_option maxRecDepth 100000 in
theorem vmidPlays_none (n : Int) (ad : Option Addr) (l : List (Int × Int)) (cap : Nat) (w : World) (hl : l.length ≤ maxLen) (hn : ¬ (1 ≤ n ∧ n ≤ 255)) :
    Calls Try.prog 7 #[.int .i64 n, .slice ad l.length cap] w (RetB w (.bool true)) := by
  have hl63 : l.length ≤ 9223372036854775807 := hl
  have Hn := Lib.hid hn
  clear hn
  go_enter Try.func7, Try.ntmps7
  go_wp2_with fail
  (with_reducible refine (vmidNew_none n _ Hn.out).mono ?_)
  rintro e w1 ⟨rfl, hb1⟩
  go_wp2_with fail
  (with_reducible refine (refNew_none n _ Hn.out).mono ?_)
  rintro e w2 ⟨rfl, hb2⟩
  have hO := old_then hb1 hb2
  clear hb1 hb2
  go_wp2
  go_loopw [9] (fun v wr => v = .int .i64 0 ∧ Old w wr) (fun _ _ => 0)
  case atStart => exact ⟨rfl, hO⟩
  case round =>
    clear hO
    obtain ⟨rfl, hO⟩ := hrel
    by_cases h0 : 0 < l.length
    all_goals
      go_wp2_with fail
      (with_reducible refine (vmidTold_calls _).mono ?_)
      rintro e w3 ⟨rfl, hb3⟩
      have hO3 := old_then hO hb3
      go_wp2
      go_ret
      exact ⟨rfl, hO3⟩
end Go.Proofs.Ytbnbchclbblbkaa
