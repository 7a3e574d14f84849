/- The statements of layer 4: what all of them use: told. -/
import Derived.Test.YtajilhckhdohnaaBitsPut
namespace Go.Proofs.Ytajilhckhdohnaa
set_option linter.unusedVariables false
set_option linter.unusedSimpArgs false
open Go.RowKit

theorem told_get1 (w : World) : Calls Try.prog 15 #[.slice (some ⟨w.heap.size, 0, none⟩) 4 4, .int .i64 2, .int .i64 2] (w.alloc (.cells #[.int .u8 1, .int .u8 2, .int .u8 3, .int .u8 4] 5)) (RetB (w.alloc (.cells #[.int .u8 1, .int .u8 2, .int .u8 3, .int .u8 4] 5)) (.tuple #[.int .u64 1027, .int .i64 0])) :=
  get_ok _ [1, 2, 3, 4] 4 2 2 2 2 rfl rfl _ (bytes_lit w [1, 2, 3, 4] (by decide) (by decide)) (by decide) (by decide) (by decide) (by decide)
theorem told_get2 (ad : Option Addr) (w : World) : Calls Try.prog 15 #[.slice ad 4 4, .int .i64 1, .int .i64 2] w (RetB w (.tuple #[.int .u64 0, .int .i64 3])) :=
  get_fail ad 4 4 1 2 w (by decide) 3 (by decide) (by decide)
theorem told_put (w : World) : Calls Try.prog 17 #[.slice (some ⟨w.heap.size, 0, none⟩) 2 2, .int .i64 1, .int .i64 1, .int .u64 9] (w.alloc (.cells #[.int .u8 1, .int .u8 2] 5)) (RetRow (w.alloc (.cells #[.int .u8 1, .int .u8 2] 5)) (.int .i64 0) [1, 9]) :=
  put_ok _ [1, 2] 2 1 1 9 1 1 9 rfl rfl rfl _ (bytes_lit w [1, 2] (by decide) (by decide)) (by decide) (by decide) (by decide) (by decide) (by decide)
theorem told_index0 (w : World) : Calls Try.prog 24 #[.int .u64 549755817984, .int .i64 0] w (RetB w (.int .i64 1)) := index_yes 549755817984 0 549755817984 0 rfl rfl w (by decide) (by decide)
theorem told_index3 (w : World) : Calls Try.prog 24 #[.int .u64 549755817984, .int .i64 3] w (RetB w (.int .i64 1)) := index_yes 549755817984 3 549755817984 3 rfl rfl w (by decide) (by decide)
theorem told_span (w : World) : Calls Try.prog 26 #[.int .i64 2] w (RetB w (.int .u64 2097152)) := span_yes 2 2 rfl w (by decide)
theorem told_field (w : World) : Calls Try.prog 20 #[.int .u64 240, .int .i64 4, .int .i64 4] w (RetB w (.int .u64 15)) := field_yes 240 4 4 240 4 4 rfl rfl rfl w (by decide) (by decide) (by decide)
theorem told_set (w : World) : Calls Try.prog 22 #[.int .u64 0, .int .i64 4, .int .i64 4, .int .u64 15] w (RetB w (.int .u64 240)) := set_yes 0 4 4 15 0 4 4 15 rfl rfl rfl rfl w (by decide) (by decide) (by decide)

set_option maxHeartbeats 4000000 in
set_option maxRecDepth 100000 in
theorem bitsTold_calls (w : World) : Calls Try.prog 19 #[] w (RetB w (.bool true)) := by
  go_enter Try.func19, Try.ntmps19
  go_wp2_with fail
  (with_reducible refine (told_get1 _).mono ?_)
  rintro e w1 ⟨rfl, hb1⟩
  have hO1 := old_then (old_alloc (old_refl w) _) hb1
  clear hb1
  go_wp2_with fail
  (with_reducible refine (told_get2 _ _).mono ?_)
  rintro e w2 ⟨rfl, hb2⟩
  have hO2 := old_then (old_alloc hO1 _) hb2
  clear hb2 hO1
  go_wp2_with fail
  (with_reducible refine (told_put _).mono ?_)
  rintro e w3 ⟨g, cap, rfl, hrow, hb3⟩
  have hO3 := old_then (old_alloc hO2 _) hb3
  clear hb3 hO2
  have hconv : (convert 22 9 (.slice (some ⟨g, 0, none⟩) 2 cap)).run Try.prog w3 = .ok (.string ⟨#[1, 9]⟩) w3 := conv_bytes (row_bytes hrow)
  clear hrow
  go_wp2_with fail
  (with_reducible refine (told_index0 _).mono ?_)
  rintro e w4 ⟨rfl, hb4⟩
  have hO4 := old_then hO3 hb4
  clear hb4 hO3
  go_wp2_with fail
  (with_reducible refine (told_index3 _).mono ?_)
  rintro e w5 ⟨rfl, hb5⟩
  have hO5 := old_then hO4 hb5
  clear hb5 hO4
  go_wp2_with fail
  (with_reducible refine (told_span _).mono ?_)
  rintro e w6 ⟨rfl, hb6⟩
  have hO6 := old_then hO5 hb6
  clear hb6 hO5
  go_wp2_with fail
  (with_reducible refine (told_field _).mono ?_)
  rintro e w7 ⟨rfl, hb7⟩
  have hO7 := old_then hO6 hb7
  clear hb7 hO6
  go_wp2_with fail
  (with_reducible refine (told_set _).mono ?_)
  rintro e w8 ⟨rfl, hb8⟩
  have hO8 := old_then hO7 hb8
  clear hb8 hO7
  go_wp2
  go_ret
  exact ⟨rfl, hO8⟩
end Go.Proofs.Ytajilhckhdohnaa
