/- The statements of layer 4: what all of them use: told. -/
import Derived.Test.YtlbehhbicmmdoaaBitsPut
namespace Go.Proofs.Ytlbehhbicmmdoaa
set_option linter.unusedVariables false
set_option linter.unusedSimpArgs false
open Go.RowKit

theorem told_get1 (w : World) : Calls Try.prog 76 #[.slice (some ⟨w.heap.size, 0, none⟩) 4 4, .int .i64 2, .int .i64 2] (w.alloc (.cells #[.int .u8 1, .int .u8 2, .int .u8 3, .int .u8 4] 5)) (RetB (w.alloc (.cells #[.int .u8 1, .int .u8 2, .int .u8 3, .int .u8 4] 5)) (.tuple #[.int .u64 1027, .int .i64 0])) :=
  get_ok _ [1, 2, 3, 4] 4 2 2 2 2 rfl rfl _ (bytes_lit w [1, 2, 3, 4] (by decide) (by decide)) (by decide) (by decide) (by decide) (by decide)
theorem told_get2 (ad : Option Addr) (w : World) : Calls Try.prog 76 #[.slice ad 4 4, .int .i64 1, .int .i64 2] w (RetB w (.tuple #[.int .u64 0, .int .i64 3])) :=
  get_fail ad 4 4 1 2 w (by decide) 3 (by decide) (by decide)
theorem told_put (w : World) : Calls Try.prog 64 #[.slice (some ⟨w.heap.size, 0, none⟩) 2 2, .int .i64 1, .int .i64 1, .int .u64 9] (w.alloc (.cells #[.int .u8 1, .int .u8 2] 5)) (RetRow (w.alloc (.cells #[.int .u8 1, .int .u8 2] 5)) (.int .i64 0) [1, 9]) :=
  put_ok _ [1, 2] 2 1 1 9 1 1 9 rfl rfl rfl _ (bytes_lit w [1, 2] (by decide) (by decide)) (by decide) (by decide) (by decide) (by decide) (by decide)
theorem told_index0 (w : World) : Calls Try.prog 46 #[.int .u64 549755817984, .int .i64 0] w (RetB w (.int .i64 1)) := index_yes 549755817984 0 549755817984 0 rfl rfl w (by decide) (by decide)
theorem told_index3 (w : World) : Calls Try.prog 46 #[.int .u64 549755817984, .int .i64 3] w (RetB w (.int .i64 1)) := index_yes 549755817984 3 549755817984 3 rfl rfl w (by decide) (by decide)
theorem told_span (w : World) : Calls Try.prog 53 #[.int .i64 2] w (RetB w (.int .u64 2097152)) := span_yes 2 2 rfl w (by decide)
theorem told_field (w : World) : Calls Try.prog 70 #[.int .u64 240, .int .i64 4, .int .i64 4] w (RetB w (.int .u64 15)) := field_yes 240 4 4 240 4 4 rfl rfl rfl w (by decide) (by decide) (by decide)
end Go.Proofs.Ytlbehhbicmmdoaa
