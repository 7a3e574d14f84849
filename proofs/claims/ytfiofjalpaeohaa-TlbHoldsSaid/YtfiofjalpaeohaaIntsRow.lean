/- Rows of whole numbers: made, read, written. -/
import Derived.Test.YtfiofjalpaeohaaOwn
import Derived.Deep.OwnRows
namespace Go.Proofs.Ytfiofjalpaeohaa
set_option linter.unusedVariables false
set_option linter.unusedSimpArgs false
open Go.RowKit

def irow (l : List Int) : Array Value := (l.map (.int .i64)).toArray
theorem irow_get (l : List Int) (i : Nat) : (irow l)[i]? = (l[i]?).map (.int .i64) := by simp [irow]
theorem irow_set (l : List Int) (i : Nat) (v : Int) : (irow l).setIfInBounds i (.int .i64 v) = irow (l.set i v) := by simp [irow, List.setIfInBounds_toArray, List.map_set]
theorem irow_info : (Try.prog.info? 3).map (fun i => (i.zero, i.size, i.bytes)) = some (some (.int .i64 0), 1, 8) := by kernel_rfl
theorem irow_made (n : Nat) : madeCells #[.int .i64 0] n = irow (List.replicate n 0) := by
  apply Array.ext
  · rw [size_madeCells]; simp [irow]
  · intro i h1 h2
    simp [madeCells, irow, Nat.mod_one]
theorem irow_make (n : Nat) (h : n ≤ 1000) (w : World) : (Instr.makeSlice 30 (.int .i64 (n : Int)) (.int .i64 (n : Int))).run Try.prog w = .ok (.slice (some ⟨w.heap.size, 0, none⟩) n n) (w.alloc (.cells (irow (List.replicate n 0)) 3)) := by
  rw [← irow_made]
  exact run_make_row' 30 3 (.int .i64 0) 8 Try.underlying30 irow_info rfl .i64 .i64 n (by omega) (by omega) w
end Go.Proofs.Ytfiofjalpaeohaa
