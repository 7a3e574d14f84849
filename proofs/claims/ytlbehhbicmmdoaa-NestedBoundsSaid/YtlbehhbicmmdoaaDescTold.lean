/- The statements' own told: what a few descriptors and words are. -/
import Derived.Test.YtlbehhbicmmdoaaDescRefDec
import Derived.Test.YtlbehhbicmmdoaaDescNear2
namespace Go.Proofs.Ytlbehhbicmmdoaa
set_option linter.unusedVariables false
set_option linter.unusedSimpArgs false
open Go.RowKit

theorem eq_permN (d : Nat) (x0 x1 x2 y0 y1 y2 : Bool) (w : World) :
    (Op.equalIn (d + 2) 46 (.agg #[.bool x0, .bool x1, .bool x2]) (.agg #[.bool y0, .bool y1, .bool y2])).run Try.prog w = .ok (x0 == y0 && (x1 == y1 && (x2 == y2 && true))) w := by
  refine same_struct (d := d + 1) Try.underlying46 (by kernel_rfl) ?_
  refine same_cons (by rfl) (by go_simp; rfl) (by go_simp; rfl) (by go_simp) ?_
  refine same_cons (by rfl) (by go_simp; rfl) (by go_simp; rfl) (by go_simp) ?_
  refine same_cons (by rfl) (by go_simp; rfl) (by go_simp; rfl) (by go_simp) ?_
  exact same_nil
theorem eq_desc (k a s k' a' s' : Int) (x0 x1 x2 y0 y1 y2 : Bool) (w : World) :
    (Op.equalIn 10000 48 (.agg #[.int .i64 k, .int .u64 a, .bool x0, .bool x1, .bool x2, .int .i64 s]) (.agg #[.int .i64 k', .int .u64 a', .bool y0, .bool y1, .bool y2, .int .i64 s'])).run Try.prog w =
      .ok (k == k' && (a == a' && ((x0 == y0 && (x1 == y1 && (x2 == y2 && true))) && (s == s' && true)))) w := by
  refine same_struct (d := 9999) Try.underlying48 (by kernel_rfl) ?_
  refine same_cons (by rfl) (by go_simp; rfl) (by go_simp; rfl) (by go_simp) ?_
  refine same_cons (by rfl) (by go_simp; rfl) (by go_simp; rfl) (by go_simp) ?_
  refine same_cons (a := .agg #[.bool x0, .bool x1, .bool x2]) (b := .agg #[.bool y0, .bool y1, .bool y2]) (by rfl) (by go_simp) (by go_simp) (eq_permN 9997 x0 x1 x2 y0 y1 y2 w) ?_
  refine same_cons (by rfl) (by go_simp; rfl) (by go_simp; rfl) (by go_simp) ?_
  exact same_nil

theorem told_e1 (w : World) : Calls Try.prog 73 #[.int .i64 1, .int .i64 3, .agg #[.int .i64 3, .int .u64 12288, .bool true, .bool true, .bool false, .int .i64 0]] w (RetB w (.tuple #[.int .u64 12483, .int .i64 0])) := by
  have h := encode_calls 1 3 3 12288 true true false 0 w
  rw [show encW 1 3 3 12288 true true false 0 = 12483 by decide +kernel, show checkC 1 3 3 12288 true true false 0 = 0 by decide +kernel] at h
  exact h
theorem told_e2 (w : World) : Calls Try.prog 73 #[.int .i64 2, .int .i64 0, .agg #[.int .i64 1, .int .u64 12288, .bool false, .bool false, .bool false, .int .i64 0]] w (RetB w (.tuple #[.int .u64 12291, .int .i64 0])) := by
  have h := encode_calls 2 0 1 12288 false false false 0 w
  rw [show encW 2 0 1 12288 false false false 0 = 12291 by decide +kernel, show checkC 2 0 1 12288 false false false 0 = 0 by decide +kernel] at h
  exact h
theorem told_c (w : World) : Calls Try.prog 74 #[.int .i64 1, .int .i64 4, .agg #[.int .i64 3, .int .u64 12288, .bool true, .bool true, .bool false, .int .i64 0]] w (RetB w (.int .i64 1)) := by
  have h := descCheck_calls 1 4 3 12288 true true false 0 w
  rw [show checkC 1 4 3 12288 true true false 0 = 1 by decide +kernel] at h
  exact h
theorem told_d1 (w : World) : Calls Try.prog 47 #[.int .i64 1, .int .i64 3, .int .u64 12483] w (RetB w (.tuple #[.agg #[.int .i64 3, .int .u64 12288, .bool true, .bool true, .bool false, .int .i64 0], .int .i64 0])) := by
  have h := decode_calls 1 3 12483 w (by decide)
  rw [(dec_yes (show Place 1 3 by decide) (show 12483 % 2 ≠ 0 by decide) (show decE 1 3 12483 = 0 by decide +kernel)).1, show decE 1 3 12483 = 0 by decide +kernel, show decK 3 12483 = 3 by decide +kernel, show decA 12483 = 12288 by decide +kernel,
    show bitB 12483 6 = true by decide +kernel, show bitB 12483 7 = true by decide +kernel, show bitB 12483 8 = false by decide +kernel, show decS 12483 = 0 by decide +kernel] at h
  exact h
theorem told_d2 (w : World) : Calls Try.prog 47 #[.int .i64 1, .int .i64 3, .int .u64 12289] w (RetB w (.tuple #[zeroV, .int .i64 4])) := by
  have h := decode_calls 1 3 12289 w (by decide)
  obtain ⟨h1, h2⟩ := dec_bad (st := 1) (lv := 3) (x := 12289) 4 (by decide +kernel) (by decide)
  rw [h1, h2] at h
  exact h
theorem told_d3 (w : World) : Calls Try.prog 47 #[.int .i64 2, .int .i64 3, .int .u64 4294967299] w (RetB w (.tuple #[zeroV, .int .i64 2])) := by
  have h := decode_calls 2 3 4294967299 w (by decide)
  obtain ⟨h1, h2⟩ := dec_bad (st := 2) (lv := 3) (x := 4294967299) 2 (by decide +kernel) (by decide)
  rw [h1, h2] at h
  exact h
theorem told_t1 (w : World) : Calls Try.prog 45 #[.int .i64 1] w (RetB w (.int .u64 1099511627776)) := top_calls 1 w
theorem told_t2 (w : World) : Calls Try.prog 45 #[.int .i64 2] w (RetB w (.int .u64 4294967296)) := top_calls 2 w

theorem holds_skip {w0 w : World} {L : List (Nat × Array Value × TypeId)} (o : Obj) (h : Holds w0 L w) : Holds w0 L (w.alloc o) := ⟨old_alloc h.1 _, has_alloc _ h.2⟩

end Go.Proofs.Ytlbehhbicmmdoaa
