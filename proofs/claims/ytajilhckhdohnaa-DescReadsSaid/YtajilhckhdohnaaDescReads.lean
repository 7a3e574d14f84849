/- The statement DescReads: its walk. -/
import Derived.Test.YtajilhckhdohnaaDescBack
namespace Go.Proofs.Ytajilhckhdohnaa
set_option linter.unusedVariables false
set_option linter.unusedSimpArgs false
open Go.RowKit

theorem dec_shape (st lv : Int) (x : Nat) : ∃ (k : Int) (a : Nat) (b6 b7 b8 : Bool) (s : Nat), decV st lv x = descV k a b6 b7 b8 (s : Nat) := by
  unfold decV
  split
  · exact ⟨_, _, _, _, _, _, rfl⟩
  · exact ⟨0, 0, false, false, false, 0, rfl⟩

theorem xor_nat (a b : Int) : ∃ n : Nat, bits .xor .u64 a b = (n : Int) ∧ n < 18446744073709551616 := by
  refine ⟨(BitVec.ofInt 64 a ^^^ BitVec.ofInt 64 b).toNat, ?_, BitVec.isLt _⟩
  show IntKind.u64.wrap ((BitVec.ofInt 64 a ^^^ BitVec.ofInt 64 b).toNat : Int) = _
  have := (BitVec.ofInt 64 a ^^^ BitVec.ofInt 64 b).isLt
  rw [IntKind.wrap_u64]
  omega

set_option maxHeartbeats 8000000 in
set_option maxRecDepth 100000 in
theorem descReads_walk (st : Int) (_ : (Lit.int .i64 st).wf = true) (lv : Int) (_ : (Lit.int .i64 lv).wf = true) (vi : Int) (hv0 : (Lit.int .u64 vi).wf = true) (k : Int) (_ : (Lit.int .i64 k).wf = true) (ai : Int) (ha0 : (Lit.int .u64 ai).wf = true) (r wr x : Bool) (s : Int) (_ : (Lit.int .i64 s).wf = true)
    (bt : Int) (_ : (Lit.int .i64 bt).wf = true) (w : World) :
    Calls Try.prog 10 #[.int .i64 st, .int .i64 lv, .int .u64 vi, .agg #[.int .i64 k, .int .u64 ai, .bool r, .bool wr, .bool x, .int .i64 s], .int .i64 bt] w (RetB w (.bool true)) := by
  obtain ⟨a, rfl, _⟩ := wf_u64 ha0
  obtain ⟨v, rfl, hv⟩ := wf_u64 hv0
  obtain ⟨S0, S, L, hm1, hS, hm3, hp⟩ := stage_level st lv
  have hnear := fun w => near_calls S L k a r wr x s w hp
  unfold nearV descV at hnear
  have hnc := @near_check S L k a r wr x s hp
  have e2 := refEncode_calls S L (nearK L k) (nearA S L k a) (nearR L k r) (nearW L k r wr) (nearR L k x) (nearS L k s : Nat)
  have hX2 := enc_lt hnc
  rw [hnc] at e2
  generalize encW S L (nearK L k) (nearA S L k a) (nearR L k r) (nearW L k r wr) (nearR L k x) (nearS L k s : Nat) = X2 at *
  clear hnc hp
  generalize nearK L k = nk at *
  generalize nearA S L k a = na at *
  generalize nearR L k r = nr at *
  generalize nearW L k r wr = nw at *
  generalize nearR L k x = nx at *
  generalize nearS L k s = ns at *
  obtain ⟨bq, hbq, hbq2⟩ : ∃ q : Nat, bits .and .i64 bt 63 = (q : Int) ∧ q < 64 := ⟨(bt % 64).toNat, by rw [i64_mask63]; omega, by omega⟩
  go_enter Try.func10, Try.ntmps10
  go_upto_region 2 with (fail)
  have hH := holds_new #[.int .i64 k, .int .u64 (a : Nat), .bool r, .bool wr, .bool x, .int .i64 s] 47 (holds_nil w)
  generalize w.alloc (.cells #[.int .i64 k, .int .u64 (a : Nat), .bool r, .bool wr, .bool x, .int .i64 s] 47) = W at *
  obtain ⟨s0, s1, _⟩ := id hH
  obtain ⟨k1, f1, z1⟩ := of_block s1
  go_upto_region 4 with (first | (go_at_call 28; (with_reducible refine (hnear _).mono ?_); rintro e w9 ⟨rfl, hb9⟩; have hH := holds_old hH hb9; obtain ⟨_, s1, _⟩ := id hH; obtain ⟨k1, f1, z1⟩ := of_block s1) | (go_at_call 30; (with_reducible refine (e2 _).mono ?_); rintro e w9 ⟨rfl, hb9⟩; have hH := holds_old hH hb9; obtain ⟨_, s1, _⟩ := id hH; obtain ⟨k1, f1, z1⟩ := of_block s1))
  obtain ⟨Y, hY, hYl⟩ : ∃ Y : Nat, bits .xor .u64 (X2 : Int) _ = (Y : Int) ∧ Y < 18446744073709551616 := xor_nat (X2 : Int) _
  rw [hY]
  have hH := holds_new #[.int .u64 (v : Nat), .int .u64 (X2 : Nat), .int .u64 (Y : Nat)] 23 hH
  generalize w9.alloc (.cells #[.int .u64 (v : Nat), .int .u64 (X2 : Nat), .int .u64 (Y : Nat)] 23) = W2 at *
  generalize w9.heap.size = p at *
  clear s0 s1 k1 f1 z1
  have dV := fun w => decode_calls S L v w hv
  have rV := fun w => refDecode_calls S L v w hv
  obtain ⟨zvk, zva, zv6, zv7, zv8, zvs, hzv⟩ := dec_shape S L v
  rw [hzv] at dV rV
  unfold descV at dV rV
  generalize decE S L v = Ev at *
  have heqv : ∀ w : World, (Op.equalIn 10000 47 (.agg #[.int .i64 zvk, .int .u64 (zva : Nat), .bool zv6, .bool zv7, .bool zv8, .int .i64 (zvs : Nat)]) (.agg #[.int .i64 zvk, .int .u64 (zva : Nat), .bool zv6, .bool zv7, .bool zv8, .int .i64 (zvs : Nat)])).run Try.prog w = .ok true w := fun w => by rw [eq_desc]; simp
  clear hzv
  have dX := fun w => decode_calls S L X2 w hX2
  have rX := fun w => refDecode_calls S L X2 w hX2
  obtain ⟨zxk, zxa, zx6, zx7, zx8, zxs, hzx⟩ := dec_shape S L X2
  rw [hzx] at dX rX
  unfold descV at dX rX
  generalize decE S L X2 = Ex at *
  have heqx : ∀ w : World, (Op.equalIn 10000 47 (.agg #[.int .i64 zxk, .int .u64 (zxa : Nat), .bool zx6, .bool zx7, .bool zx8, .int .i64 (zxs : Nat)]) (.agg #[.int .i64 zxk, .int .u64 (zxa : Nat), .bool zx6, .bool zx7, .bool zx8, .int .i64 (zxs : Nat)])).run Try.prog w = .ok true w := fun w => by rw [eq_desc]; simp
  clear hzx
  have dY := fun w => decode_calls S L Y w hYl
  have rY := fun w => refDecode_calls S L Y w hYl
  obtain ⟨zyk, zya, zy6, zy7, zy8, zys, hzy⟩ := dec_shape S L Y
  rw [hzy] at dY rY
  unfold descV at dY rY
  generalize decE S L Y = Ey at *
  have heqy : ∀ w : World, (Op.equalIn 10000 47 (.agg #[.int .i64 zyk, .int .u64 (zya : Nat), .bool zy6, .bool zy7, .bool zy8, .int .i64 (zys : Nat)]) (.agg #[.int .i64 zyk, .int .u64 (zya : Nat), .bool zy6, .bool zy7, .bool zy8, .int .i64 (zys : Nat)])).run Try.prog w = .ok true w := fun w => by rw [eq_desc]; simp
  clear hzy
  have dW := fun w => decode_calls st lv v w hv
  have rW := fun w => refDecode_calls st lv v w hv
  obtain ⟨zwk, zwa, zw6, zw7, zw8, zws, hzw⟩ := dec_shape st lv v
  rw [hzw] at dW rW
  unfold descV at dW rW
  generalize decE st lv v = Ew at *
  have heqw : ∀ w : World, (Op.equalIn 10000 47 (.agg #[.int .i64 zwk, .int .u64 (zwa : Nat), .bool zw6, .bool zw7, .bool zw8, .int .i64 (zws : Nat)]) (.agg #[.int .i64 zwk, .int .u64 (zwa : Nat), .bool zw6, .bool zw7, .bool zw8, .int .i64 (zws : Nat)])).run Try.prog w = .ok true w := fun w => by rw [eq_desc]; simp
  clear hzw
  go_wp2
  go_loopw [16, 17, 18, 19, 20] (fun i _ _ _ _ xx => ∃ j : Nat, i = .int .i64 j ∧ j ≤ 3 ∧ Holds w [(p, #[.int .u64 (v : Nat), .int .u64 (X2 : Nat), .int .u64 (Y : Nat)], 23), (w.heap.size, #[.int .i64 k, .int .u64 (a : Nat), .bool r, .bool wr, .bool x, .int .i64 s], 47)] xx) (fun i _ _ _ _ _ => (4 - intOf i).toNat)
  case atStart => exact ⟨0, rfl, by omega, hH⟩
  case round =>
  clear hH
  obtain ⟨j, rfl, hj, hH⟩ := hrel
  obtain rfl | rfl | rfl | rfl : j = 0 ∨ j = 1 ∨ j = 2 ∨ j = 3 := by omega
  · obtain ⟨s0, s1, s2, _⟩ := id hH
    obtain ⟨k1, f1, z1⟩ := of_block s1
    obtain ⟨k2, f2, z2⟩ := of_block s2
    go_upto_region 8 with (first | (go_at_call 36; (with_reducible refine (dV _).mono ?_); rintro e w9 ⟨rfl, hb9⟩; have hH := holds_old hH hb9; obtain ⟨_, s1, s2, _⟩ := id hH; obtain ⟨k1, f1, z1⟩ := of_block s1; obtain ⟨k2, f2, z2⟩ := of_block s2))
    have hH := holds_new #[.int .i64 zvk, .int .u64 (zva : Nat), .bool zv6, .bool zv7, .bool zv8, .int .i64 (zvs : Nat)] 47 hH
    generalize w9.alloc (.cells #[.int .i64 zvk, .int .u64 (zva : Nat), .bool zv6, .bool zv7, .bool zv8, .int .i64 (zvs : Nat)] 47) = Wq1 at *
    generalize w9.heap.size = q1 at *
    obtain ⟨s0, s1, s2, s3, _⟩ := id hH
    obtain ⟨k1, f1, z1⟩ := of_block s1
    obtain ⟨k2, f2, z2⟩ := of_block s2
    obtain ⟨k3, f3, z3⟩ := of_block s3
    go_upto_region 9 with (first | (go_at_call 37; (with_reducible refine (rV _).mono ?_); rintro e w9 ⟨rfl, hb9⟩; have hH := holds_old hH hb9; obtain ⟨_, s1, s2, s3, _⟩ := id hH; obtain ⟨k1, f1, z1⟩ := of_block s1; obtain ⟨k2, f2, z2⟩ := of_block s2; obtain ⟨k3, f3, z3⟩ := of_block s3))
    have hH := holds_new #[.int .i64 zvk, .int .u64 (zva : Nat), .bool zv6, .bool zv7, .bool zv8, .int .i64 (zvs : Nat)] 47 hH
    generalize w9.alloc (.cells #[.int .i64 zvk, .int .u64 (zva : Nat), .bool zv6, .bool zv7, .bool zv8, .int .i64 (zvs : Nat)] 47) = Wq2 at *
    generalize w9.heap.size = q2 at *
    obtain ⟨s0, s1, s2, s3, s4, _⟩ := id hH
    obtain ⟨k1, f1, z1⟩ := of_block s1
    obtain ⟨k2, f2, z2⟩ := of_block s2
    obtain ⟨k3, f3, z3⟩ := of_block s3
    obtain ⟨k4, f4, z4⟩ := of_block s4
    go_wp2
    go_roundw
    case rel => exact ⟨1, by go_num, by omega, hH.1, hH.2.2.2⟩
    case measure => (simp [intOf]) <;> omega
  · obtain ⟨s0, s1, s2, _⟩ := id hH
    obtain ⟨k1, f1, z1⟩ := of_block s1
    obtain ⟨k2, f2, z2⟩ := of_block s2
    go_upto_region 8 with (first | (go_at_call 36; (with_reducible refine (dX _).mono ?_); rintro e w9 ⟨rfl, hb9⟩; have hH := holds_old hH hb9; obtain ⟨_, s1, s2, _⟩ := id hH; obtain ⟨k1, f1, z1⟩ := of_block s1; obtain ⟨k2, f2, z2⟩ := of_block s2))
    have hH := holds_new #[.int .i64 zxk, .int .u64 (zxa : Nat), .bool zx6, .bool zx7, .bool zx8, .int .i64 (zxs : Nat)] 47 hH
    generalize w9.alloc (.cells #[.int .i64 zxk, .int .u64 (zxa : Nat), .bool zx6, .bool zx7, .bool zx8, .int .i64 (zxs : Nat)] 47) = Wq1 at *
    generalize w9.heap.size = q1 at *
    obtain ⟨s0, s1, s2, s3, _⟩ := id hH
    obtain ⟨k1, f1, z1⟩ := of_block s1
    obtain ⟨k2, f2, z2⟩ := of_block s2
    obtain ⟨k3, f3, z3⟩ := of_block s3
    go_upto_region 9 with (first | (go_at_call 37; (with_reducible refine (rX _).mono ?_); rintro e w9 ⟨rfl, hb9⟩; have hH := holds_old hH hb9; obtain ⟨_, s1, s2, s3, _⟩ := id hH; obtain ⟨k1, f1, z1⟩ := of_block s1; obtain ⟨k2, f2, z2⟩ := of_block s2; obtain ⟨k3, f3, z3⟩ := of_block s3))
    have hH := holds_new #[.int .i64 zxk, .int .u64 (zxa : Nat), .bool zx6, .bool zx7, .bool zx8, .int .i64 (zxs : Nat)] 47 hH
    generalize w9.alloc (.cells #[.int .i64 zxk, .int .u64 (zxa : Nat), .bool zx6, .bool zx7, .bool zx8, .int .i64 (zxs : Nat)] 47) = Wq2 at *
    generalize w9.heap.size = q2 at *
    obtain ⟨s0, s1, s2, s3, s4, _⟩ := id hH
    obtain ⟨k1, f1, z1⟩ := of_block s1
    obtain ⟨k2, f2, z2⟩ := of_block s2
    obtain ⟨k3, f3, z3⟩ := of_block s3
    obtain ⟨k4, f4, z4⟩ := of_block s4
    go_wp2
    go_roundw
    case rel => exact ⟨2, by go_num, by omega, hH.1, hH.2.2.2⟩
    case measure => (simp [intOf]) <;> omega
  · obtain ⟨s0, s1, s2, _⟩ := id hH
    obtain ⟨k1, f1, z1⟩ := of_block s1
    obtain ⟨k2, f2, z2⟩ := of_block s2
    go_upto_region 8 with (first | (go_at_call 36; (with_reducible refine (dY _).mono ?_); rintro e w9 ⟨rfl, hb9⟩; have hH := holds_old hH hb9; obtain ⟨_, s1, s2, _⟩ := id hH; obtain ⟨k1, f1, z1⟩ := of_block s1; obtain ⟨k2, f2, z2⟩ := of_block s2))
    have hH := holds_new #[.int .i64 zyk, .int .u64 (zya : Nat), .bool zy6, .bool zy7, .bool zy8, .int .i64 (zys : Nat)] 47 hH
    generalize w9.alloc (.cells #[.int .i64 zyk, .int .u64 (zya : Nat), .bool zy6, .bool zy7, .bool zy8, .int .i64 (zys : Nat)] 47) = Wq1 at *
    generalize w9.heap.size = q1 at *
    obtain ⟨s0, s1, s2, s3, _⟩ := id hH
    obtain ⟨k1, f1, z1⟩ := of_block s1
    obtain ⟨k2, f2, z2⟩ := of_block s2
    obtain ⟨k3, f3, z3⟩ := of_block s3
    go_upto_region 9 with (first | (go_at_call 37; (with_reducible refine (rY _).mono ?_); rintro e w9 ⟨rfl, hb9⟩; have hH := holds_old hH hb9; obtain ⟨_, s1, s2, s3, _⟩ := id hH; obtain ⟨k1, f1, z1⟩ := of_block s1; obtain ⟨k2, f2, z2⟩ := of_block s2; obtain ⟨k3, f3, z3⟩ := of_block s3))
    have hH := holds_new #[.int .i64 zyk, .int .u64 (zya : Nat), .bool zy6, .bool zy7, .bool zy8, .int .i64 (zys : Nat)] 47 hH
    generalize w9.alloc (.cells #[.int .i64 zyk, .int .u64 (zya : Nat), .bool zy6, .bool zy7, .bool zy8, .int .i64 (zys : Nat)] 47) = Wq2 at *
    generalize w9.heap.size = q2 at *
    obtain ⟨s0, s1, s2, s3, s4, _⟩ := id hH
    obtain ⟨k1, f1, z1⟩ := of_block s1
    obtain ⟨k2, f2, z2⟩ := of_block s2
    obtain ⟨k3, f3, z3⟩ := of_block s3
    obtain ⟨k4, f4, z4⟩ := of_block s4
    go_wp2
    go_roundw
    case rel => exact ⟨3, by go_num, by omega, hH.1, hH.2.2.2⟩
    case measure => (simp [intOf]) <;> omega
  · obtain ⟨s0, s1, s2, _⟩ := id hH
    obtain ⟨k1, f1, z1⟩ := of_block s1
    obtain ⟨k2, f2, z2⟩ := of_block s2
    go_upto_region 12 with (first | (go_at_call 36; (with_reducible refine (dW _).mono ?_); rintro e w9 ⟨rfl, hb9⟩; have hH := holds_old hH hb9; obtain ⟨_, s1, s2, _⟩ := id hH; obtain ⟨k1, f1, z1⟩ := of_block s1; obtain ⟨k2, f2, z2⟩ := of_block s2))
    have hH := holds_new #[.int .i64 zwk, .int .u64 (zwa : Nat), .bool zw6, .bool zw7, .bool zw8, .int .i64 (zws : Nat)] 47 hH
    generalize w9.alloc (.cells #[.int .i64 zwk, .int .u64 (zwa : Nat), .bool zw6, .bool zw7, .bool zw8, .int .i64 (zws : Nat)] 47) = Wq1 at *
    generalize w9.heap.size = q1 at *
    obtain ⟨s0, s1, s2, s3, _⟩ := id hH
    obtain ⟨k1, f1, z1⟩ := of_block s1
    obtain ⟨k2, f2, z2⟩ := of_block s2
    obtain ⟨k3, f3, z3⟩ := of_block s3
    go_upto_region 13 with (first | (go_at_call 37; (with_reducible refine (rW _).mono ?_); rintro e w9 ⟨rfl, hb9⟩; have hH := holds_old hH hb9; obtain ⟨_, s1, s2, s3, _⟩ := id hH; obtain ⟨k1, f1, z1⟩ := of_block s1; obtain ⟨k2, f2, z2⟩ := of_block s2; obtain ⟨k3, f3, z3⟩ := of_block s3))
    have hH := holds_new #[.int .i64 zwk, .int .u64 (zwa : Nat), .bool zw6, .bool zw7, .bool zw8, .int .i64 (zws : Nat)] 47 hH
    generalize w9.alloc (.cells #[.int .i64 zwk, .int .u64 (zwa : Nat), .bool zw6, .bool zw7, .bool zw8, .int .i64 (zws : Nat)] 47) = Wq2 at *
    generalize w9.heap.size = q2 at *
    obtain ⟨s0, s1, s2, s3, s4, _⟩ := id hH
    obtain ⟨k1, f1, z1⟩ := of_block s1
    obtain ⟨k2, f2, z2⟩ := of_block s2
    obtain ⟨k3, f3, z3⟩ := of_block s3
    obtain ⟨k4, f4, z4⟩ := of_block s4
    go_wp2_with (first | (go_at_call 31; (with_reducible refine (descTold_calls _).mono ?_); rintro e w9 ⟨rfl, hb9⟩; have hH := holds_old hH hb9; obtain ⟨_, s1, s2, s3, s4, _⟩ := id hH; obtain ⟨k1, f1, z1⟩ := of_block s1; obtain ⟨k2, f2, z2⟩ := of_block s2; obtain ⟨k3, f3, z3⟩ := of_block s3; obtain ⟨k4, f4, z4⟩ := of_block s4))
    go_ret
    exact ⟨rfl, hH.1⟩

end Go.Proofs.Ytajilhckhdohnaa
