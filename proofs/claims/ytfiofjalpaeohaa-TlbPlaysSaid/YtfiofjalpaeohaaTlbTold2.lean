/- The statements of layer 15: told's walk. -/
import Derived.Test.YtfiofjalpaeohaaTlbTold
namespace Go.Proofs.Ytfiofjalpaeohaa
set_option linter.unusedVariables false
set_option linter.unusedSimpArgs false
open Go.RowKit

theorem eq_aa (w : World) : (Op.equalIn 10000 64 (.agg #[Value.int .i64 1, .int .i64 0, .int .u64 5, .int .u64 0, .int .i64 7, .bool false, .bool false, .bool false, .bool false, .bool false, .bool false]) (.agg #[Value.int .i64 1, .int .i64 0, .int .u64 5, .int .u64 0, .int .i64 7, .bool false, .bool false, .bool false, .bool false, .bool false, .bool false])).run Try.prog w = .ok true w := eq_line la la w
theorem eq_bb (w : World) : (Op.equalIn 10000 64 (.agg #[Value.int .i64 1, .int .i64 0, .int .u64 6, .int .u64 0, .int .i64 0, .bool false, .bool false, .bool false, .bool false, .bool false, .bool false]) (.agg #[Value.int .i64 1, .int .i64 0, .int .u64 6, .int .u64 0, .int .i64 0, .bool false, .bool false, .bool false, .bool false, .bool false, .bool false])).run Try.prog w = .ok true w := eq_line lb lb w
set_option maxHeartbeats 8000000 in
set_option maxRecDepth 100000 in
theorem told15_calls (w : World) : Calls Try.prog 31 #[] w (RetB w (.bool true)) := by
  have hea := eq_aa
  have heb := eq_bb
  have HEA := Lib.hid (And.intro hea heb)
  clear hea heb
  go_enter Try.func31, Try.ntmps31
  go_wp2_with fail
  refine (told_new _).mono ?_
  rintro e x ⟨p, gs, b, rfl, hT, hO, hb⟩
  have HBW := Lib.hid hb
  have HT := Lib.hid hT
  have HO := Lib.hid hO
  clear hT hO hb
  go_wp2_with fail
  refine (told_bad _).mono ?_
  rintro e y ⟨rfl, hO⟩
  have hT := tlb_old HT.out hO
  have HT := Lib.hid hT
  have hH : Holds w [] y := ⟨old_then HO.out hO, trivial⟩
  clear hO hT
  go_upto_region 5 with (fail)
  go_upto_region 6 with (fail)
  have hH := holds_new #[Value.int .i64 2, .int .i64 0, .int .u64 5, .int .u64 0, .int .i64 0, .bool false, .bool false, .bool false, .bool false, .bool false, .bool false] 64 (holds_new #[Value.int .i64 1, .int .i64 0, .int .u64 6, .int .u64 0, .int .i64 0, .bool false, .bool false, .bool false, .bool false, .bool false, .bool false] 64 (holds_new #[Value.int .i64 1, .int .i64 0, .int .u64 5, .int .u64 0, .int .i64 7, .bool false, .bool false, .bool false, .bool false, .bool false, .bool false] 64 hH))
  have hO : Old y (((y.alloc (.cells #[Value.int .i64 1, .int .i64 0, .int .u64 5, .int .u64 0, .int .i64 7, .bool false, .bool false, .bool false, .bool false, .bool false, .bool false] 64)).alloc (.cells #[Value.int .i64 1, .int .i64 0, .int .u64 6, .int .u64 0, .int .i64 0, .bool false, .bool false, .bool false, .bool false, .bool false, .bool false] 64)).alloc (.cells #[Value.int .i64 2, .int .i64 0, .int .u64 5, .int .u64 0, .int .i64 0, .bool false, .bool false, .bool false, .bool false, .bool false, .bool false] 64)) := old_alloc (old_alloc (old_alloc (old_refl _) _) _) _
  have hT := tlb_old HT.out hO
  simp only [World.size_alloc] at hH
  generalize ((y.alloc (.cells #[Value.int .i64 1, .int .i64 0, .int .u64 5, .int .u64 0, .int .i64 7, .bool false, .bool false, .bool false, .bool false, .bool false, .bool false] 64)).alloc (.cells #[Value.int .i64 1, .int .i64 0, .int .u64 6, .int .u64 0, .int .i64 0, .bool false, .bool false, .bool false, .bool false, .bool false, .bool false] 64)).alloc (.cells #[Value.int .i64 2, .int .i64 0, .int .u64 5, .int .u64 0, .int .i64 0, .bool false, .bool false, .bool false, .bool false, .bool false, .bool false] 64) = W at *
  generalize y.heap.size + 1 + 1 = cb at *
  generalize y.heap.size + 1 = bb at *
  generalize y.heap.size = ab at *
  have hbw := HBW.out
  have HBW2 := Lib.hid hbw
  clear hO hbw HBW HT HO
  obtain ⟨g0, g1, g2, g3, _⟩ := id hH
  obtain ⟨k1, _, _⟩ := of_block g1
  obtain ⟨k2, _, _⟩ := of_block g2
  obtain ⟨k3, _, _⟩ := of_block g3
  have hc := told_fa hT
  have HH := Lib.hid hH
  have HT := Lib.hid hT
  clear hH hT g0 g1 g2 g3
  go_wp2_with fail
  (with_reducible refine hc.mono ?_)
  rintro e z1 ⟨rfl, hT, ho⟩
  have hH := told_keep HT.out HH.out (by simp) ho HBW2.out
  clear hc ho HT HH k1 k2 k3
  go_upto_region 7 with (fail)
  obtain ⟨g0, g1, g2, g3, _⟩ := id hH
  obtain ⟨k1, _, _⟩ := of_block g1
  obtain ⟨k2, _, _⟩ := of_block g2
  obtain ⟨k3, _, _⟩ := of_block g3
  have hc := told_fb hT
  have HH := Lib.hid hH
  have HT := Lib.hid hT
  clear hH hT g0 g1 g2 g3
  go_wp2_with fail
  (with_reducible refine hc.mono ?_)
  rintro e z2 ⟨rfl, hT, ho⟩
  have hH := told_keep HT.out HH.out (by simp) ho HBW2.out
  clear hc ho HT HH k1 k2 k3
  go_upto_region 8 with (fail)
  have hO := old_alloc (old_refl z2) (.cells #[Value.int .i64 0, .int .i64 0, .int .u64 0, .int .u64 0, .int .i64 0, .bool false, .bool false, .bool false, .bool false, .bool false, .bool false] 64)
  have hT := tlb_old hT hO
  have hH := holds_new #[Value.int .i64 0, .int .i64 0, .int .u64 0, .int .u64 0, .int .i64 0, .bool false, .bool false, .bool false, .bool false, .bool false, .bool false] 64 hH
  generalize z2.alloc (.cells #[Value.int .i64 0, .int .i64 0, .int .u64 0, .int .u64 0, .int .i64 0, .bool false, .bool false, .bool false, .bool false, .bool false, .bool false] 64) = Z2 at *
  generalize z2.heap.size = r2 at *
  clear hO
  obtain ⟨g0, g1, g2, g3, g4, _⟩ := id hH
  obtain ⟨k1, _, _⟩ := of_block g1
  obtain ⟨k2, _, _⟩ := of_block g2
  obtain ⟨k3, _, _⟩ := of_block g3
  obtain ⟨k4, _, _⟩ := of_block g4
  have hc := told_fc hT
  have HH := Lib.hid hH
  have HT := Lib.hid hT
  clear hH hT g0 g1 g2 g3 g4
  go_wp2_with fail
  (with_reducible refine hc.mono ?_)
  rintro e z3 ⟨rfl, hT, ho⟩
  have hH := told_keep HT.out HH.out (by simp) ho HBW2.out
  clear hc ho HT HH k1 k2 k3 k4
  go_upto_region 9 with (fail)
  have hO := old_alloc (old_refl z3) (.cells #[Value.int .i64 1, .int .i64 0, .int .u64 6, .int .u64 0, .int .i64 0, .bool false, .bool false, .bool false, .bool false, .bool false, .bool false] 64)
  have hT := tlb_old hT hO
  have hH := holds_new #[Value.int .i64 1, .int .i64 0, .int .u64 6, .int .u64 0, .int .i64 0, .bool false, .bool false, .bool false, .bool false, .bool false, .bool false] 64 hH
  generalize z3.alloc (.cells #[Value.int .i64 1, .int .i64 0, .int .u64 6, .int .u64 0, .int .i64 0, .bool false, .bool false, .bool false, .bool false, .bool false, .bool false] 64) = Z3 at *
  generalize z3.heap.size = r3 at *
  clear hO
  obtain ⟨g0, g1, g2, g3, g4, g5, _⟩ := id hH
  obtain ⟨k1, _, _⟩ := of_block g1
  obtain ⟨k2, _, _⟩ := of_block g2
  obtain ⟨k3, _, _⟩ := of_block g3
  obtain ⟨k4, _, _⟩ := of_block g4
  obtain ⟨k5, _, _⟩ := of_block g5
  have hc := told_g1 hT
  have HH := Lib.hid hH
  have HT := Lib.hid hT
  clear hH hT g0 g1 g2 g3 g4 g5
  go_wp2_with fail
  (with_reducible refine hc.mono ?_)
  rintro e z4 ⟨rfl, ho⟩
  have hT := tlb_old HT.out ho
  have hH := holds_old HH.out ho
  clear hc ho HT HH k1 k2 k3 k4 k5
  go_upto_region 10 with (fail)
  have hO := old_alloc (old_refl z4) (.cells #[Value.int .i64 1, .int .i64 0, .int .u64 5, .int .u64 0, .int .i64 7, .bool false, .bool false, .bool false, .bool false, .bool false, .bool false] 64)
  have hT := tlb_old hT hO
  have hH := holds_new #[Value.int .i64 1, .int .i64 0, .int .u64 5, .int .u64 0, .int .i64 7, .bool false, .bool false, .bool false, .bool false, .bool false, .bool false] 64 hH
  generalize z4.alloc (.cells #[Value.int .i64 1, .int .i64 0, .int .u64 5, .int .u64 0, .int .i64 7, .bool false, .bool false, .bool false, .bool false, .bool false, .bool false] 64) = Z4 at *
  generalize z4.heap.size = r4 at *
  clear hO
  obtain ⟨g0, g1, g2, g3, g4, g5, g6, _⟩ := id hH
  obtain ⟨k1, _, _⟩ := of_block g1
  obtain ⟨k2, _, _⟩ := of_block g2
  obtain ⟨k3, _, _⟩ := of_block g3
  obtain ⟨k4, _, _⟩ := of_block g4
  obtain ⟨k5, _, _⟩ := of_block g5
  obtain ⟨k6, _, _⟩ := of_block g6
  have hc := told_g2 hT
  have HH := Lib.hid hH
  have HT := Lib.hid hT
  clear hH hT g0 g1 g2 g3 g4 g5 g6
  go_wp2_with fail
  (with_reducible refine hc.mono ?_)
  rintro e z5 ⟨rfl, ho⟩
  have hT := tlb_old HT.out ho
  have hH := holds_old HH.out ho
  clear hc ho HT HH k1 k2 k3 k4 k5 k6
  go_upto_region 11 with (fail)
  have hO := old_alloc (old_refl z5) (.cells #[Value.int .i64 0, .int .i64 0, .int .u64 0, .int .u64 0, .int .i64 0, .bool false, .bool false, .bool false, .bool false, .bool false, .bool false] 64)
  have hT := tlb_old hT hO
  have hH := holds_new #[Value.int .i64 0, .int .i64 0, .int .u64 0, .int .u64 0, .int .i64 0, .bool false, .bool false, .bool false, .bool false, .bool false, .bool false] 64 hH
  generalize z5.alloc (.cells #[Value.int .i64 0, .int .i64 0, .int .u64 0, .int .u64 0, .int .i64 0, .bool false, .bool false, .bool false, .bool false, .bool false, .bool false] 64) = Z5 at *
  generalize z5.heap.size = r5 at *
  clear hO
  obtain ⟨hea, heb⟩ := HEA.out
  obtain ⟨g0, g1, g2, g3, g4, g5, g6, g7, _⟩ := id hH
  obtain ⟨k1, _, _⟩ := of_block g1
  obtain ⟨k2, _, _⟩ := of_block g2
  obtain ⟨k3, _, _⟩ := of_block g3
  obtain ⟨k4, _, _⟩ := of_block g4
  obtain ⟨k5, _, _⟩ := of_block g5
  obtain ⟨k6, _, _⟩ := of_block g6
  obtain ⟨k7, _, _⟩ := of_block g7
  have hc := told_l hT
  have HH := Lib.hid hH
  have HT := Lib.hid hT
  clear hH hT g0 g1 g2 g3 g4 g5 g6 g7
  go_wp2_with fail
  (with_reducible refine hc.mono ?_)
  rintro e y1 ⟨ad, c, rfl, ho⟩
  have hT := tlb_old HT.out ho
  have hH := holds_old HH.out ho
  have hc := told_id hT
  clear ho HT HH hea heb k1 k2 k3 k4 k5 k6 k7
  have HH := Lib.hid hH
  have HT := Lib.hid hT
  clear hH hT
  go_wp2_with fail
  (with_reducible refine hc.mono ?_)
  rintro e y2 ⟨rfl, hT, ho⟩
  have hH := told_keep HT.out HH.out (by simp) ho HBW2.out
  have hc := told_all hT
  clear ho HT HH
  have HH := Lib.hid hH
  have HT := Lib.hid hT
  clear hH hT
  go_wp2_with fail
  (with_reducible refine hc.mono ?_)
  rintro e y3 ⟨rfl, hT, ho⟩
  have hH := told_keep HT.out HH.out (by simp) ho HBW2.out
  have hc := told_ev hT
  clear ho HT HH
  have HH := Lib.hid hH
  have HT := Lib.hid hT
  clear hH hT
  go_wp2_with fail
  (with_reducible refine hc.mono ?_)
  rintro e y4 ⟨rfl, ho⟩
  have hH := told_keep HT.out HH.out (by simp) ho HBW2.out
  have HH := Lib.hid hH
  clear ho HT hH
  go_wp2
  go_ret
  exact ⟨rfl, HH.out.1⟩
end Go.Proofs.Ytfiofjalpaeohaa
