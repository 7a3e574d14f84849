/- The statement PermLeast: its walk. -/
import Derived.Test.YtbnbchclbblbkaaPerm4
import Derived.Test.YtbnbchclbblbkaaSeq
namespace Go.Proofs.Ytbnbchclbblbkaa
set_option linter.unusedVariables false
set_option linter.unusedSimpArgs false
open Go.RowKit

theorem within_any (a0 a1 a2 b0 b1 b2 : Bool) (j : Bool) (hj : withinB a0 a1 a2 b0 b1 b2 = j) (w : World) :
    Calls Try.prog 21 #[.agg #[.bool a0, .bool a1, .bool a2], .agg #[.bool b0, .bool b1, .bool b2]] w (RetB w (.bool j)) := hj ▸ within_calls _ _ _ _ _ _ _

theorem and_any (a0 a1 a2 b0 b1 b2 c0 c1 c2 : Bool) (h0 : (a0 && b0) = c0) (h1 : (a1 && b1) = c1) (h2 : (a2 && b2) = c2) (w : World) :
    Calls Try.prog 19 #[.agg #[.bool a0, .bool a1, .bool a2], .agg #[.bool b0, .bool b1, .bool b2]] w (RetB w (.agg #[.bool c0, .bool c1, .bool c2])) := by
  subst h0 h1 h2; exact and_calls _ _ _ _ _ _ _

theorem within_and_l (a0 a1 a2 b0 b1 b2 : Bool) : withinB (a0 && b0) (a1 && b1) (a2 && b2) a0 a1 a2 = true := by
  revert a0 a1 a2 b0 b1 b2; decide
theorem within_and_r (a0 a1 a2 b0 b1 b2 : Bool) : withinB (a0 && b0) (a1 && b1) (a2 && b2) b0 b1 b2 = true := by
  revert a0 a1 a2 b0 b1 b2; decide
theorem within_of_and (a0 a1 a2 b0 b1 b2 c0 c1 c2 : Bool) : withinB c0 c1 c2 (a0 && b0) (a1 && b1) (a2 && b2) = (withinB c0 c1 c2 a0 a1 a2 && withinB c0 c1 c2 b0 b1 b2) := by
  cases a0 <;> cases a1 <;> cases a2 <;> cases b0 <;> cases b1 <;> cases b2 <;> cases c0 <;> cases c1 <;> cases c2 <;> rfl
theorem judge_and (a0 a1 a2 b0 b1 b2 : Bool) (k : Int) : (judgeI a0 a1 a2 b0 b1 b2 k == 0) = allowsB (a0 && b0) (a1 && b1) (a2 && b2) k := by
  unfold judgeI allowsB
  by_cases h1 : k = 1
  · simp [h1]; cases a0 <;> cases b0 <;> rfl
  by_cases h2 : k = 2
  · simp [h2]; cases a1 <;> cases b1 <;> rfl
  by_cases h3 : k = 3
  · simp [h3]; cases a2 <;> cases b2 <;> rfl
  simp [h1, h2, h3]
theorem within_both (a0 a1 a2 b0 b1 b2 : Bool) : (withinB a0 a1 a2 b0 b1 b2 && withinB b0 b1 b2 a0 a1 a2) = (a0 == b0 && (a1 == b1 && (a2 == b2 && true))) := by
  revert a0 a1 a2 b0 b1 b2; decide

set_option maxHeartbeats 4000000 in
set_option maxRecDepth 100000 in
theorem permLeast_calls (a0 a1 a2 b0 b1 b2 c0 c1 c2 : Bool) (k : Int) (w : World) :
    Calls Try.prog 5 #[.agg #[.bool a0, .bool a1, .bool a2], .agg #[.bool b0, .bool b1, .bool b2], .agg #[.bool c0, .bool c1, .bool c2], .int .i64 k] w (RetB w (.bool true)) := by
  generalize hm0 : (a0 && b0) = m0
  generalize hm1 : (a1 && b1) = m1
  generalize hm2 : (a2 && b2) = m2
  have wma : withinB m0 m1 m2 a0 a1 a2 = true := by rw [← hm0, ← hm1, ← hm2]; exact within_and_l _ _ _ _ _ _
  have wmb : withinB m0 m1 m2 b0 b1 b2 = true := by rw [← hm0, ← hm1, ← hm2]; exact within_and_r _ _ _ _ _ _
  have wcm : withinB c0 c1 c2 m0 m1 m2 = (withinB c0 c1 c2 a0 a1 a2 && withinB c0 c1 c2 b0 b1 b2) := by rw [← hm0, ← hm1, ← hm2]; exact within_of_and _ _ _ _ _ _ _ _ _
  have jm : ∀ k, (judgeI a0 a1 a2 b0 b1 b2 k == 0) = allowsB m0 m1 m2 k := fun k => by rw [← hm0, ← hm1, ← hm2]; exact judge_and _ _ _ _ _ _ _
  have wab := within_both a0 a1 a2 b0 b1 b2
  have Jm := Lib.hid jm
  clear jm
  generalize hp : withinB c0 c1 c2 a0 a1 a2 = p at *
  generalize hq' : withinB c0 c1 c2 b0 b1 b2 = q at *
  have Hm0 := Lib.hid hm0; have Hm1 := Lib.hid hm1; have Hm2 := Lib.hid hm2
  clear hm0 hm1 hm2
  have hq : ∀ w' : World, (Op.equalIn 10000 23 (.agg #[.bool m0, .bool m1, .bool m2]) (.agg #[.bool m0, .bool m1, .bool m2])).run Try.prog w' = .ok true w' := fun w' => by rw [eq_perm]; simp
  go_enter Try.func5, Try.ntmps5
  go_wp2_with fail
  refine (and_any _ _ _ _ _ _ m0 m1 m2 Hm0.out Hm1.out Hm2.out _).mono ?_
  rintro e w1 ⟨rfl, hb1⟩
  have hH := holds_new #[.bool m0, .bool m1, .bool m2] 23 (holds_old (holds_new #[.bool c0, .bool c1, .bool c2] 23 (holds_new #[.bool b0, .bool b1, .bool b2] 23 (holds_new #[.bool a0, .bool a1, .bool a2] 23 (holds_nil w)))) hb1)
  simp only [World.size_alloc] at hH
  clear hb1
  go_wp2
  generalize w1.alloc (.cells #[.bool m0, .bool m1, .bool m2] 23) = W at *
  go_upto_region 2 with (fail)
  go_cut [46] (fun s46 wx => s46 = .bool false ∧ Holds w [(w1.heap.size, #[.bool m0, .bool m1, .bool m2], 23), (w.heap.size + 1 + 1, #[.bool c0, .bool c1, .bool c2], 23), (w.heap.size + 1, #[.bool b0, .bool b1, .bool b2], 23), (w.heap.size, #[.bool a0, .bool a1, .bool a2], 23)] wx)
  case first =>
    cases p <;> cases q
    all_goals
      simp only [Bool.false_and, Bool.and_false, Bool.and_self, Bool.true_and] at wcm
      refine wp_region_walked (S := Holds w [(w1.heap.size, #[.bool m0, .bool m1, .bool m2], 23), (w.heap.size + 1 + 1, #[.bool c0, .bool c1, .bool c2], 23), (w.heap.size + 1, #[.bool b0, .bool b1, .bool b2], 23), (w.heap.size, #[.bool a0, .bool a1, .bool a2], 23)]) (by kernel_rfl) (by kernel_rfl) (holds_drew hH) ?_
      repeat (apply walked_cons; (intro wS hS; obtain ⟨s0, s1, s2, s3, s4, _⟩ := id hS; obtain ⟨k1, f1, z1⟩ := of_block s1; obtain ⟨k2, f2, z2⟩ := of_block s2; obtain ⟨k3, f3, z3⟩ := of_block s3; obtain ⟨k4, f4, z4⟩ := of_block s4; go_wp2_with (first | (go_at_call 21; refine (within_any _ _ _ _ _ _ _ (by first | exact wma | exact wmb | exact hp | exact hq' | exact wcm) _).mono ?_; rintro e w9 ⟨rfl, hb9⟩) | (go_at_call 19; refine (and_any _ _ _ _ _ _ m0 m1 m2 (by rw [Bool.and_comm]; exact Hm0.out) (by rw [Bool.and_comm]; exact Hm1.out) (by rw [Bool.and_comm]; exact Hm2.out) _).mono ?_; rintro e w9 ⟨rfl, hb9⟩)); first | exact ⟨rfl, rfl, hS⟩ | exact ⟨rfl, rfl, holds_old hS hb9⟩); rfl)
      apply walked_nil
      intro wS hS
      go_wp2_with fail
      go_meet
      exact ⟨rfl, hS⟩
  case rest =>
    obtain ⟨rfl, hS⟩ := hcut
    go_wp2
    have hj := fun k => Jm.out k
    cases hx : withinB a0 a1 a2 b0 b1 b2 <;> cases hy : withinB b0 b1 b2 a0 a1 a2
    all_goals
      rw [hx, hy] at wab
      simp only [Bool.false_and, Bool.and_false, Bool.and_self, Bool.true_and] at wab
      have hq2 : ∀ w' : World, (Op.equalIn 10000 23 (.agg #[.bool a0, .bool a1, .bool a2]) (.agg #[.bool b0, .bool b1, .bool b2])).run Try.prog w' = .ok _ w' := fun w' => by rw [eq_perm, ← wab]
      clear wab
      refine wp_region_walked (S := Holds w [(w1.heap.size, #[.bool m0, .bool m1, .bool m2], 23), (w.heap.size + 1 + 1, #[.bool c0, .bool c1, .bool c2], 23), (w.heap.size + 1, #[.bool b0, .bool b1, .bool b2], 23), (w.heap.size, #[.bool a0, .bool a1, .bool a2], 23)]) (by kernel_rfl) (by kernel_rfl) (holds_drew hS) ?_
      repeat (apply walked_cons; (intro wS hS; obtain ⟨s0, s1, s2, s3, s4, _⟩ := id hS; obtain ⟨k1, f1, z1⟩ := of_block s1; obtain ⟨k2, f2, z2⟩ := of_block s2; obtain ⟨k3, f3, z3⟩ := of_block s3; obtain ⟨k4, f4, z4⟩ := of_block s4; go_wp2_with (first | (go_at_call 16; refine (permTold_calls _).mono ?_; rintro e w9 ⟨rfl, hb9⟩) | (go_at_call 22; refine (judge_calls _ _ _ _ _ _ _ _).mono ?_; rintro e w9 ⟨rfl, hb9⟩) | (go_at_call 20; refine (allows_calls _ _ _ _ _).mono ?_; rintro e w9 ⟨rfl, hb9⟩) | (go_at_call 21; refine (within_any _ _ _ _ _ _ _ (by first | exact hx | exact hy) _).mono ?_; rintro e w9 ⟨rfl, hb9⟩)); first | exact ⟨rfl, rfl, hS⟩ | exact ⟨rfl, rfl, holds_old hS hb9⟩); rfl)
      apply walked_nil
      intro wS hS
      go_wp2
      go_returns
      exact ⟨rfl, hS.1⟩

theorem permLeast_walk (a0 a1 a2 b0 b1 b2 c0 c1 c2 : Bool) (k : Int) (_ : (Lit.int .i64 k).wf = true) (w : World) :
    Calls Try.prog 5 #[.agg #[.bool a0, .bool a1, .bool a2], .agg #[.bool b0, .bool b1, .bool b2], .agg #[.bool c0, .bool c1, .bool c2], .int .i64 k] w (RetB w (.bool true)) :=
  permLeast_calls _ _ _ _ _ _ _ _ _ _ _

end Go.Proofs.Ytbnbchclbblbkaa
