/- The statement DescStages: its walk. -/
import Derived.Test.YtajilhckhdohnaaDescBack
namespace Go.Proofs.Ytajilhckhdohnaa
set_option linter.unusedVariables false
set_option linter.unusedSimpArgs false
open Go.RowKit

theorem place_one {L : Int} (h0 : 0 ≤ L) (h3 : L ≤ 3) : Place 1 L ∧ Place 2 L := by unfold Place; omega

/-- The two stages part at the address alone. -/
theorem stages_part {L : Int} {x : Nat} (h0 : 0 ≤ L) (h3 : L ≤ 3) (hx : x % 2 ≠ 0) :
    (decE 2 L x = 0 → decE 1 L x = 0) ∧ (decE 1 L x = 0 → decE 2 L x ≠ 0 → decE 2 L x = 2 ∧ 4294967296 ≤ decA x) := by
  obtain ⟨p1, p2⟩ := place_one h0 h3
  have hk : decK L x ≠ 0 := by have := decK_range L x; omega
  have hc : ∀ a : Nat, a < 4294967296 → (checkC 1 L (decK L x) a (bitB x 6) (bitB x 7) (bitB x 8) (decS x : Nat) = 0 ↔ checkC 2 L (decK L x) a (bitB x 6) (bitB x 7) (bitB x 8) (decS x : Nat) = 0) := by
    intro a ha
    rw [check_zero hk, check_zero hk]
    have t1 : topN 1 = 1099511627776 := rfl
    have t2 : topN 2 = 4294967296 := rfl
    rw [t1, t2]
    constructor
    · rintro ⟨_, q⟩
      exact ⟨p2, q.1, q.2.1, q.2.2.1, q.2.2.2.1, q.2.2.2.2.1, q.2.2.2.2.2.1, q.2.2.2.2.2.2.1, q.2.2.2.2.2.2.2.1, q.2.2.2.2.2.2.2.2.1, ha, q.2.2.2.2.2.2.2.2.2.2.1, q.2.2.2.2.2.2.2.2.2.2.2⟩
    · rintro ⟨_, q⟩
      exact ⟨p1, q.1, q.2.1, q.2.2.1, q.2.2.2.1, q.2.2.2.2.1, q.2.2.2.2.2.1, q.2.2.2.2.2.2.1, q.2.2.2.2.2.2.2.1, q.2.2.2.2.2.2.2.2.1, by omega, q.2.2.2.2.2.2.2.2.2.2.1, q.2.2.2.2.2.2.2.2.2.2.2⟩
  have hb := hc 0 (by decide)
  have t1 : topN 1 = 1099511627776 := rfl
  have t2 : topN 2 = 4294967296 := rfl
  have hA := hc (decA x)
  unfold decE
  rw [if_neg (not_not_intro p1), if_neg (not_not_intro p2), if_neg hx, if_neg hx, t1, t2]
  generalize checkC 1 L (decK L x) (decA x) (bitB x 6) (bitB x 7) (bitB x 8) (decS x : Nat) = C1 at *
  generalize checkC 2 L (decK L x) (decA x) (bitB x 6) (bitB x 7) (bitB x 8) (decS x : Nat) = C2 at *
  generalize checkC 1 L (decK L x) 0 (bitB x 6) (bitB x 7) (bitB x 8) (decS x : Nat) = D1 at *
  generalize checkC 2 L (decK L x) 0 (bitB x 6) (bitB x 7) (bitB x 8) (decS x : Nat) = D2 at *
  generalize wordN (decK L x) 0 (bitB x 6) (bitB x 7) (bitB x 8) (decS x) + decA x = Y at *
  generalize decA x = A at *
  by_cases hq : D1 = 0 ∧ Y = x
  · have hq2 : D2 = 0 ∧ Y = x := ⟨hb.1 hq.1, hq.2⟩
    rw [if_neg (not_not_intro hq), if_neg (not_not_intro hq2)]
    by_cases ha : A < 4294967296
    · have hA := hA ha
      rw [if_neg (show ¬ 4294967296 ≤ A by omega), if_neg (show ¬ 1099511627776 ≤ A by omega)]
      by_cases c : C1 = 0
      · have c2 := hA.1 c
        rw [if_neg (not_not_intro c), if_neg (not_not_intro c2)]
        exact ⟨fun _ => rfl, fun _ h => absurd rfl h⟩
      · have c2 : ¬ C2 = 0 := fun e => c (hA.2 e)
        rw [if_pos c, if_pos c2]
        exact ⟨fun h => absurd h (by decide), fun h => absurd h (by decide)⟩
    · rw [if_pos (show 4294967296 ≤ A by omega)]
      exact ⟨fun h => absurd h (by decide), fun _ _ => ⟨rfl, by omega⟩⟩
  · have hq2 : ¬ (D2 = 0 ∧ Y = x) := fun e => hq ⟨hb.2 e.1, e.2⟩
    rw [if_pos hq, if_pos hq2]
    exact ⟨fun h => absurd h (by decide), fun h => absurd h (by decide)⟩

set_option maxHeartbeats 8000000 in
set_option maxRecDepth 100000 in
theorem descStages_walk (lv : Int) (_ : (Lit.int .i64 lv).wf = true) (vi : Int) (hv0 : (Lit.int .u64 vi).wf = true) (w : World) :
    Calls Try.prog 13 #[.int .i64 lv, .int .u64 vi] w (RetB w (.bool true)) := by
  obtain ⟨v, rfl, hv⟩ := wf_u64 hv0
  obtain ⟨L, hm3, h0, h3⟩ : ∃ L : Int, bits .and .i64 lv 3 = L ∧ 0 ≤ L ∧ L ≤ 3 := ⟨lv % 4, i64_mask3 lv, by omega, by omega⟩
  obtain ⟨U, hor, hU, hU2, hUe⟩ := or_one v hv
  clear hUe
  obtain ⟨p1, p2⟩ := place_one h0 h3
  have heq0 : ∀ w : World, (Op.equalIn 10000 47 (.agg #[.int .i64 0, .int .u64 0, .bool false, .bool false, .bool false, .int .i64 0]) (.agg #[.int .i64 0, .int .u64 0, .bool false, .bool false, .bool false, .int .i64 0])).run Try.prog w = .ok true w := fun w => by rw [eq_desc]; rfl
  have dA := fun w => decode_calls 1 L U w hU
  have dB := fun w => decode_calls 2 L U w hU
  obtain ⟨X, hX, hX1, hX2⟩ : ∃ X : Nat, bits .andNot .u64 (v : Int) 1 = (X : Int) ∧ X < 18446744073709551616 ∧ X % 2 = 0 := by
    refine ⟨lessN v 1, bits_andNot_u64_nat v 1 hv (by decide), lessN_lt v 1 hv, ?_⟩
    have h : (lessN v 1).testBit 0 = false := by rw [lessN_bit]; simp
    rw [Nat.testBit_zero] at h
    have := of_decide_eq_false h
    omega
  have dC := fun w => decode_calls 1 L X w hX1
  obtain ⟨c1, c2⟩ := dec_zero p1 hX2
  rw [c1, c2] at dC
  obtain ⟨q1, q2⟩ := stages_part h0 h3 hU2
  clear c1 c2 hX1 hX2
  have hy1 := @dec_yes 1 L U p1 hU2
  have hy2 := @dec_yes 2 L U p2 hU2
  have hb1 := @dec_bad 1 L U
  have hb2 := @dec_bad 2 L U
  by_cases e0 : decE 1 L U = 0
  · obtain ⟨v1, -⟩ := hy1 e0
    rw [v1, e0] at dA
    unfold descV at dA
    by_cases f0 : decE 2 L U = 0
    · obtain ⟨v2, -⟩ := hy2 f0
      rw [v2, f0] at dB
      unfold descV at dB
      clear q1 q2 hy1 hy2 hb1 hb2 e0 f0 v1 v2 hU hU2 p1 p2 h0 h3
      generalize decK L U = zk at *
      generalize decA U = za at *
      generalize bitB U 6 = z6 at *
      generalize bitB U 7 = z7 at *
      generalize bitB U 8 = z8 at *
      generalize decS U = zs at *
      have heq : ∀ w : World, (Op.equalIn 10000 47 (.agg #[.int .i64 zk, .int .u64 (za : Nat), .bool z6, .bool z7, .bool z8, .int .i64 (zs : Nat)]) (.agg #[.int .i64 zk, .int .u64 (za : Nat), .bool z6, .bool z7, .bool z8, .int .i64 (zs : Nat)])).run Try.prog w = .ok true w := fun w => by rw [eq_desc]; simp
      go_enter Try.func13, Try.ntmps13
      have hH := holds_nil w
      go_upto_region 3 with (first | ((go_at_call 36); (with_reducible refine (dA _).mono ?_); rintro e w9 ⟨rfl, hb9⟩; have hH := holds_old hH hb9))
      have hH := holds_new #[.int .i64 zk, .int .u64 (za : Nat), .bool z6, .bool z7, .bool z8, .int .i64 (zs : Nat)] 47 hH
      generalize w9.alloc (.cells #[.int .i64 zk, .int .u64 (za : Nat), .bool z6, .bool z7, .bool z8, .int .i64 (zs : Nat)] 47) = Wp1 at *
      generalize w9.heap.size = p1 at *
      obtain ⟨s0, s1, _⟩ := id hH
      obtain ⟨k1, f1, z1⟩ := of_block s1
      go_upto_region 6 with (first | (go_at_call 36; (with_reducible refine (dB _).mono ?_); rintro e w9 ⟨rfl, hb9⟩; have hH := holds_old hH hb9; obtain ⟨_, s1, _⟩ := id hH; obtain ⟨k1, f1, z1⟩ := of_block s1))
      have hH := holds_new #[.int .i64 zk, .int .u64 (za : Nat), .bool z6, .bool z7, .bool z8, .int .i64 (zs : Nat)] 47 hH
      generalize w9.alloc (.cells #[.int .i64 zk, .int .u64 (za : Nat), .bool z6, .bool z7, .bool z8, .int .i64 (zs : Nat)] 47) = Wp2 at *
      generalize w9.heap.size = p2 at *
      obtain ⟨s0, s1, s2, _⟩ := id hH
      obtain ⟨k1, f1, z1⟩ := of_block s1
      obtain ⟨k2, f2, z2⟩ := of_block s2
      refine wp_region_walked (S := Holds w [(p2, #[.int .i64 zk, .int .u64 (za : Nat), .bool z6, .bool z7, .bool z8, .int .i64 (zs : Nat)], 47), (p1, #[.int .i64 zk, .int .u64 (za : Nat), .bool z6, .bool z7, .bool z8, .int .i64 (zs : Nat)], 47)]) (by kernel_rfl) (by kernel_rfl) (holds_drew hH) ?_
      repeat (apply walked_cons; (first | exact gives_and rfl rfl rfl rfl | exact gives_or rfl rfl rfl rfl | (focus (intro wS hS; obtain ⟨s0, s1, s2, _⟩ := id hS; obtain ⟨k1, f1, z1⟩ := of_block s1; obtain ⟨k2, f2, z2⟩ := of_block s2; go_wp2_with ((go_at_call 34; (with_reducible refine (told_t2 _).mono ?_); rintro e w9 ⟨rfl, hb9⟩)); (first | exact ⟨rfl, rfl, hS⟩ | exact ⟨rfl, rfl, holds_old hS hb9⟩); done)) | (focus (apply gives_guard; (focus (first | exact wanted_yes rfl rfl rfl | exact wanted_no rfl rfl rfl | exact wanted_yes2 rfl rfl rfl | exact wanted_no2 rfl rfl rfl)); (focus (intro hx9; (try simp only [Bool.not_eq_true', Bool.and_eq_true, Bool.not_not] at hx9); (try obtain ⟨hx9, hy9⟩ := hx9); (try subst hy9); (try subst hx9); (first | exact gives_and rfl rfl rfl rfl | exact gives_or rfl rfl rfl rfl | (intro wS hS; obtain ⟨s0, s1, s2, _⟩ := id hS; obtain ⟨k1, f1, z1⟩ := of_block s1; obtain ⟨k2, f2, z2⟩ := of_block s2; go_wp2_with ((go_at_call 34; (with_reducible refine (told_t2 _).mono ?_); rintro e w9 ⟨rfl, hb9⟩)); (first | exact ⟨rfl, rfl, hS⟩ | exact ⟨rfl, rfl, holds_old hS hb9⟩); done))))))); rfl; (try simp only [Act.put, List.setIfInBounds_toArray, List.set_cons_succ, List.set_cons_zero]))
      apply walked_nil
      intro wS hH
      obtain ⟨s0, s1, s2, _⟩ := id hH
      obtain ⟨k1, f1, z1⟩ := of_block s1
      obtain ⟨k2, f2, z2⟩ := of_block s2
      go_upto_region 9 with (first | (go_at_call 36; (with_reducible refine (dC _).mono ?_); rintro e w9 ⟨rfl, hb9⟩; have hH := holds_old hH hb9; obtain ⟨_, s1, s2, _⟩ := id hH; obtain ⟨k1, f1, z1⟩ := of_block s1; obtain ⟨k2, f2, z2⟩ := of_block s2))
      have hH := holds_new #[.int .i64 0, .int .u64 0, .bool false, .bool false, .bool false, .int .i64 0] 47 hH
      generalize w9.alloc (.cells #[.int .i64 0, .int .u64 0, .bool false, .bool false, .bool false, .int .i64 0] 47) = Wp3 at *
      generalize w9.heap.size = p3 at *
      obtain ⟨s0, s1, s2, s3, _⟩ := id hH
      obtain ⟨k1, f1, z1⟩ := of_block s1
      obtain ⟨k2, f2, z2⟩ := of_block s2
      obtain ⟨k3, f3, z3⟩ := of_block s3
      go_wp2_with (first | (go_at_call 31; (with_reducible refine (descTold_calls _).mono ?_); rintro e w9 ⟨rfl, hb9⟩; have hH := holds_old hH hb9; obtain ⟨_, s1, s2, s3, _⟩ := id hH; obtain ⟨k1, f1, z1⟩ := of_block s1; obtain ⟨k2, f2, z2⟩ := of_block s2; obtain ⟨k3, f3, z3⟩ := of_block s3))
      go_ret
      exact ⟨rfl, hH.1⟩
    · obtain ⟨f2, hza⟩ := q2 e0 f0
      obtain ⟨v2, -⟩ := hb2 2 f2 (by decide)
      rw [v2, f2] at dB
      clear q1 q2 hy1 hy2 hb1 hb2 e0 f0 f2 v1 v2 hU hU2 p1 p2 h0 h3
      generalize decK L U = zk at *
      generalize decA U = za at *
      generalize bitB U 6 = z6 at *
      generalize bitB U 7 = z7 at *
      generalize bitB U 8 = z8 at *
      generalize decS U = zs at *
      have hzd : decide ((za : Int) < 4294967296) = false := decide_eq_false (by omega)
      have HZD := Lib.hid hzd
      clear hza hzd
      go_enter Try.func13, Try.ntmps13
      have hH := holds_nil w
      go_upto_region 3 with (first | ((go_at_call 36); (with_reducible refine (dA _).mono ?_); rintro e w9 ⟨rfl, hb9⟩; have hH := holds_old hH hb9))
      have hH := holds_new #[.int .i64 zk, .int .u64 (za : Nat), .bool z6, .bool z7, .bool z8, .int .i64 (zs : Nat)] 47 hH
      generalize w9.alloc (.cells #[.int .i64 zk, .int .u64 (za : Nat), .bool z6, .bool z7, .bool z8, .int .i64 (zs : Nat)] 47) = Wp1 at *
      generalize w9.heap.size = p1 at *
      obtain ⟨s0, s1, _⟩ := id hH
      obtain ⟨k1, f1, z1⟩ := of_block s1
      go_upto_region 6 with (first | (go_at_call 36; (with_reducible refine (dB _).mono ?_); rintro e w9 ⟨rfl, hb9⟩; have hH := holds_old hH hb9; obtain ⟨_, s1, _⟩ := id hH; obtain ⟨k1, f1, z1⟩ := of_block s1))
      have hH := holds_new #[.int .i64 0, .int .u64 0, .bool false, .bool false, .bool false, .int .i64 0] 47 hH
      generalize w9.alloc (.cells #[.int .i64 0, .int .u64 0, .bool false, .bool false, .bool false, .int .i64 0] 47) = Wp2 at *
      generalize w9.heap.size = p2 at *
      obtain ⟨s0, s1, s2, _⟩ := id hH
      obtain ⟨k1, f1, z1⟩ := of_block s1
      obtain ⟨k2, f2, z2⟩ := of_block s2
      refine wp_region_walked (S := Holds w [(p2, #[.int .i64 0, .int .u64 0, .bool false, .bool false, .bool false, .int .i64 0], 47), (p1, #[.int .i64 zk, .int .u64 (za : Nat), .bool z6, .bool z7, .bool z8, .int .i64 (zs : Nat)], 47)]) (by kernel_rfl) (by kernel_rfl) (holds_drew hH) ?_
      repeat (apply walked_cons; (first | exact gives_and rfl rfl rfl rfl | exact gives_or rfl rfl rfl rfl | (focus (intro wS hS; obtain ⟨s0, s1, s2, _⟩ := id hS; obtain ⟨k1, f1, z1⟩ := of_block s1; obtain ⟨k2, f2, z2⟩ := of_block s2; go_wp2_with ((go_at_call 34; (with_reducible refine (told_t2 _).mono ?_); rintro e w9 ⟨rfl, hb9⟩)); (first | exact ⟨rfl, rfl, hS⟩ | exact ⟨rfl, rfl, holds_old hS hb9⟩); done)) | (focus (apply gives_guard; (focus (first | exact wanted_yes rfl rfl rfl | exact wanted_no rfl rfl rfl | exact wanted_yes2 rfl rfl rfl | exact wanted_no2 rfl rfl rfl)); (focus (intro hx9; (try simp only [Bool.not_eq_true', Bool.and_eq_true, Bool.not_not] at hx9); (try obtain ⟨hx9, hy9⟩ := hx9); (try subst hy9); (try subst hx9); (first | exact gives_and rfl rfl rfl rfl | exact gives_or rfl rfl rfl rfl | (intro wS hS; obtain ⟨s0, s1, s2, _⟩ := id hS; obtain ⟨k1, f1, z1⟩ := of_block s1; obtain ⟨k2, f2, z2⟩ := of_block s2; go_wp2_with ((go_at_call 34; (with_reducible refine (told_t2 _).mono ?_); rintro e w9 ⟨rfl, hb9⟩)); (first | exact ⟨rfl, rfl, hS⟩ | exact ⟨rfl, rfl, holds_old hS hb9⟩); done))))))); rfl; (try simp only [Act.put, List.setIfInBounds_toArray, List.set_cons_succ, List.set_cons_zero]))
      apply walked_nil
      intro wS hH
      rw [HZD.out, Bool.and_false]
      clear HZD
      obtain ⟨s0, s1, s2, _⟩ := id hH
      obtain ⟨k1, f1, z1⟩ := of_block s1
      obtain ⟨k2, f2, z2⟩ := of_block s2
      go_upto_region 9 with (first | (go_at_call 36; (with_reducible refine (dC _).mono ?_); rintro e w9 ⟨rfl, hb9⟩; have hH := holds_old hH hb9; obtain ⟨_, s1, s2, _⟩ := id hH; obtain ⟨k1, f1, z1⟩ := of_block s1; obtain ⟨k2, f2, z2⟩ := of_block s2))
      have hH := holds_new #[.int .i64 0, .int .u64 0, .bool false, .bool false, .bool false, .int .i64 0] 47 hH
      generalize w9.alloc (.cells #[.int .i64 0, .int .u64 0, .bool false, .bool false, .bool false, .int .i64 0] 47) = Wp3 at *
      generalize w9.heap.size = p3 at *
      obtain ⟨s0, s1, s2, s3, _⟩ := id hH
      obtain ⟨k1, f1, z1⟩ := of_block s1
      obtain ⟨k2, f2, z2⟩ := of_block s2
      obtain ⟨k3, f3, z3⟩ := of_block s3
      go_wp2_with (first | (go_at_call 31; (with_reducible refine (descTold_calls _).mono ?_); rintro e w9 ⟨rfl, hb9⟩; have hH := holds_old hH hb9; obtain ⟨_, s1, s2, s3, _⟩ := id hH; obtain ⟨k1, f1, z1⟩ := of_block s1; obtain ⟨k2, f2, z2⟩ := of_block s2; obtain ⟨k3, f3, z3⟩ := of_block s3))
      go_ret
      exact ⟨rfl, hH.1⟩
  · have f0 : ¬ decE 2 L U = 0 := fun e => e0 (q1 e)
    have e24 : decE 1 L U = 2 ∨ decE 1 L U = 4 := by rcases dec_errs (x := U) p1 with h | h | h <;> omega
    have f24 : decE 2 L U = 2 ∨ decE 2 L U = 4 := by rcases dec_errs (x := U) p2 with h | h | h <;> omega
    rcases e24 with e1 | e1 <;> rcases f24 with f1 | f1
    · obtain ⟨v1, -⟩ := hb1 2 e1 (by decide)
      obtain ⟨v2, -⟩ := hb2 2 f1 (by decide)
      rw [v1, e1] at dA
      rw [v2, f1] at dB
      clear q1 q2 hy1 hy2 hb1 hb2 e0 f0 e1 f1 v1 v2 hU hU2 p1 p2 h0 h3
      go_enter Try.func13, Try.ntmps13
      have hH := holds_nil w
      go_upto_region 3 with (first | ((go_at_call 36); (with_reducible refine (dA _).mono ?_); rintro e w9 ⟨rfl, hb9⟩; have hH := holds_old hH hb9))
      have hH := holds_new #[.int .i64 0, .int .u64 0, .bool false, .bool false, .bool false, .int .i64 0] 47 hH
      generalize w9.alloc (.cells #[.int .i64 0, .int .u64 0, .bool false, .bool false, .bool false, .int .i64 0] 47) = Wp1 at *
      generalize w9.heap.size = p1 at *
      obtain ⟨s0, s1, _⟩ := id hH
      obtain ⟨k1, f1, z1⟩ := of_block s1
      go_upto_region 6 with (first | (go_at_call 36; (with_reducible refine (dB _).mono ?_); rintro e w9 ⟨rfl, hb9⟩; have hH := holds_old hH hb9; obtain ⟨_, s1, _⟩ := id hH; obtain ⟨k1, f1, z1⟩ := of_block s1))
      have hH := holds_new #[.int .i64 0, .int .u64 0, .bool false, .bool false, .bool false, .int .i64 0] 47 hH
      generalize w9.alloc (.cells #[.int .i64 0, .int .u64 0, .bool false, .bool false, .bool false, .int .i64 0] 47) = Wp2 at *
      generalize w9.heap.size = p2 at *
      obtain ⟨s0, s1, s2, _⟩ := id hH
      obtain ⟨k1, f1, z1⟩ := of_block s1
      obtain ⟨k2, f2, z2⟩ := of_block s2
      refine wp_region_walked (S := Holds w [(p2, #[.int .i64 0, .int .u64 0, .bool false, .bool false, .bool false, .int .i64 0], 47), (p1, #[.int .i64 0, .int .u64 0, .bool false, .bool false, .bool false, .int .i64 0], 47)]) (by kernel_rfl) (by kernel_rfl) (holds_drew hH) ?_
      repeat (apply walked_cons; (first | exact gives_and rfl rfl rfl rfl | exact gives_or rfl rfl rfl rfl | (focus (intro wS hS; obtain ⟨s0, s1, s2, _⟩ := id hS; obtain ⟨k1, f1, z1⟩ := of_block s1; obtain ⟨k2, f2, z2⟩ := of_block s2; go_wp2_with ((go_at_call 34; (with_reducible refine (told_t2 _).mono ?_); rintro e w9 ⟨rfl, hb9⟩)); (first | exact ⟨rfl, rfl, hS⟩ | exact ⟨rfl, rfl, holds_old hS hb9⟩); done)) | (focus (apply gives_guard; (focus (first | exact wanted_yes rfl rfl rfl | exact wanted_no rfl rfl rfl | exact wanted_yes2 rfl rfl rfl | exact wanted_no2 rfl rfl rfl)); (focus (intro hx9; (try simp only [Bool.not_eq_true', Bool.and_eq_true, Bool.not_not] at hx9); (try obtain ⟨hx9, hy9⟩ := hx9); (try subst hy9); (try subst hx9); (first | exact gives_and rfl rfl rfl rfl | exact gives_or rfl rfl rfl rfl | (intro wS hS; obtain ⟨s0, s1, s2, _⟩ := id hS; obtain ⟨k1, f1, z1⟩ := of_block s1; obtain ⟨k2, f2, z2⟩ := of_block s2; go_wp2_with ((go_at_call 34; (with_reducible refine (told_t2 _).mono ?_); rintro e w9 ⟨rfl, hb9⟩)); (first | exact ⟨rfl, rfl, hS⟩ | exact ⟨rfl, rfl, holds_old hS hb9⟩); done))))))); rfl; (try simp only [Act.put, List.setIfInBounds_toArray, List.set_cons_succ, List.set_cons_zero]))
      apply walked_nil
      intro wS hH
      obtain ⟨s0, s1, s2, _⟩ := id hH
      obtain ⟨k1, f1, z1⟩ := of_block s1
      obtain ⟨k2, f2, z2⟩ := of_block s2
      go_upto_region 9 with (first | (go_at_call 36; (with_reducible refine (dC _).mono ?_); rintro e w9 ⟨rfl, hb9⟩; have hH := holds_old hH hb9; obtain ⟨_, s1, s2, _⟩ := id hH; obtain ⟨k1, f1, z1⟩ := of_block s1; obtain ⟨k2, f2, z2⟩ := of_block s2))
      have hH := holds_new #[.int .i64 0, .int .u64 0, .bool false, .bool false, .bool false, .int .i64 0] 47 hH
      generalize w9.alloc (.cells #[.int .i64 0, .int .u64 0, .bool false, .bool false, .bool false, .int .i64 0] 47) = Wp3 at *
      generalize w9.heap.size = p3 at *
      obtain ⟨s0, s1, s2, s3, _⟩ := id hH
      obtain ⟨k1, f1, z1⟩ := of_block s1
      obtain ⟨k2, f2, z2⟩ := of_block s2
      obtain ⟨k3, f3, z3⟩ := of_block s3
      go_wp2_with (first | (go_at_call 31; (with_reducible refine (descTold_calls _).mono ?_); rintro e w9 ⟨rfl, hb9⟩; have hH := holds_old hH hb9; obtain ⟨_, s1, s2, s3, _⟩ := id hH; obtain ⟨k1, f1, z1⟩ := of_block s1; obtain ⟨k2, f2, z2⟩ := of_block s2; obtain ⟨k3, f3, z3⟩ := of_block s3))
      go_ret
      exact ⟨rfl, hH.1⟩
    · obtain ⟨v1, -⟩ := hb1 2 e1 (by decide)
      obtain ⟨v2, -⟩ := hb2 4 f1 (by decide)
      rw [v1, e1] at dA
      rw [v2, f1] at dB
      clear q1 q2 hy1 hy2 hb1 hb2 e0 f0 e1 f1 v1 v2 hU hU2 p1 p2 h0 h3
      go_enter Try.func13, Try.ntmps13
      have hH := holds_nil w
      go_upto_region 3 with (first | ((go_at_call 36); (with_reducible refine (dA _).mono ?_); rintro e w9 ⟨rfl, hb9⟩; have hH := holds_old hH hb9))
      have hH := holds_new #[.int .i64 0, .int .u64 0, .bool false, .bool false, .bool false, .int .i64 0] 47 hH
      generalize w9.alloc (.cells #[.int .i64 0, .int .u64 0, .bool false, .bool false, .bool false, .int .i64 0] 47) = Wp1 at *
      generalize w9.heap.size = p1 at *
      obtain ⟨s0, s1, _⟩ := id hH
      obtain ⟨k1, f1, z1⟩ := of_block s1
      go_upto_region 6 with (first | (go_at_call 36; (with_reducible refine (dB _).mono ?_); rintro e w9 ⟨rfl, hb9⟩; have hH := holds_old hH hb9; obtain ⟨_, s1, _⟩ := id hH; obtain ⟨k1, f1, z1⟩ := of_block s1))
      have hH := holds_new #[.int .i64 0, .int .u64 0, .bool false, .bool false, .bool false, .int .i64 0] 47 hH
      generalize w9.alloc (.cells #[.int .i64 0, .int .u64 0, .bool false, .bool false, .bool false, .int .i64 0] 47) = Wp2 at *
      generalize w9.heap.size = p2 at *
      obtain ⟨s0, s1, s2, _⟩ := id hH
      obtain ⟨k1, f1, z1⟩ := of_block s1
      obtain ⟨k2, f2, z2⟩ := of_block s2
      refine wp_region_walked (S := Holds w [(p2, #[.int .i64 0, .int .u64 0, .bool false, .bool false, .bool false, .int .i64 0], 47), (p1, #[.int .i64 0, .int .u64 0, .bool false, .bool false, .bool false, .int .i64 0], 47)]) (by kernel_rfl) (by kernel_rfl) (holds_drew hH) ?_
      repeat (apply walked_cons; (first | exact gives_and rfl rfl rfl rfl | exact gives_or rfl rfl rfl rfl | (focus (intro wS hS; obtain ⟨s0, s1, s2, _⟩ := id hS; obtain ⟨k1, f1, z1⟩ := of_block s1; obtain ⟨k2, f2, z2⟩ := of_block s2; go_wp2_with ((go_at_call 34; (with_reducible refine (told_t2 _).mono ?_); rintro e w9 ⟨rfl, hb9⟩)); (first | exact ⟨rfl, rfl, hS⟩ | exact ⟨rfl, rfl, holds_old hS hb9⟩); done)) | (focus (apply gives_guard; (focus (first | exact wanted_yes rfl rfl rfl | exact wanted_no rfl rfl rfl | exact wanted_yes2 rfl rfl rfl | exact wanted_no2 rfl rfl rfl)); (focus (intro hx9; (try simp only [Bool.not_eq_true', Bool.and_eq_true, Bool.not_not] at hx9); (try obtain ⟨hx9, hy9⟩ := hx9); (try subst hy9); (try subst hx9); (first | exact gives_and rfl rfl rfl rfl | exact gives_or rfl rfl rfl rfl | (intro wS hS; obtain ⟨s0, s1, s2, _⟩ := id hS; obtain ⟨k1, f1, z1⟩ := of_block s1; obtain ⟨k2, f2, z2⟩ := of_block s2; go_wp2_with ((go_at_call 34; (with_reducible refine (told_t2 _).mono ?_); rintro e w9 ⟨rfl, hb9⟩)); (first | exact ⟨rfl, rfl, hS⟩ | exact ⟨rfl, rfl, holds_old hS hb9⟩); done))))))); rfl; (try simp only [Act.put, List.setIfInBounds_toArray, List.set_cons_succ, List.set_cons_zero]))
      apply walked_nil
      intro wS hH
      obtain ⟨s0, s1, s2, _⟩ := id hH
      obtain ⟨k1, f1, z1⟩ := of_block s1
      obtain ⟨k2, f2, z2⟩ := of_block s2
      go_upto_region 9 with (first | (go_at_call 36; (with_reducible refine (dC _).mono ?_); rintro e w9 ⟨rfl, hb9⟩; have hH := holds_old hH hb9; obtain ⟨_, s1, s2, _⟩ := id hH; obtain ⟨k1, f1, z1⟩ := of_block s1; obtain ⟨k2, f2, z2⟩ := of_block s2))
      have hH := holds_new #[.int .i64 0, .int .u64 0, .bool false, .bool false, .bool false, .int .i64 0] 47 hH
      generalize w9.alloc (.cells #[.int .i64 0, .int .u64 0, .bool false, .bool false, .bool false, .int .i64 0] 47) = Wp3 at *
      generalize w9.heap.size = p3 at *
      obtain ⟨s0, s1, s2, s3, _⟩ := id hH
      obtain ⟨k1, f1, z1⟩ := of_block s1
      obtain ⟨k2, f2, z2⟩ := of_block s2
      obtain ⟨k3, f3, z3⟩ := of_block s3
      go_wp2_with (first | (go_at_call 31; (with_reducible refine (descTold_calls _).mono ?_); rintro e w9 ⟨rfl, hb9⟩; have hH := holds_old hH hb9; obtain ⟨_, s1, s2, s3, _⟩ := id hH; obtain ⟨k1, f1, z1⟩ := of_block s1; obtain ⟨k2, f2, z2⟩ := of_block s2; obtain ⟨k3, f3, z3⟩ := of_block s3))
      go_ret
      exact ⟨rfl, hH.1⟩
    · obtain ⟨v1, -⟩ := hb1 4 e1 (by decide)
      obtain ⟨v2, -⟩ := hb2 2 f1 (by decide)
      rw [v1, e1] at dA
      rw [v2, f1] at dB
      clear q1 q2 hy1 hy2 hb1 hb2 e0 f0 e1 f1 v1 v2 hU hU2 p1 p2 h0 h3
      go_enter Try.func13, Try.ntmps13
      have hH := holds_nil w
      go_upto_region 3 with (first | ((go_at_call 36); (with_reducible refine (dA _).mono ?_); rintro e w9 ⟨rfl, hb9⟩; have hH := holds_old hH hb9))
      have hH := holds_new #[.int .i64 0, .int .u64 0, .bool false, .bool false, .bool false, .int .i64 0] 47 hH
      generalize w9.alloc (.cells #[.int .i64 0, .int .u64 0, .bool false, .bool false, .bool false, .int .i64 0] 47) = Wp1 at *
      generalize w9.heap.size = p1 at *
      obtain ⟨s0, s1, _⟩ := id hH
      obtain ⟨k1, f1, z1⟩ := of_block s1
      go_upto_region 6 with (first | (go_at_call 36; (with_reducible refine (dB _).mono ?_); rintro e w9 ⟨rfl, hb9⟩; have hH := holds_old hH hb9; obtain ⟨_, s1, _⟩ := id hH; obtain ⟨k1, f1, z1⟩ := of_block s1))
      have hH := holds_new #[.int .i64 0, .int .u64 0, .bool false, .bool false, .bool false, .int .i64 0] 47 hH
      generalize w9.alloc (.cells #[.int .i64 0, .int .u64 0, .bool false, .bool false, .bool false, .int .i64 0] 47) = Wp2 at *
      generalize w9.heap.size = p2 at *
      obtain ⟨s0, s1, s2, _⟩ := id hH
      obtain ⟨k1, f1, z1⟩ := of_block s1
      obtain ⟨k2, f2, z2⟩ := of_block s2
      refine wp_region_walked (S := Holds w [(p2, #[.int .i64 0, .int .u64 0, .bool false, .bool false, .bool false, .int .i64 0], 47), (p1, #[.int .i64 0, .int .u64 0, .bool false, .bool false, .bool false, .int .i64 0], 47)]) (by kernel_rfl) (by kernel_rfl) (holds_drew hH) ?_
      repeat (apply walked_cons; (first | exact gives_and rfl rfl rfl rfl | exact gives_or rfl rfl rfl rfl | (focus (intro wS hS; obtain ⟨s0, s1, s2, _⟩ := id hS; obtain ⟨k1, f1, z1⟩ := of_block s1; obtain ⟨k2, f2, z2⟩ := of_block s2; go_wp2_with ((go_at_call 34; (with_reducible refine (told_t2 _).mono ?_); rintro e w9 ⟨rfl, hb9⟩)); (first | exact ⟨rfl, rfl, hS⟩ | exact ⟨rfl, rfl, holds_old hS hb9⟩); done)) | (focus (apply gives_guard; (focus (first | exact wanted_yes rfl rfl rfl | exact wanted_no rfl rfl rfl | exact wanted_yes2 rfl rfl rfl | exact wanted_no2 rfl rfl rfl)); (focus (intro hx9; (try simp only [Bool.not_eq_true', Bool.and_eq_true, Bool.not_not] at hx9); (try obtain ⟨hx9, hy9⟩ := hx9); (try subst hy9); (try subst hx9); (first | exact gives_and rfl rfl rfl rfl | exact gives_or rfl rfl rfl rfl | (intro wS hS; obtain ⟨s0, s1, s2, _⟩ := id hS; obtain ⟨k1, f1, z1⟩ := of_block s1; obtain ⟨k2, f2, z2⟩ := of_block s2; go_wp2_with ((go_at_call 34; (with_reducible refine (told_t2 _).mono ?_); rintro e w9 ⟨rfl, hb9⟩)); (first | exact ⟨rfl, rfl, hS⟩ | exact ⟨rfl, rfl, holds_old hS hb9⟩); done))))))); rfl; (try simp only [Act.put, List.setIfInBounds_toArray, List.set_cons_succ, List.set_cons_zero]))
      apply walked_nil
      intro wS hH
      obtain ⟨s0, s1, s2, _⟩ := id hH
      obtain ⟨k1, f1, z1⟩ := of_block s1
      obtain ⟨k2, f2, z2⟩ := of_block s2
      go_upto_region 9 with (first | (go_at_call 36; (with_reducible refine (dC _).mono ?_); rintro e w9 ⟨rfl, hb9⟩; have hH := holds_old hH hb9; obtain ⟨_, s1, s2, _⟩ := id hH; obtain ⟨k1, f1, z1⟩ := of_block s1; obtain ⟨k2, f2, z2⟩ := of_block s2))
      have hH := holds_new #[.int .i64 0, .int .u64 0, .bool false, .bool false, .bool false, .int .i64 0] 47 hH
      generalize w9.alloc (.cells #[.int .i64 0, .int .u64 0, .bool false, .bool false, .bool false, .int .i64 0] 47) = Wp3 at *
      generalize w9.heap.size = p3 at *
      obtain ⟨s0, s1, s2, s3, _⟩ := id hH
      obtain ⟨k1, f1, z1⟩ := of_block s1
      obtain ⟨k2, f2, z2⟩ := of_block s2
      obtain ⟨k3, f3, z3⟩ := of_block s3
      go_wp2_with (first | (go_at_call 31; (with_reducible refine (descTold_calls _).mono ?_); rintro e w9 ⟨rfl, hb9⟩; have hH := holds_old hH hb9; obtain ⟨_, s1, s2, s3, _⟩ := id hH; obtain ⟨k1, f1, z1⟩ := of_block s1; obtain ⟨k2, f2, z2⟩ := of_block s2; obtain ⟨k3, f3, z3⟩ := of_block s3))
      go_ret
      exact ⟨rfl, hH.1⟩
    · obtain ⟨v1, -⟩ := hb1 4 e1 (by decide)
      obtain ⟨v2, -⟩ := hb2 4 f1 (by decide)
      rw [v1, e1] at dA
      rw [v2, f1] at dB
      clear q1 q2 hy1 hy2 hb1 hb2 e0 f0 e1 f1 v1 v2 hU hU2 p1 p2 h0 h3
      go_enter Try.func13, Try.ntmps13
      have hH := holds_nil w
      go_upto_region 3 with (first | ((go_at_call 36); (with_reducible refine (dA _).mono ?_); rintro e w9 ⟨rfl, hb9⟩; have hH := holds_old hH hb9))
      have hH := holds_new #[.int .i64 0, .int .u64 0, .bool false, .bool false, .bool false, .int .i64 0] 47 hH
      generalize w9.alloc (.cells #[.int .i64 0, .int .u64 0, .bool false, .bool false, .bool false, .int .i64 0] 47) = Wp1 at *
      generalize w9.heap.size = p1 at *
      obtain ⟨s0, s1, _⟩ := id hH
      obtain ⟨k1, f1, z1⟩ := of_block s1
      go_upto_region 6 with (first | (go_at_call 36; (with_reducible refine (dB _).mono ?_); rintro e w9 ⟨rfl, hb9⟩; have hH := holds_old hH hb9; obtain ⟨_, s1, _⟩ := id hH; obtain ⟨k1, f1, z1⟩ := of_block s1))
      have hH := holds_new #[.int .i64 0, .int .u64 0, .bool false, .bool false, .bool false, .int .i64 0] 47 hH
      generalize w9.alloc (.cells #[.int .i64 0, .int .u64 0, .bool false, .bool false, .bool false, .int .i64 0] 47) = Wp2 at *
      generalize w9.heap.size = p2 at *
      obtain ⟨s0, s1, s2, _⟩ := id hH
      obtain ⟨k1, f1, z1⟩ := of_block s1
      obtain ⟨k2, f2, z2⟩ := of_block s2
      refine wp_region_walked (S := Holds w [(p2, #[.int .i64 0, .int .u64 0, .bool false, .bool false, .bool false, .int .i64 0], 47), (p1, #[.int .i64 0, .int .u64 0, .bool false, .bool false, .bool false, .int .i64 0], 47)]) (by kernel_rfl) (by kernel_rfl) (holds_drew hH) ?_
      repeat (apply walked_cons; (first | exact gives_and rfl rfl rfl rfl | exact gives_or rfl rfl rfl rfl | (focus (intro wS hS; obtain ⟨s0, s1, s2, _⟩ := id hS; obtain ⟨k1, f1, z1⟩ := of_block s1; obtain ⟨k2, f2, z2⟩ := of_block s2; go_wp2_with ((go_at_call 34; (with_reducible refine (told_t2 _).mono ?_); rintro e w9 ⟨rfl, hb9⟩)); (first | exact ⟨rfl, rfl, hS⟩ | exact ⟨rfl, rfl, holds_old hS hb9⟩); done)) | (focus (apply gives_guard; (focus (first | exact wanted_yes rfl rfl rfl | exact wanted_no rfl rfl rfl | exact wanted_yes2 rfl rfl rfl | exact wanted_no2 rfl rfl rfl)); (focus (intro hx9; (try simp only [Bool.not_eq_true', Bool.and_eq_true, Bool.not_not] at hx9); (try obtain ⟨hx9, hy9⟩ := hx9); (try subst hy9); (try subst hx9); (first | exact gives_and rfl rfl rfl rfl | exact gives_or rfl rfl rfl rfl | (intro wS hS; obtain ⟨s0, s1, s2, _⟩ := id hS; obtain ⟨k1, f1, z1⟩ := of_block s1; obtain ⟨k2, f2, z2⟩ := of_block s2; go_wp2_with ((go_at_call 34; (with_reducible refine (told_t2 _).mono ?_); rintro e w9 ⟨rfl, hb9⟩)); (first | exact ⟨rfl, rfl, hS⟩ | exact ⟨rfl, rfl, holds_old hS hb9⟩); done))))))); rfl; (try simp only [Act.put, List.setIfInBounds_toArray, List.set_cons_succ, List.set_cons_zero]))
      apply walked_nil
      intro wS hH
      obtain ⟨s0, s1, s2, _⟩ := id hH
      obtain ⟨k1, f1, z1⟩ := of_block s1
      obtain ⟨k2, f2, z2⟩ := of_block s2
      go_upto_region 9 with (first | (go_at_call 36; (with_reducible refine (dC _).mono ?_); rintro e w9 ⟨rfl, hb9⟩; have hH := holds_old hH hb9; obtain ⟨_, s1, s2, _⟩ := id hH; obtain ⟨k1, f1, z1⟩ := of_block s1; obtain ⟨k2, f2, z2⟩ := of_block s2))
      have hH := holds_new #[.int .i64 0, .int .u64 0, .bool false, .bool false, .bool false, .int .i64 0] 47 hH
      generalize w9.alloc (.cells #[.int .i64 0, .int .u64 0, .bool false, .bool false, .bool false, .int .i64 0] 47) = Wp3 at *
      generalize w9.heap.size = p3 at *
      obtain ⟨s0, s1, s2, s3, _⟩ := id hH
      obtain ⟨k1, f1, z1⟩ := of_block s1
      obtain ⟨k2, f2, z2⟩ := of_block s2
      obtain ⟨k3, f3, z3⟩ := of_block s3
      go_wp2_with (first | (go_at_call 31; (with_reducible refine (descTold_calls _).mono ?_); rintro e w9 ⟨rfl, hb9⟩; have hH := holds_old hH hb9; obtain ⟨_, s1, s2, s3, _⟩ := id hH; obtain ⟨k1, f1, z1⟩ := of_block s1; obtain ⟨k2, f2, z2⟩ := of_block s2; obtain ⟨k3, f3, z3⟩ := of_block s3))
      go_ret
      exact ⟨rfl, hH.1⟩

end Go.Proofs.Ytajilhckhdohnaa
