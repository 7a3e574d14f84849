/- The contract of the document's Decode. -/
import Derived.Test.YtlbehhbicmmdoaaDescSplit
namespace Go.Proofs.Ytlbehhbicmmdoaa
set_option linter.unusedVariables false
set_option linter.unusedSimpArgs false
open Go.RowKit

/-- A word without its address. -/
def lowN (x : Nat) : Nat := x - decA x
theorem low_less (x : Nat) : lessN x 281474976706560 = lowN x := by
  have h0 : lowN x = 2 ^ 48 * (x / 2 ^ 48) + x % 2 ^ 12 := by
    unfold lowN decA
    simp only [Nat.reducePow]
    omega
  have hlt : x % 2 ^ 12 < 2 ^ 48 := Nat.lt_of_lt_of_le (Nat.mod_lt _ (by decide)) (by decide)
  rw [h0, Nat.two_pow_add_eq_or_of_lt hlt]
  refine Nat.eq_of_testBit_eq fun i => ?_
  have hm : (281474976706560 : Nat) = maskN 12 36 := by decide
  rw [hm, lessN_bit, maskN_bit, Nat.testBit_or, Nat.testBit_two_pow_mul, Nat.testBit_mod_two_pow, Nat.testBit_div_two_pow]
  by_cases h1 : i < 12
  · have a : ¬ 12 ≤ i := by omega
    have b : ¬ 48 ≤ i := by omega
    simp [h1, a, b]
  · have a : 12 ≤ i := by omega
    by_cases h2 : 48 ≤ i
    · have c : ¬ i < 48 := by omega
      rw [show i - 48 + 48 = i by omega]
      simp [h1, h2, a, c]
    · have c : i < 48 := by omega
      simp [h1, h2, a, c]
theorem low_parts (lv : Int) (x : Nat) (hx : x < 18446744073709551616) : lowN x < 18446744073709551616 ∧ decK lv (lowN x) = decK lv x ∧ decA (lowN x) = 0 ∧ bitB (lowN x) 6 = bitB x 6 ∧ bitB (lowN x) 7 = bitB x 7 ∧ bitB (lowN x) 8 = bitB x 8 ∧ decS (lowN x) = decS x := by
  have hb : ∀ i : Nat, i = 1 ∨ i = 6 ∨ i = 7 ∨ i = 8 → bitB (lowN x) i = bitB x i := by
    intro i hi
    unfold bitB
    have : lowN x / 2 ^ i % 2 = x / 2 ^ i % 2 := by
      unfold lowN decA
      rcases hi with rfl | rfl | rfl | rfl <;> simp only [Nat.reducePow] <;> omega
    rw [this]
  refine ⟨by unfold lowN; omega, ?_, ?_, hb 6 (by simp), hb 7 (by simp), hb 8 (by simp), ?_⟩
  · unfold decK; rw [hb 1 (by simp)]
  · unfold lowN decA; omega
  · unfold lowN decA decS; omega

theorem and_one (x : Nat) (hx : x < 18446744073709551616) : bits .and .u64 (x : Int) 1 = ((x % 2 : Nat) : Int) := by
  rw [show (1 : Int) = ((1 : Nat) : Int) from rfl, bits_and_u64_nat x 1 hx (by decide), Nat.and_one_is_mod]

set_option maxHeartbeats 8000000 in
set_option maxRecDepth 100000 in
theorem refDecode_calls (st lv : Int) (x : Nat) (w : World) (hx : x < 18446744073709551616) :
    Calls Try.prog 49 #[.int .i64 st, .int .i64 lv, .int .u64 (x : Nat)] w (RetB w (.tuple #[decV st lv x, .int .i64 (decE st lv x)])) := by
  by_cases hp : Place st lv
  case neg =>
    obtain ⟨h1, h2⟩ := dec_arg (x := x) hp
    rw [h1, h2]
    clear h1 h2 hx
    by_cases g1 : st < 1
    · clear hp
      go_enter Try.func49, Try.ntmps49
      go_upto_region 1 with (fail)
      have hH := holds_new #[.int .i64 0, .int .u64 0, .bool false, .bool false, .bool false, .int .i64 0] 48 (holds_nil w)
      generalize w.alloc (.cells #[.int .i64 0, .int .u64 0, .bool false, .bool false, .bool false, .int .i64 0] 48) = W at *
      obtain ⟨s0, s1, _⟩ := id hH
      obtain ⟨k1, f1, z1⟩ := of_block s1
      go_wp2_with fail
      rw [six_set s1 rfl]
      have ho := old_put hH.1 (.cells #[.int .i64 0, .int .u64 0, .bool false, .bool false, .bool false, .int .i64 0] 48) (Nat.le_refl w.heap.size)
      have s9 := putB_same (.cells #[.int .i64 0, .int .u64 0, .bool false, .bool false, .bool false, .int .i64 0] 48) z1
      generalize putB _ w.heap.size (.cells #[.int .i64 0, .int .u64 0, .bool false, .bool false, .bool false, .int .i64 0] 48) = W9 at *
      obtain ⟨k9, f9, z9⟩ := of_block s9
      refine bodyPost_ret (by simp [results, Try.results49, go_sem, k9]; try rfl) rfl ?_
      exact ⟨rfl, ho⟩
    by_cases g2 : 2 < st
    · clear hp
      go_enter Try.func49, Try.ntmps49
      go_upto_region 1 with (fail)
      have hH := holds_new #[.int .i64 0, .int .u64 0, .bool false, .bool false, .bool false, .int .i64 0] 48 (holds_nil w)
      generalize w.alloc (.cells #[.int .i64 0, .int .u64 0, .bool false, .bool false, .bool false, .int .i64 0] 48) = W at *
      obtain ⟨s0, s1, _⟩ := id hH
      obtain ⟨k1, f1, z1⟩ := of_block s1
      go_wp2_with fail
      rw [six_set s1 rfl]
      have ho := old_put hH.1 (.cells #[.int .i64 0, .int .u64 0, .bool false, .bool false, .bool false, .int .i64 0] 48) (Nat.le_refl w.heap.size)
      have s9 := putB_same (.cells #[.int .i64 0, .int .u64 0, .bool false, .bool false, .bool false, .int .i64 0] 48) z1
      generalize putB _ w.heap.size (.cells #[.int .i64 0, .int .u64 0, .bool false, .bool false, .bool false, .int .i64 0] 48) = W9 at *
      obtain ⟨k9, f9, z9⟩ := of_block s9
      refine bodyPost_ret (by simp [results, Try.results49, go_sem, k9]; try rfl) rfl ?_
      exact ⟨rfl, ho⟩
    by_cases g3 : lv < 0
    · clear hp
      go_enter Try.func49, Try.ntmps49
      go_upto_region 1 with (fail)
      have hH := holds_new #[.int .i64 0, .int .u64 0, .bool false, .bool false, .bool false, .int .i64 0] 48 (holds_nil w)
      generalize w.alloc (.cells #[.int .i64 0, .int .u64 0, .bool false, .bool false, .bool false, .int .i64 0] 48) = W at *
      obtain ⟨s0, s1, _⟩ := id hH
      obtain ⟨k1, f1, z1⟩ := of_block s1
      go_wp2_with fail
      rw [six_set s1 rfl]
      have ho := old_put hH.1 (.cells #[.int .i64 0, .int .u64 0, .bool false, .bool false, .bool false, .int .i64 0] 48) (Nat.le_refl w.heap.size)
      have s9 := putB_same (.cells #[.int .i64 0, .int .u64 0, .bool false, .bool false, .bool false, .int .i64 0] 48) z1
      generalize putB _ w.heap.size (.cells #[.int .i64 0, .int .u64 0, .bool false, .bool false, .bool false, .int .i64 0] 48) = W9 at *
      obtain ⟨k9, f9, z9⟩ := of_block s9
      refine bodyPost_ret (by simp [results, Try.results49, go_sem, k9]; try rfl) rfl ?_
      exact ⟨rfl, ho⟩
    have g4 : 3 < lv := by unfold Place at hp; omega
    clear hp
    go_enter Try.func49, Try.ntmps49
    go_upto_region 1 with (fail)
    have hH := holds_new #[.int .i64 0, .int .u64 0, .bool false, .bool false, .bool false, .int .i64 0] 48 (holds_nil w)
    generalize w.alloc (.cells #[.int .i64 0, .int .u64 0, .bool false, .bool false, .bool false, .int .i64 0] 48) = W at *
    obtain ⟨s0, s1, _⟩ := id hH
    obtain ⟨k1, f1, z1⟩ := of_block s1
    go_wp2_with fail
    rw [six_set s1 rfl]
    have ho := old_put hH.1 (.cells #[.int .i64 0, .int .u64 0, .bool false, .bool false, .bool false, .int .i64 0] 48) (Nat.le_refl w.heap.size)
    have s9 := putB_same (.cells #[.int .i64 0, .int .u64 0, .bool false, .bool false, .bool false, .int .i64 0] 48) z1
    generalize putB _ w.heap.size (.cells #[.int .i64 0, .int .u64 0, .bool false, .bool false, .bool false, .int .i64 0] 48) = W9 at *
    obtain ⟨k9, f9, z9⟩ := of_block s9
    refine bodyPost_ret (by simp [results, Try.results49, go_sem, k9]; try rfl) rfl ?_
    exact ⟨rfl, ho⟩
  case pos =>
  have q1 : 1 ≤ st := by unfold Place at hp; omega
  have q2 : st ≤ 2 := by unfold Place at hp; omega
  have q3 : 0 ≤ lv := hp.2.1
  have q4 : lv ≤ 3 := hp.2.2
  have ha1 := and_one x hx
  have hr := dec_ref st lv x
  generalize hV : decV st lv x = V
  generalize hE : decE st lv x = E at *
  have HV := Lib.hid (And.intro hV hE)
  have HP := Lib.hid hp
  unfold refE at hr
  rw [if_neg (not_not_intro hp)] at hr
  have hzz := @dec_zero st lv x hp
  have hyy := @dec_yes st lv x hp
  clear hp hV hE
  by_cases h2 : x % 2 = 0
  case pos =>
    rw [if_pos h2] at hr
    obtain rfl : E = 0 := hr
    obtain rfl : V = zeroV := HV.out.1.symm.trans (hzz h2).1
    rw [h2] at ha1
    clear h2 hzz hyy
    go_enter Try.func49, Try.ntmps49
    go_upto_region 1 with (fail)
    have hH := holds_new #[.int .i64 0, .int .u64 0, .bool false, .bool false, .bool false, .int .i64 0] 48 (holds_nil w)
    generalize w.alloc (.cells #[.int .i64 0, .int .u64 0, .bool false, .bool false, .bool false, .int .i64 0] 48) = W at *
    obtain ⟨s0, s1, _⟩ := id hH
    obtain ⟨k1, f1, z1⟩ := of_block s1
    go_wp2_with fail
    rw [six_set s1 rfl]
    have ho := old_put hH.1 (.cells #[.int .i64 0, .int .u64 0, .bool false, .bool false, .bool false, .int .i64 0] 48) (Nat.le_refl w.heap.size)
    have s9 := putB_same (.cells #[.int .i64 0, .int .u64 0, .bool false, .bool false, .bool false, .int .i64 0] 48) z1
    generalize putB _ w.heap.size (.cells #[.int .i64 0, .int .u64 0, .bool false, .bool false, .bool false, .int .i64 0] 48) = W9 at *
    obtain ⟨k9, f9, z9⟩ := of_block s9
    refine bodyPost_ret (by simp [results, Try.results49, go_sem, k9]; try rfl) rfl ?_
    exact ⟨rfl, ho⟩
  case neg =>
  rw [if_neg h2] at hr
  have h21 : x % 2 = 1 := by omega
  rw [h21] at ha1
  have hyy := hyy h2
  clear h2 h21 hzz
  have hsp := fun W => split_calls lv x W hx
  obtain ⟨l1, l2, l3, l4, l5, l6, l7⟩ := low_parts lv x hx
  have hsl := fun W => split_calls lv (lowN x) W l1
  rw [l2, l3, l4, l5, l6, l7] at hsl
  have hless : bits .andNot .u64 (x : Int) 281474976706560 = ((lowN x : Nat) : Int) := by
    rw [← low_less]; exact bits_andNot_u64_nat x 281474976706560 hx (by decide)
  have hlow : lowN x = x - decA x := rfl
  clear l1 l2 l3 l4 l5 l6 l7
  have hk0 : decK lv x ≠ 0 := by have := decK_range lv x; omega
  generalize decK lv x = K at *
  generalize decA x = A at *
  generalize bitB x 6 = q6 at *
  generalize bitB x 7 = q7 at *
  generalize bitB x 8 = q8 at *
  generalize decS x = qs at *
  generalize lowN x = low at *
  have he1 := refEncode_calls st lv K A q6 q7 q8 (qs : Nat)
  have he2 : ∀ w : World, Calls Try.prog 44 #[.int .i64 st, .int .i64 lv, .agg #[.int .i64 K, .int .u64 0, .bool q6, .bool q7, .bool q8, .int .i64 (qs : Nat)]] w _ := refEncode_calls st lv K 0 q6 q7 q8 (qs : Nat)
  replace hsl : ∀ W : World, Calls Try.prog 75 #[.int .i64 lv, .int .u64 (low : Nat)] W (RetB W (.agg #[.int .i64 K, .int .u64 0, .bool q6, .bool q7, .bool q8, .int .i64 (qs : Nat)])) := hsl
  have w1 : encW st lv K A q6 q7 q8 (qs : Nat) = if checkC st lv K A q6 q7 q8 (qs : Nat) = 0 then wordN K A q6 q7 q8 qs else 0 := by
    unfold encW
    by_cases c : checkC st lv K A q6 q7 q8 (qs : Nat) = 0
    · rw [if_pos ⟨c, hk0⟩, if_pos c]; rfl
    · rw [if_neg (fun e => c e.1), if_neg c]
  have w2 : encW st lv K 0 q6 q7 q8 (qs : Nat) = if checkC st lv K 0 q6 q7 q8 (qs : Nat) = 0 then wordN K 0 q6 q7 q8 qs else 0 := by
    unfold encW
    by_cases c : checkC st lv K 0 q6 q7 q8 (qs : Nat) = 0
    · rw [if_pos ⟨c, hk0⟩, if_pos c]; rfl
    · rw [if_neg (fun e => c e.1), if_neg c]
  rw [w1] at he1
  rw [w2] at he2
  generalize wordN K A q6 q7 q8 qs = V1 at *
  generalize wordN K 0 q6 q7 q8 qs = V2 at *
  generalize checkC st lv K A q6 q7 q8 (qs : Nat) = C1 at *
  generalize checkC st lv K 0 q6 q7 q8 (qs : Nat) = C2 at *
  rw [← hlow] at hr
  clear w1 w2 hlow hk0
  have HR := Lib.hid hr
  clear hr
  go_enter Try.func49, Try.ntmps49
  go_upto_region 1 with (fail)
  have hH := holds_new #[.int .i64 0, .int .u64 0, .bool false, .bool false, .bool false, .int .i64 0] 48 (holds_nil w)
  generalize w.alloc (.cells #[.int .i64 0, .int .u64 0, .bool false, .bool false, .bool false, .int .i64 0] 48) = W at *
  obtain ⟨s0, s1, _⟩ := id hH
  obtain ⟨k1, f1, z1⟩ := of_block s1
  go_upto_region 6 with (first | ((go_at_call 75); (with_reducible refine (hsp _).mono ?_); rintro e w9 ⟨rfl, hb9⟩; have hH := holds_old hH hb9; obtain ⟨s0, s1, _⟩ := id hH; obtain ⟨k1, f1, z1⟩ := of_block s1))
  have hH := holds_new #[.int .i64 K, .int .u64 (A : Nat), .bool q6, .bool q7, .bool q8, .int .i64 (qs : Nat)] 48 hH
  have hzp := z1
  generalize World.alloc _ (.cells #[.int .i64 K, .int .u64 (A : Nat), .bool q6, .bool q7, .bool q8, .int .i64 (qs : Nat)] 48) = W2 at *
  have hH : Holds w [(w9.heap.size, #[.int .i64 K, .int .u64 (A : Nat), .bool q6, .bool q7, .bool q8, .int .i64 (qs : Nat)], 48), (w.heap.size, #[.int .i64 0, .int .u64 0, .bool false, .bool false, .bool false, .int .i64 0], 48)] W2 := hH
  generalize w9.heap.size = p at *
  clear s0 s1 k1 f1 z1
  obtain ⟨s0, s1, s2, _⟩ := id hH
  obtain ⟨k1, f1, z1⟩ := of_block s1
  obtain ⟨k2, f2, z2⟩ := of_block s2
  by_cases g1 : C1 = 0 ∧ V1 = x
  case pos =>
    obtain ⟨g2, g3⟩ := g1
    have hr := HR.out
    rw [if_pos ⟨g2, g3⟩] at hr
    obtain rfl : E = 0 := hr
    obtain rfl : V = descV K A q6 q7 q8 (qs : Nat) := HV.out.1.symm.trans (hyy HV.out.2).1
    rw [g2, if_pos rfl, g3] at he1
    clear g2 g3 hyy he2
    go_wp2_with (first | ((go_at_call 44); (with_reducible refine (he1 _).mono ?_); rintro e w9 ⟨rfl, hb9⟩; have hH := holds_old hH hb9; obtain ⟨s0, s1, s2, _⟩ := id hH; obtain ⟨k1, f1, z1⟩ := of_block s1; obtain ⟨k2, f2, z2⟩ := of_block s2))
    rw [six_set s2 rfl]
    have ho := old_put hH.1 (.cells #[.int .i64 K, .int .u64 (A : Nat), .bool q6, .bool q7, .bool q8, .int .i64 (qs : Nat)] 48) (Nat.le_refl w.heap.size)
    have s9 := putB_same (.cells #[.int .i64 K, .int .u64 (A : Nat), .bool q6, .bool q7, .bool q8, .int .i64 (qs : Nat)] 48) z2
    generalize putB _ w.heap.size (.cells #[.int .i64 K, .int .u64 (A : Nat), .bool q6, .bool q7, .bool q8, .int .i64 (qs : Nat)] 48) = W9 at *
    obtain ⟨k9, f9, z9⟩ := of_block s9
    refine bodyPost_ret (by simp [results, Try.results49, go_sem, k9]; try rfl) rfl ?_
    exact ⟨rfl, ho⟩
  case neg =>
  have hr := HR.out
  rw [if_neg g1] at hr
  obtain ⟨X1, hX⟩ : ∃ X1, X1 = (if C1 = 0 then V1 else 0) := ⟨_, rfl⟩
  rw [← hX] at he1
  have hg1 : ((C1 == 0) && ((X1 : Int) == (x : Int))) = false := by
    rw [hX]
    by_cases c : C1 = 0
    · rw [if_pos c]
      have : ¬ V1 = x := fun e => g1 ⟨c, e⟩
      rw [Bool.and_eq_false_iff]; right
      rw [beq_eq_false_iff_ne]; omega
    · rw [Bool.and_eq_false_iff]; left
      rw [beq_eq_false_iff_ne]; exact c
  clear hX g1
  have HX := Lib.hid hg1
  clear hg1
  obtain ⟨X2, hX2⟩ : ∃ X2, X2 = (if C2 = 0 then V2 else 0) := ⟨_, rfl⟩
  rw [← hX2] at he2
  have hfin : (if (C2 = 0 ∧ V2 = low) ∧ topN st ≤ A then (2 : Int) else 4) = if ((C2 == 0) && ((X2 : Int) == (low : Int)) && decide (topN st ≤ A)) = true then 2 else 4 := by
    rw [hX2]
    by_cases c : C2 = 0
    · rw [if_pos c]
      have e1 : (((V2 : Nat) : Int) == (low : Int)) = decide (V2 = low) := by
        by_cases d : V2 = low
        · rw [decide_eq_true d, d]; simp
        · rw [decide_eq_false d, beq_eq_false_iff_ne]; omega
      rw [e1]; simp [c]
    · simp [c]
  rw [hfin] at hr
  clear hfin hX2
  have HF := Lib.hid hr
  clear hr
  have hTop := refTop_calls st
  go_upto_region 7 with (first | ((go_at_call 44); (with_reducible refine (he1 _).mono ?_); rintro e w9 ⟨rfl, hb9⟩; have hH := holds_old hH hb9; obtain ⟨s0, s1, s2, _⟩ := id hH; obtain ⟨k1, f1, z1⟩ := of_block s1; obtain ⟨k2, f2, z2⟩ := of_block s2))
  go_cut [49] (fun s49 wx => s49 = .bool false ∧ Holds w [(p, #[.int .i64 K, .int .u64 (A : Nat), .bool q6, .bool q7, .bool q8, .int .i64 (qs : Nat)], 48), (w.heap.size, #[.int .i64 0, .int .u64 0, .bool false, .bool false, .bool false, .int .i64 0], 48)] wx)
  case first =>
    cases hc : (C1 == 0)
    · go_wp2
      go_meet
      exact ⟨rfl, hH⟩
    · obtain rfl : C1 = 0 := by simpa using hc
      have hx1 : ((X1 : Int) == (x : Int)) = false := by have := HX.out; rwa [hc, Bool.true_and] at this
      clear hc
      go_wp2
      go_meet
      exact ⟨rfl, hH⟩
  case rest =>
  obtain ⟨rfl, hH⟩ := hcut
  clear HX he1 hsp s0 s1 s2 k1 f1 z1 k2 f2 z2
  obtain ⟨s0, s1, s2, _⟩ := id hH
  obtain ⟨k1, f1, z1⟩ := of_block s1
  obtain ⟨k2, f2, z2⟩ := of_block s2
  go_upto_region 11 with (first | ((go_at_call 75); (with_reducible refine (hsl _).mono ?_); rintro e w9 ⟨rfl, hb9⟩; have hH := holds_old hH hb9; obtain ⟨s0, s1, s2, _⟩ := id hH; obtain ⟨k1, f1, z1⟩ := of_block s1; obtain ⟨k2, f2, z2⟩ := of_block s2) | ((go_at_call 44); (with_reducible refine (he2 _).mono ?_); rintro e w9 ⟨rfl, hb9⟩; have hH := holds_old hH hb9; obtain ⟨s0, s1, s2, _⟩ := id hH; obtain ⟨k1, f1, z1⟩ := of_block s1; obtain ⟨k2, f2, z2⟩ := of_block s2))
  clear he2 hsl
  cases hc : (C2 == 0)
  case false =>
    have hr := HF.out
    rw [hc, Bool.false_and, Bool.false_and, if_neg (by decide)] at hr
    obtain rfl : E = 4 := hr
    obtain rfl : V = zeroV := HV.out.1.symm.trans (dec_bad 4 HV.out.2 (by decide)).1
    refine wp_region_walked (S := Holds w [(p, #[.int .i64 K, .int .u64 (A : Nat), .bool q6, .bool q7, .bool q8, .int .i64 (qs : Nat)], 48), (w.heap.size, #[.int .i64 0, .int .u64 0, .bool false, .bool false, .bool false, .int .i64 0], 48)]) (by kernel_rfl) (by kernel_rfl) (holds_drew hH) ?_
    repeat (apply walked_cons; (first | exact gives_and rfl rfl rfl rfl | exact gives_or rfl rfl rfl rfl | (focus (intro wS hS; obtain ⟨s0, s1, s2, _⟩ := id hS; obtain ⟨k1, f1, z1⟩ := of_block s1; obtain ⟨k2, f2, z2⟩ := of_block s2; go_wp2_with ((go_at_call 51; (with_reducible refine (hTop _).mono ?_); rintro e w9 ⟨rfl, hb9⟩)); (first | exact ⟨rfl, rfl, hS⟩ | exact ⟨rfl, rfl, holds_old hS hb9⟩); done)) | (focus (apply gives_guard; (focus (first | exact wanted_yes rfl rfl rfl | exact wanted_no rfl rfl rfl | exact wanted_yes2 rfl rfl rfl | exact wanted_no2 rfl rfl rfl)); (focus (intro hx9; (try simp only [Bool.not_eq_true', Bool.and_eq_true, Bool.not_not] at hx9); (try obtain ⟨hx9, hy9⟩ := hx9); (try subst hy9); (try subst hx9); (first | exact gives_and rfl rfl rfl rfl | exact gives_or rfl rfl rfl rfl | (intro wS hS; obtain ⟨s0, s1, s2, _⟩ := id hS; obtain ⟨k1, f1, z1⟩ := of_block s1; obtain ⟨k2, f2, z2⟩ := of_block s2; go_wp2_with ((go_at_call 51; (with_reducible refine (hTop _).mono ?_); rintro e w9 ⟨rfl, hb9⟩)); (first | exact ⟨rfl, rfl, hS⟩ | exact ⟨rfl, rfl, holds_old hS hb9⟩); done))))))); rfl; (try simp only [Act.put, List.setIfInBounds_toArray, List.set_cons_succ, List.set_cons_zero]))
    apply walked_nil
    intro wS hH
    obtain ⟨s0, s1, s2, _⟩ := id hH
    obtain ⟨k1, f1, z1⟩ := of_block s1
    obtain ⟨k2, f2, z2⟩ := of_block s2
    go_wp2_with fail
    rw [six_set s2 rfl]
    have ho := old_put hH.1 (.cells #[.int .i64 0, .int .u64 0, .bool false, .bool false, .bool false, .int .i64 0] 48) (Nat.le_refl w.heap.size)
    have s9 := putB_same (.cells #[.int .i64 0, .int .u64 0, .bool false, .bool false, .bool false, .int .i64 0] 48) z2
    generalize putB _ w.heap.size (.cells #[.int .i64 0, .int .u64 0, .bool false, .bool false, .bool false, .int .i64 0] 48) = W9 at *
    obtain ⟨k9, f9, z9⟩ := of_block s9
    refine bodyPost_ret (by simp [results, Try.results49, go_sem, k9]; try rfl) rfl ?_
    exact ⟨rfl, ho⟩
  case true =>
  cases hx2 : ((X2 : Int) == (low : Int))
  case false =>
    have hr := HF.out
    rw [hc, hx2, Bool.and_false, Bool.false_and, if_neg (by decide)] at hr
    obtain rfl : E = 4 := hr
    obtain rfl : V = zeroV := HV.out.1.symm.trans (dec_bad 4 HV.out.2 (by decide)).1
    have HX2 := Lib.hid hx2
    clear hx2
    refine wp_region_walked (S := Holds w [(p, #[.int .i64 K, .int .u64 (A : Nat), .bool q6, .bool q7, .bool q8, .int .i64 (qs : Nat)], 48), (w.heap.size, #[.int .i64 0, .int .u64 0, .bool false, .bool false, .bool false, .int .i64 0], 48)]) (by kernel_rfl) (by kernel_rfl) (holds_drew hH) ?_
    iterate 6 (apply walked_cons; (first | exact gives_and rfl rfl rfl rfl | exact gives_or rfl rfl rfl rfl | (focus (intro wS hS; obtain ⟨s0, s1, s2, _⟩ := id hS; obtain ⟨k1, f1, z1⟩ := of_block s1; obtain ⟨k2, f2, z2⟩ := of_block s2; go_wp2_with (fail); (first | exact ⟨rfl, rfl, hS⟩ | exact ⟨rfl, rfl, holds_old hS hb9⟩); done)) | (focus (apply gives_guard; (focus (first | exact wanted_yes rfl rfl rfl | exact wanted_no rfl rfl rfl | exact wanted_yes2 rfl rfl rfl | exact wanted_no2 rfl rfl rfl)); (focus (intro hx9; (try simp only [Bool.not_eq_true', Bool.and_eq_true, Bool.not_not] at hx9); (try obtain ⟨hx9, hy9⟩ := hx9); (try subst hy9); (try subst hx9); (first | exact gives_and rfl rfl rfl rfl | exact gives_or rfl rfl rfl rfl | (intro wS hS; obtain ⟨s0, s1, s2, _⟩ := id hS; obtain ⟨k1, f1, z1⟩ := of_block s1; obtain ⟨k2, f2, z2⟩ := of_block s2; go_wp2_with (fail); (first | exact ⟨rfl, rfl, hS⟩ | exact ⟨rfl, rfl, holds_old hS hb9⟩); done))))))); rfl; (try simp only [Act.put, List.setIfInBounds_toArray, List.set_cons_succ, List.set_cons_zero]))
    rw [HX2.out]
    repeat (apply walked_cons; (first | exact gives_and rfl rfl rfl rfl | exact gives_or rfl rfl rfl rfl | (focus (intro wS hS; obtain ⟨s0, s1, s2, _⟩ := id hS; obtain ⟨k1, f1, z1⟩ := of_block s1; obtain ⟨k2, f2, z2⟩ := of_block s2; go_wp2_with ((go_at_call 51; (with_reducible refine (hTop _).mono ?_); rintro e w9 ⟨rfl, hb9⟩)); (first | exact ⟨rfl, rfl, hS⟩ | exact ⟨rfl, rfl, holds_old hS hb9⟩); done)) | (focus (apply gives_guard; (focus (first | exact wanted_yes rfl rfl rfl | exact wanted_no rfl rfl rfl | exact wanted_yes2 rfl rfl rfl | exact wanted_no2 rfl rfl rfl)); (focus (intro hx9; (try simp only [Bool.not_eq_true', Bool.and_eq_true, Bool.not_not] at hx9); (try obtain ⟨hx9, hy9⟩ := hx9); (try subst hy9); (try subst hx9); (first | exact gives_and rfl rfl rfl rfl | exact gives_or rfl rfl rfl rfl | (intro wS hS; obtain ⟨s0, s1, s2, _⟩ := id hS; obtain ⟨k1, f1, z1⟩ := of_block s1; obtain ⟨k2, f2, z2⟩ := of_block s2; go_wp2_with ((go_at_call 51; (with_reducible refine (hTop _).mono ?_); rintro e w9 ⟨rfl, hb9⟩)); (first | exact ⟨rfl, rfl, hS⟩ | exact ⟨rfl, rfl, holds_old hS hb9⟩); done))))))); rfl; (try simp only [Act.put, List.setIfInBounds_toArray, List.set_cons_succ, List.set_cons_zero]))
    apply walked_nil
    intro wS hH
    obtain ⟨s0, s1, s2, _⟩ := id hH
    obtain ⟨k1, f1, z1⟩ := of_block s1
    obtain ⟨k2, f2, z2⟩ := of_block s2
    go_wp2_with fail
    rw [six_set s2 rfl]
    have ho := old_put hH.1 (.cells #[.int .i64 0, .int .u64 0, .bool false, .bool false, .bool false, .int .i64 0] 48) (Nat.le_refl w.heap.size)
    have s9 := putB_same (.cells #[.int .i64 0, .int .u64 0, .bool false, .bool false, .bool false, .int .i64 0] 48) z2
    generalize putB _ w.heap.size (.cells #[.int .i64 0, .int .u64 0, .bool false, .bool false, .bool false, .int .i64 0] 48) = W9 at *
    obtain ⟨k9, f9, z9⟩ := of_block s9
    refine bodyPost_ret (by simp [results, Try.results49, go_sem, k9]; try rfl) rfl ?_
    exact ⟨rfl, ho⟩
  case true =>
  have HX2 := Lib.hid hx2
  clear hx2
  refine wp_region_walked (S := Holds w [(p, #[.int .i64 K, .int .u64 (A : Nat), .bool q6, .bool q7, .bool q8, .int .i64 (qs : Nat)], 48), (w.heap.size, #[.int .i64 0, .int .u64 0, .bool false, .bool false, .bool false, .int .i64 0], 48)]) (by kernel_rfl) (by kernel_rfl) (holds_drew hH) ?_
  iterate 6 (apply walked_cons; (first | exact gives_and rfl rfl rfl rfl | exact gives_or rfl rfl rfl rfl | (focus (intro wS hS; obtain ⟨s0, s1, s2, _⟩ := id hS; obtain ⟨k1, f1, z1⟩ := of_block s1; obtain ⟨k2, f2, z2⟩ := of_block s2; go_wp2_with (fail); (first | exact ⟨rfl, rfl, hS⟩ | exact ⟨rfl, rfl, holds_old hS hb9⟩); done)) | (focus (apply gives_guard; (focus (first | exact wanted_yes rfl rfl rfl | exact wanted_no rfl rfl rfl | exact wanted_yes2 rfl rfl rfl | exact wanted_no2 rfl rfl rfl)); (focus (intro hx9; (try simp only [Bool.not_eq_true', Bool.and_eq_true, Bool.not_not] at hx9); (try obtain ⟨hx9, hy9⟩ := hx9); (try subst hy9); (try subst hx9); (first | exact gives_and rfl rfl rfl rfl | exact gives_or rfl rfl rfl rfl | (intro wS hS; obtain ⟨s0, s1, s2, _⟩ := id hS; obtain ⟨k1, f1, z1⟩ := of_block s1; obtain ⟨k2, f2, z2⟩ := of_block s2; go_wp2_with (fail); (first | exact ⟨rfl, rfl, hS⟩ | exact ⟨rfl, rfl, holds_old hS hb9⟩); done))))))); rfl; (try simp only [Act.put, List.setIfInBounds_toArray, List.set_cons_succ, List.set_cons_zero]))
  rw [HX2.out]
  repeat (apply walked_cons; (first | exact gives_and rfl rfl rfl rfl | exact gives_or rfl rfl rfl rfl | (focus (intro wS hS; obtain ⟨s0, s1, s2, _⟩ := id hS; obtain ⟨k1, f1, z1⟩ := of_block s1; obtain ⟨k2, f2, z2⟩ := of_block s2; go_wp2_with ((go_at_call 51; (with_reducible refine (hTop _).mono ?_); rintro e w9 ⟨rfl, hb9⟩)); (first | exact ⟨rfl, rfl, hS⟩ | exact ⟨rfl, rfl, holds_old hS hb9⟩); done)) | (focus (apply gives_guard; (focus (first | exact wanted_yes rfl rfl rfl | exact wanted_no rfl rfl rfl | exact wanted_yes2 rfl rfl rfl | exact wanted_no2 rfl rfl rfl)); (focus (intro hx9; (try simp only [Bool.not_eq_true', Bool.and_eq_true, Bool.not_not] at hx9); (try obtain ⟨hx9, hy9⟩ := hx9); (try subst hy9); (try subst hx9); (first | exact gives_and rfl rfl rfl rfl | exact gives_or rfl rfl rfl rfl | (intro wS hS; obtain ⟨s0, s1, s2, _⟩ := id hS; obtain ⟨k1, f1, z1⟩ := of_block s1; obtain ⟨k2, f2, z2⟩ := of_block s2; go_wp2_with ((go_at_call 51; (with_reducible refine (hTop _).mono ?_); rintro e w9 ⟨rfl, hb9⟩)); (first | exact ⟨rfl, rfl, hS⟩ | exact ⟨rfl, rfl, holds_old hS hb9⟩); done))))))); rfl; (try simp only [Act.put, List.setIfInBounds_toArray, List.set_cons_succ, List.set_cons_zero]))
  apply walked_nil
  intro wS hH
  obtain ⟨s0, s1, s2, _⟩ := id hH
  obtain ⟨k1, f1, z1⟩ := of_block s1
  obtain ⟨k2, f2, z2⟩ := of_block s2
  have hr := HF.out
  rw [hc, HX2.out, Bool.and_self, Bool.true_and] at hr
  by_cases ht : topN st ≤ A
  · rw [decide_eq_true ht, if_pos rfl] at hr
    obtain rfl : E = 2 := hr
    obtain rfl : V = zeroV := HV.out.1.symm.trans (dec_bad 2 HV.out.2 (by decide)).1
    go_wp2_with fail
    · skip
      rw [six_set s2 rfl]
      have ho := old_put hH.1 (.cells #[.int .i64 0, .int .u64 0, .bool false, .bool false, .bool false, .int .i64 0] 48) (Nat.le_refl w.heap.size)
      have s9 := putB_same (.cells #[.int .i64 0, .int .u64 0, .bool false, .bool false, .bool false, .int .i64 0] 48) z2
      generalize putB _ w.heap.size (.cells #[.int .i64 0, .int .u64 0, .bool false, .bool false, .bool false, .int .i64 0] 48) = W9 at *
      obtain ⟨k9, f9, z9⟩ := of_block s9
      refine bodyPost_ret (by simp [results, Try.results49, go_sem, k9]; try rfl) rfl ?_
      exact ⟨rfl, ho⟩
    · rename_i h9
      exact absurd ht (by simpa using h9)
  · rw [decide_eq_false ht, if_neg (by decide)] at hr
    obtain rfl : E = 4 := hr
    obtain rfl : V = zeroV := HV.out.1.symm.trans (dec_bad 4 HV.out.2 (by decide)).1
    go_wp2_with fail
    rw [six_set s2 rfl]
    have ho := old_put hH.1 (.cells #[.int .i64 0, .int .u64 0, .bool false, .bool false, .bool false, .int .i64 0] 48) (Nat.le_refl w.heap.size)
    have s9 := putB_same (.cells #[.int .i64 0, .int .u64 0, .bool false, .bool false, .bool false, .int .i64 0] 48) z2
    generalize putB _ w.heap.size (.cells #[.int .i64 0, .int .u64 0, .bool false, .bool false, .bool false, .int .i64 0] 48) = W9 at *
    obtain ⟨k9, f9, z9⟩ := of_block s9
    refine bodyPost_ret (by simp [results, Try.results49, go_sem, k9]; try rfl) rfl ?_
    exact ⟨rfl, ho⟩

end Go.Proofs.Ytlbehhbicmmdoaa
