/- Texts on the way to the statement NestedWalks, several in one file: each part says what it is. -/
import Derived.Test.YtlbehhbicmmdoaaKWC
import Derived.Test.YtlbehhbicmmdoaaKWD
import Derived.Test.YtlbehhbicmmdoaaKWE
import Derived.Test.YtlbehhbicmmdoaaKWF
import Derived.Deep.AppendLies
namespace Go.Proofs.Ytlbehhbicmmdoaa
set_option linter.unusedVariables false
set_option linter.unusedSimpArgs false
open Go.RowKit
/-- A word without its address. -/
def lowN (x : Nat) : Nat := x - decA x
theorem low_less (x : Nat) : lessN x 281474976706560 = lowN x := by
  have h0 : lowN x = 2 ^ 48 * (x / 2 ^ 48) + x % 2 ^ 12 := by
    unfold lowN decA
    simp only [Nat.reducePow]
    omega
  have hlt : x % 2 ^ 12 < 2 ^ 48 := Nat.lt_of_lt_of_le (Nat.mod_lt _ (by decide)) (by decide)
  rw [h0, Nat.two_pow_add_eq_or_of_lt hlt]
  refine Nat.eq_of_testBit_eq fun i => ?_
  have hm : (281474976706560 : Nat) = maskN 12 36 := by decide
  rw [hm, lessN_bit, maskN_bit, Nat.testBit_or, Nat.testBit_two_pow_mul, Nat.testBit_mod_two_pow, Nat.testBit_div_two_pow]
  by_cases h1 : i < 12
  · have a : ¬ 12 ≤ i := by omega
    have b : ¬ 48 ≤ i := by omega
    simp [h1, a, b]
  · have a : 12 ≤ i := by omega
    by_cases h2 : 48 ≤ i
    · have c : ¬ i < 48 := by omega
      rw [show i - 48 + 48 = i by omega]
      simp [h1, h2, a, c]
    · have c : i < 48 := by omega
      simp [h1, h2, a, c]
theorem low_parts (lv : Int) (x : Nat) (hx : x < 18446744073709551616) : lowN x < 18446744073709551616 ∧ decK lv (lowN x) = decK lv x ∧ decA (lowN x) = 0 ∧ bitB (lowN x) 6 = bitB x 6 ∧ bitB (lowN x) 7 = bitB x 7 ∧ bitB (lowN x) 8 = bitB x 8 ∧ decS (lowN x) = decS x := by
  have hb : ∀ i : Nat, i = 1 ∨ i = 6 ∨ i = 7 ∨ i = 8 → bitB (lowN x) i = bitB x i := by
    intro i hi
    unfold bitB
    have : lowN x / 2 ^ i % 2 = x / 2 ^ i % 2 := by
      unfold lowN decA
      rcases hi with rfl | rfl | rfl | rfl <;> simp only [Nat.reducePow] <;> omega
    rw [this]
  refine ⟨by unfold lowN; omega, ?_, ?_, hb 6 (by simp), hb 7 (by simp), hb 8 (by simp), ?_⟩
  · unfold decK; rw [hb 1 (by simp)]
  · unfold lowN decA; omega
  · unfold lowN decA decS; omega
theorem and_one (x : Nat) (hx : x < 18446744073709551616) : bits .and .u64 (x : Int) 1 = ((x % 2 : Nat) : Int) := by
  rw [show (1 : Int) = ((1 : Nat) : Int) from rfl, bits_and_u64_nat x 1 hx (by decide), Nat.and_one_is_mod]
set_option maxHeartbeats 8000000 in
set_option maxRecDepth 100000 in
theorem refDecode_calls (st lv : Int) (x : Nat) (w : World) (hx : x < 18446744073709551616) :
    Calls Try.prog 49 #[.int .i64 st, .int .i64 lv, .int .u64 (x : Nat)] w (RetB w (.tuple #[decV st lv x, .int .i64 (decE st lv x)])) := by
  by_cases hp : Place st lv
  case neg =>
    obtain ⟨h1, h2⟩ := dec_arg (x := x) hp
    rw [h1, h2]
    clear h1 h2 hx
    by_cases g1 : st < 1
    · clear hp
      go_enter Try.func49, Try.ntmps49
      go_upto_region 1 with (fail)
      have hH := holds_new #[.int .i64 0, .int .u64 0, .bool false, .bool false, .bool false, .int .i64 0] 48 (holds_nil w)
      generalize w.alloc (.cells #[.int .i64 0, .int .u64 0, .bool false, .bool false, .bool false, .int .i64 0] 48) = W at *
      obtain ⟨s0, s1, _⟩ := id hH
      obtain ⟨k1, f1, z1⟩ := of_block s1
      go_wp2_with fail
      rw [six_set s1 rfl]
      have ho := old_put hH.1 (.cells #[.int .i64 0, .int .u64 0, .bool false, .bool false, .bool false, .int .i64 0] 48) (Nat.le_refl w.heap.size)
      have s9 := putB_same (.cells #[.int .i64 0, .int .u64 0, .bool false, .bool false, .bool false, .int .i64 0] 48) z1
      generalize putB _ w.heap.size (.cells #[.int .i64 0, .int .u64 0, .bool false, .bool false, .bool false, .int .i64 0] 48) = W9 at *
      obtain ⟨k9, f9, z9⟩ := of_block s9
      refine bodyPost_ret (by simp [results, Try.results49, go_sem, k9]; try rfl) rfl ?_
      exact ⟨rfl, ho⟩
    by_cases g2 : 2 < st
    · clear hp
      go_enter Try.func49, Try.ntmps49
      go_upto_region 1 with (fail)
      have hH := holds_new #[.int .i64 0, .int .u64 0, .bool false, .bool false, .bool false, .int .i64 0] 48 (holds_nil w)
      generalize w.alloc (.cells #[.int .i64 0, .int .u64 0, .bool false, .bool false, .bool false, .int .i64 0] 48) = W at *
      obtain ⟨s0, s1, _⟩ := id hH
      obtain ⟨k1, f1, z1⟩ := of_block s1
      go_wp2_with fail
      rw [six_set s1 rfl]
      have ho := old_put hH.1 (.cells #[.int .i64 0, .int .u64 0, .bool false, .bool false, .bool false, .int .i64 0] 48) (Nat.le_refl w.heap.size)
      have s9 := putB_same (.cells #[.int .i64 0, .int .u64 0, .bool false, .bool false, .bool false, .int .i64 0] 48) z1
      generalize putB _ w.heap.size (.cells #[.int .i64 0, .int .u64 0, .bool false, .bool false, .bool false, .int .i64 0] 48) = W9 at *
      obtain ⟨k9, f9, z9⟩ := of_block s9
      refine bodyPost_ret (by simp [results, Try.results49, go_sem, k9]; try rfl) rfl ?_
      exact ⟨rfl, ho⟩
    by_cases g3 : lv < 0
    · clear hp
      go_enter Try.func49, Try.ntmps49
      go_upto_region 1 with (fail)
      have hH := holds_new #[.int .i64 0, .int .u64 0, .bool false, .bool false, .bool false, .int .i64 0] 48 (holds_nil w)
      generalize w.alloc (.cells #[.int .i64 0, .int .u64 0, .bool false, .bool false, .bool false, .int .i64 0] 48) = W at *
      obtain ⟨s0, s1, _⟩ := id hH
      obtain ⟨k1, f1, z1⟩ := of_block s1
      go_wp2_with fail
      rw [six_set s1 rfl]
      have ho := old_put hH.1 (.cells #[.int .i64 0, .int .u64 0, .bool false, .bool false, .bool false, .int .i64 0] 48) (Nat.le_refl w.heap.size)
      have s9 := putB_same (.cells #[.int .i64 0, .int .u64 0, .bool false, .bool false, .bool false, .int .i64 0] 48) z1
      generalize putB _ w.heap.size (.cells #[.int .i64 0, .int .u64 0, .bool false, .bool false, .bool false, .int .i64 0] 48) = W9 at *
      obtain ⟨k9, f9, z9⟩ := of_block s9
      refine bodyPost_ret (by simp [results, Try.results49, go_sem, k9]; try rfl) rfl ?_
      exact ⟨rfl, ho⟩
    have g4 : 3 < lv := by unfold Place at hp; omega
    clear hp
    go_enter Try.func49, Try.ntmps49
    go_upto_region 1 with (fail)
    have hH := holds_new #[.int .i64 0, .int .u64 0, .bool false, .bool false, .bool false, .int .i64 0] 48 (holds_nil w)
    generalize w.alloc (.cells #[.int .i64 0, .int .u64 0, .bool false, .bool false, .bool false, .int .i64 0] 48) = W at *
    obtain ⟨s0, s1, _⟩ := id hH
    obtain ⟨k1, f1, z1⟩ := of_block s1
    go_wp2_with fail
    rw [six_set s1 rfl]
    have ho := old_put hH.1 (.cells #[.int .i64 0, .int .u64 0, .bool false, .bool false, .bool false, .int .i64 0] 48) (Nat.le_refl w.heap.size)
    have s9 := putB_same (.cells #[.int .i64 0, .int .u64 0, .bool false, .bool false, .bool false, .int .i64 0] 48) z1
    generalize putB _ w.heap.size (.cells #[.int .i64 0, .int .u64 0, .bool false, .bool false, .bool false, .int .i64 0] 48) = W9 at *
    obtain ⟨k9, f9, z9⟩ := of_block s9
    refine bodyPost_ret (by simp [results, Try.results49, go_sem, k9]; try rfl) rfl ?_
    exact ⟨rfl, ho⟩
  case pos =>
  have q1 : 1 ≤ st := by unfold Place at hp; omega
  have q2 : st ≤ 2 := by unfold Place at hp; omega
  have q3 : 0 ≤ lv := hp.2.1
  have q4 : lv ≤ 3 := hp.2.2
  have ha1 := and_one x hx
  have hr := dec_ref st lv x
  generalize hV : decV st lv x = V
  generalize hE : decE st lv x = E at *
  have HV := Lib.hid (And.intro hV hE)
  have HP := Lib.hid hp
  unfold refE at hr
  rw [if_neg (not_not_intro hp)] at hr
  have hzz := @dec_zero st lv x hp
  have hyy := @dec_yes st lv x hp
  clear hp hV hE
  by_cases h2 : x % 2 = 0
  case pos =>
    rw [if_pos h2] at hr
    obtain rfl : E = 0 := hr
    obtain rfl : V = zeroV := HV.out.1.symm.trans (hzz h2).1
    rw [h2] at ha1
    clear h2 hzz hyy
    go_enter Try.func49, Try.ntmps49
    go_upto_region 1 with (fail)
    have hH := holds_new #[.int .i64 0, .int .u64 0, .bool false, .bool false, .bool false, .int .i64 0] 48 (holds_nil w)
    generalize w.alloc (.cells #[.int .i64 0, .int .u64 0, .bool false, .bool false, .bool false, .int .i64 0] 48) = W at *
    obtain ⟨s0, s1, _⟩ := id hH
    obtain ⟨k1, f1, z1⟩ := of_block s1
    go_wp2_with fail
    rw [six_set s1 rfl]
    have ho := old_put hH.1 (.cells #[.int .i64 0, .int .u64 0, .bool false, .bool false, .bool false, .int .i64 0] 48) (Nat.le_refl w.heap.size)
    have s9 := putB_same (.cells #[.int .i64 0, .int .u64 0, .bool false, .bool false, .bool false, .int .i64 0] 48) z1
    generalize putB _ w.heap.size (.cells #[.int .i64 0, .int .u64 0, .bool false, .bool false, .bool false, .int .i64 0] 48) = W9 at *
    obtain ⟨k9, f9, z9⟩ := of_block s9
    refine bodyPost_ret (by simp [results, Try.results49, go_sem, k9]; try rfl) rfl ?_
    exact ⟨rfl, ho⟩
  case neg =>
  rw [if_neg h2] at hr
  have h21 : x % 2 = 1 := by omega
  rw [h21] at ha1
  have hyy := hyy h2
  clear h2 h21 hzz
  have hsp := fun W => split_calls lv x W hx
  obtain ⟨l1, l2, l3, l4, l5, l6, l7⟩ := low_parts lv x hx
  have hsl := fun W => split_calls lv (lowN x) W l1
  rw [l2, l3, l4, l5, l6, l7] at hsl
  have hless : bits .andNot .u64 (x : Int) 281474976706560 = ((lowN x : Nat) : Int) := by
    rw [← low_less]; exact bits_andNot_u64_nat x 281474976706560 hx (by decide)
  have hlow : lowN x = x - decA x := rfl
  clear l1 l2 l3 l4 l5 l6 l7
  have hk0 : decK lv x ≠ 0 := by have := decK_range lv x; omega
  generalize decK lv x = K at *
  generalize decA x = A at *
  generalize bitB x 6 = q6 at *
  generalize bitB x 7 = q7 at *
  generalize bitB x 8 = q8 at *
  generalize decS x = qs at *
  generalize lowN x = low at *
  have he1 := refEncode_calls st lv K A q6 q7 q8 (qs : Nat)
  have he2 : ∀ w : World, Calls Try.prog 44 #[.int .i64 st, .int .i64 lv, .agg #[.int .i64 K, .int .u64 0, .bool q6, .bool q7, .bool q8, .int .i64 (qs : Nat)]] w _ := refEncode_calls st lv K 0 q6 q7 q8 (qs : Nat)
  replace hsl : ∀ W : World, Calls Try.prog 75 #[.int .i64 lv, .int .u64 (low : Nat)] W (RetB W (.agg #[.int .i64 K, .int .u64 0, .bool q6, .bool q7, .bool q8, .int .i64 (qs : Nat)])) := hsl
  have w1 : encW st lv K A q6 q7 q8 (qs : Nat) = if checkC st lv K A q6 q7 q8 (qs : Nat) = 0 then wordN K A q6 q7 q8 qs else 0 := by
    unfold encW
    by_cases c : checkC st lv K A q6 q7 q8 (qs : Nat) = 0
    · rw [if_pos ⟨c, hk0⟩, if_pos c]; rfl
    · rw [if_neg (fun e => c e.1), if_neg c]
  have w2 : encW st lv K 0 q6 q7 q8 (qs : Nat) = if checkC st lv K 0 q6 q7 q8 (qs : Nat) = 0 then wordN K 0 q6 q7 q8 qs else 0 := by
    unfold encW
    by_cases c : checkC st lv K 0 q6 q7 q8 (qs : Nat) = 0
    · rw [if_pos ⟨c, hk0⟩, if_pos c]; rfl
    · rw [if_neg (fun e => c e.1), if_neg c]
  rw [w1] at he1
  rw [w2] at he2
  generalize wordN K A q6 q7 q8 qs = V1 at *
  generalize wordN K 0 q6 q7 q8 qs = V2 at *
  generalize checkC st lv K A q6 q7 q8 (qs : Nat) = C1 at *
  generalize checkC st lv K 0 q6 q7 q8 (qs : Nat) = C2 at *
  rw [← hlow] at hr
  clear w1 w2 hlow hk0
  have HR := Lib.hid hr
  clear hr
  go_enter Try.func49, Try.ntmps49
  go_upto_region 1 with (fail)
  have hH := holds_new #[.int .i64 0, .int .u64 0, .bool false, .bool false, .bool false, .int .i64 0] 48 (holds_nil w)
  generalize w.alloc (.cells #[.int .i64 0, .int .u64 0, .bool false, .bool false, .bool false, .int .i64 0] 48) = W at *
  obtain ⟨s0, s1, _⟩ := id hH
  obtain ⟨k1, f1, z1⟩ := of_block s1
  go_upto_region 6 with (first | ((go_at_call 75); (with_reducible refine (hsp _).mono ?_); rintro e w9 ⟨rfl, hb9⟩; have hH := holds_old hH hb9; obtain ⟨s0, s1, _⟩ := id hH; obtain ⟨k1, f1, z1⟩ := of_block s1))
  have hH := holds_new #[.int .i64 K, .int .u64 (A : Nat), .bool q6, .bool q7, .bool q8, .int .i64 (qs : Nat)] 48 hH
  have hzp := z1
  generalize World.alloc _ (.cells #[.int .i64 K, .int .u64 (A : Nat), .bool q6, .bool q7, .bool q8, .int .i64 (qs : Nat)] 48) = W2 at *
  have hH : Holds w [(w9.heap.size, #[.int .i64 K, .int .u64 (A : Nat), .bool q6, .bool q7, .bool q8, .int .i64 (qs : Nat)], 48), (w.heap.size, #[.int .i64 0, .int .u64 0, .bool false, .bool false, .bool false, .int .i64 0], 48)] W2 := hH
  generalize w9.heap.size = p at *
  clear s0 s1 k1 f1 z1
  obtain ⟨s0, s1, s2, _⟩ := id hH
  obtain ⟨k1, f1, z1⟩ := of_block s1
  obtain ⟨k2, f2, z2⟩ := of_block s2
  by_cases g1 : C1 = 0 ∧ V1 = x
  case pos =>
    obtain ⟨g2, g3⟩ := g1
    have hr := HR.out
    rw [if_pos ⟨g2, g3⟩] at hr
    obtain rfl : E = 0 := hr
    obtain rfl : V = descV K A q6 q7 q8 (qs : Nat) := HV.out.1.symm.trans (hyy HV.out.2).1
    rw [g2, if_pos rfl, g3] at he1
    clear g2 g3 hyy he2
    go_wp2_with (first | ((go_at_call 44); (with_reducible refine (he1 _).mono ?_); rintro e w9 ⟨rfl, hb9⟩; have hH := holds_old hH hb9; obtain ⟨s0, s1, s2, _⟩ := id hH; obtain ⟨k1, f1, z1⟩ := of_block s1; obtain ⟨k2, f2, z2⟩ := of_block s2))
    rw [six_set s2 rfl]
    have ho := old_put hH.1 (.cells #[.int .i64 K, .int .u64 (A : Nat), .bool q6, .bool q7, .bool q8, .int .i64 (qs : Nat)] 48) (Nat.le_refl w.heap.size)
    have s9 := putB_same (.cells #[.int .i64 K, .int .u64 (A : Nat), .bool q6, .bool q7, .bool q8, .int .i64 (qs : Nat)] 48) z2
    generalize putB _ w.heap.size (.cells #[.int .i64 K, .int .u64 (A : Nat), .bool q6, .bool q7, .bool q8, .int .i64 (qs : Nat)] 48) = W9 at *
    obtain ⟨k9, f9, z9⟩ := of_block s9
    refine bodyPost_ret (by simp [results, Try.results49, go_sem, k9]; try rfl) rfl ?_
    exact ⟨rfl, ho⟩
  case neg =>
  have hr := HR.out
  rw [if_neg g1] at hr
  obtain ⟨X1, hX⟩ : ∃ X1, X1 = (if C1 = 0 then V1 else 0) := ⟨_, rfl⟩
  rw [← hX] at he1
  have hg1 : ((C1 == 0) && ((X1 : Int) == (x : Int))) = false := by
    rw [hX]
    by_cases c : C1 = 0
    · rw [if_pos c]
      have : ¬ V1 = x := fun e => g1 ⟨c, e⟩
      rw [Bool.and_eq_false_iff]; right
      rw [beq_eq_false_iff_ne]; omega
    · rw [Bool.and_eq_false_iff]; left
      rw [beq_eq_false_iff_ne]; exact c
  clear hX g1
  have HX := Lib.hid hg1
  clear hg1
  obtain ⟨X2, hX2⟩ : ∃ X2, X2 = (if C2 = 0 then V2 else 0) := ⟨_, rfl⟩
  rw [← hX2] at he2
  have hfin : (if (C2 = 0 ∧ V2 = low) ∧ topN st ≤ A then (2 : Int) else 4) = if ((C2 == 0) && ((X2 : Int) == (low : Int)) && decide (topN st ≤ A)) = true then 2 else 4 := by
    rw [hX2]
    by_cases c : C2 = 0
    · rw [if_pos c]
      have e1 : (((V2 : Nat) : Int) == (low : Int)) = decide (V2 = low) := by
        by_cases d : V2 = low
        · rw [decide_eq_true d, d]; simp
        · rw [decide_eq_false d, beq_eq_false_iff_ne]; omega
      rw [e1]; simp [c]
    · simp [c]
  rw [hfin] at hr
  clear hfin hX2
  have HF := Lib.hid hr
  clear hr
  have hTop := refTop_calls st
  go_upto_region 7 with (first | ((go_at_call 44); (with_reducible refine (he1 _).mono ?_); rintro e w9 ⟨rfl, hb9⟩; have hH := holds_old hH hb9; obtain ⟨s0, s1, s2, _⟩ := id hH; obtain ⟨k1, f1, z1⟩ := of_block s1; obtain ⟨k2, f2, z2⟩ := of_block s2))
  go_cut [49] (fun s49 wx => s49 = .bool false ∧ Holds w [(p, #[.int .i64 K, .int .u64 (A : Nat), .bool q6, .bool q7, .bool q8, .int .i64 (qs : Nat)], 48), (w.heap.size, #[.int .i64 0, .int .u64 0, .bool false, .bool false, .bool false, .int .i64 0], 48)] wx)
  case first =>
    cases hc : (C1 == 0)
    · go_wp2
      go_meet
      exact ⟨rfl, hH⟩
    · obtain rfl : C1 = 0 := by simpa using hc
      have hx1 : ((X1 : Int) == (x : Int)) = false := by have := HX.out; rwa [hc, Bool.true_and] at this
      clear hc
      go_wp2
      go_meet
      exact ⟨rfl, hH⟩
  case rest =>
  obtain ⟨rfl, hH⟩ := hcut
  clear HX he1 hsp s0 s1 s2 k1 f1 z1 k2 f2 z2
  obtain ⟨s0, s1, s2, _⟩ := id hH
  obtain ⟨k1, f1, z1⟩ := of_block s1
  obtain ⟨k2, f2, z2⟩ := of_block s2
  go_upto_region 11 with (first | ((go_at_call 75); (with_reducible refine (hsl _).mono ?_); rintro e w9 ⟨rfl, hb9⟩; have hH := holds_old hH hb9; obtain ⟨s0, s1, s2, _⟩ := id hH; obtain ⟨k1, f1, z1⟩ := of_block s1; obtain ⟨k2, f2, z2⟩ := of_block s2) | ((go_at_call 44); (with_reducible refine (he2 _).mono ?_); rintro e w9 ⟨rfl, hb9⟩; have hH := holds_old hH hb9; obtain ⟨s0, s1, s2, _⟩ := id hH; obtain ⟨k1, f1, z1⟩ := of_block s1; obtain ⟨k2, f2, z2⟩ := of_block s2))
  clear he2 hsl
  cases hc : (C2 == 0)
  case false =>
    have hr := HF.out
    rw [hc, Bool.false_and, Bool.false_and, if_neg (by decide)] at hr
    obtain rfl : E = 4 := hr
    obtain rfl : V = zeroV := HV.out.1.symm.trans (dec_bad 4 HV.out.2 (by decide)).1
    refine wp_region_walked (S := Holds w [(p, #[.int .i64 K, .int .u64 (A : Nat), .bool q6, .bool q7, .bool q8, .int .i64 (qs : Nat)], 48), (w.heap.size, #[.int .i64 0, .int .u64 0, .bool false, .bool false, .bool false, .int .i64 0], 48)]) (by kernel_rfl) (by kernel_rfl) (holds_drew hH) ?_
    repeat (apply walked_cons; (first | exact gives_and rfl rfl rfl rfl | exact gives_or rfl rfl rfl rfl | (focus (intro wS hS; obtain ⟨s0, s1, s2, _⟩ := id hS; obtain ⟨k1, f1, z1⟩ := of_block s1; obtain ⟨k2, f2, z2⟩ := of_block s2; go_wp2_with ((go_at_call 51; (with_reducible refine (hTop _).mono ?_); rintro e w9 ⟨rfl, hb9⟩)); (first | exact ⟨rfl, rfl, hS⟩ | exact ⟨rfl, rfl, holds_old hS hb9⟩); done)) | (focus (apply gives_guard; (focus (first | exact wanted_yes rfl rfl rfl | exact wanted_no rfl rfl rfl | exact wanted_yes2 rfl rfl rfl | exact wanted_no2 rfl rfl rfl)); (focus (intro hx9; (try simp only [Bool.not_eq_true', Bool.and_eq_true, Bool.not_not] at hx9); (try obtain ⟨hx9, hy9⟩ := hx9); (try subst hy9); (try subst hx9); (first | exact gives_and rfl rfl rfl rfl | exact gives_or rfl rfl rfl rfl | (intro wS hS; obtain ⟨s0, s1, s2, _⟩ := id hS; obtain ⟨k1, f1, z1⟩ := of_block s1; obtain ⟨k2, f2, z2⟩ := of_block s2; go_wp2_with ((go_at_call 51; (with_reducible refine (hTop _).mono ?_); rintro e w9 ⟨rfl, hb9⟩)); (first | exact ⟨rfl, rfl, hS⟩ | exact ⟨rfl, rfl, holds_old hS hb9⟩); done))))))); rfl; (try simp only [Act.put, List.setIfInBounds_toArray, List.set_cons_succ, List.set_cons_zero]))
    apply walked_nil
    intro wS hH
    obtain ⟨s0, s1, s2, _⟩ := id hH
    obtain ⟨k1, f1, z1⟩ := of_block s1
    obtain ⟨k2, f2, z2⟩ := of_block s2
    go_wp2_with fail
    rw [six_set s2 rfl]
    have ho := old_put hH.1 (.cells #[.int .i64 0, .int .u64 0, .bool false, .bool false, .bool false, .int .i64 0] 48) (Nat.le_refl w.heap.size)
    have s9 := putB_same (.cells #[.int .i64 0, .int .u64 0, .bool false, .bool false, .bool false, .int .i64 0] 48) z2
    generalize putB _ w.heap.size (.cells #[.int .i64 0, .int .u64 0, .bool false, .bool false, .bool false, .int .i64 0] 48) = W9 at *
    obtain ⟨k9, f9, z9⟩ := of_block s9
    refine bodyPost_ret (by simp [results, Try.results49, go_sem, k9]; try rfl) rfl ?_
    exact ⟨rfl, ho⟩
  case true =>
  cases hx2 : ((X2 : Int) == (low : Int))
  case false =>
    have hr := HF.out
    rw [hc, hx2, Bool.and_false, Bool.false_and, if_neg (by decide)] at hr
    obtain rfl : E = 4 := hr
    obtain rfl : V = zeroV := HV.out.1.symm.trans (dec_bad 4 HV.out.2 (by decide)).1
    have HX2 := Lib.hid hx2
    clear hx2
    refine wp_region_walked (S := Holds w [(p, #[.int .i64 K, .int .u64 (A : Nat), .bool q6, .bool q7, .bool q8, .int .i64 (qs : Nat)], 48), (w.heap.size, #[.int .i64 0, .int .u64 0, .bool false, .bool false, .bool false, .int .i64 0], 48)]) (by kernel_rfl) (by kernel_rfl) (holds_drew hH) ?_
    iterate 6 (apply walked_cons; (first | exact gives_and rfl rfl rfl rfl | exact gives_or rfl rfl rfl rfl | (focus (intro wS hS; obtain ⟨s0, s1, s2, _⟩ := id hS; obtain ⟨k1, f1, z1⟩ := of_block s1; obtain ⟨k2, f2, z2⟩ := of_block s2; go_wp2_with (fail); (first | exact ⟨rfl, rfl, hS⟩ | exact ⟨rfl, rfl, holds_old hS hb9⟩); done)) | (focus (apply gives_guard; (focus (first | exact wanted_yes rfl rfl rfl | exact wanted_no rfl rfl rfl | exact wanted_yes2 rfl rfl rfl | exact wanted_no2 rfl rfl rfl)); (focus (intro hx9; (try simp only [Bool.not_eq_true', Bool.and_eq_true, Bool.not_not] at hx9); (try obtain ⟨hx9, hy9⟩ := hx9); (try subst hy9); (try subst hx9); (first | exact gives_and rfl rfl rfl rfl | exact gives_or rfl rfl rfl rfl | (intro wS hS; obtain ⟨s0, s1, s2, _⟩ := id hS; obtain ⟨k1, f1, z1⟩ := of_block s1; obtain ⟨k2, f2, z2⟩ := of_block s2; go_wp2_with (fail); (first | exact ⟨rfl, rfl, hS⟩ | exact ⟨rfl, rfl, holds_old hS hb9⟩); done))))))); rfl; (try simp only [Act.put, List.setIfInBounds_toArray, List.set_cons_succ, List.set_cons_zero]))
    rw [HX2.out]
    repeat (apply walked_cons; (first | exact gives_and rfl rfl rfl rfl | exact gives_or rfl rfl rfl rfl | (focus (intro wS hS; obtain ⟨s0, s1, s2, _⟩ := id hS; obtain ⟨k1, f1, z1⟩ := of_block s1; obtain ⟨k2, f2, z2⟩ := of_block s2; go_wp2_with ((go_at_call 51; (with_reducible refine (hTop _).mono ?_); rintro e w9 ⟨rfl, hb9⟩)); (first | exact ⟨rfl, rfl, hS⟩ | exact ⟨rfl, rfl, holds_old hS hb9⟩); done)) | (focus (apply gives_guard; (focus (first | exact wanted_yes rfl rfl rfl | exact wanted_no rfl rfl rfl | exact wanted_yes2 rfl rfl rfl | exact wanted_no2 rfl rfl rfl)); (focus (intro hx9; (try simp only [Bool.not_eq_true', Bool.and_eq_true, Bool.not_not] at hx9); (try obtain ⟨hx9, hy9⟩ := hx9); (try subst hy9); (try subst hx9); (first | exact gives_and rfl rfl rfl rfl | exact gives_or rfl rfl rfl rfl | (intro wS hS; obtain ⟨s0, s1, s2, _⟩ := id hS; obtain ⟨k1, f1, z1⟩ := of_block s1; obtain ⟨k2, f2, z2⟩ := of_block s2; go_wp2_with ((go_at_call 51; (with_reducible refine (hTop _).mono ?_); rintro e w9 ⟨rfl, hb9⟩)); (first | exact ⟨rfl, rfl, hS⟩ | exact ⟨rfl, rfl, holds_old hS hb9⟩); done))))))); rfl; (try simp only [Act.put, List.setIfInBounds_toArray, List.set_cons_succ, List.set_cons_zero]))
    apply walked_nil
    intro wS hH
    obtain ⟨s0, s1, s2, _⟩ := id hH
    obtain ⟨k1, f1, z1⟩ := of_block s1
    obtain ⟨k2, f2, z2⟩ := of_block s2
    go_wp2_with fail
    rw [six_set s2 rfl]
    have ho := old_put hH.1 (.cells #[.int .i64 0, .int .u64 0, .bool false, .bool false, .bool false, .int .i64 0] 48) (Nat.le_refl w.heap.size)
    have s9 := putB_same (.cells #[.int .i64 0, .int .u64 0, .bool false, .bool false, .bool false, .int .i64 0] 48) z2
    generalize putB _ w.heap.size (.cells #[.int .i64 0, .int .u64 0, .bool false, .bool false, .bool false, .int .i64 0] 48) = W9 at *
    obtain ⟨k9, f9, z9⟩ := of_block s9
    refine bodyPost_ret (by simp [results, Try.results49, go_sem, k9]; try rfl) rfl ?_
    exact ⟨rfl, ho⟩
  case true =>
  have HX2 := Lib.hid hx2
  clear hx2
  refine wp_region_walked (S := Holds w [(p, #[.int .i64 K, .int .u64 (A : Nat), .bool q6, .bool q7, .bool q8, .int .i64 (qs : Nat)], 48), (w.heap.size, #[.int .i64 0, .int .u64 0, .bool false, .bool false, .bool false, .int .i64 0], 48)]) (by kernel_rfl) (by kernel_rfl) (holds_drew hH) ?_
  iterate 6 (apply walked_cons; (first | exact gives_and rfl rfl rfl rfl | exact gives_or rfl rfl rfl rfl | (focus (intro wS hS; obtain ⟨s0, s1, s2, _⟩ := id hS; obtain ⟨k1, f1, z1⟩ := of_block s1; obtain ⟨k2, f2, z2⟩ := of_block s2; go_wp2_with (fail); (first | exact ⟨rfl, rfl, hS⟩ | exact ⟨rfl, rfl, holds_old hS hb9⟩); done)) | (focus (apply gives_guard; (focus (first | exact wanted_yes rfl rfl rfl | exact wanted_no rfl rfl rfl | exact wanted_yes2 rfl rfl rfl | exact wanted_no2 rfl rfl rfl)); (focus (intro hx9; (try simp only [Bool.not_eq_true', Bool.and_eq_true, Bool.not_not] at hx9); (try obtain ⟨hx9, hy9⟩ := hx9); (try subst hy9); (try subst hx9); (first | exact gives_and rfl rfl rfl rfl | exact gives_or rfl rfl rfl rfl | (intro wS hS; obtain ⟨s0, s1, s2, _⟩ := id hS; obtain ⟨k1, f1, z1⟩ := of_block s1; obtain ⟨k2, f2, z2⟩ := of_block s2; go_wp2_with (fail); (first | exact ⟨rfl, rfl, hS⟩ | exact ⟨rfl, rfl, holds_old hS hb9⟩); done))))))); rfl; (try simp only [Act.put, List.setIfInBounds_toArray, List.set_cons_succ, List.set_cons_zero]))
  rw [HX2.out]
  repeat (apply walked_cons; (first | exact gives_and rfl rfl rfl rfl | exact gives_or rfl rfl rfl rfl | (focus (intro wS hS; obtain ⟨s0, s1, s2, _⟩ := id hS; obtain ⟨k1, f1, z1⟩ := of_block s1; obtain ⟨k2, f2, z2⟩ := of_block s2; go_wp2_with ((go_at_call 51; (with_reducible refine (hTop _).mono ?_); rintro e w9 ⟨rfl, hb9⟩)); (first | exact ⟨rfl, rfl, hS⟩ | exact ⟨rfl, rfl, holds_old hS hb9⟩); done)) | (focus (apply gives_guard; (focus (first | exact wanted_yes rfl rfl rfl | exact wanted_no rfl rfl rfl | exact wanted_yes2 rfl rfl rfl | exact wanted_no2 rfl rfl rfl)); (focus (intro hx9; (try simp only [Bool.not_eq_true', Bool.and_eq_true, Bool.not_not] at hx9); (try obtain ⟨hx9, hy9⟩ := hx9); (try subst hy9); (try subst hx9); (first | exact gives_and rfl rfl rfl rfl | exact gives_or rfl rfl rfl rfl | (intro wS hS; obtain ⟨s0, s1, s2, _⟩ := id hS; obtain ⟨k1, f1, z1⟩ := of_block s1; obtain ⟨k2, f2, z2⟩ := of_block s2; go_wp2_with ((go_at_call 51; (with_reducible refine (hTop _).mono ?_); rintro e w9 ⟨rfl, hb9⟩)); (first | exact ⟨rfl, rfl, hS⟩ | exact ⟨rfl, rfl, holds_old hS hb9⟩); done))))))); rfl; (try simp only [Act.put, List.setIfInBounds_toArray, List.set_cons_succ, List.set_cons_zero]))
  apply walked_nil
  intro wS hH
  obtain ⟨s0, s1, s2, _⟩ := id hH
  obtain ⟨k1, f1, z1⟩ := of_block s1
  obtain ⟨k2, f2, z2⟩ := of_block s2
  have hr := HF.out
  rw [hc, HX2.out, Bool.and_self, Bool.true_and] at hr
  by_cases ht : topN st ≤ A
  · rw [decide_eq_true ht, if_pos rfl] at hr
    obtain rfl : E = 2 := hr
    obtain rfl : V = zeroV := HV.out.1.symm.trans (dec_bad 2 HV.out.2 (by decide)).1
    go_wp2_with fail
    · skip
      rw [six_set s2 rfl]
      have ho := old_put hH.1 (.cells #[.int .i64 0, .int .u64 0, .bool false, .bool false, .bool false, .int .i64 0] 48) (Nat.le_refl w.heap.size)
      have s9 := putB_same (.cells #[.int .i64 0, .int .u64 0, .bool false, .bool false, .bool false, .int .i64 0] 48) z2
      generalize putB _ w.heap.size (.cells #[.int .i64 0, .int .u64 0, .bool false, .bool false, .bool false, .int .i64 0] 48) = W9 at *
      obtain ⟨k9, f9, z9⟩ := of_block s9
      refine bodyPost_ret (by simp [results, Try.results49, go_sem, k9]; try rfl) rfl ?_
      exact ⟨rfl, ho⟩
    · rename_i h9
      exact absurd ht (by simpa using h9)
  · rw [decide_eq_false ht, if_neg (by decide)] at hr
    obtain rfl : E = 4 := hr
    obtain rfl : V = zeroV := HV.out.1.symm.trans (dec_bad 4 HV.out.2 (by decide)).1
    go_wp2_with fail
    rw [six_set s2 rfl]
    have ho := old_put hH.1 (.cells #[.int .i64 0, .int .u64 0, .bool false, .bool false, .bool false, .int .i64 0] 48) (Nat.le_refl w.heap.size)
    have s9 := putB_same (.cells #[.int .i64 0, .int .u64 0, .bool false, .bool false, .bool false, .int .i64 0] 48) z2
    generalize putB _ w.heap.size (.cells #[.int .i64 0, .int .u64 0, .bool false, .bool false, .bool false, .int .i64 0] 48) = W9 at *
    obtain ⟨k9, f9, z9⟩ := of_block s9
    refine bodyPost_ret (by simp [results, Try.results49, go_sem, k9]; try rfl) rfl ?_
    exact ⟨rfl, ho⟩
end Go.Proofs.Ytlbehhbicmmdoaa
namespace Go.Proofs.Ytlbehhbicmmdoaa
set_option linter.unusedVariables false
set_option linter.unusedSimpArgs false
open Go.RowKit
/-- Block p holds a walk of the document; its steps lie in blocks from B on. -/
structure IsW (x : World) (B p : Nat) (st : Int) (table addr : Nat) (v : Value) (l : List St) (kind : Int) (over : Bool) : Prop where
  hp : x.heap[p]? = some (.cells #[.int .i64 st, .int .u64 (table : Nat), .int .u64 (addr : Nat), v, .int .i64 kind, .bool over] 39)
  own : x.ownsRow B 54 9 v l.length (stCells l)
  pB : p < B
  xB : B ≤ x.heap.size
theorem isW_old {x y : World} {B p : Nat} {st : Int} {table addr : Nat} {v : Value} {l : List St} {kind : Int} {over : Bool} (h : IsW x B p st table addr v l kind over) (ho : Old x y) : IsW y B p st table addr v l kind over :=
  { h with hp := keep_old ho h.hp, own := own_old h.own ho, xB := Nat.le_trans h.xB ho.size }
theorem begin_calls (st : Int) (root addr : Nat) (w : World) :
    Calls Try.prog 18 #[.int .i64 st, .int .u64 (root : Nat), .int .u64 (addr : Nat)] w (fun e y => e = .returned (.pointer (some ⟨w.heap.size, 0, none⟩)) ∧ IsW y (w.heap.size + 1) w.heap.size st root addr (.slice none 0 0) [] 4 (!decide (st = 1 ∨ st = 2)) ∧ Old w y) := by
  have key : ∀ b, IsW (w.alloc (.cells #[.int .i64 st, .int .u64 (root : Nat), .int .u64 (addr : Nat), .slice none 0 0, .int .i64 4, .bool b] 39)) (w.heap.size + 1) w.heap.size st root addr (.slice none 0 0) [] 4 b := fun b =>
    { hp := new_block _ _, own := own_nil, pB := by omega, xB := by rw [World.size_alloc]; omega }
  have hO : ∀ b, Old w (w.alloc (.cells #[.int .i64 st, .int .u64 (root : Nat), .int .u64 (addr : Nat), .slice none 0 0, .int .i64 4, .bool b] 39)) := fun b => old_alloc (old_refl w) _
  have HK := Lib.hid (And.intro key hO)
  clear key hO
  by_cases h1 : st < 1
  · have e : (!decide (st = 1 ∨ st = 2)) = true := by simp; omega
    rw [e]
    clear e
    go_enter Try.func18, Try.ntmps18
    go_wp2
    go_ret
    exact ⟨rfl, HK.out.1 _, HK.out.2 _⟩
  · by_cases h2 : 2 < st
    · have e : (!decide (st = 1 ∨ st = 2)) = true := by simp; omega
      rw [e]
      clear e
      go_enter Try.func18, Try.ntmps18
      go_wp2
      go_ret
      exact ⟨rfl, HK.out.1 _, HK.out.2 _⟩
    · have e : (!decide (st = 1 ∨ st = 2)) = false := by simp; omega
      rw [e]
      clear e
      go_enter Try.func18, Try.ntmps18
      go_wp2
      go_ret
      exact ⟨rfl, HK.out.1 _, HK.out.2 _⟩
set_option maxHeartbeats 4000000 in
set_option maxRecDepth 100000 in
theorem atW_calls {x : World} {B p : Nat} {st : Int} {table addr : Nat} {v : Value} {l : List St} {kind : Int} {over : Bool} (h : IsW x B p st table addr v l kind over) (haddr : addr < 18446744073709551616) (hl : l.length ≤ 3) :
    Calls Try.prog 19 #[.pointer (some ⟨p, 0, none⟩)] x (RetB x (.int .u64 (atN table addr l.length : Nat))) := by
  obtain ⟨ad, c, rfl, -⟩ := own_value h.own
  have hix := fun y => refIndex_yes (addr : Nat) (l.length : Nat) addr l.length rfl rfl y haddr hl
  have hlt := indexN_lt addr l.length
  have haw := atN_wrap table addr l.length
  have HP := Lib.hid h.hp
  generalize indexN addr l.length = IX at *
  generalize atN table addr l.length = T at *
  have hl3 : (l.length : Int) ≤ 3 := by omega
  have hix64 : IntKind.u64.wrap (IX : Int) = (IX : Int) := IntWalk.u64_in _ (by omega)
  have HI := Lib.hid hix
  clear h hix hl haddr
  go_enter Try.func19, Try.ntmps19
  go_upto_region 1 with (fail)
  refine wp_region_walked (S := Old x) (by kernel_rfl) (by kernel_rfl) (old_drew (old_refl _)) ?_
  apply walked_cons
  · intro wS hS
    have kx := keep_old hS HP.out
    obtain ⟨k1, q1, z1⟩ := of_block kx
    have HS := Lib.hid hS
    clear kx hS
    go_wp2
    exact ⟨rfl, rfl, HS.out⟩
  · rfl
  (try simp only [Act.put, List.setIfInBounds_toArray, List.set_cons_succ, List.set_cons_zero])
  apply walked_cons
  · intro wS hS
    have kx := keep_old hS HP.out
    obtain ⟨k1, q1, z1⟩ := of_block kx
    have HS := Lib.hid hS
    clear kx hS
    go_wp2
    exact ⟨rfl, rfl, HS.out⟩
  · rfl
  (try simp only [Act.put, List.setIfInBounds_toArray, List.set_cons_succ, List.set_cons_zero])
  apply walked_cons
  · intro wS hS
    have kx := keep_old hS HP.out
    obtain ⟨k1, q1, z1⟩ := of_block kx
    have HS := Lib.hid hS
    clear kx hS
    go_wp2
    exact ⟨rfl, rfl, HS.out⟩
  · rfl
  (try simp only [Act.put, List.setIfInBounds_toArray, List.set_cons_succ, List.set_cons_zero])
  apply walked_cons
  · intro wS hS
    have kx := keep_old hS HP.out
    obtain ⟨k1, q1, z1⟩ := of_block kx
    have HS := Lib.hid hS
    clear kx hS
    go_wp2
    exact ⟨rfl, rfl, HS.out⟩
  · rfl
  (try simp only [Act.put, List.setIfInBounds_toArray, List.set_cons_succ, List.set_cons_zero])
  apply walked_cons
  · intro wS hS
    have kx := keep_old hS HP.out
    obtain ⟨k1, q1, z1⟩ := of_block kx
    have HS := Lib.hid hS
    clear kx hS
    go_wp2
    exact ⟨rfl, rfl, HS.out⟩
  · rfl
  (try simp only [Act.put, List.setIfInBounds_toArray, List.set_cons_succ, List.set_cons_zero])
  apply walked_cons
  · intro wS hS
    have kx := keep_old hS HP.out
    obtain ⟨k1, q1, z1⟩ := of_block kx
    have HS := Lib.hid hS
    clear kx hS
    go_wp2
    exact ⟨rfl, rfl, HS.out⟩
  · rfl
  (try simp only [Act.put, List.setIfInBounds_toArray, List.set_cons_succ, List.set_cons_zero])
  apply walked_cons
  · intro wS hS
    have kx := keep_old hS HP.out
    obtain ⟨k1, q1, z1⟩ := of_block kx
    have HS := Lib.hid hS
    clear kx hS
    go_wp2
    exact ⟨rfl, rfl, HS.out⟩
  · rfl
  (try simp only [Act.put, List.setIfInBounds_toArray, List.set_cons_succ, List.set_cons_zero])
  apply walked_cons
  · intro wS hS
    have kx := keep_old hS HP.out
    obtain ⟨k1, q1, z1⟩ := of_block kx
    have HS := Lib.hid hS
    clear kx hS
    go_wp2
    exact ⟨rfl, rfl, HS.out⟩
  · rfl
  (try simp only [Act.put, List.setIfInBounds_toArray, List.set_cons_succ, List.set_cons_zero])
  apply walked_cons
  · intro wS hS
    have kx := keep_old hS HP.out
    obtain ⟨k1, q1, z1⟩ := of_block kx
    have HS := Lib.hid hS
    clear kx hS
    go_wp2
    exact ⟨rfl, rfl, HS.out⟩
  · rfl
  (try simp only [Act.put, List.setIfInBounds_toArray, List.set_cons_succ, List.set_cons_zero])
  apply walked_cons
  · intro wS hS
    have kx := keep_old hS HP.out
    obtain ⟨k1, q1, z1⟩ := of_block kx
    have HS := Lib.hid hS
    clear kx hS
    go_wp2
    exact ⟨rfl, rfl, HS.out⟩
  · rfl
  (try simp only [Act.put, List.setIfInBounds_toArray, List.set_cons_succ, List.set_cons_zero])
  apply walked_cons
  · intro wS hS
    have kx := keep_old hS HP.out
    obtain ⟨k1, q1, z1⟩ := of_block kx
    have HS := Lib.hid hS
    clear kx hS
    go_wp2
    exact ⟨rfl, rfl, HS.out⟩
  · rfl
  (try simp only [Act.put, List.setIfInBounds_toArray, List.set_cons_succ, List.set_cons_zero])
  apply walked_cons
  · intro wS hS
    have kx := keep_old hS HP.out
    obtain ⟨k1, q1, z1⟩ := of_block kx
    have HS := Lib.hid hS
    clear kx hS
    go_wp2
    exact ⟨rfl, rfl, HS.out⟩
  · rfl
  (try simp only [Act.put, List.setIfInBounds_toArray, List.set_cons_succ, List.set_cons_zero])
  apply walked_cons
  · intro wS hS
    have kx := keep_old hS HP.out
    obtain ⟨k1, q1, z1⟩ := of_block kx
    have HS := Lib.hid hS
    clear kx hS
    go_wp2
    exact ⟨rfl, rfl, HS.out⟩
  · rfl
  (try simp only [Act.put, List.setIfInBounds_toArray, List.set_cons_succ, List.set_cons_zero])
  apply walked_cons
  · intro wS hS
    have kx := keep_old hS HP.out
    obtain ⟨k1, q1, z1⟩ := of_block kx
    have HS := Lib.hid hS
    have hc := HI.out wS
    clear kx hS
    go_wp2_with fail
    (with_reducible refine hc.mono ?_)
    rintro e y9 ⟨rfl, hY⟩
    have HY := Lib.hid hY
    clear hc hY k1 q1 z1
    go_wp2
    exact ⟨rfl, rfl, old_then HS.out HY.out⟩
  · rfl
  (try simp only [Act.put, List.setIfInBounds_toArray, List.set_cons_succ, List.set_cons_zero])
  apply walked_cons
  · intro wS hS
    have kx := keep_old hS HP.out
    obtain ⟨k1, q1, z1⟩ := of_block kx
    have HS := Lib.hid hS
    clear kx hS
    go_wp2
    exact ⟨rfl, rfl, HS.out⟩
  · rfl
  (try simp only [Act.put, List.setIfInBounds_toArray, List.set_cons_succ, List.set_cons_zero])
  apply walked_cons
  · intro wS hS
    have kx := keep_old hS HP.out
    obtain ⟨k1, q1, z1⟩ := of_block kx
    have HS := Lib.hid hS
    clear kx hS
    go_wp2
    exact ⟨rfl, rfl, HS.out⟩
  · rfl
  (try simp only [Act.put, List.setIfInBounds_toArray, List.set_cons_succ, List.set_cons_zero])
  apply walked_cons
  · intro wS hS
    have kx := keep_old hS HP.out
    obtain ⟨k1, q1, z1⟩ := of_block kx
    have HS := Lib.hid hS
    clear kx hS
    go_wp2
    exact ⟨rfl, rfl, HS.out⟩
  · rfl
  (try simp only [Act.put, List.setIfInBounds_toArray, List.set_cons_succ, List.set_cons_zero])
  apply walked_cons
  · intro wS hS
    have kx := keep_old hS HP.out
    obtain ⟨k1, q1, z1⟩ := of_block kx
    have HS := Lib.hid hS
    clear kx hS
    go_wp2
    exact ⟨rfl, rfl, HS.out⟩
  · rfl
  (try simp only [Act.put, List.setIfInBounds_toArray, List.set_cons_succ, List.set_cons_zero])
  apply walked_nil
  intro wS hS
  have HS := Lib.hid hS
  clear hS
  go_wp2
  go_ret
  exact ⟨rfl, HS.out⟩
end Go.Proofs.Ytlbehhbicmmdoaa
namespace Go.Proofs.Ytlbehhbicmmdoaa
set_option linter.unusedVariables false
set_option linter.unusedSimpArgs false
open Go.RowKit
/-- Cells of a walk. -/
abbrev wC (st : Int) (table addr : Nat) (v : Value) (kind : Int) (over : Bool) : Array Value := #[.int .i64 st, .int .u64 (table : Nat), .int .u64 (addr : Nat), v, .int .i64 kind, .bool over]
/-- Kind and Over laid. -/
theorem isW_end {x : World} {B p : Nat} {st : Int} {table addr : Nat} {v : Value} {l : List St} {kind k : Int} {over o : Bool} (h : IsW x B p st table addr v l kind over) :
    (∀ i, x.frozen? ⟨p, i, none⟩ = false) ∧ (∀ i, (putB x p (.cells (wC st table addr v k over) 39)).frozen? ⟨p, i, none⟩ = false) ∧
    x.setCell ⟨p, 4, none⟩ (.int .i64 k) = putB x p (.cells (wC st table addr v k over) 39) ∧
    (putB x p (.cells (wC st table addr v k over) 39)).setCell ⟨p, 5, none⟩ (.bool o) = putB (putB x p (.cells (wC st table addr v k over) 39)) p (.cells (wC st table addr v k o) 39) ∧
    (∀ i, x.cell? ⟨p, i, none⟩ = (wC st table addr v kind over)[i]?) ∧ (∀ i, (putB x p (.cells (wC st table addr v k over) 39)).cell? ⟨p, i, none⟩ = (wC st table addr v k over)[i]?) ∧
    IsW (putB (putB x p (.cells (wC st table addr v k over) 39)) p (.cells (wC st table addr v k o) 39)) B p st table addr v l k o ∧ Only (fun b => b = p) x (putB (putB x p (.cells (wC st table addr v k over) 39)) p (.cells (wC st table addr v k o) 39)) := by
  have hlt := lt_of_block h.hp
  have h1 : (putB x p (.cells (wC st table addr v k over) 39)).heap[p]? = some (.cells (wC st table addr v k over) 39) := putB_same _ hlt
  have ho : Only (fun b => b = p) x (putB (putB x p (.cells (wC st table addr v k over) 39)) p (.cells (wC st table addr v k o) 39)) := ((Only.refl (fun b => b = p) x).putB _ (fun _ => rfl)).putB _ (fun _ => rfl)
  refine ⟨frozen_of h.hp, frozen_of h1, by rw [set_of h.hp]; rfl, by rw [set_of h1]; rfl, cell_of h.hp, cell_of h1, ?_, ho⟩
  exact { hp := putB_same _ (lt_of_block h1), own := own_keep h.own ho (fun b hb e => by have := (h.own.lt b hb).1; have := h.pB; omega), pB := h.pB, xB := Nat.le_trans h.xB ho.size }
set_option maxHeartbeats 4000000 in
set_option maxRecDepth 100000 in
theorem give_no {x : World} {B p : Nat} {st : Int} {table addr : Nat} {v : Value} {l : List St} {kind : Int} (h : IsW x B p st table addr v l kind false) (a : Nat) :
    Calls Try.prog 20 #[.pointer (some ⟨p, 0, none⟩), .int .u64 (a : Nat), .bool false] x (fun e y => e = .returned (.tuple #[]) ∧ IsW y B p st table addr v l (-1) true ∧ Only (fun b => b = p) x y) := by
  obtain ⟨f0, f1, s4, s5, k0, k1, hI, hO⟩ := isW_end (k := -1) (o := true) h
  have HF := Lib.hid (And.intro hI hO)
  clear h hI hO
  go_enter Try.func20, Try.ntmps20
  go_wp2
  first | (refine bodyPost_end (v := .tuple #[]) (by first | rfl | kernel_rfl) rfl ?_) | (refine bodyPost_ret (v := .tuple #[]) (by first | rfl | kernel_rfl) rfl ?_)
  exact ⟨rfl, HF.out.1, HF.out.2⟩
end Go.Proofs.Ytlbehhbicmmdoaa
namespace Go.Proofs.Ytlbehhbicmmdoaa
set_option linter.unusedVariables false
set_option linter.unusedSimpArgs false
open Go.RowKit
/-- What a word makes of a walk. -/
def giveT (E : Int) (d : D6) (table : Nat) : Nat := if E = 0 ∧ d.k = 1 then d.a else table
def giveK (E : Int) (d : D6) (kind : Int) : Int := if E = 2 then 3 else if E ≠ 0 then 4 else if d.k = 0 then 1 else if d.k = 1 then kind else 0
def giveO (E : Int) (d : D6) : Bool := !decide (E = 0 ∧ d.k = 1)
theorem refStep_info : (Try.prog.info? 54).map (fun i => (i.zero, i.size, i.bytes)) = some (some (.agg #[.int .i64 0, .int .u64 0, .int .u64 0, .int .i64 0, .int .u64 0, .bool false, .bool false, .bool false, .int .i64 0]), 9, 56) := by kernel_rfl
theorem step_append {x : World} {B : Nat} {v : Value} {l : List St} (h : x.ownsRow B 54 9 v l.length (stCells l)) (hl : l.length ≤ 3) (hB : B ≤ x.heap.size) (s : St) :
    ∃ g cap x', (Builtin.append_ #[37, 37] 37 #[v, .slice (some ⟨x.heap.size, 0, none⟩) 1 1]).run Try.prog (x.alloc (.cells s.cells.toArray 54)) = .ok (.slice (some ⟨g, 0, none⟩) (l.length + 1) cap) x' ∧
      x'.ownsRow B 54 9 (.slice (some ⟨g, 0, none⟩) (l.length + 1) cap) (l ++ [s]).length (stCells (l ++ [s])) ∧ Only (fun b => some b = v.ownBlock) x x' := by
  obtain ⟨i0, hi, hz0, hz1, hz2⟩ := info_parts refStep_info
  have hown4 := h.alloc (.cells s.cells.toArray 54)
  have hnew := news_block x s.cells 54 x.heap.size rfl
  obtain ⟨g, cap, x', hr, ho, hgr, hl1, hl2⟩ := run_append_lies (P := Try.prog) (x.alloc (.cells s.cells.toArray 54)) 37 37 B 54 i0 _ 9 56 Try.underlying37 hi hz0 hz1 hz2 rfl (by decide) v l.length (stCells l) hown4 ⟨x.heap.size, 0, none⟩ 1 1 s.cells rfl hnew (by intro u hu; simp only [St.cells, List.mem_cons, List.not_mem_nil, or_false] at hu; rcases hu with rfl | rfl | rfl | rfl | rfl | rfl | rfl | rfl | rfl <;> rfl) (by decide) (by unfold maxLen; omega) (by omega) (by rw [World.size_alloc]; omega) _ rfl
  refine ⟨g, cap, x', hr, ?_, ?_⟩
  · rw [stCells_append, List.length_append]
    have e : stCells [s] = s.cells := by simp [stCells]
    rw [e]
    exact ho
  · exact Only.trans ((Only.refl _ x).alloc _) (grown_only hgr)
/-- The worlds of the statement that lays a step. -/
def GiveS (W3 W4 W5 W6 : World) (l : Array Bool) (y : World) : Prop :=
  y = (bif l.getD 14 false then W6 else bif l.getD 11 false then W5 else bif l.getD 10 false then W4 else W3) ∧ (l.getD 11 false = true → l.getD 10 false = true) ∧ (l.getD 14 false = true → l.getD 11 false = true) ∧ (l.getD 11 false = true → l.getD 4 false = true)
section
variable {W3 W4 W5 W6 y : World} {l : Array Bool}
theorem giveS_start (N : Nat) : GiveS W3 W4 W5 W6 (Array.replicate N false) W3 := by
  have e : ∀ k, (Array.replicate N false).getD k false = false := fun k => by simp [Array.getElem?_replicate]; split <;> rfl
  refine ⟨by rw [e, e, e]; rfl, ?_, ?_, ?_⟩ <;> (intro h; rw [e] at h; cases h)
theorem giveS_other (j : Nat) (h10 : j ≠ 10) (h11 : j ≠ 11) (h14 : j ≠ 14) (h : GiveS W3 W4 W5 W6 l y) : GiveS W3 W4 W5 W6 (l.setIfInBounds j true) y := by
  obtain ⟨a, b, c, d⟩ := h
  refine ⟨by rw [getD_set_ne false h10, getD_set_ne false h11, getD_set_ne false h14]; exact a, ?_, ?_, ?_⟩
  · rw [getD_set_ne false h11, getD_set_ne false h10]; exact b
  · rw [getD_set_ne false h14, getD_set_ne false h11]; exact c
  · rw [getD_set_ne false h11]; exact fun e => getD_set_true (d e)
theorem giveS_4 (hn : l.getD 4 false = false) (h : GiveS W3 W4 W5 W6 l y) : l.getD 14 false = false ∧ l.getD 11 false = false := by
  obtain ⟨a, b, c, d⟩ := h
  have h11 : l.getD 11 false = false := false_of fun e => by have := d e; rw [hn] at this; cases this
  exact ⟨false_of (fun e => by have := c e; rw [h11] at this; cases this), h11⟩
theorem giveS_10 {N : Nat} (hz : l.size = N) (hN : 14 < N) (hn : l.getD 10 false = false) (h : GiveS W3 W4 W5 W6 l y) : y = W3 ∧ GiveS W3 W4 W5 W6 (l.setIfInBounds 10 true) W4 := by
  obtain ⟨a, b, c, d⟩ := h
  have h11 : l.getD 11 false = false := false_of fun e => by have := b e; rw [hn] at this; cases this
  have h14 : l.getD 14 false = false := false_of fun e => by have := c e; rw [h11] at this; cases this
  have e : (l.setIfInBounds 10 true).getD 10 false = true := by simp [hz]; omega
  rw [h14, h11, hn] at a
  refine ⟨a, by rw [e, getD_set_ne false (show (10 : Nat) ≠ 11 by decide), getD_set_ne false (show (10 : Nat) ≠ 14 by decide), h11, h14]; rfl, fun _ => e, ?_, ?_⟩
  · rw [getD_set_ne false (show (10 : Nat) ≠ 14 by decide), h14]; exact fun e => by cases e
  · rw [getD_set_ne false (show (10 : Nat) ≠ 11 by decide), h11]; exact fun e => by cases e
theorem giveS_11 {N : Nat} (hz : l.size = N) (hN : 14 < N) (hn : l.getD 11 false = false) (h10 : l.getD 10 false = true) (h4 : l.getD 4 false = true) (h : GiveS W3 W4 W5 W6 l y) : y = W4 ∧ GiveS W3 W4 W5 W6 (l.setIfInBounds 11 true) W5 := by
  obtain ⟨a, b, c, d⟩ := h
  have h14 : l.getD 14 false = false := false_of fun e => by have := c e; rw [hn] at this; cases this
  have e : (l.setIfInBounds 11 true).getD 11 false = true := by simp [hz]; omega
  rw [h14, hn, h10] at a
  refine ⟨a, by rw [e, getD_set_ne false (show (11 : Nat) ≠ 14 by decide), h14]; rfl, fun _ => getD_set_true h10, ?_, fun _ => getD_set_true h4⟩
  rw [getD_set_ne false (show (11 : Nat) ≠ 14 by decide), h14]; exact fun e => by cases e
theorem giveS_14 {N : Nat} (hz : l.size = N) (hN : 14 < N) (hn : l.getD 14 false = false) (h11 : l.getD 11 false = true) (h : GiveS W3 W4 W5 W6 l y) : y = W5 ∧ GiveS W3 W4 W5 W6 (l.setIfInBounds 14 true) W6 := by
  obtain ⟨a, b, c, d⟩ := h
  have e : (l.setIfInBounds 14 true).getD 14 false = true := by simp [hz]; omega
  rw [hn, h11] at a
  exact ⟨a, by rw [e]; rfl, fun e => getD_set_true (b (by rwa [getD_set_ne false (show (14 : Nat) ≠ 11 by decide)] at e)), fun _ => getD_set_true h11, fun e => getD_set_true (d (by rwa [getD_set_ne false (show (14 : Nat) ≠ 11 by decide)] at e))⟩
theorem giveS_cell (h : GiveS W3 W4 W5 W6 l y) {P : World → Prop} (h3 : P W3) (h4 : P W4) (h5 : P W5) (h6 : P W6) : P y := by
  rw [h.1]
  cases l.getD 14 false <;> cases l.getD 11 false <;> cases l.getD 10 false <;> assumption
theorem giveS_cell5 (hn : l.getD 14 false = false) (h : GiveS W3 W4 W5 W6 l y) {P : World → Prop} (h3 : P W3) (h4 : P W4) (h5 : P W5) : P y := by
  rw [h.1, hn]
  cases l.getD 11 false <;> cases l.getD 10 false <;> assumption
end
theorem isW_next {x : World} {B p : Nat} {st : Int} {table t' addr : Nat} {v : Value} {l : List St} {kind : Int} {over o : Bool} (h : IsW x B p st table addr v l kind over) :
    (∀ i, x.frozen? ⟨p, i, none⟩ = false) ∧ (∀ i, (putB x p (.cells (wC st t' addr v kind over) 39)).frozen? ⟨p, i, none⟩ = false) ∧
    x.setCell ⟨p, 1, none⟩ (.int .u64 (t' : Nat)) = putB x p (.cells (wC st t' addr v kind over) 39) ∧
    (putB x p (.cells (wC st t' addr v kind over) 39)).setCell ⟨p, 5, none⟩ (.bool o) = putB (putB x p (.cells (wC st t' addr v kind over) 39)) p (.cells (wC st t' addr v kind o) 39) ∧
    (∀ i, x.cell? ⟨p, i, none⟩ = (wC st table addr v kind over)[i]?) ∧ (∀ i, (putB x p (.cells (wC st t' addr v kind over) 39)).cell? ⟨p, i, none⟩ = (wC st t' addr v kind over)[i]?) ∧
    IsW (putB (putB x p (.cells (wC st t' addr v kind over) 39)) p (.cells (wC st t' addr v kind o) 39)) B p st t' addr v l kind o ∧ Only (fun b => b = p) x (putB (putB x p (.cells (wC st t' addr v kind over) 39)) p (.cells (wC st t' addr v kind o) 39)) := by
  have hlt := lt_of_block h.hp
  have h1 : (putB x p (.cells (wC st t' addr v kind over) 39)).heap[p]? = some (.cells (wC st t' addr v kind over) 39) := putB_same _ hlt
  have ho : Only (fun b => b = p) x (putB (putB x p (.cells (wC st t' addr v kind over) 39)) p (.cells (wC st t' addr v kind o) 39)) := ((Only.refl (fun b => b = p) x).putB _ (fun _ => rfl)).putB _ (fun _ => rfl)
  refine ⟨frozen_of h.hp, frozen_of h1, by rw [set_of h.hp]; rfl, by rw [set_of h1]; rfl, cell_of h.hp, cell_of h1, ?_, ho⟩
  exact { hp := putB_same _ (lt_of_block h1), own := own_keep h.own ho (fun b hb e => by have := (h.own.lt b hb).1; have := h.pB; omega), pB := h.pB, xB := Nat.le_trans h.xB ho.size }
set_option maxHeartbeats 16000000 in
set_option maxRecDepth 100000 in
theorem give_yes {x : World} {B p : Nat} {st : Int} {table addr : Nat} {v : Value} {l : List St} {kind : Int} (h : IsW x B p st table addr v l kind false) (haddr : addr < 18446744073709551616) (hl : l.length ≤ 3) (a : Nat) (ha : a < 18446744073709551616) :
    Calls Try.prog 20 #[.pointer (some ⟨p, 0, none⟩), .int .u64 (a : Nat), .bool true] x (fun e y => e = .returned (.tuple #[]) ∧ (∃ v', IsW y B p st (giveT (decE st l.length a) (decD st l.length a) table) addr v' (l ++ [⟨l.length, atN table addr l.length, a, decD st l.length a⟩]) (giveK (decE st l.length a) (decD st l.length a) kind) (giveO (decE st l.length a) (decD st l.length a))) ∧ Only (fun b => b = p ∨ B ≤ b) x y) := by
  have hlast := decD_last st a
  have hkind := decD_kind st l.length a
  have hdec := fun y => refDecode_calls st (l.length : Nat) a y ha
  simp only [decD_v] at hdec
  obtain ⟨ad, c, rfl, -⟩ := own_value h.own
  obtain ⟨lv, hlv⟩ : ∃ lv, l.length = lv := ⟨_, rfl⟩
  obtain ⟨at_, hat⟩ : ∃ at_, atN table addr l.length = at_ := ⟨_, rfl⟩
  have HW := Lib.hid h
  have HA := Lib.hid (And.intro haddr (And.intro hl hat))
  have hp := h.hp
  rw [hlv] at hdec hkind hp ⊢
  rw [← hlv, hat]
  rw [hlv]
  have h3 : lv = 3 → (decD st lv a).k ≠ 1 := fun e => by subst e; exact hlast
  clear hlast
  generalize decD st lv a = d at *
  generalize decE st lv a = E at *
  obtain ⟨dk, da, dr, dw, dx, dS⟩ := d
  have hdec : ∀ y, Calls Try.prog 49 #[.int .i64 st, .int .i64 (lv : Nat), .int .u64 (a : Nat)] y (RetB y (.tuple #[.agg #[Value.int .i64 dk, .int .u64 (da : Nat), .bool dr, .bool dw, .bool dx, .int .i64 dS], .int .i64 E])) := hdec
  have HD := Lib.hid (And.intro hdec (And.intro hkind h3))
  have HP := Lib.hid hp
  have HLV := Lib.hid hlv
  have l3 : (lv : Int) ≤ 3 := by omega
  obtain ⟨k1, q1, z1⟩ := of_block hp
  clear h haddr hl hat hdec hkind h3 hp hlv ha
  go_enter Try.func20, Try.ntmps20
  go_upto_region 3 with (fail)
  clear k1 q1 z1
  have hatc : ∀ y, Old x y → Calls Try.prog 19 #[.pointer (some ⟨p, 0, none⟩)] y (RetB y (.int .u64 (at_ : Nat))) := fun y hy => by
    have := atW_calls (isW_old HW.out hy) HA.out.1 HA.out.2.1
    rw [HA.out.2.2] at this
    exact this
  have HAT := Lib.hid hatc
  clear hatc
  refine wp_region_walked (S := Old x) (by kernel_rfl) (by kernel_rfl) (by first | exact old_drew (old_refl _) | exact old_drew (old_drew (old_refl _))) ?_
  apply walked_cons
  · intro wS hS
    have kx := keep_old hS HP.out
    obtain ⟨k1, q1, z1⟩ := of_block kx
    have HS := Lib.hid hS
    clear kx hS
    go_wp2
    exact ⟨rfl, rfl, HS.out⟩
  · rfl
  (try simp only [Act.put, List.setIfInBounds_toArray, List.set_cons_succ, List.set_cons_zero])
  apply walked_cons
  · intro wS hS
    have kx := keep_old hS HP.out
    obtain ⟨k1, q1, z1⟩ := of_block kx
    have HS := Lib.hid hS
    have hc := HAT.out wS HS.out
    clear kx hS
    go_wp2_with fail
    (with_reducible refine hc.mono ?_)
    rintro e y9 ⟨rfl, hY⟩
    have HY := Lib.hid hY
    clear hc hY k1 q1 z1
    go_wp2
    exact ⟨rfl, rfl, old_then HS.out HY.out⟩
  · rfl
  (try simp only [Act.put, List.setIfInBounds_toArray, List.set_cons_succ, List.set_cons_zero])
  apply walked_cons
  · intro wS hS
    have kx := keep_old hS HP.out
    obtain ⟨k1, q1, z1⟩ := of_block kx
    have HS := Lib.hid hS
    clear kx hS
    go_wp2
    exact ⟨rfl, rfl, HS.out⟩
  · rfl
  (try simp only [Act.put, List.setIfInBounds_toArray, List.set_cons_succ, List.set_cons_zero])
  apply walked_cons
  · intro wS hS
    have kx := keep_old hS HP.out
    obtain ⟨k1, q1, z1⟩ := of_block kx
    have HS := Lib.hid hS
    clear kx hS
    go_wp2
    exact ⟨rfl, rfl, HS.out⟩
  · rfl
  (try simp only [Act.put, List.setIfInBounds_toArray, List.set_cons_succ, List.set_cons_zero])
  apply walked_cons
  · intro wS hS
    have kx := keep_old hS HP.out
    obtain ⟨k1, q1, z1⟩ := of_block kx
    have HS := Lib.hid hS
    clear kx hS
    go_wp2
    exact ⟨rfl, rfl, HS.out⟩
  · rfl
  (try simp only [Act.put, List.setIfInBounds_toArray, List.set_cons_succ, List.set_cons_zero])
  apply walked_cons
  · intro wS hS
    have kx := keep_old hS HP.out
    obtain ⟨k1, q1, z1⟩ := of_block kx
    have HS := Lib.hid hS
    clear kx hS
    go_wp2
    exact ⟨rfl, rfl, HS.out⟩
  · rfl
  (try simp only [Act.put, List.setIfInBounds_toArray, List.set_cons_succ, List.set_cons_zero])
  apply walked_cons
  · intro wS hS
    have kx := keep_old hS HP.out
    obtain ⟨k1, q1, z1⟩ := of_block kx
    have HS := Lib.hid hS
    clear kx hS
    go_wp2
    exact ⟨rfl, rfl, HS.out⟩
  · rfl
  (try simp only [Act.put, List.setIfInBounds_toArray, List.set_cons_succ, List.set_cons_zero])
  apply walked_cons
  · intro wS hS
    have kx := keep_old hS HP.out
    obtain ⟨k1, q1, z1⟩ := of_block kx
    have HS := Lib.hid hS
    clear kx hS
    go_wp2
    exact ⟨rfl, rfl, HS.out⟩
  · rfl
  (try simp only [Act.put, List.setIfInBounds_toArray, List.set_cons_succ, List.set_cons_zero])
  apply walked_cons
  · intro wS hS
    have kx := keep_old hS HP.out
    obtain ⟨k1, q1, z1⟩ := of_block kx
    have HS := Lib.hid hS
    clear kx hS
    go_wp2
    exact ⟨rfl, rfl, HS.out⟩
  · rfl
  (try simp only [Act.put, List.setIfInBounds_toArray, List.set_cons_succ, List.set_cons_zero])
  apply walked_nil
  intro wS hS
  have kx := keep_old hS HP.out
  obtain ⟨k1, q1, z1⟩ := of_block kx
  have hdec := HD.out.1
  have HS := Lib.hid hS
  clear hS kx
  go_wp2_with fail
  (with_reducible refine (hdec _).mono ?_)
  rintro e x5 ⟨rfl, hO5⟩
  have HO5 := Lib.hid hO5
  clear hdec hO5 k1 q1 z1
  go_upto_region 5 with (fail)
  have hO6 := old_then HS.out (old_then HO5.out (old_alloc (old_refl x5) (.cells #[Value.int .i64 dk, .int .u64 (da : Nat), .bool dr, .bool dw, .bool dx, .int .i64 dS] 48)))
  have hnb := new_block x5 (.cells #[Value.int .i64 dk, .int .u64 (da : Nat), .bool dr, .bool dw, .bool dx, .int .i64 dS] 48)
  have hnx : x.heap.size ≤ x5.heap.size := (old_then HS.out HO5.out).size
  generalize x5.alloc (.cells #[Value.int .i64 dk, .int .u64 (da : Nat), .bool dr, .bool dw, .bool dx, .int .i64 dS] 48) = Y at *
  generalize x5.heap.size = nb at *
  have hI := isW_old HW.out (old_then hO6 (old_drew (old_refl Y)))
  obtain ⟨g, cg, Z5, hrun, hown5, hon5⟩ := step_append hI.own HA.out.2.1 hI.xB ⟨lv, at_, a, ⟨dk, da, dr, dw, dx, dS⟩⟩
  have hbl : ∀ b, some b = (Value.slice ad l.length c).ownBlock → B ≤ b ∧ b < x.heap.size := fun b e => HW.out.own.lt b e.symm
  have hp5 := keep_only hon5 (fun e => by have := (hbl p e).1; have := HW.out.pB; omega) hI.hp
  have hn5 : Z5.heap[nb]? = _ := keep_only hon5 (fun e => by have := (hbl nb e).2; omega) hnb
  have h5 := of_block hp5
  rw [HLV.out] at hrun hp5 h5
  have hI5 : IsW Z5 B p st table addr (.slice ad lv c) [] kind false ∨ True := .inr trivial
  have HB3 := Lib.hid (And.intro hI.hp hnb)
  rw [HLV.out] at HB3
  have HB4 := Lib.hid (And.intro (keep_alloc (.cells #[Value.int .i64 (lv : Nat), .int .u64 (at_ : Nat), .int .u64 (a : Nat), .int .i64 dk, .int .u64 (da : Nat), .bool dr, .bool dw, .bool dx, .int .i64 dS] 54) HB3.out.1) (keep_alloc (.cells #[Value.int .i64 (lv : Nat), .int .u64 (at_ : Nat), .int .u64 (a : Nat), .int .i64 dk, .int .u64 (da : Nat), .bool dr, .bool dw, .bool dx, .int .i64 dS] 54) HB3.out.2))
  have HB5 := Lib.hid (And.intro hp5 hn5)
  have hne : nb ≠ p := by have := HW.out.pB; have := HW.out.xB; omega
  have HB6 := Lib.hid (And.intro (putB_same (.cells (wC st table addr (.slice (some ⟨g, 0, none⟩) (lv + 1) cg) kind false) 39) (lt_of_block hp5)) ((putB_other (.cells (wC st table addr (.slice (some ⟨g, 0, none⟩) (lv + 1) cg) kind false) 39) (fun e => hne e.symm)).trans hn5))
  have HST := Lib.hid (And.intro (show Z5.setCell ⟨p, 3, none⟩ (.slice (some ⟨g, 0, none⟩) (lv + 1) cg) = putB Z5 p (.cells (wC st table addr (.slice (some ⟨g, 0, none⟩) (lv + 1) cg) kind false) 39) by rw [set_of hp5]; rfl) (And.intro h5.1 h5.2.1))
  have HRUN := Lib.hid hrun
  have HEND := Lib.hid (And.intro hown5 (And.intro hon5 (And.intro hO6 hbl)))
  clear hO6 hnb hnx hI hrun hown5 hon5 hbl hp5 hn5 h5 hI5 hne
  refine wp_region_met (S := GiveS Y.drew (Y.drew.alloc (.cells #[Value.int .i64 (lv : Nat), .int .u64 (at_ : Nat), .int .u64 (a : Nat), .int .i64 dk, .int .u64 (da : Nat), .bool dr, .bool dw, .bool dx, .int .i64 dS] 54)) Z5 (putB Z5 p (.cells (wC st table addr (.slice (some ⟨g, 0, none⟩) (lv + 1) cg) kind false) 39))) 15 (by kernel_rfl) (by kernel_rfl) (by kernel_rfl) (by decide) (giveS_start _) ?_
  apply walkedM_cons
  · intro l9 wS hz hn hm hS
    have hS9 := giveS_other 0 (by decide) (by decide) (by decide) hS
    clear hS hm
    go_wp2
    exact ⟨rfl, rfl, hS9⟩
  · rfl
  (try simp only [Act.put, List.setIfInBounds_toArray, List.set_cons_succ, List.set_cons_zero])
  apply walkedM_cons
  · intro l9 wS hz hn hm hS
    have hS9 := giveS_other 1 (by decide) (by decide) (by decide) hS
    clear hS hm
    go_wp2
    exact ⟨rfl, rfl, hS9⟩
  · rfl
  (try simp only [Act.put, List.setIfInBounds_toArray, List.set_cons_succ, List.set_cons_zero])
  apply walkedM_cons
  · intro l9 wS hz hn hm hS
    have hS9 := giveS_other 2 (by decide) (by decide) (by decide) hS
    clear hS hm
    go_wp2
    exact ⟨rfl, rfl, hS9⟩
  · rfl
  (try simp only [Act.put, List.setIfInBounds_toArray, List.set_cons_succ, List.set_cons_zero])
  apply walkedM_cons
  · intro l9 wS hz hn hm hS
    have hS9 := giveS_other 3 (by decide) (by decide) (by decide) hS
    clear hS hm
    go_wp2
    exact ⟨rfl, rfl, hS9⟩
  · rfl
  (try simp only [Act.put, List.setIfInBounds_toArray, List.set_cons_succ, List.set_cons_zero])
  apply walkedM_cons
  · intro l9 wS hz hn hm hS
    have hS9 := giveS_other 4 (by decide) (by decide) (by decide) hS
    have hb := giveS_cell5 (giveS_4 hn hS).1 hS (P := fun y => y.heap[p]? = _) HB3.out.1 HB4.out.1 HB5.out.1
    obtain ⟨k1, q1, z1⟩ := of_block hb
    clear hb
    clear hS hm
    go_wp2
    exact ⟨rfl, rfl, hS9⟩
  · rfl
  (try simp only [Act.put, List.setIfInBounds_toArray, List.set_cons_succ, List.set_cons_zero])
  apply walkedM_cons
  · intro l9 wS hz hn hm hS
    have hS9 := giveS_other 5 (by decide) (by decide) (by decide) hS
    clear hS hm
    go_wp2
    exact ⟨rfl, rfl, hS9⟩
  · rfl
  (try simp only [Act.put, List.setIfInBounds_toArray, List.set_cons_succ, List.set_cons_zero])
  apply walkedM_cons
  · intro l9 wS hz hn hm hS
    have hS9 := giveS_other 6 (by decide) (by decide) (by decide) hS
    clear hS hm
    go_wp2
    exact ⟨rfl, rfl, hS9⟩
  · rfl
  (try simp only [Act.put, List.setIfInBounds_toArray, List.set_cons_succ, List.set_cons_zero])
  apply walkedM_cons
  · intro l9 wS hz hn hm hS
    have hS9 := giveS_other 7 (by decide) (by decide) (by decide) hS
    clear hS hm
    go_wp2
    exact ⟨rfl, rfl, hS9⟩
  · rfl
  (try simp only [Act.put, List.setIfInBounds_toArray, List.set_cons_succ, List.set_cons_zero])
  apply walkedM_cons
  · intro l9 wS hz hn hm hS
    have hS9 := giveS_other 8 (by decide) (by decide) (by decide) hS
    have hb := giveS_cell hS (P := fun y => y.heap[nb]? = _) HB3.out.2 HB4.out.2 HB5.out.2 HB6.out.2
    obtain ⟨k1, q1, z1⟩ := of_block hb
    clear hb
    clear hS hm
    go_wp2
    exact ⟨rfl, rfl, hS9⟩
  · rfl
  (try simp only [Act.put, List.setIfInBounds_toArray, List.set_cons_succ, List.set_cons_zero])
  apply walkedM_cons
  · intro l9 wS hz hn hm hS
    have hS9 := giveS_other 9 (by decide) (by decide) (by decide) hS
    clear hS hm
    go_wp2
    exact ⟨rfl, rfl, hS9⟩
  · rfl
  (try simp only [Act.put, List.setIfInBounds_toArray, List.set_cons_succ, List.set_cons_zero])
  apply walkedM_cons
  · intro l9 wS hz hn hm hS
    obtain ⟨rfl, h9⟩ := giveS_10 hz (by decide) hn hS
    clear hS hm
    go_wp2
    exact ⟨rfl, rfl, h9⟩
  · rfl
  (try simp only [Act.put, List.setIfInBounds_toArray, List.set_cons_succ, List.set_cons_zero])
  apply walkedM_cons
  · intro l9 wS hz hn hm hS
    obtain ⟨rfl, h9⟩ := giveS_11 hz (by decide) hn (hm _ rfl ⟨10, .data⟩ (by simp) rfl) (hm _ rfl ⟨4, .data⟩ (by simp) rfl) hS
    clear hS hm
    refine wpList_append_run rfl _ _ 37 rfl _ _ rfl rfl _ _ HRUN.out ?_
    exact ⟨rfl, rfl, h9⟩
  · rfl
  (try simp only [Act.put, List.setIfInBounds_toArray, List.set_cons_succ, List.set_cons_zero])
  apply walkedM_cons
  · intro l9 wS hz hn hm hS
    have hS9 := giveS_other 12 (by decide) (by decide) (by decide) hS
    clear hS hm
    go_wp2
    exact ⟨rfl, rfl, hS9⟩
  · rfl
  (try simp only [Act.put, List.setIfInBounds_toArray, List.set_cons_succ, List.set_cons_zero])
  apply walkedM_cons
  · intro l9 wS hz hn hm hS
    have hS9 := giveS_other 13 (by decide) (by decide) (by decide) hS
    clear hS hm
    go_wp2
    exact ⟨rfl, rfl, hS9⟩
  · rfl
  (try simp only [Act.put, List.setIfInBounds_toArray, List.set_cons_succ, List.set_cons_zero])
  apply walkedM_cons
  · intro l9 wS hz hn hm hS
    obtain ⟨rfl, h9⟩ := giveS_14 hz (by decide) hn (hm _ rfl ⟨11, .data⟩ (by simp) rfl) hS
    obtain ⟨s1, s2, s3⟩ := HST.out
    clear hS hm
    go_wp2
    exact ⟨rfl, rfl, h9⟩
  · rfl
  (try simp only [Act.put, List.setIfInBounds_toArray, List.set_cons_succ, List.set_cons_zero])
  apply walkedM_nil
  intro l9 wS hz hall hS
  have e14 := hall 14 (by decide)
  obtain ⟨e, -, -, -⟩ := hS
  rw [e14] at e
  have e2 : wS = putB Z5 p (.cells (wC st table addr (.slice (some ⟨g, 0, none⟩) (lv + 1) cg) kind false) 39) := e
  clear e
  subst e2
  clear hz hall e14
  have hp6 := HB6.out.1
  have hn6 := HB6.out.2
  have hw6 : Only (fun b => b = p) Z5 (putB Z5 p (.cells (wC st table addr (.slice (some ⟨g, 0, none⟩) (lv + 1) cg) kind false) 39)) := (Only.refl _ Z5).putB _ (fun _ => rfl)
  have hown5 := HEND.out.1
  rw [HLV.out] at hown5
  have hI6 : IsW (putB Z5 p (.cells (wC st table addr (.slice (some ⟨g, 0, none⟩) (lv + 1) cg) kind false) 39)) B p st table addr (.slice (some ⟨g, 0, none⟩) (lv + 1) cg) (l ++ [⟨lv, at_, a, ⟨dk, da, dr, dw, dx, dS⟩⟩]) kind false :=
    { hp := hp6, own := own_keep hown5 hw6 (fun b hb e => by have := (hown5.lt b hb).1; have := HW.out.pB; omega), pB := HW.out.pB, xB := Nat.le_trans HW.out.xB (Nat.le_trans HEND.out.2.2.1.size (Nat.le_trans HEND.out.2.1.size hw6.size)) }
  have hO6 : Only (fun b => b = p ∨ B ≤ b) x (putB Z5 p (.cells (wC st table addr (.slice (some ⟨g, 0, none⟩) (lv + 1) cg) kind false) 39)) :=
    ((Only.of_below (old_then HEND.out.2.2.1 (old_drew (old_refl Y)))).mono (fun b _ f => f.elim)).trans ((HEND.out.2.1.mono fun b _ e => .inr (HEND.out.2.2.2 b e).1).trans (hw6.mono fun b _ e => .inl e))
  generalize putB Z5 p (.cells (wC st table addr (.slice (some ⟨g, 0, none⟩) (lv + 1) cg) kind false) 39) = Z6 at *
  have HI6 := Lib.hid hI6
  have HN6 := Lib.hid hn6
  have HO6 := Lib.hid hO6
  clear hp6 hn6 hw6 hown5 hI6 hO6
  show wpList _ _ _ [] _ _
  by_cases hE2 : E = 2
  · subst hE2
    obtain ⟨f0, f1, s4, s5, k0, k1, hI, hO⟩ := isW_end (k := 3) (o := true) HI6.out
    obtain ⟨k2, q2, z2⟩ := of_block HN6.out
    have HF := Lib.hid (And.intro hI hO)
    clear hI hO
    go_wp2
    first | (refine bodyPost_end (v := .tuple #[]) (by first | rfl | kernel_rfl) rfl ?_) | (refine bodyPost_ret (v := .tuple #[]) (by first | rfl | kernel_rfl) rfl ?_)
    have eT : giveT 2 (⟨dk, da, dr, dw, dx, dS⟩ : D6) table = table := by simp [giveT]
    have eK : giveK 2 (⟨dk, da, dr, dw, dx, dS⟩ : D6) kind = 3 := by simp [giveK]
    have eO : giveO 2 (⟨dk, da, dr, dw, dx, dS⟩ : D6) = true := by simp [giveO]
    rw [eT, eK, eO]
    exact ⟨rfl, ⟨_, HF.out.1⟩, HO6.out.trans (HF.out.2.mono fun b _ e => .inl e)⟩
  · by_cases hE0 : E = 0
    · subst hE0
      clear hE2
      by_cases hk0 : dk = 0
      · subst hk0
        obtain ⟨f0, f1, s4, s5, k0, k1, hI, hO⟩ := isW_end (k := 1) (o := true) HI6.out
        obtain ⟨k2, q2, z2⟩ := of_block HN6.out
        have HF := Lib.hid (And.intro hI hO)
        clear hI hO
        go_wp2
        first | (refine bodyPost_end (v := .tuple #[]) (by first | rfl | kernel_rfl) rfl ?_) | (refine bodyPost_ret (v := .tuple #[]) (by first | rfl | kernel_rfl) rfl ?_)
        have eT : giveT 0 (⟨0, da, dr, dw, dx, dS⟩ : D6) table = table := by simp [giveT]
        have eK : giveK 0 (⟨0, da, dr, dw, dx, dS⟩ : D6) kind = 1 := by simp [giveK]
        have eO : giveO 0 (⟨0, da, dr, dw, dx, dS⟩ : D6) = true := by simp [giveO]
        rw [eT, eK, eO]
        exact ⟨rfl, ⟨_, HF.out.1⟩, HO6.out.trans (HF.out.2.mono fun b _ e => .inl e)⟩
      · by_cases hk1 : dk = 1
        · subst hk1
          have h33 := HD.out.2.2
          have hb3 : ((lv : Int) == 3) = false := by simp; exact fun e => h33 (by omega) rfl
          clear h33 hk0
          obtain ⟨f0, f1, s4, s5, k0, k1, hI, hO⟩ := isW_next (t' := da) (o := false) HI6.out
          obtain ⟨k2, q2, z2⟩ := of_block HN6.out
          have HF := Lib.hid (And.intro hI hO)
          clear hI hO
          go_wp2
          first | (refine bodyPost_end (v := .tuple #[]) (by first | rfl | kernel_rfl) rfl ?_) | (refine bodyPost_ret (v := .tuple #[]) (by first | rfl | kernel_rfl) rfl ?_)
          have eT : giveT 0 (⟨1, da, dr, dw, dx, dS⟩ : D6) table = da := by simp [giveT]
          have eK : giveK 0 (⟨1, da, dr, dw, dx, dS⟩ : D6) kind = kind := by simp [giveK]
          have eO : giveO 0 (⟨1, da, dr, dw, dx, dS⟩ : D6) = false := by simp [giveO]
          rw [eT, eK, eO]
          exact ⟨rfl, ⟨_, HF.out.1⟩, HO6.out.trans (HF.out.2.mono fun b _ e => .inl e)⟩
        · have hb0 : (dk == 0) = false := by simp [hk0]
          have hb1 : (dk == 1) = false := by simp [hk1]
          have HKK := Lib.hid (And.intro hk0 hk1)
          clear hk0 hk1
          obtain ⟨f0, f1, s4, s5, k0, k1, hI, hO⟩ := isW_end (k := 0) (o := true) HI6.out
          obtain ⟨k2, q2, z2⟩ := of_block HN6.out
          have HF := Lib.hid (And.intro hI hO)
          clear hI hO
          go_wp2
          first | (refine bodyPost_end (v := .tuple #[]) (by first | rfl | kernel_rfl) rfl ?_) | (refine bodyPost_ret (v := .tuple #[]) (by first | rfl | kernel_rfl) rfl ?_)
          have eT : giveT 0 (⟨dk, da, dr, dw, dx, dS⟩ : D6) table = table := by simp [giveT, HKK.out.1, HKK.out.2]
          have eK : giveK 0 (⟨dk, da, dr, dw, dx, dS⟩ : D6) kind = 0 := by simp [giveK, HKK.out.1, HKK.out.2]
          have eO : giveO 0 (⟨dk, da, dr, dw, dx, dS⟩ : D6) = true := by simp [giveO, HKK.out.1, HKK.out.2]
          rw [eT, eK, eO]
          exact ⟨rfl, ⟨_, HF.out.1⟩, HO6.out.trans (HF.out.2.mono fun b _ e => .inl e)⟩
    · have hb2 : (E == 2) = false := by simp [hE2]
      have hb0 : (E == 0) = false := by simp [hE0]
      have HEE := Lib.hid (And.intro hE2 hE0)
      clear hE2 hE0
      obtain ⟨f0, f1, s4, s5, k0, k1, hI, hO⟩ := isW_end (k := 4) (o := true) HI6.out
      obtain ⟨k2, q2, z2⟩ := of_block HN6.out
      have HF := Lib.hid (And.intro hI hO)
      clear hI hO
      go_wp2
      first | (refine bodyPost_end (v := .tuple #[]) (by first | rfl | kernel_rfl) rfl ?_) | (refine bodyPost_ret (v := .tuple #[]) (by first | rfl | kernel_rfl) rfl ?_)
      have eT : giveT E (⟨dk, da, dr, dw, dx, dS⟩ : D6) table = table := by simp [giveT, HEE.out.1, HEE.out.2]
      have eK : giveK E (⟨dk, da, dr, dw, dx, dS⟩ : D6) kind = 4 := by simp [giveK, HEE.out.1, HEE.out.2]
      have eO : giveO E (⟨dk, da, dr, dw, dx, dS⟩ : D6) = true := by simp [giveO, HEE.out.1, HEE.out.2]
      rw [eT, eK, eO]
      exact ⟨rfl, ⟨_, HF.out.1⟩, HO6.out.trans (HF.out.2.mono fun b _ e => .inl e)⟩
end Go.Proofs.Ytlbehhbicmmdoaa
namespace Go.Proofs.Ytlbehhbicmmdoaa
set_option linter.unusedVariables false
set_option linter.unusedSimpArgs false
open Go.RowKit
section
variable {raw : Nat → Nat} {ok : Nat → Bool} {st : Int} {addr n lv table : Nat} {L0 : List St} {R : List St × Int}
/-- The document's walk is on its way to R. -/
def OnWay (raw : Nat → Nat) (ok : Nat → Bool) (st : Int) (addr n lv table : Nat) (L0 : List St) (R : List St × Int) : Prop := R = (L0 ++ (walkN raw ok st addr n lv table).1, (walkN raw ok st addr n lv table).2)
theorem onWay_start (root : Nat) : OnWay raw ok st addr 4 0 root [] (walkN raw ok st addr 4 0 root) := rfl
theorem onWay_no (h : OnWay raw ok st addr (n + 1) lv table L0 R) (hok : ok (atN table addr lv) = false) : R = (L0, -1) := by
  unfold OnWay at h
  rw [walkN_no hok] at h
  rw [h]; simp
theorem onWay_yes (h : OnWay raw ok st addr (n + 1) lv table L0 R) (hok : ok (atN table addr lv) = true) :
    (giveO (decE st lv (raw (atN table addr lv))) (decD st lv (raw (atN table addr lv))) = true ∧ R = (L0 ++ [⟨lv, atN table addr lv, raw (atN table addr lv), decD st lv (raw (atN table addr lv))⟩], giveK (decE st lv (raw (atN table addr lv))) (decD st lv (raw (atN table addr lv))) 4)) ∨
    (giveO (decE st lv (raw (atN table addr lv))) (decD st lv (raw (atN table addr lv))) = false ∧ OnWay raw ok st addr n (lv + 1) (giveT (decE st lv (raw (atN table addr lv))) (decD st lv (raw (atN table addr lv))) table) (L0 ++ [⟨lv, atN table addr lv, raw (atN table addr lv), decD st lv (raw (atN table addr lv))⟩]) R ∧
      giveK (decE st lv (raw (atN table addr lv))) (decD st lv (raw (atN table addr lv))) 4 = 4 ∧ (decD st lv (raw (atN table addr lv))).k = 1) := by
  unfold OnWay at h
  by_cases h2 : decE st lv (raw (atN table addr lv)) = 2
  · rw [walkN_range hok h2] at h
    exact .inl ⟨by simp [giveO, h2], by rw [h]; simp [giveK, h2]⟩
  · by_cases h0 : decE st lv (raw (atN table addr lv)) = 0
    · by_cases hk : (decD st lv (raw (atN table addr lv))).k = 0
      · rw [walkN_none hok h0 hk] at h
        exact .inl ⟨by simp [giveO, hk], by rw [h]; simp [giveK, h0, hk]⟩
      · by_cases hk1 : (decD st lv (raw (atN table addr lv))).k = 1
        · rw [walkN_table hok h0 hk1] at h
          refine .inr ⟨by simp [giveO, h0, hk1], ?_, by simp [giveK, h0, hk1], hk1⟩
          unfold OnWay
          rw [h]
          simp [giveT, h0, hk1]
        · rw [walkN_leaf hok h0 hk hk1] at h
          exact .inl ⟨by simp [giveO, hk1], by rw [h]; simp [giveK, h0, hk, hk1]⟩
    · rw [walkN_form hok h2 h0] at h
      exact .inl ⟨by simp [giveO, h0], by rw [h]; simp [giveK, h0, h2]⟩
end
end Go.Proofs.Ytlbehhbicmmdoaa
/- The edits of layer 14's world. -/
namespace Go.Proofs.Ytlbehhbicmmdoaa
set_option linter.unusedVariables false
set_option linter.unusedSimpArgs false
open Go.ChangeShapes Go.WideShapes Go.Deep Go.RowKit Go.Joins
/-- An edit. -/
structure Ed where
  wh : Int
  ix : Int
  d : D6
  raw : Bool
  w : Nat
def Ed.cells (e : Ed) : List Value := [.int .i64 e.wh, .int .i64 e.ix, .int .i64 e.d.k, .int .u64 (e.d.a : Nat), .bool e.d.r, .bool e.d.w, .bool e.d.x, .int .i64 e.d.s, .bool e.raw, .int .u64 (e.w : Nat)]
/-- A slice of edits reads as l. -/
def Edits (w : World) (ad : Option Addr) (l : List Ed) : Prop :=
  ∀ (i : Nat) (e : Ed), l[i]? = some e → e.d.a < 18446744073709551616 ∧ e.w < 18446744073709551616 ∧ ∃ b off, ad = some ⟨b, off, none⟩ ∧ b < w.heap.size ∧ ∀ (c : Nat) (v : Value), e.cells[c]? = some v → w.cell? ⟨b, off + i * 10 + c, none⟩ = some v
theorem edits_old {w x : World} {ad : Option Addr} {l : List Ed} (h : Edits w ad l) (ho : Old w x) : Edits x ad l := by
  intro i y hy
  obtain ⟨h1, h2, b, off, e, hb, hc⟩ := h i y hy
  exact ⟨h1, h2, b, off, e, Nat.lt_of_lt_of_le hb ho.size, fun c v hv => by rw [ho.cell (p := ⟨b, off + i * 10 + c, none⟩) hb]; exact hc c v hv⟩
end Go.Proofs.Ytlbehhbicmmdoaa
/- The argument []Edit of the statements of layer 14. -/
namespace Go.Proofs.Ytlbehhbicmmdoaa
set_option linter.unusedVariables false
set_option linter.unusedSimpArgs false
open Go.ChangeShapes Go.WideShapes Go.Deep Go.RowKit Go.Joins
section
variable {H : Type} {enc : TypeId × Value → H} {P : Program} {w : World}
theorem list6 {α : Type} {l : List α} (h : l.length = 6) : ∃ c0 c1 c2 c3 c4 c5, l = [c0, c1, c2, c3, c4, c5] := by
  match l, h with
  | [c0, c1, c2, c3, c4, c5], _ => exact ⟨c0, c1, c2, c3, c4, c5, rfl⟩
theorem desc_of {t : TypeId} {f0 f1 f2 f3 g0 g1 g2 : Field} {spare : Nat → Bool} {held : Bool} {n : Nat} {cs : List Value} {y : DataW H × List MemPlace} (hlen : cs.length = 6) (he : P.underlying t = some (.struct #[f0, f1, f2, f3]))
    (o0 : f0.offset = 0) (o1 : f1.offset = 1) (o2 : f2.offset = 2) (o3 : f3.offset = 5) (c0 : P.cellsOf f0.type = 1) (c1 : P.cellsOf f1.type = 1) (c2 : P.cellsOf f2.type = 3) (c3 : P.cellsOf f3.type = 1)
    (h0 : P.underlying f0.type = some (.int .i64)) (h1 : P.underlying f1.type = some (.int .u64)) (h2 : P.underlying f2.type = some (.struct #[g0, g1, g2])) (h3 : P.underlying f3.type = some (.int .i64))
    (hone : oneCellFields P #[g0, g1, g2] = true) (hb0 : P.underlying g0.type = some .bool) (hb1 : P.underlying g1.type = some .bool) (hb2 : P.underlying g2.type = some .bool)
    (h : DataW.trod enc P w 0 spare held n t cs = some y) : ∃ d : D6, cs = d.cells ∧ d.a < 18446744073709551616 := by
  obtain ⟨w0, w1, w2, w3, w4, w5, rfl⟩ := list6 hlen
  obtain ⟨xs, k, hk, hxy, _, hxl, hff⟩ := DataW.trod_struct he h
  match xs, hxl with
  | [y0, y1, y2, y3], _ =>
    have t0 := hff 0 f0 rfl
    have t1 := hff 1 f1 rfl
    have t2 := hff 2 f2 rfl
    have t3 := hff 3 f3 rfl
    simp only [o0, o1, o2, o3, c0, c1, c2, c3] at t0 t1 t2 t3
    change DataW.trod enc P w 0 _ _ k f0.type [w0] = some y0 at t0
    change DataW.trod enc P w 0 _ _ k f1.type [w1] = some y1 at t1
    change DataW.trod enc P w 0 _ _ k f2.type [w2, w3, w4] = some y2 at t2
    change DataW.trod enc P w 0 _ _ k f3.type [w5] = some y3 at t3
    obtain ⟨n0, e0, _, r0⟩ := DataW.trod_int h0 t0
    obtain ⟨n1, e1, _, r1⟩ := DataW.trod_int h1 t1
    obtain ⟨n3, e3, _, r3⟩ := DataW.trod_int h3 t3
    obtain ⟨z0, z1, z2, n', hx', _, u0, u1, u2⟩ := trod_struct3 h2 t2
    obtain ⟨q0, j0⟩ := hone_of hone 0 g0 rfl
    obtain ⟨q1, j1⟩ := hone_of hone 1 g1 rfl
    obtain ⟨q2, j2⟩ := hone_of hone 2 g2 rfl
    simp only [q0, q1, q2, j0, j1, j2] at u0 u1 u2
    change DataW.trod enc P w 0 _ _ n' g0.type [w2] = some z0 at u0
    change DataW.trod enc P w 0 _ _ n' g1.type [w3] = some z1 at u1
    change DataW.trod enc P w 0 _ _ n' g2.type [w4] = some z2 at u2
    obtain ⟨b2, e2, _⟩ := DataW.trod_bool hb0 u0
    obtain ⟨b3, e4, _⟩ := DataW.trod_bool hb1 u1
    obtain ⟨b4, e5, _⟩ := DataW.trod_bool hb2 u2
    simp only [List.cons.injEq, and_true] at e0 e1 e2 e3 e4 e5
    subst e0 e1 e2 e3 e4 e5
    have hr1 := wf_w64 r1
    refine ⟨⟨n0, n1.toNat, b2, b3, b4, n3⟩, ?_, by show n1.toNat < _; omega⟩
    have en : ((n1.toNat : Nat) : Int) = n1 := by omega
    show _ = [Value.int .i64 n0, .int .u64 ((n1.toNat : Nat) : Int), .bool b2, .bool b3, .bool b4, .int .i64 n3]
    rw [en]
theorem open_edits {t0 e t : TypeId} {e0 e1 e2 e3 e4 f0 f1 f2 f3 g0 g1 g2 : Field} {v : Value} {d : DataW H} {p : List MemPlace} (ht : P.underlying t0 = some (.slice e)) (he : P.underlying e = some (.struct #[e0, e1, e2, e3, e4])) (ce : P.cellsOf e = 10)
    (q0 : e0.offset = 0) (q1 : e1.offset = 1) (q2 : e2.offset = 2) (q3 : e3.offset = 8) (q4 : e4.offset = 9) (k0 : P.cellsOf e0.type = 1) (k1 : P.cellsOf e1.type = 1) (k2 : P.cellsOf e2.type = 6) (k3 : P.cellsOf e3.type = 1) (k4 : P.cellsOf e4.type = 1) (et : e2.type = t)
    (i0 : P.underlying e0.type = some (.int .i64)) (i1 : P.underlying e1.type = some (.int .i64)) (i3 : P.underlying e3.type = some .bool) (i4 : P.underlying e4.type = some (.int .u64))
    (hs : P.underlying t = some (.struct #[f0, f1, f2, f3]))
    (o0 : f0.offset = 0) (o1 : f1.offset = 1) (o2 : f2.offset = 2) (o3 : f3.offset = 5) (c0 : P.cellsOf f0.type = 1) (c1 : P.cellsOf f1.type = 1) (c2 : P.cellsOf f2.type = 3) (c3 : P.cellsOf f3.type = 1)
    (h0 : P.underlying f0.type = some (.int .i64)) (h1 : P.underlying f1.type = some (.int .u64)) (h2 : P.underlying f2.type = some (.struct #[g0, g1, g2])) (h3 : P.underlying f3.type = some (.int .i64))
    (hone : oneCellFields P #[g0, g1, g2] = true) (hb0 : P.underlying g0.type = some .bool) (hb1 : P.underlying g1.type = some .bool) (hb2 : P.underlying g2.type = some .bool)
    (hv : ∃ a n c, v = .slice a n c) (h : DataW.Trod enc P w 0 (fun _ => true) true t0 v d p) :
    ∃ ad cap l, v = .slice ad l.length cap ∧ l.length ≤ maxLen ∧ Edits w ad l := by
  subst et
  obtain ⟨a0, len0, cap0, rfl⟩ := hv
  obtain ⟨fuel, hf⟩ := h
  rcases Go.Deep.open_slice ht hf with ⟨hcs, _⟩ | ⟨a, len, cap, m, n, D, Pl, hcs, _, hl, hm, hmm, _, hi⟩
  · simp [Value.cells] at hcs
    obtain ⟨rfl, rfl, rfl⟩ := hcs
    exact ⟨none, 0, [], rfl, Nat.zero_le _, fun i x hx => by simp at hx⟩
  · simp [Value.cells] at hcs
    obtain ⟨rfl, rfl, rfl⟩ := hcs
    have hlm : len0 ≤ m := by rw [hmm]; split <;> omega
    have hspot : len0 = 0 ∨ a.spot = none := by
      by_cases hz : len0 = 0
      · exact .inl hz
      · obtain ⟨cs', u1, u2⟩ := hi 0 (by omega)
        rw [ce] at u1
        obtain ⟨_, hlen, hcell⟩ := World.cells?_some u1
        have z0 := hcell 0 (by omega)
        rw [List.getElem?_eq_getElem (show 0 < cs'.length by omega)] at z0
        exact .inr (by simpa [Addr.add] using (cell_plain z0).1)
    obtain ⟨l, hll, hq⟩ := list_of (Q := fun i (x : Ed) => x.d.a < 18446744073709551616 ∧ x.w < 18446744073709551616 ∧ ∃ b off, (some a : Option Addr) = some ⟨b, off, none⟩ ∧ b < w.heap.size ∧ ∀ (c : Nat) (v : Value), x.cells[c]? = some v → w.cell? ⟨b, off + i * 10 + c, none⟩ = some v) len0 (fun i hil => by
      obtain ⟨cs', u1, u2⟩ := hi i (by omega)
      rw [ce] at u1
      obtain ⟨_, hlen, hcell⟩ := World.cells?_some u1
      obtain ⟨xs, k, hk, hxy, _, hxl, hff⟩ := DataW.trod_struct he u2
      match xs, hxl, cs', hlen with
      | [y0, y1, y2, y3, y4], _, [w0, w1, w2, w3, w4, w5, w6, w7, w8, w9], _ =>
        have t0 := hff 0 e0 rfl
        have t1 := hff 1 e1 rfl
        have t2 := hff 2 e2 rfl
        have t3 := hff 3 e3 rfl
        have t4 := hff 4 e4 rfl
        simp only [q0, q1, q2, q3, q4, k0, k1, k2, k3, k4] at t0 t1 t2 t3 t4
        change DataW.trod enc P w 0 _ _ k e0.type [w0] = some y0 at t0
        change DataW.trod enc P w 0 _ _ k e1.type [w1] = some y1 at t1
        change DataW.trod enc P w 0 _ _ k e2.type [w2, w3, w4, w5, w6, w7] = some y2 at t2
        change DataW.trod enc P w 0 _ _ k e3.type [w8] = some y3 at t3
        change DataW.trod enc P w 0 _ _ k e4.type [w9] = some y4 at t4
        obtain ⟨n0, z0, _, r0⟩ := DataW.trod_int i0 t0
        obtain ⟨n1, z1, _, r1⟩ := DataW.trod_int i1 t1
        obtain ⟨b3, z3, _⟩ := DataW.trod_bool i3 t3
        obtain ⟨n4, z4, _, r4⟩ := DataW.trod_int i4 t4
        obtain ⟨dd, hdd, hda⟩ := desc_of rfl hs o0 o1 o2 o3 c0 c1 c2 c3 h0 h1 h2 h3 hone hb0 hb1 hb2 t2
        simp only [List.cons.injEq, and_true] at z0 z1 z3 z4
        subst z0 z1 z3 z4
        have hr4 := wf_w64 r4
        have en : ((n4.toNat : Nat) : Int) = n4 := by omega
        have hcs : [Value.int .i64 n0, .int .i64 n1, w2, w3, w4, w5, w6, w7, .bool b3, .int .u64 n4] = (Ed.mk n0 n1 dd b3 n4.toNat).cells := by
          show _ = Value.int .i64 n0 :: .int .i64 n1 :: (dd.cells ++ [.bool b3, .int .u64 ((n4.toNat : Nat) : Int)])
          rw [← hdd, en]; rfl
        rw [hcs] at hcell
        refine ⟨⟨n0, n1, dd, b3, n4.toNat⟩, hda, by show n4.toNat < _; omega, ?_⟩
        obtain ⟨ab, ao, spot⟩ := a
        have z0 := hcell 0 (by omega)
        rw [add_add] at z0
        have hspot : spot = none := by
          rcases hspot with e | e
          · omega
          · exact e
        subst hspot
        refine ⟨ab, ao, rfl, ?_, fun c v hc => ?_⟩
        · rw [add_eq _ _ rfl] at z0; exact (cell_plain z0).2
        · have hc6 : c < 10 := (List.getElem?_eq_some_iff.1 hc).1
          have zc := hcell c (by omega)
          rw [add_add, add_eq _ _ rfl] at zc
          rw [show ao + i * 10 + c = ao + (i * 10 + c) by omega, zc]
          exact hc)
    exact ⟨some a, cap0, l, by rw [hll], by omega, fun i x hx => hq i x hx⟩
end
end Go.Proofs.Ytlbehhbicmmdoaa
/- Layer 14's world: its small functions, and what holds while it is made. -/
namespace Go.Proofs.Ytlbehhbicmmdoaa
set_option linter.unusedVariables false
set_option linter.unusedSimpArgs false
open Go.RowKit
theorem i64_mask511 (n : Int) : bits .and .i64 n 511 = n % 512 := by
  have h0 : (BitVec.ofInt 64 511).toNat = 2 ^ 9 - 1 := by decide
  have key : (BitVec.ofInt 64 n &&& BitVec.ofInt 64 511).toNat = (n % ((2 ^ 64 : Nat) : Int)).toNat % 2 ^ 9 := by
    rw [BitVec.toNat_and, BitVec.toNat_ofInt, h0, Nat.and_two_pow_sub_one_eq_mod]
  show IntKind.i64.wrap ((BitVec.ofInt 64 n &&& BitVec.ofInt 64 511).toNat : Nat) = n % 512
  rw [key, IntKind.wrap_i64]
  omega
def frN (p : Nat) : Nat := 8 + (p * 5 + 3) % 24
theorem frN_lt (p : Nat) : frN p < 32 := by unfold frN; omega
set_option maxRecDepth 100000 in
theorem frame14_calls (p : Nat) (hp : p ≤ 30) (w : World) : Calls Try.prog 40 #[.int .i64 (p : Nat)] w (RetB w (.int .i64 (frN p : Nat))) := by
  have h30 : (p : Int) ≤ 30 := by omega
  have e : 8 + ((p : Int) * 5 + 3).tmod 24 = ((frN p : Nat) : Int) := by
    rw [Int.tmod_eq_emod_of_nonneg (by omega)]
    unfold frN; omega
  obtain ⟨R, hR⟩ : ∃ R : Int, ((p : Int) * 5 + 3).tmod 24 = R := ⟨_, rfl⟩
  have hR2 : 0 ≤ R ∧ R ≤ 23 := by
    rw [← hR, Int.tmod_eq_emod_of_nonneg (by omega)]; omega
  rw [hR] at e
  have e1 : wrap64 (8 + R) = 8 + R := IntWalk.wrap64_in _ (by omega)
  rw [← e]
  clear e hp
  have hR3 := hR2.1
  have hR4 := hR2.2
  clear hR2
  go_enter Try.func40, Try.ntmps40
  go_wp2
  go_ret
  exact ⟨rfl, old_refl _⟩
set_option maxRecDepth 100000 in
theorem all14_calls (w : World) : Calls Try.prog 56 #[] w (RetB w (.agg #[.bool true, .bool true, .bool true])) := by
  have hb := new_block w (.cells #[.bool false, .bool false, .bool false] 46)
  go_enter Try.func56, Try.ntmps56
  go_wp2_with (refine wpList_store_whole rfl 46 _ _ rfl w.heap.size [Value.bool true, .bool true, .bool true] rfl rfl 46 _ hb (by kernel_rfl) rfl (by intro v hv; simp only [List.mem_cons, List.not_mem_nil, or_false] at hv; rcases hv with rfl | rfl | rfl <;> rfl) ?_)
  have h9 := putB_same (.cells #[.bool true, .bool true, .bool true] 46) (lt_of_block hb)
  obtain ⟨k9, -, -⟩ := of_block h9
  refine bodyPost_ret (by simp [results, Try.results56, go_sem, k9]; try rfl) rfl ?_
  exact ⟨rfl, old_put (old_alloc (old_refl w) _) _ (Nat.le_refl _)⟩
set_option maxHeartbeats 4000000 in
set_option maxRecDepth 100000 in
theorem word14_calls (st lv k : Int) (a : Nat) (r wr x : Bool) (s : Int) (w : World) : Calls Try.prog 43 #[.int .i64 st, .int .i64 lv, descV k a r wr x s] w (RetB w (.int .u64 (encW st lv k a r wr x s : Nat))) := by
  have hO := old_alloc (old_refl w) (.cells #[.int .i64 k, .int .u64 (a : Nat), .bool r, .bool wr, .bool x, .int .i64 s] 48)
  have hb := new_block w (.cells #[.int .i64 k, .int .u64 (a : Nat), .bool r, .bool wr, .bool x, .int .i64 s] 48)
  have hc := fun y => refEncode_calls st lv k a r wr x s y
  have HO := Lib.hid hO
  clear hO
  go_enter Try.func43, Try.ntmps43
  obtain ⟨k1, q1, z1⟩ := of_block hb
  generalize encW st lv k a r wr x s = E at *
  generalize checkC st lv k a r wr x s = C at *
  go_wp2_with ((go_at_call 44); (with_reducible refine (hc _).mono ?_); rintro e w1 ⟨rfl, hb1⟩)
  go_ret
  exact ⟨rfl, old_then HO.out hb1⟩
/-- A memory, the variable that names it, and blocks B of one's own; all that was there ahead is as it was. -/
def WorS (w0 : World) (mb p : Nat) (B : Nat → Prop) (wd : Nat → Nat) (N : Nat) (x : World) : Prop :=
  ∃ X : Nat → Prop, (∀ b, X b → b < x.heap.size) ∧ (∀ b, b < w0.heap.size → X b) ∧ X mb ∧ (∀ b, B b → X b) ∧ IsMemW x X p 40 wd N ∧ x.heap[mb]? = some (.cells #[.pointer (some ⟨p, 0, none⟩)] 61) ∧ Old w0 x
section
variable {w0 x y : World} {mb p N : Nat} {B B' : Nat → Prop} {wd : Nat → Nat}
theorem worS_old (h : WorS w0 mb p B wd N x) (ho : Old x y) : WorS w0 mb p B wd N y := by
  obtain ⟨X, h1, h2, h3, h4, h5, h6, h7⟩ := h
  exact ⟨X, fun b hb => Nat.lt_of_lt_of_le (h1 b hb) ho.size, h2, h3, h4, memW_old h5 ho, keep_old ho h6, old_then h7 ho⟩
theorem worS_le {M : Nat} (h : WorS w0 mb p B wd N x) (hM : N ≤ M) : WorS w0 mb p B wd M x := by
  obtain ⟨X, h1, h2, h3, h4, h5, h6, h7⟩ := h
  exact ⟨X, h1, h2, h3, h4, memW_le h5 hM, h6, h7⟩
theorem worS_less (h : WorS w0 mb p B wd N x) (hB : ∀ b, B' b → B b) : WorS w0 mb p B' wd N x := by
  obtain ⟨X, h1, h2, h3, h4, h5, h6, h7⟩ := h
  exact ⟨X, h1, h2, h3, fun b hb => h4 b (hB b hb), h5, h6, h7⟩
/-- New blocks become one's own. -/
theorem worS_new (h : WorS w0 mb p B wd N x) (ho : Old x y) (hB : ∀ b, B' b → B b ∨ (x.heap.size ≤ b ∧ b < y.heap.size)) : WorS w0 mb p B' wd N y := by
  obtain ⟨X, h1, h2, h3, h4, h5, h6, h7⟩ := h
  refine ⟨fun b => X b ∨ (x.heap.size ≤ b ∧ b < y.heap.size), ?_, fun b hb => .inl (h2 b hb), .inl h3, fun b hb => (hB b hb).imp (h4 b) id, memW_old (memW_more h5 (fun b hb => hb.imp id And.left)) ho, keep_old ho h6, old_then h7 ho⟩
  intro b hb
  rcases hb with hb | hb
  · exact Nat.lt_of_lt_of_le (h1 b hb) ho.size
  · exact hb.2
theorem worS_mb (h : WorS w0 mb p B wd N x) : x.heap[mb]? = some (.cells #[.pointer (some ⟨p, 0, none⟩)] 61) := by
  obtain ⟨X, h1, h2, h3, h4, h5, h6, h7⟩ := h
  exact h6
/-- What a put tells: one's own blocks are as they were. -/
def RetPut (w0 : World) (mb p : Nat) (B : Nat → Prop) (wd : Nat → Nat) (N : Nat) (x : World) (e : Ending) (y : World) : Prop :=
  e = .returned (.bool true) ∧ WorS w0 mb p B wd N y ∧ ∀ b, B b → y.heap[b]? = x.heap[b]?
set_option maxHeartbeats 4000000 in
set_option maxRecDepth 100000 in
theorem put14_calls (h : WorS w0 mb p B wd N x) (hN : N < 3999999990) (a v : Nat) (ha : okM 40 a = true) (ha64 : a < 18446744073709551616) (hv : v < 18446744073709551616) :
    Calls Try.prog 55 #[.int .u64 (a : Nat), .int .u64 (v : Nat), .pointer (some ⟨mb, 0, none⟩)] x (RetPut w0 mb p B (updW wd a v) (N + 1) x) := by
  obtain ⟨X, h1, h2, h3, h4, h5, h6, h7⟩ := h
  have hc := memW_write h5 h1 (by omega) a v ha64 hv ha
  obtain ⟨k1, q1, z1⟩ := of_block h6
  have H := Lib.hid (And.intro h1 (And.intro h2 (And.intro h3 (And.intro h4 (And.intro h6 h7)))))
  clear h1 h2 h3 h4 h5 h6 h7 ha ha64 hv hN
  go_enter Try.func55, Try.ntmps55
  go_wp2_with fail
  (with_reducible refine hc.mono ?_)
  rintro e y ⟨rfl, hm, ho⟩
  have HM := Lib.hid (And.intro hm ho)
  clear hc hm ho k1 q1 z1
  go_wp2
  go_ret
  obtain ⟨h1, h2, h3, h4, h6, h7⟩ := H.out
  obtain ⟨hm, ho⟩ := HM.out
  refine ⟨rfl, ⟨X, fun b hb => Nat.lt_of_lt_of_le (h1 b hb) ho.size, h2, h3, h4, hm, keep_only ho (fun f => f h3) h6, Only.to_below ((Only.of_below h7).step ho (fun b hb f => by
    have := h2 b
    exact absurd (this (by omega)) f))⟩, fun b hb => ?_⟩
  exact ho.block b (h1 b (h4 b hb)) (fun f => f (h4 b hb))
end
/-- A block of one's own is turned. -/
theorem worS_putB {w0 x : World} {mb p N : Nat} {B : Nat → Prop} {wd : Nat → Nat} (h : WorS w0 mb p B wd N x) {b : Nat} (hb : B b) (hm : b ≠ mb) (h0 : w0.heap.size ≤ b) (o : Obj) : WorS w0 mb p B wd N (putB x b o) := by
  obtain ⟨X, h1, h2, h3, h4, h5, h6, h7⟩ := h
  have ho : Only (fun c => c = b) x (putB x b o) := (Only.refl _ x).putB _ (fun _ => rfl)
  exact ⟨X, fun c hc => by rw [putB_size]; exact h1 c hc, h2, h3, h4, memW_only h5 ho (fun c hc e => by subst e; exact hc (h4 c hb)), keep_only ho (fun e => hm e.symm) h6, old_put h7 _ h0⟩
/-- A drawn statement with one call that turns the world. -/
def StageP (J : Nat) (M0 M1 : World → Prop) (l : Array Bool) (x : World) : Prop := bif l.getD J false then M1 x else M0 x
theorem stageP_start {J n : Nat} {M0 M1 : World → Prop} {x : World} (h : M0 x) : StageP J M0 M1 (Array.replicate n false) x := by
  have e : (Array.replicate n false).getD J false = false := by simp [Array.getElem?_replicate]; split <;> rfl
  unfold StageP; rw [e]; exact h
theorem stageP_other {J : Nat} {M0 M1 : World → Prop} {l : Array Bool} {x : World} (j : Nat) (hj : j ≠ J) (h : StageP J M0 M1 l x) : StageP J M0 M1 (l.setIfInBounds j true) x := by
  unfold StageP at h ⊢; rw [getD_set_ne false hj]; exact h
theorem stageP_quiet {J : Nat} {M0 M1 : World → Prop} {l : Array Bool} {x y : World} (j : Nat) (hj : j ≠ J) (h : StageP J M0 M1 l x) (h0 : M0 x → M0 y) (h1 : M1 x → M1 y) : StageP J M0 M1 (l.setIfInBounds j true) y := by
  unfold StageP at h ⊢; rw [getD_set_ne false hj]
  cases hb : l.getD J false with
  | false => rw [hb] at h; exact h0 h
  | true => rw [hb] at h; exact h1 h
theorem stageP_before {J : Nat} {M0 M1 : World → Prop} {l : Array Bool} {x : World} (hn : l.getD J false = false) (h : StageP J M0 M1 l x) : M0 x := by
  unfold StageP at h; rw [hn] at h; exact h
theorem stageP_behind {J : Nat} {M0 M1 : World → Prop} {l : Array Bool} {x : World} (hn : l.getD J false = true) (h : StageP J M0 M1 l x) : M1 x := by
  unfold StageP at h; rw [hn] at h; exact h
theorem stageP_done {J n : Nat} {M0 M1 : World → Prop} {l : Array Bool} {y : World} (hz : l.size = n) (hJ : J < n) (h : M1 y) : StageP J M0 M1 (l.setIfInBounds J true) y := by
  have e : (l.setIfInBounds J true).getD J false = true := by simp [hz, hJ]
  unfold StageP; rw [e]; exact h
theorem stageP_fact {J : Nat} {M0 M1 Φ : World → Prop} {l : Array Bool} {x : World} (h : StageP J M0 M1 l x) (h0 : M0 x → Φ x) (h1 : M1 x → Φ x) : Φ x := by
  unfold StageP at h
  cases hb : l.getD J false with
  | false => rw [hb] at h; exact h0 h
  | true => rw [hb] at h; exact h1 h
/-- The words of the world, step by step. -/
def wdA : Nat → Nat → Nat
  | 0 => fun _ => 0
  | i + 1 => updW (updW (wdA i) ((i + 1) * 4096) (encW 2 (i : Nat) 1 ((i + 2) * 4096) false false false 0)) (frN i * 4096) (encW 1 (i : Nat) 1 ((i + 1) * 4096) false false false 0)
def wdB : Nat → Nat → Nat
  | 0 => wdA 3
  | i + 1 => updW (wdB i) (16384 + i * 8) (encW 2 3 3 (frN i * 4096) true (decide (i % 5 ≠ 4)) (decide (i % 3 ≠ 2)) 0)
def wdC : Nat → Nat → Nat
  | 0 => wdB 24
  | i + 1 => updW (wdC i) (frN 3 * 4096 + i * 8) (encW 1 3 3 ((i + 4) * 4096) true (decide (i % 4 ≠ 3)) (decide (i % 7 ≠ 1)) 0)
end Go.Proofs.Ytlbehhbicmmdoaa
/- Masks of words, and the access that layer 14's statements draw. No function of the program stands here. -/
namespace Go.Proofs.Ytlbehhbicmmdoaa
set_option linter.unusedVariables false
set_option linter.unusedSimpArgs false
open Go.RowKit
theorem u64_and_some (a b : Int) : ∃ n : Nat, n < 18446744073709551616 ∧ bits .and .u64 a b = (n : Int) := by
  obtain ⟨n, h0, h⟩ := u64_some (bits .and .u64 a b)
  have e : IntKind.u64.wrap (bits .and .u64 a b) = bits .and .u64 a b := by show IntKind.u64.wrap (IntKind.u64.wrap _) = IntKind.u64.wrap _; simp only [IntKind.wrap_u64]; omega
  rw [e] at h
  exact ⟨n, h0, by injection h⟩
/-- The access that is drawn. -/
theorem access_of (ac : Int) : ∃ (M : Nat) (r : Int), bits .and .i64 ac 3 = (M : Int) ∧ M ≤ 3 ∧ (M : Int).tmod 3 = r ∧ (M : Int) % 3 = r ∧ (1 + r = 1 ∨ 1 + r = 2 ∨ 1 + r = 3) ∧ 0 ≤ r ∧ r ≤ 2 := by
  refine ⟨(ac % 4).toNat, ((ac % 4).toNat : Int) % 3, by rw [i64_mask3]; omega, by omega, Int.tmod_eq_emod_of_nonneg (by omega), rfl, by omega, by omega, by omega⟩
end Go.Proofs.Ytlbehhbicmmdoaa
