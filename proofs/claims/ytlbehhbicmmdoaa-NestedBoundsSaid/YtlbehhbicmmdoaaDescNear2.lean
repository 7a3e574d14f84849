/- Near, whole. -/
import Derived.Test.YtlbehhbicmmdoaaDescNear
namespace Go.Proofs.Ytlbehhbicmmdoaa
set_option linter.unusedVariables false
set_option linter.unusedSimpArgs false
open Go.RowKit

theorem aligned_down (A m : Nat) (hA : A < 18446744073709551616) : IntKind.u64.wrap ((A : Int) - (A : Int) % (m : Int)) = ((A - A % m : Nat) : Int) := by
  have h := Nat.mod_le A m
  rw [← Int.natCast_emod, IntKind.wrap_u64]
  omega

theorem near_calls (st lv k : Int) (a : Nat) (r wr x : Bool) (s : Int) (w : World) (hp : Place st lv) :
    Calls Try.prog 23 #[.int .i64 st, .int .i64 lv, descV k a r wr x s] w (RetB w (nearV st lv k a r wr x s)) := by
  have hT := refTop_x st
  have htop : 0 < topN st := by
    unfold topN
    obtain ⟨rfl | rfl, _⟩ := hp <;> decide
  have htl := topN_le st
  have hsn : ¬ ((topN st : Nat) : Int) = 0 := by omega
  have h3 : lv.toNat ≤ 3 := by have := hp.2; omega
  have hl : lv = (lv.toNat : Nat) := by have := hp.2; omega
  have hSp := fun w => refSpan_yes lv lv.toNat hl w h3
  have hspn : ¬ ((spanN lv.toNat : Nat) : Int) = 0 := by
    have : 0 < spanN lv.toNat := by rw [spanN_pow _ h3]; exact Nat.two_pow_pos _
    omega
  have hk4 := kind_four k
  have hw0 : wrap64 (k.tmod 4 + 4) = k.tmod 4 + 4 := by
    have h1 := Int.tmod_lt_of_pos k (show (0 : Int) < 4 by decide)
    have h2 : -4 < k.tmod 4 := by
      by_cases h : 0 ≤ k
      · rw [Int.tmod_eq_emod_of_nonneg h]; omega
      · have e : k.tmod 4 = -((-k).tmod 4) := by rw [Int.neg_tmod, Int.neg_neg]
        rw [e, Int.tmod_eq_emod_of_nonneg (by omega)]; omega
    exact IntWalk.wrap64_in _ (by omega)
  have hkw : (wrap64 (k.tmod 4 + 4)).tmod 4 = (k.tmod 4 + 4).tmod 4 := by rw [hw0]
  have hs16 : bits .and .i64 s 15 = (((s % 16).toNat : Nat) : Int) := by rw [i64_mask15]; omega
  have hAT : (a : Int) % ((topN st : Nat) : Int) = ((a % topN st : Nat) : Int) := (Int.natCast_emod a (topN st)).symm
  have hA0 : a % topN st < 18446744073709551616 := by have := Nat.mod_lt a htop; omega
  have hF1 : Hid (IntKind.u64.wrap (((a % topN st : Nat) : Int) - ((a % topN st : Nat) : Int) % 4096) = ((a % topN st - a % topN st % 4096 : Nat) : Int)) := aligned_down _ 4096 hA0
  have hF2 : Hid (IntKind.u64.wrap (((a % topN st : Nat) : Int) - ((a % topN st : Nat) : Int) % ((spanN lv.toNat : Nat) : Int)) = ((a % topN st - a % topN st % spanN lv.toNat : Nat) : Int)) := aligned_down _ (spanN lv.toNat) hA0
  by_cases k0 : (k.tmod 4 + 4).tmod 4 = 0
  · exact near_p0 st lv k a r wr x s w _ _ 0 _ _ _ hT hsn hSp hspn (by rw [hkw, k0]) hs16 hAT (near_zero k0)
  by_cases l3 : lv = 3
  · have hK : nearK lv k = 3 := by unfold nearK; rw [if_neg k0, if_pos l3]
    have hV := @near_three st lv k a r wr x s hK
    subst l3
    cases wr
    · exact near_p3false st k a r x s w _ _ _ _ _ _ hT hsn hSp hspn hkw hs16 hAT k0 _ hF1 hV
    · rw [Bool.true_and] at hV
      exact near_p3true st k a r x s w _ _ _ _ _ _ hT hsn hSp hspn hkw hs16 hAT k0 _ hF1 hV
  by_cases l0 : lv = 0
  · have hK : nearK lv k = 1 := by unfold nearK; rw [if_neg k0, if_neg l3, if_pos (show lv = 0 ∨ (k.tmod 4 + 4).tmod 4 = 3 from .inl l0)]
    have hV := @near_one st lv k a r wr x s hK
    subst l0
    exact near_p1a st k a r wr x s w _ _ _ _ _ _ hT hsn hSp hspn hkw hs16 hAT k0 _ hF1 hV
  by_cases k3 : (k.tmod 4 + 4).tmod 4 = 3
  · have hK : nearK lv k = 1 := by unfold nearK; rw [if_neg k0, if_neg l3, if_pos (show lv = 0 ∨ (k.tmod 4 + 4).tmod 4 = 3 from .inr k3)]
    exact near_p1b st lv k a r wr x s w _ _ 0 _ _ _ hT hsn hSp hspn (by rw [hkw, k3]) hs16 hAT l0 l3 _ hF1 (near_one hK)
  have hn : ¬ (lv = 0 ∨ (k.tmod 4 + 4).tmod 4 = 3) := by omega
  by_cases k1 : (k.tmod 4 + 4).tmod 4 = 1
  · have hK : nearK lv k = 1 := by unfold nearK; rw [if_neg k0, if_neg l3, if_neg hn, k1]
    exact near_p1c st lv k a r wr x s w _ _ 0 _ _ _ hT hsn hSp hspn (by rw [hkw, k1]) hs16 hAT l0 l3 _ hF1 (near_one hK)
  have k2 : (k.tmod 4 + 4).tmod 4 = 2 := by omega
  have hK : nearK lv k = 2 := by unfold nearK; rw [if_neg k0, if_neg l3, if_neg hn, k2]
  have hV := @near_two st lv k a r wr x s hK
  cases wr
  · exact near_p2false st lv k a r x s w _ _ 0 _ _ _ hT hsn hSp hspn (by rw [hkw, k2]) hs16 hAT l0 l3 _ hF2 hV
  · rw [Bool.true_and] at hV
    exact near_p2true st lv k a r x s w _ _ 0 _ _ _ hT hsn hSp hspn (by rw [hkw, k2]) hs16 hAT l0 l3 _ hF2 hV

end Go.Proofs.Ytlbehhbicmmdoaa
