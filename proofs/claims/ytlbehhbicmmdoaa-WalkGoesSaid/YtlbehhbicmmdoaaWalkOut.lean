/- The contracts of walk.Out and of the document's Out. -/
import Derived.Test.YtlbehhbicmmdoaaWalkN
namespace Go.Proofs.Ytlbehhbicmmdoaa
set_option linter.unusedVariables false
set_option linter.unusedSimpArgs false
open Go.RowKit

def spanO (lv : Int) : Nat := if 0 ≤ lv ∧ lv ≤ 3 then spanN lv.toNat else 1
/-- Where an address comes to by a step. -/
def outN (addr : Nat) (lv k : Int) (a : Nat) : Nat := if k = 2 ∨ k = 3 then (a + addr % spanO lv) % 18446744073709551616 else 0
theorem spanO_pos (lv : Int) : 1 ≤ spanO lv ∧ spanO lv ≤ 549755813888 := by
  unfold spanO
  split
  · unfold spanN
    repeat' split
    all_goals omega
  · omega
theorem span_any (lv : Int) (w : World) : Calls Try.prog 53 #[.int .i64 lv] w (RetB w (.int .u64 (if 0 ≤ lv ∧ lv ≤ 3 then (spanO lv : Nat) else 0 : Nat))) := by
  by_cases h : 0 ≤ lv ∧ lv ≤ 3
  · rw [if_pos h]
    unfold spanO
    rw [if_pos h]
    exact span_yes lv lv.toNat (by omega) w (by omega)
  · rw [if_neg h]
    exact span_no lv w h
theorem refSpan_any (lv : Int) (w : World) : Calls Try.prog 52 #[.int .i64 lv] w (RetB w (.int .u64 (if 0 ≤ lv ∧ lv ≤ 3 then (spanO lv : Nat) else 0 : Nat))) := by
  by_cases h : 0 ≤ lv ∧ lv ≤ 3
  · rw [if_pos h]
    unfold spanO
    rw [if_pos h]
    exact refSpan_yes lv lv.toNat (by omega) w (by omega)
  · rw [if_neg h]
    exact refSpan_no lv w h
theorem out_wrap (a addr s : Nat) : IntKind.u64.wrap ((a : Int) + (addr : Int) % (s : Int)) = (((a + addr % s) % 18446744073709551616 : Nat) : Int) := by
  rw [IntKind.wrap_u64, ← Int.natCast_emod]; generalize addr % s = m; omega

set_option maxHeartbeats 2000000 in
theorem out_calls (addr : Nat) (haddr : addr < 18446744073709551616) (lv : Int) (at_ raw : Int) (k : Int) (a : Nat) (ha : a < 18446744073709551616) (r wr x : Bool) (s : Int) (w : World) :
    Calls Try.prog 24 #[.int .u64 (addr : Nat), .agg #[.int .i64 lv, .int .u64 at_, .int .u64 raw, .int .i64 k, .int .u64 (a : Nat), .bool r, .bool wr, .bool x, .int .i64 s]] w (RetB w (.int .u64 (outN addr lv k a : Nat))) := by
  have hO := old_alloc (old_refl w) (.cells #[.int .i64 lv, .int .u64 at_, .int .u64 raw, .int .i64 k, .int .u64 (a : Nat), .bool r, .bool wr, .bool x, .int .i64 s] 52)
  have hb := new_block w (.cells #[.int .i64 lv, .int .u64 at_, .int .u64 raw, .int .i64 k, .int .u64 (a : Nat), .bool r, .bool wr, .bool x, .int .i64 s] 52)
  by_cases hk : k = 2 ∨ k = 3
  case neg =>
    have e : outN addr lv k a = 0 := if_neg hk
    rw [e]
    have b2 : (k != 2) = true := by rw [bne_iff_ne]; omega
    have b3 : (k != 3) = true := by rw [bne_iff_ne]; omega
    clear e hk
    go_enter Try.func24, Try.ntmps24
    go_upto_region 1 with (fail)
    generalize w.alloc (.cells #[.int .i64 lv, .int .u64 at_, .int .u64 raw, .int .i64 k, .int .u64 (a : Nat), .bool r, .bool wr, .bool x, .int .i64 s] 52) = W at *
    generalize w.heap.size = b at *
    obtain ⟨q1, q2, q3⟩ := of_block hb
    have HO := Lib.hid hO
    clear hO hb
    go_wp2
    go_ret
    exact ⟨rfl, HO.out⟩
  case pos =>
  have e : outN addr lv k a = (a + addr % spanO lv) % 18446744073709551616 := if_pos hk
  rw [e, ← out_wrap]
  obtain ⟨hs1, hs2⟩ := spanO_pos lv
  have hsp := fun x => span_any lv x
  obtain ⟨T, hT⟩ : ∃ T : Nat, (if 0 ≤ lv ∧ lv ≤ 3 then (spanO lv : Nat) else 0 : Nat) = T := ⟨_, rfl⟩
  rw [hT] at hsp
  have hTs : (1 ≤ T ∧ T = spanO lv) ∨ (T = 0 ∧ spanO lv = 1) := by
    by_cases h : 0 ≤ lv ∧ lv ≤ 3
    · rw [if_pos h] at hT; exact .inl ⟨by omega, hT.symm⟩
    · rw [if_neg h] at hT; exact .inr ⟨hT.symm, by unfold spanO; rw [if_neg h]⟩
  generalize spanO lv = SP at *
  have HT := Lib.hid hTs
  have hk' : (k != 2) = false ∨ ((k != 2) = true ∧ (k != 3) = false) := by
    rcases hk with h | h
    · exact .inl (by simp [h])
    · exact .inr (by simp [h])
  have HK := Lib.hid hk'
  have HSP := Lib.hid hs1
  clear e hT hTs hk hk' hs1 hs2
  go_enter Try.func24, Try.ntmps24
  go_upto_region 1 with (fail)
  generalize w.alloc (.cells #[.int .i64 lv, .int .u64 at_, .int .u64 raw, .int .i64 k, .int .u64 (a : Nat), .bool r, .bool wr, .bool x, .int .i64 s] 52) = W at *
  generalize w.heap.size = b at *
  obtain ⟨q1, q2, q3⟩ := of_block hb
  have HO := Lib.hid hO
  have HB := Lib.hid hb
  clear hO hb
  rcases HK.out with b2 | ⟨b2, b3⟩
  all_goals
    go_wp2_with fail
    refine (hsp _).mono ?_
    rintro e w1 ⟨rfl, hb1⟩
    have HO2 := Lib.hid (old_then HO.out hb1)
    obtain ⟨q1, q2, q3⟩ := of_block (keep_old hb1 HB.out)
    rcases HT.out with ⟨h1, rfl⟩ | ⟨rfl, h1⟩
    · by_cases h9 : T = 1
      · subst h9
        go_wp2_with fail
        refine wp_region_walked (S := Is w1.drew) (by kernel_rfl) (by kernel_rfl) rfl ?_
        repeat (apply walked_cons; (first | exact gives_and rfl rfl rfl rfl | exact gives_or rfl rfl rfl rfl | (focus (intro wS hS; cases hS; go_wp2; exact ⟨rfl, rfl, rfl⟩; done)) | (focus (apply gives_guard; (focus (first | exact wanted_yes rfl rfl rfl | exact wanted_no rfl rfl rfl | exact wanted_yes2 rfl rfl rfl | exact wanted_no2 rfl rfl rfl)); (focus (intro hx9; (try simp only [Bool.not_eq_true', Bool.and_eq_true, Bool.not_not] at hx9); (try obtain ⟨hx9, hy9⟩ := hx9); (try subst hy9); (try subst hx9); (first | exact gives_and rfl rfl rfl rfl | exact gives_or rfl rfl rfl rfl | (intro wS hS; cases hS; go_wp2; exact ⟨rfl, rfl, rfl⟩; done))))))); rfl; (try simp only [Act.put, List.setIfInBounds_toArray, List.set_cons_succ, List.set_cons_zero]))
        apply walked_nil
        intro wS hS
        cases hS
        go_wp2
        go_ret
        exact ⟨by simp [IntWalk.u64_in (a : Int) (by omega)], old_drew HO2.out⟩
      have i1 : (1 : Int) < (T : Int) := by omega
      have i2 : ¬ (T : Int) = 0 := by omega
      clear h1 h9
      go_wp2_with fail
      refine wp_region_walked (S := Is w1.drew) (by kernel_rfl) (by kernel_rfl) rfl ?_
      repeat (apply walked_cons; (first | exact gives_and rfl rfl rfl rfl | exact gives_or rfl rfl rfl rfl | (focus (intro wS hS; cases hS; go_wp2; exact ⟨rfl, rfl, rfl⟩; done)) | (focus (apply gives_guard; (focus (first | exact wanted_yes rfl rfl rfl | exact wanted_no rfl rfl rfl | exact wanted_yes2 rfl rfl rfl | exact wanted_no2 rfl rfl rfl)); (focus (intro hx9; (try simp only [Bool.not_eq_true', Bool.and_eq_true, Bool.not_not] at hx9); (try obtain ⟨hx9, hy9⟩ := hx9); (try subst hy9); (try subst hx9); (first | exact gives_and rfl rfl rfl rfl | exact gives_or rfl rfl rfl rfl | (intro wS hS; cases hS; go_wp2; exact ⟨rfl, rfl, rfl⟩; done))))))); rfl; (try simp only [Act.put, List.setIfInBounds_toArray, List.set_cons_succ, List.set_cons_zero]))
      apply walked_nil
      intro wS hS
      cases hS
      go_wp2
      go_ret
      exact ⟨rfl, old_drew HO2.out⟩
    · subst h1
      go_wp2_with fail
      refine wp_region_walked (S := Is w1.drew) (by kernel_rfl) (by kernel_rfl) rfl ?_
      repeat (apply walked_cons; (first | exact gives_and rfl rfl rfl rfl | exact gives_or rfl rfl rfl rfl | (focus (intro wS hS; cases hS; go_wp2; exact ⟨rfl, rfl, rfl⟩; done)) | (focus (apply gives_guard; (focus (first | exact wanted_yes rfl rfl rfl | exact wanted_no rfl rfl rfl | exact wanted_yes2 rfl rfl rfl | exact wanted_no2 rfl rfl rfl)); (focus (intro hx9; (try simp only [Bool.not_eq_true', Bool.and_eq_true, Bool.not_not] at hx9); (try obtain ⟨hx9, hy9⟩ := hx9); (try subst hy9); (try subst hx9); (first | exact gives_and rfl rfl rfl rfl | exact gives_or rfl rfl rfl rfl | (intro wS hS; cases hS; go_wp2; exact ⟨rfl, rfl, rfl⟩; done))))))); rfl; (try simp only [Act.put, List.setIfInBounds_toArray, List.set_cons_succ, List.set_cons_zero]))
      apply walked_nil
      intro wS hS
      cases hS
      go_wp2
      go_ret
      exact ⟨by simp [IntWalk.u64_in (a : Int) (by omega)], old_drew HO2.out⟩

set_option maxHeartbeats 2000000 in
theorem refOut_calls (addr : Nat) (haddr : addr < 18446744073709551616) (lv : Int) (at_ raw : Int) (k : Int) (a : Nat) (ha : a < 18446744073709551616) (r wr x : Bool) (s : Int) (w : World) :
    Calls Try.prog 25 #[.int .u64 (addr : Nat), .agg #[.int .i64 lv, .int .u64 at_, .int .u64 raw, .int .i64 k, .int .u64 (a : Nat), .bool r, .bool wr, .bool x, .int .i64 s]] w (RetB w (.int .u64 (outN addr lv k a : Nat))) := by
  have hO := old_alloc (old_refl w) (.cells #[.int .i64 lv, .int .u64 at_, .int .u64 raw, .int .i64 k, .int .u64 (a : Nat), .bool r, .bool wr, .bool x, .int .i64 s] 54)
  have hb := new_block w (.cells #[.int .i64 lv, .int .u64 at_, .int .u64 raw, .int .i64 k, .int .u64 (a : Nat), .bool r, .bool wr, .bool x, .int .i64 s] 54)
  by_cases hk : k = 2 ∨ k = 3
  case neg =>
    have e : outN addr lv k a = 0 := if_neg hk
    rw [e]
    have b2 : (k != 2) = true := by rw [bne_iff_ne]; omega
    have b3 : (k != 3) = true := by rw [bne_iff_ne]; omega
    clear e hk
    go_enter Try.func25, Try.ntmps25
    go_upto_region 1 with (fail)
    generalize w.alloc (.cells #[.int .i64 lv, .int .u64 at_, .int .u64 raw, .int .i64 k, .int .u64 (a : Nat), .bool r, .bool wr, .bool x, .int .i64 s] 54) = W at *
    generalize w.heap.size = b at *
    obtain ⟨q1, q2, q3⟩ := of_block hb
    have HO := Lib.hid hO
    clear hO hb
    go_wp2
    go_ret
    exact ⟨rfl, HO.out⟩
  case pos =>
  have e : outN addr lv k a = (a + addr % spanO lv) % 18446744073709551616 := if_pos hk
  rw [e]
  obtain ⟨hs1, hs2⟩ := spanO_pos lv
  have hsp := fun x => refSpan_any lv x
  obtain ⟨T, hT⟩ : ∃ T : Nat, (if 0 ≤ lv ∧ lv ≤ 3 then (spanO lv : Nat) else 0 : Nat) = T := ⟨_, rfl⟩
  rw [hT] at hsp
  have hTs : (1 ≤ T ∧ T = spanO lv) ∨ (T = 0 ∧ spanO lv = 1) := by
    by_cases h : 0 ≤ lv ∧ lv ≤ 3
    · rw [if_pos h] at hT; exact .inl ⟨by omega, hT.symm⟩
    · rw [if_neg h] at hT; exact .inr ⟨hT.symm, by unfold spanO; rw [if_neg h]⟩
  generalize spanO lv = SP at *
  have HT := Lib.hid hTs
  have hk' : (k != 2) = false ∨ ((k != 2) = true ∧ (k != 3) = false) := by
    rcases hk with h | h
    · exact .inl (by simp [h])
    · exact .inr (by simp [h])
  have HK := Lib.hid hk'
  have HSP := Lib.hid hs1
  clear e hT hTs hk hk' hs1 hs2
  go_enter Try.func25, Try.ntmps25
  go_upto_region 1 with (fail)
  generalize w.alloc (.cells #[.int .i64 lv, .int .u64 at_, .int .u64 raw, .int .i64 k, .int .u64 (a : Nat), .bool r, .bool wr, .bool x, .int .i64 s] 54) = W at *
  generalize w.heap.size = b at *
  obtain ⟨q1, q2, q3⟩ := of_block hb
  have HO := Lib.hid hO
  have HB := Lib.hid hb
  clear hO hb
  rcases HK.out with b2 | ⟨b2, b3⟩
  all_goals
    go_wp2_with fail
    refine (hsp _).mono ?_
    rintro e w1 ⟨rfl, hb1⟩
    have HO2 := Lib.hid (old_then HO.out hb1)
    obtain ⟨q1, q2, q3⟩ := of_block (keep_old hb1 HB.out)
    rcases HT.out with ⟨h1, rfl⟩ | ⟨rfl, h1⟩
    · have i1 : ((T : Int) == 0) = false := by rw [beq_eq_false_iff_ne]; omega
      have i2 : ¬ (T : Int) = 0 := by omega
      clear h1
      go_wp2_with fail
      refine wp_region_walked (S := Is w1.drew) (by kernel_rfl) (by kernel_rfl) rfl ?_
      repeat (apply walked_cons; (first | exact gives_and rfl rfl rfl rfl | exact gives_or rfl rfl rfl rfl | (focus (intro wS hS; cases hS; go_wp2; exact ⟨rfl, rfl, rfl⟩; done)) | (focus (apply gives_guard; (focus (first | exact wanted_yes rfl rfl rfl | exact wanted_no rfl rfl rfl | exact wanted_yes2 rfl rfl rfl | exact wanted_no2 rfl rfl rfl)); (focus (intro hx9; (try simp only [Bool.not_eq_true', Bool.and_eq_true, Bool.not_not] at hx9); (try obtain ⟨hx9, hy9⟩ := hx9); (try subst hy9); (try subst hx9); (first | exact gives_and rfl rfl rfl rfl | exact gives_or rfl rfl rfl rfl | (intro wS hS; cases hS; go_wp2; exact ⟨rfl, rfl, rfl⟩; done))))))); rfl; (try simp only [Act.put, List.setIfInBounds_toArray, List.set_cons_succ, List.set_cons_zero]))
      apply walked_nil
      intro wS hS
      cases hS
      go_wp2
      go_ret
      exact ⟨by rw [← out_wrap]; rfl, old_drew HO2.out⟩
    · subst h1
      go_wp2
      go_ret
      exact ⟨by rw [Nat.mod_one, Nat.add_zero, Nat.mod_eq_of_lt ha]; rfl, HO2.out⟩
end Go.Proofs.Ytlbehhbicmmdoaa
