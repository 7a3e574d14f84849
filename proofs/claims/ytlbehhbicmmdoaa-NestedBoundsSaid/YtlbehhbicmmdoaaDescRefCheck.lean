/- The contract of the document's Check. -/
import Derived.Test.YtlbehhbicmmdoaaDescC
import Derived.Test.YtlbehhbicmmdoaaSeq
namespace Go.Proofs.Ytlbehhbicmmdoaa
set_option linter.unusedVariables false
set_option linter.unusedSimpArgs false
open Go.RowKit

abbrev RDescL (w : World) (k : Int) (a : Nat) (r wr x : Bool) (s : Int) : List (Nat × Array Value × TypeId) := [(w.heap.size, #[.int .i64 k, .int .u64 (a : Nat), .bool r, .bool wr, .bool x, .int .i64 s], 48)]
def argR (st lv k s : Int) : Bool := decide (st < 1) || decide (2 < st) || decide (lv < 0) || decide (3 < lv) || decide (k < 0) || decide (3 < k) || decide (s < 0) || decide (15 < s)
def kindR (lv k : Int) : Bool := decide (k = 1) && decide (lv = 3) || decide (k = 2) && (decide (lv = 0) || decide (lv = 3)) || decide (k = 3) && !decide (lv = 3)
def formR (k : Int) (a : Nat) (E r wr : Bool) (s : Int) : Bool := decide (k < 2) && E || wr && !r || decide (k = 0) && (!decide (a = 0) || !decide (s = 0))
theorem argR_eq (st lv k s : Int) : decide (¬ Place st lv ∨ k < 0 ∨ 3 < k ∨ s < 0 ∨ 15 < s) = argR st lv k s := by
  unfold argR Place; rw [Bool.eq_iff_iff]; simp only [decide_eq_true_eq, Bool.or_eq_true]; omega
theorem kindR_eq (lv k : Int) : decide ((k = 1 ∧ lv = 3) ∨ (k = 2 ∧ (lv = 0 ∨ lv = 3)) ∨ (k = 3 ∧ lv ≠ 3)) = kindR lv k := by
  simp [kindR, Bool.or_assoc]
theorem formR_eq (k : Int) (a : Nat) (r wr x : Bool) (s : Int) : decide ((k ≤ 1 ∧ (r || wr || x) = true) ∨ (wr && !r) = true ∨ (k = 0 ∧ (a ≠ 0 ∨ s ≠ 0))) = formR k a (r || wr || x) r wr s := by
  unfold formR
  have : decide (k < 2) = decide (k ≤ 1) := by rw [decide_eq_decide]; omega
  rw [this]
  simp only [Bool.decide_or, Bool.decide_and, Bool.decide_eq_true, ne_eq, decide_not, Bool.or_assoc]

set_option maxHeartbeats 8000000 in
set_option maxRecDepth 100000 in
theorem descRefCheck_calls (st lv k : Int) (a : Nat) (r wr x : Bool) (s : Int) (w : World) :
    Calls Try.prog 68 #[.int .i64 st, .int .i64 lv, .agg #[.int .i64 k, .int .u64 (a : Nat), .bool r, .bool wr, .bool x, .int .i64 s]] w (RetB w (.int .i64 (checkC st lv k a r wr x s))) := by
  generalize hv : checkC st lv k a r wr x s = v
  have HV := Lib.hid hv
  clear hv
  go_enter Try.func68, Try.ntmps68
  go_upto_region 1 with (fail)
  have hH := holds_new #[.int .i64 k, .int .u64 (a : Nat), .bool r, .bool wr, .bool x, .int .i64 s] 48 (holds_nil w)
  generalize w.alloc (.cells #[.int .i64 k, .int .u64 (a : Nat), .bool r, .bool wr, .bool x, .int .i64 s] 48) = W at *
  go_cut [2, 42] (fun s2 s42 wx => s42 = .bool (argR st lv k s) ∧ Holds w (RDescL w k a r wr x s) wx)
  case first =>
    obtain ⟨s0, s1, _⟩ := id hH
    obtain ⟨k1, f1, z1⟩ := of_block s1
    go_wp2
    all_goals go_meet
    all_goals exact ⟨by simp_all [argR], hH⟩
  case rest =>
  obtain ⟨rfl, hH⟩ := hcut
  have hAe := argR_eq st lv k s
  cases hA : argR st lv k s
  case true =>
    obtain rfl : v = 1 := by rw [← HV.out]; exact checkC_arg (by rw [hA] at hAe; exact of_decide_eq_true hAe)
    go_wp2_with fail
    go_ret
    exact ⟨rfl, hH.1⟩
  case false =>
  rw [hA] at hAe
  have HA := Lib.hid (of_decide_eq_false hAe)
  clear hAe hA
  go_upto_region 3 with (fail)
  go_cut [2, 71] (fun s2 s71 wx => s71 = .bool (kindR lv k) ∧ Holds w (RDescL w k a r wr x s) wx)
  case first =>
    obtain ⟨s0, s1, _⟩ := id hH
    obtain ⟨k1, f1, z1⟩ := of_block s1
    go_wp2
    all_goals subst_vars
    all_goals go_meet
    all_goals exact ⟨by simp_all [kindR] <;> rfl, hH⟩
  case rest =>
  obtain ⟨rfl, hH⟩ := hcut
  have hBe := kindR_eq lv k
  cases hB : kindR lv k
  case true =>
    obtain rfl : v = 4 := by rw [← HV.out]; exact checkC_kind HA.out (by rw [hB] at hBe; exact of_decide_eq_true hBe)
    go_wp2_with fail
    go_ret
    exact ⟨rfl, hH.1⟩
  case false =>
  rw [hB] at hBe
  have HB := Lib.hid (of_decide_eq_false hBe)
  clear hBe hB
  go_upto_region 5 with (fail)
  go_cut [2, 7] (fun s2 s7 wx => s7 = .bool (r || wr || x) ∧ Holds w (RDescL w k a r wr x s) wx)
  case first =>
    obtain ⟨s0, s1, _⟩ := id hH
    obtain ⟨k1, f1, z1⟩ := of_block s1
    go_wp2
    all_goals go_meet
    all_goals exact ⟨by simp_all, hH⟩
  case rest =>
  obtain ⟨rfl, hH⟩ := hcut
  have hCe := formR_eq k a r wr x s
  generalize hE : (r || wr || x) = E
  rw [hE] at hCe
  have HE := Lib.hid hE
  clear hE
  go_upto_region 6 with (fail)
  go_cut [2, 7, 116] (fun s2 s7 s116 wx => s116 = .bool (formR k a E r wr s) ∧ Holds w (RDescL w k a r wr x s) wx)
  case first =>
    clear hCe
    obtain ⟨s0, s1, _⟩ := id hH
    obtain ⟨k1, f1, z1⟩ := of_block s1
    go_wp2
    all_goals subst_vars
    all_goals go_meet
    all_goals exact ⟨by simp_all [formR] <;> (first | rfl | omega | (intro h; exfalso; omega)), hH⟩
  case rest =>
  obtain ⟨rfl, hH⟩ := hcut
  cases hC : formR k a E r wr s
  case true =>
    obtain rfl : v = 4 := by rw [← HV.out]; exact checkC_form HA.out HB.out (by rw [hC] at hCe; rw [HE.out]; exact of_decide_eq_true hCe)
    go_wp2_with fail
    go_ret
    exact ⟨rfl, hH.1⟩
  case false =>
  rw [hC] at hCe
  have HC := Lib.hid (show ¬ ((k ≤ 1 ∧ (r || wr || x) = true) ∨ (wr && !r) = true ∨ (k = 0 ∧ (a ≠ 0 ∨ s ≠ 0))) by rw [HE.out]; exact of_decide_eq_false hCe)
  clear hCe hC
  go_upto_region 8 with (fail)
  have hTop := refTop_calls st
  have hl3 : lv = ((lv.toNat : Nat) : Int) ∧ lv.toNat ≤ 3 := by
    have hA := HA.out
    by_cases hp : Place st lv
    · obtain ⟨_, h1, h2⟩ := hp
      omega
    · exact absurd (.inl hp) hA
  have hSp := fun x => refSpan_yes lv lv.toNat hl3.1 x hl3.2
  have hs0 : (((spanN lv.toNat : Nat) : Int) == 0) = false := by
    have : 0 < spanN lv.toNat := by rw [spanN_pow _ hl3.2]; exact Nat.two_pow_pos _
    rw [beq_eq_false_iff_ne]; omega
  have hmul : 4096 ∣ spanN lv.toNat := by rw [spanN_pow _ hl3.2, Nat.pow_add]; exact ⟨_, rfl⟩
  generalize hsp : ((spanN lv.toNat : Nat) : Int) = SP at hSp hs0
  have HSP := Lib.hid hsp
  have HM := Lib.hid hmul
  have hsn : ¬ SP = 0 := by simpa using hs0
  clear hsp hs0 hl3 hmul
  refine wp_region_walked (S := Holds w (RDescL w k a r wr x s)) (by kernel_rfl) (by kernel_rfl) (holds_drew hH) ?_
  repeat (apply walked_cons; (first | exact gives_and rfl rfl rfl rfl | exact gives_or rfl rfl rfl rfl | (focus (intro wS hS; obtain ⟨s0, s1, _⟩ := id hS; obtain ⟨k1, f1, z1⟩ := of_block s1; go_wp2_with ((go_at_call 51; (with_reducible refine (hTop _).mono ?_); rintro e w9 ⟨rfl, hb9⟩)); (first | exact ⟨rfl, rfl, hS⟩ | exact ⟨rfl, rfl, holds_old hS hb9⟩); done)) | (focus (apply gives_guard; (focus (first | exact wanted_yes rfl rfl rfl | exact wanted_no rfl rfl rfl | exact wanted_yes2 rfl rfl rfl | exact wanted_no2 rfl rfl rfl)); (focus (intro hx9; (try simp only [Bool.not_eq_true', Bool.and_eq_true, Bool.not_not] at hx9); (try obtain ⟨hx9, hy9⟩ := hx9); (try subst hy9); (try subst hx9); (first | exact gives_and rfl rfl rfl rfl | exact gives_or rfl rfl rfl rfl | (intro wS hS; obtain ⟨s0, s1, _⟩ := id hS; obtain ⟨k1, f1, z1⟩ := of_block s1; go_wp2_with ((go_at_call 51; (with_reducible refine (hTop _).mono ?_); rintro e w9 ⟨rfl, hb9⟩)); (first | exact ⟨rfl, rfl, hS⟩ | exact ⟨rfl, rfl, holds_old hS hb9⟩); done))))))); rfl; (try simp only [Act.put, List.setIfInBounds_toArray, List.set_cons_succ, List.set_cons_zero]))
  apply walked_nil
  intro wS hH
  obtain ⟨s0, s1, _⟩ := id hH
  obtain ⟨k1, f1, z1⟩ := of_block s1
  go_wp2_with fail
  · have hD : topN st ≤ a := by assumption
    obtain rfl : v = 2 := by rw [← HV.out]; exact checkC_range HA.out HB.out HC.out hD
    go_ret
    exact ⟨rfl, hH.1⟩
  · have HD := Lib.hid (show ¬ topN st ≤ a by assumption)
    have HK := Lib.hid (show k = 2 by simpa using (show (k == 2) = true by assumption))
    (with_reducible refine (hSp _).mono ?_)
    rintro e w9 ⟨rfl, hb9⟩
    have hH := holds_old hH hb9
    obtain ⟨s0, s1, _⟩ := id hH
    obtain ⟨k1, f1, z1⟩ := of_block s1
    go_wp2
    · have h : ((a : Int) % SP != 0) = true := by assumption
      obtain rfl : v = 3 := by
        rw [← HV.out]
        refine checkC_align HA.out HB.out HC.out HD.out (.inr ⟨HK.out, ?_⟩)
        have h1 := bne_iff_ne.1 h
        rw [← HSP.out] at h1
        omega
      go_ret
      exact ⟨rfl, hH.1⟩
    · have h : (a : Int) % SP = 0 := by simpa using (show ((a : Int) % SP != 0) = false by assumption)
      obtain rfl : v = 0 := by
        rw [← HV.out]
        refine checkC_ok HA.out HB.out HC.out HD.out ?_
        rw [← HSP.out] at h
        have h2 : a % spanN lv.toNat = 0 := by omega
        have h3 : a % 4096 = 0 := Nat.mod_eq_zero_of_dvd (Nat.dvd_trans HM.out (Nat.dvd_of_mod_eq_zero h2))
        omega
      go_ret
      exact ⟨rfl, hH.1⟩
  · have HD := Lib.hid (show ¬ topN st ≤ a by assumption)
    have h : ((a : Int) % 4096 != 0) = true := by assumption
    obtain rfl : v = 3 := by
      rw [← HV.out]
      refine checkC_align HA.out HB.out HC.out HD.out (.inl ?_)
      have h1 := bne_iff_ne.1 h
      omega
    go_ret
    exact ⟨rfl, hH.1⟩
  · have HD := Lib.hid (show ¬ topN st ≤ a by assumption)
    have h : (a : Int) % 4096 = 0 := by simpa using (show ((a : Int) % 4096 != 0) = false by assumption)
    have hk : ¬ k = 2 := by simpa using (show (k == 2) = false by assumption)
    obtain rfl : v = 0 := by
      rw [← HV.out]
      exact checkC_ok HA.out HB.out HC.out HD.out (by omega)
    go_ret
    exact ⟨rfl, hH.1⟩

end Go.Proofs.Ytlbehhbicmmdoaa
