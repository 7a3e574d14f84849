/- Texts on the way to the statement NestedThrough, several in one file: each part says what it is. -/
import Derived.Test.YtlbehhbicmmdoaaKTA
import Derived.Laws.Bits64b
import Derived.Lib.SmallJoins
import Derived.ChangeSlices
namespace Go.Proofs.Ytlbehhbicmmdoaa
set_option linter.unusedVariables false
set_option linter.unusedSimpArgs false
open Go.RowKit
abbrev RDescL (w : World) (k : Int) (a : Nat) (r wr x : Bool) (s : Int) : List (Nat × Array Value × TypeId) := [(w.heap.size, #[.int .i64 k, .int .u64 (a : Nat), .bool r, .bool wr, .bool x, .int .i64 s], 48)]
def argR (st lv k s : Int) : Bool := decide (st < 1) || decide (2 < st) || decide (lv < 0) || decide (3 < lv) || decide (k < 0) || decide (3 < k) || decide (s < 0) || decide (15 < s)
def kindR (lv k : Int) : Bool := decide (k = 1) && decide (lv = 3) || decide (k = 2) && (decide (lv = 0) || decide (lv = 3)) || decide (k = 3) && !decide (lv = 3)
def formR (k : Int) (a : Nat) (E r wr : Bool) (s : Int) : Bool := decide (k < 2) && E || wr && !r || decide (k = 0) && (!decide (a = 0) || !decide (s = 0))
theorem argR_eq (st lv k s : Int) : decide (¬ Place st lv ∨ k < 0 ∨ 3 < k ∨ s < 0 ∨ 15 < s) = argR st lv k s := by
  unfold argR Place; rw [Bool.eq_iff_iff]; simp only [decide_eq_true_eq, Bool.or_eq_true]; omega
theorem kindR_eq (lv k : Int) : decide ((k = 1 ∧ lv = 3) ∨ (k = 2 ∧ (lv = 0 ∨ lv = 3)) ∨ (k = 3 ∧ lv ≠ 3)) = kindR lv k := by
  simp [kindR, Bool.or_assoc]
theorem formR_eq (k : Int) (a : Nat) (r wr x : Bool) (s : Int) : decide ((k ≤ 1 ∧ (r || wr || x) = true) ∨ (wr && !r) = true ∨ (k = 0 ∧ (a ≠ 0 ∨ s ≠ 0))) = formR k a (r || wr || x) r wr s := by
  unfold formR
  have : decide (k < 2) = decide (k ≤ 1) := by rw [decide_eq_decide]; omega
  rw [this]
  simp only [Bool.decide_or, Bool.decide_and, Bool.decide_eq_true, ne_eq, decide_not, Bool.or_assoc]
set_option maxHeartbeats 8000000 in
set_option maxRecDepth 100000 in
theorem descRefCheck_calls (st lv k : Int) (a : Nat) (r wr x : Bool) (s : Int) (w : World) :
    Calls Try.prog 68 #[.int .i64 st, .int .i64 lv, .agg #[.int .i64 k, .int .u64 (a : Nat), .bool r, .bool wr, .bool x, .int .i64 s]] w (RetB w (.int .i64 (checkC st lv k a r wr x s))) := by
  generalize hv : checkC st lv k a r wr x s = v
  have HV := Lib.hid hv
  clear hv
  go_enter Try.func68, Try.ntmps68
  go_upto_region 1 with (fail)
  have hH := holds_new #[.int .i64 k, .int .u64 (a : Nat), .bool r, .bool wr, .bool x, .int .i64 s] 48 (holds_nil w)
  generalize w.alloc (.cells #[.int .i64 k, .int .u64 (a : Nat), .bool r, .bool wr, .bool x, .int .i64 s] 48) = W at *
  go_cut [2, 42] (fun s2 s42 wx => s42 = .bool (argR st lv k s) ∧ Holds w (RDescL w k a r wr x s) wx)
  case first =>
    obtain ⟨s0, s1, _⟩ := id hH
    obtain ⟨k1, f1, z1⟩ := of_block s1
    go_wp2
    all_goals go_meet
    all_goals exact ⟨by simp_all [argR], hH⟩
  case rest =>
  obtain ⟨rfl, hH⟩ := hcut
  have hAe := argR_eq st lv k s
  cases hA : argR st lv k s
  case true =>
    obtain rfl : v = 1 := by rw [← HV.out]; exact checkC_arg (by rw [hA] at hAe; exact of_decide_eq_true hAe)
    go_wp2_with fail
    go_ret
    exact ⟨rfl, hH.1⟩
  case false =>
  rw [hA] at hAe
  have HA := Lib.hid (of_decide_eq_false hAe)
  clear hAe hA
  go_upto_region 3 with (fail)
  go_cut [2, 71] (fun s2 s71 wx => s71 = .bool (kindR lv k) ∧ Holds w (RDescL w k a r wr x s) wx)
  case first =>
    obtain ⟨s0, s1, _⟩ := id hH
    obtain ⟨k1, f1, z1⟩ := of_block s1
    go_wp2
    all_goals subst_vars
    all_goals go_meet
    all_goals exact ⟨by simp_all [kindR] <;> rfl, hH⟩
  case rest =>
  obtain ⟨rfl, hH⟩ := hcut
  have hBe := kindR_eq lv k
  cases hB : kindR lv k
  case true =>
    obtain rfl : v = 4 := by rw [← HV.out]; exact checkC_kind HA.out (by rw [hB] at hBe; exact of_decide_eq_true hBe)
    go_wp2_with fail
    go_ret
    exact ⟨rfl, hH.1⟩
  case false =>
  rw [hB] at hBe
  have HB := Lib.hid (of_decide_eq_false hBe)
  clear hBe hB
  go_upto_region 5 with (fail)
  go_cut [2, 7] (fun s2 s7 wx => s7 = .bool (r || wr || x) ∧ Holds w (RDescL w k a r wr x s) wx)
  case first =>
    obtain ⟨s0, s1, _⟩ := id hH
    obtain ⟨k1, f1, z1⟩ := of_block s1
    go_wp2
    all_goals go_meet
    all_goals exact ⟨by simp_all, hH⟩
  case rest =>
  obtain ⟨rfl, hH⟩ := hcut
  have hCe := formR_eq k a r wr x s
  generalize hE : (r || wr || x) = E
  rw [hE] at hCe
  have HE := Lib.hid hE
  clear hE
  go_upto_region 6 with (fail)
  go_cut [2, 7, 116] (fun s2 s7 s116 wx => s116 = .bool (formR k a E r wr s) ∧ Holds w (RDescL w k a r wr x s) wx)
  case first =>
    clear hCe
    obtain ⟨s0, s1, _⟩ := id hH
    obtain ⟨k1, f1, z1⟩ := of_block s1
    go_wp2
    all_goals subst_vars
    all_goals go_meet
    all_goals exact ⟨by simp_all [formR] <;> (first | rfl | omega | (intro h; exfalso; omega)), hH⟩
  case rest =>
  obtain ⟨rfl, hH⟩ := hcut
  cases hC : formR k a E r wr s
  case true =>
    obtain rfl : v = 4 := by rw [← HV.out]; exact checkC_form HA.out HB.out (by rw [hC] at hCe; rw [HE.out]; exact of_decide_eq_true hCe)
    go_wp2_with fail
    go_ret
    exact ⟨rfl, hH.1⟩
  case false =>
  rw [hC] at hCe
  have HC := Lib.hid (show ¬ ((k ≤ 1 ∧ (r || wr || x) = true) ∨ (wr && !r) = true ∨ (k = 0 ∧ (a ≠ 0 ∨ s ≠ 0))) by rw [HE.out]; exact of_decide_eq_false hCe)
  clear hCe hC
  go_upto_region 8 with (fail)
  have hTop := refTop_calls st
  have hl3 : lv = ((lv.toNat : Nat) : Int) ∧ lv.toNat ≤ 3 := by
    have hA := HA.out
    by_cases hp : Place st lv
    · obtain ⟨_, h1, h2⟩ := hp
      omega
    · exact absurd (.inl hp) hA
  have hSp := fun x => refSpan_yes lv lv.toNat hl3.1 x hl3.2
  have hs0 : (((spanN lv.toNat : Nat) : Int) == 0) = false := by
    have : 0 < spanN lv.toNat := by rw [spanN_pow _ hl3.2]; exact Nat.two_pow_pos _
    rw [beq_eq_false_iff_ne]; omega
  have hmul : 4096 ∣ spanN lv.toNat := by rw [spanN_pow _ hl3.2, Nat.pow_add]; exact ⟨_, rfl⟩
  generalize hsp : ((spanN lv.toNat : Nat) : Int) = SP at hSp hs0
  have HSP := Lib.hid hsp
  have HM := Lib.hid hmul
  have hsn : ¬ SP = 0 := by simpa using hs0
  clear hsp hs0 hl3 hmul
  refine wp_region_walked (S := Holds w (RDescL w k a r wr x s)) (by kernel_rfl) (by kernel_rfl) (holds_drew hH) ?_
  repeat (apply walked_cons; (first | exact gives_and rfl rfl rfl rfl | exact gives_or rfl rfl rfl rfl | (focus (intro wS hS; obtain ⟨s0, s1, _⟩ := id hS; obtain ⟨k1, f1, z1⟩ := of_block s1; go_wp2_with ((go_at_call 51; (with_reducible refine (hTop _).mono ?_); rintro e w9 ⟨rfl, hb9⟩)); (first | exact ⟨rfl, rfl, hS⟩ | exact ⟨rfl, rfl, holds_old hS hb9⟩); done)) | (focus (apply gives_guard; (focus (first | exact wanted_yes rfl rfl rfl | exact wanted_no rfl rfl rfl | exact wanted_yes2 rfl rfl rfl | exact wanted_no2 rfl rfl rfl)); (focus (intro hx9; (try simp only [Bool.not_eq_true', Bool.and_eq_true, Bool.not_not] at hx9); (try obtain ⟨hx9, hy9⟩ := hx9); (try subst hy9); (try subst hx9); (first | exact gives_and rfl rfl rfl rfl | exact gives_or rfl rfl rfl rfl | (intro wS hS; obtain ⟨s0, s1, _⟩ := id hS; obtain ⟨k1, f1, z1⟩ := of_block s1; go_wp2_with ((go_at_call 51; (with_reducible refine (hTop _).mono ?_); rintro e w9 ⟨rfl, hb9⟩)); (first | exact ⟨rfl, rfl, hS⟩ | exact ⟨rfl, rfl, holds_old hS hb9⟩); done))))))); rfl; (try simp only [Act.put, List.setIfInBounds_toArray, List.set_cons_succ, List.set_cons_zero]))
  apply walked_nil
  intro wS hH
  obtain ⟨s0, s1, _⟩ := id hH
  obtain ⟨k1, f1, z1⟩ := of_block s1
  go_wp2_with fail
  · have hD : topN st ≤ a := by assumption
    obtain rfl : v = 2 := by rw [← HV.out]; exact checkC_range HA.out HB.out HC.out hD
    go_ret
    exact ⟨rfl, hH.1⟩
  · have HD := Lib.hid (show ¬ topN st ≤ a by assumption)
    have HK := Lib.hid (show k = 2 by simpa using (show (k == 2) = true by assumption))
    (with_reducible refine (hSp _).mono ?_)
    rintro e w9 ⟨rfl, hb9⟩
    have hH := holds_old hH hb9
    obtain ⟨s0, s1, _⟩ := id hH
    obtain ⟨k1, f1, z1⟩ := of_block s1
    go_wp2
    · have h : ((a : Int) % SP != 0) = true := by assumption
      obtain rfl : v = 3 := by
        rw [← HV.out]
        refine checkC_align HA.out HB.out HC.out HD.out (.inr ⟨HK.out, ?_⟩)
        have h1 := bne_iff_ne.1 h
        rw [← HSP.out] at h1
        omega
      go_ret
      exact ⟨rfl, hH.1⟩
    · have h : (a : Int) % SP = 0 := by simpa using (show ((a : Int) % SP != 0) = false by assumption)
      obtain rfl : v = 0 := by
        rw [← HV.out]
        refine checkC_ok HA.out HB.out HC.out HD.out ?_
        rw [← HSP.out] at h
        have h2 : a % spanN lv.toNat = 0 := by omega
        have h3 : a % 4096 = 0 := Nat.mod_eq_zero_of_dvd (Nat.dvd_trans HM.out (Nat.dvd_of_mod_eq_zero h2))
        omega
      go_ret
      exact ⟨rfl, hH.1⟩
  · have HD := Lib.hid (show ¬ topN st ≤ a by assumption)
    have h : ((a : Int) % 4096 != 0) = true := by assumption
    obtain rfl : v = 3 := by
      rw [← HV.out]
      refine checkC_align HA.out HB.out HC.out HD.out (.inl ?_)
      have h1 := bne_iff_ne.1 h
      omega
    go_ret
    exact ⟨rfl, hH.1⟩
  · have HD := Lib.hid (show ¬ topN st ≤ a by assumption)
    have h : (a : Int) % 4096 = 0 := by simpa using (show ((a : Int) % 4096 != 0) = false by assumption)
    have hk : ¬ k = 2 := by simpa using (show (k == 2) = false by assumption)
    obtain rfl : v = 0 := by
      rw [← HV.out]
      exact checkC_ok HA.out HB.out HC.out HD.out (by omega)
    go_ret
    exact ⟨rfl, hH.1⟩
end Go.Proofs.Ytlbehhbicmmdoaa
namespace Go.Proofs.Ytlbehhbicmmdoaa
set_option linter.unusedVariables false
set_option linter.unusedSimpArgs false
open Go.RowKit
/-- The word of a descriptor that is not none. -/
def wordN (k : Int) (a : Nat) (r wr x : Bool) (s : Nat) : Nat := 1 + flagN (decide (k ≠ 2)) 1 + flagN r 6 + flagN wr 7 + flagN x 8 + a + s * 36028797018963968
def bitB (w i : Nat) : Bool := decide (w / 2 ^ i % 2 = 1)
def decK (lv : Int) (w : Nat) : Int := bif bitB w 1 then (if lv = 3 then 3 else 1) else 2
def decS (w : Nat) : Nat := w / 36028797018963968 % 16
def decA (w : Nat) : Nat := w / 4096 % 68719476736 * 4096
theorem decA_le (w : Nat) : decA w ≤ 281474976706560 := by unfold decA; omega
theorem decA_mod (w : Nat) : decA w % 4096 = 0 := by unfold decA; omega
theorem decS_le (w : Nat) : decS w ≤ 15 := by unfold decS; omega
theorem wordN_add (k : Int) (a : Nat) (r wr x : Bool) (s : Nat) : wordN k a r wr x s = wordN k 0 r wr x s + a := by unfold wordN; omega
theorem flags_lt (b r wr x : Bool) : 1 + flagN b 1 + flagN r 6 + flagN wr 7 + flagN x 8 < 4096 := by
  cases b <;> cases r <;> cases wr <;> cases x <;> decide
theorem word_parts {k : Int} {a : Nat} {r wr x : Bool} {s : Nat} (ha : a % 4096 = 0) (hl : a < 281474976710656) (hs : s ≤ 15) :
    wordN k a r wr x s < 18446744073709551616 ∧ wordN k a r wr x s % 2 = 1 ∧ bitB (wordN k a r wr x s) 1 = decide (k ≠ 2) ∧ bitB (wordN k a r wr x s) 6 = r ∧ bitB (wordN k a r wr x s) 7 = wr ∧
      bitB (wordN k a r wr x s) 8 = x ∧ decS (wordN k a r wr x s) = s ∧ decA (wordN k a r wr x s) = a := by
  unfold wordN bitB decS decA
  have key : ∀ F : Nat, F < 4096 → (F + a + s * 36028797018963968 < 18446744073709551616 ∧ (F + a + s * 36028797018963968) / 36028797018963968 % 16 = s ∧ (F + a + s * 36028797018963968) / 4096 % 68719476736 * 4096 = a ∧
      (F + a + s * 36028797018963968) % 4096 = F) := by
    intro F hF; refine ⟨by omega, by omega, by omega, by omega⟩
  have hF := flags_lt (decide (k ≠ 2)) r wr x
  have hK := key _ hF
  generalize hW : 1 + flagN (decide (k ≠ 2)) 1 + flagN r 6 + flagN wr 7 + flagN x 8 + a + s * 36028797018963968 = W at *
  obtain ⟨h1, h2, h3, h4⟩ := hK
  have low : ∀ i : Nat, i = 1 ∨ i = 6 ∨ i = 7 ∨ i = 8 → W / 2 ^ i % 2 = W % 4096 / 2 ^ i % 2 := by
    intro i hi; rcases hi with rfl | rfl | rfl | rfl <;> simp only [Nat.reducePow] <;> omega
  refine ⟨h1, ?_, ?_, ?_, ?_, ?_, h2, h3⟩
  · have : W % 2 = W % 4096 % 2 := by omega
    rw [this, h4]; cases decide (k ≠ 2) <;> cases r <;> cases wr <;> cases x <;> decide
  · rw [low 1 (.inl rfl), h4]; cases decide (k ≠ 2) <;> cases r <;> cases wr <;> cases x <;> decide
  · rw [low 6 (.inr (.inl rfl)), h4]; cases decide (k ≠ 2) <;> cases r <;> cases wr <;> cases x <;> decide
  · rw [low 7 (.inr (.inr (.inl rfl))), h4]; cases decide (k ≠ 2) <;> cases r <;> cases wr <;> cases x <;> decide
  · rw [low 8 (.inr (.inr (.inr rfl))), h4]; cases decide (k ≠ 2) <;> cases r <;> cases wr <;> cases x <;> decide
/-- What Check = 0 says of a descriptor that is not none. -/
theorem check_zero {st lv k : Int} {a : Nat} {r wr x : Bool} {s : Int} (hk : k ≠ 0) : checkC st lv k a r wr x s = 0 ↔
    Place st lv ∧ 1 ≤ k ∧ k ≤ 3 ∧ 0 ≤ s ∧ s ≤ 15 ∧ (k = 1 → lv ≠ 3) ∧ (k = 2 → lv ≠ 0 ∧ lv ≠ 3) ∧ (k = 3 → lv = 3) ∧ (k = 1 → r = false ∧ wr = false ∧ x = false) ∧ (wr = true → r = true) ∧ a < topN st ∧ a % 4096 = 0 ∧ (k = 2 → a % spanN lv.toNat = 0) := by
  unfold checkC
  constructor
  · intro h
    split at h
    · cases h
    split at h
    · cases h
    split at h
    · cases h
    split at h
    · cases h
    split at h
    · cases h
    rename_i h1 h2 h3 h4 h5
    have hP : Place st lv := Classical.byContradiction fun e => h1 (.inl e)
    have h3a : ¬ (k ≤ 1 ∧ (r || wr || x) = true) := fun e => h3 (.inl e)
    have h3b : ¬ (wr && !r) = true := fun e => h3 (.inr (.inl e))
    refine ⟨hP, by omega, by omega, by omega, by omega, by omega, by omega, by omega, ?_, ?_, by omega, by omega, by omega⟩
    · intro e
      have : ¬ (r || wr || x) = true := fun g => h3a ⟨by omega, g⟩
      revert this; cases r <;> cases wr <;> cases x <;> simp
    · revert h3b; cases r <;> cases wr <;> simp
  · rintro ⟨hP, h1, h2, h3, h4, h5, h6, h7, h8, h9, h10, h11, h12⟩
    have n1 : ¬ (¬ Place st lv ∨ k < 0 ∨ 3 < k ∨ s < 0 ∨ 15 < s) := by
      intro e
      rcases e with e | e
      · exact e hP
      · omega
    rw [if_neg n1, if_neg (by omega), if_neg, if_neg (by omega), if_neg (by omega)]
    rintro (⟨e, g⟩ | e | e)
    · obtain ⟨rfl, rfl, rfl⟩ := h8 (by omega); cases g
    · revert h9 e; cases r <;> cases wr <;> simp
    · omega
/-- What Decode answers: its error. -/
def decE (st lv : Int) (w : Nat) : Int :=
  if ¬ Place st lv then 1
  else if w % 2 = 0 then 0
  else if ¬ (checkC st lv (decK lv w) 0 (bitB w 6) (bitB w 7) (bitB w 8) (decS w : Nat) = 0 ∧ wordN (decK lv w) 0 (bitB w 6) (bitB w 7) (bitB w 8) (decS w) + decA w = w) then 4
  else if topN st ≤ decA w then 2
  else if checkC st lv (decK lv w) (decA w) (bitB w 6) (bitB w 7) (bitB w 8) (decS w : Nat) ≠ 0 then 4
  else 0
theorem zero_mod_span (n : Nat) : 0 % spanN n = 0 := Nat.zero_mod _
theorem check_base {st lv k : Int} {a : Nat} {r wr x : Bool} {s : Int} (hk : k ≠ 0) (h : checkC st lv k a r wr x s = 0) : checkC st lv k 0 r wr x s = 0 := by
  rw [check_zero hk] at h ⊢
  obtain ⟨h0, h1, h2, h3, h4, h5, h6, h7, h8, h9, h10, h11, h12⟩ := h
  exact ⟨h0, h1, h2, h3, h4, h5, h6, h7, h8, h9, by omega, rfl, fun _ => zero_mod_span _⟩
/-- A descriptor's word is read as the descriptor. -/
theorem dec_word {st lv k : Int} {a : Nat} {r wr x : Bool} {s : Nat} (hk : k ≠ 0) (h : checkC st lv k a r wr x (s : Nat) = 0) :
    decE st lv (wordN k a r wr x s) = 0 ∧ wordN k a r wr x s < 18446744073709551616 ∧ wordN k a r wr x s % 2 = 1 ∧ decK lv (wordN k a r wr x s) = k ∧ decA (wordN k a r wr x s) = a ∧ bitB (wordN k a r wr x s) 6 = r ∧ bitB (wordN k a r wr x s) 7 = wr ∧ bitB (wordN k a r wr x s) 8 = x ∧ decS (wordN k a r wr x s) = s := by
  have hz := (check_zero hk).1 h
  obtain ⟨h0, h1, h2, h3, h4, h5, h6, h7, h8, h9, h10, h11, h12⟩ := hz
  have htop := topN_le st
  obtain ⟨p1, p2, p3, p4, p5, p6, p7, p8⟩ := @word_parts k a r wr x s h11 (by omega) (by omega)
  have pk : decK lv (wordN k a r wr x s) = k := by
    unfold decK; rw [p3]
    by_cases e : k = 2
    · subst e; rfl
    · rw [decide_eq_true (show k ≠ 2 from e), cond_true]
      split <;> omega
  refine ⟨?_, p1, p2, pk, p8, p4, p5, p6, p7⟩
  unfold decE
  rw [pk, p8, p4, p5, p6, p7]
  rw [if_neg (by simpa using h0), if_neg (by omega), if_neg, if_neg (by omega), if_neg (by simpa using h)]
  rw [Classical.not_not]
  exact ⟨check_base hk h, (wordN_add k a r wr x s).symm⟩
/-! The word as the program makes it. -/
theorem or_flags (b r wr x : Bool) : bits .or .u64 (bits .or .u64 (bits .or .u64 (bits .or .u64 1 (flagN b 1 : Nat)) (flagN r 6 : Nat)) (flagN wr 7 : Nat)) (flagN x 8 : Nat) = ((1 + flagN b 1 + flagN r 6 + flagN wr 7 + flagN x 8 : Nat) : Int) := by
  cases b <;> cases r <;> cases wr <;> cases x <;> rfl
theorem or_low {i : Nat} (q b : Nat) (h : b < 2 ^ i) : b ||| 2 ^ i * q = b + 2 ^ i * q := by
  rw [Nat.or_comm, ← Nat.two_pow_add_eq_or_of_lt h, Nat.add_comm]
theorem ne_two (k : Int) : (k != 2) = decide (k ≠ 2) := by
  by_cases h : k = 2
  · subst h; rfl
  · rw [decide_eq_true h, bne_iff_ne.2 h]
theorem word_or {k : Int} {a : Nat} {r wr x : Bool} {s : Int} (ha : a % 4096 = 0) (hl : a < 281474976710656) (hs : 0 ≤ s) (hs2 : s ≤ 15) :
    bits .or .u64 (bits .or .u64 (bits .or .u64 (bits .or .u64 (bits .or .u64 (bits .or .u64 1 (flagN (k != 2) 1 : Nat)) (flagN r 6 : Nat)) (flagN wr 7 : Nat)) (flagN x 8 : Nat)) (a : Int))
      (IntKind.u64.wrap (IntKind.u64.wrap s * 36028797018963968)) = ((wordN k a r wr x s.toNat : Nat) : Int) := by
  rw [ne_two, or_flags]
  have hF := flags_lt (decide (k ≠ 2)) r wr x
  have hw : IntKind.u64.wrap (IntKind.u64.wrap s * 36028797018963968) = ((2 ^ 55 * s.toNat : Nat) : Int) := by
    rw [show IntKind.u64.wrap s = s by rw [IntKind.wrap_u64]; omega]
    rw [IntKind.wrap_u64]; omega
  rw [hw]
  unfold wordN
  generalize 1 + flagN (decide (k ≠ 2)) 1 + flagN r 6 + flagN wr 7 + flagN x 8 = F at *
  rw [bits_or_u64_nat _ _ (by omega) (by omega)]
  have h1 : F ||| a = F + a := by
    have := or_low (i := 12) (a / 4096) F hF
    rw [show 2 ^ 12 * (a / 4096) = a by omega] at this
    exact this
  rw [h1, bits_or_u64_nat _ _ (by omega) (by omega), or_low _ _ (by omega)]
  congr 1
  omega
theorem word_add {k : Int} {a : Nat} {r wr x : Bool} {s : Int} (ha : a % 4096 = 0) (hl : a < 281474976710656) (hs : 0 ≤ s) (hs2 : s ≤ 15) :
    IntKind.u64.wrap (IntKind.u64.wrap (IntKind.u64.wrap (IntKind.u64.wrap (IntKind.u64.wrap (IntKind.u64.wrap (1 + (flagN (k != 2) 1 : Nat)) + (flagN r 6 : Nat)) + (flagN wr 7 : Nat)) + (flagN x 8 : Nat)) + (a : Int)) +
      IntKind.u64.wrap (IntKind.u64.wrap s * 36028797018963968)) = ((wordN k a r wr x s.toNat : Nat) : Int) := by
  rw [ne_two]
  have hF := flags_lt (decide (k ≠ 2)) r wr x
  rw [show IntKind.u64.wrap s = s by rw [IntKind.wrap_u64]; omega]
  unfold wordN
  generalize flagN (decide (k ≠ 2)) 1 = F1 at *
  generalize flagN r 6 = F2 at *
  generalize flagN wr 7 = F3 at *
  generalize flagN x 8 = F4 at *
  simp only [IntKind.wrap_u64]
  omega
end Go.Proofs.Ytlbehhbicmmdoaa
namespace Go.Proofs.Ytlbehhbicmmdoaa
set_option linter.unusedVariables false
set_option linter.unusedSimpArgs false
open Go.RowKit
def encW (st lv k : Int) (a : Nat) (r wr x : Bool) (s : Int) : Nat := if checkC st lv k a r wr x s = 0 ∧ k ≠ 0 then wordN k a r wr x s.toNat else 0
abbrev descV (k : Int) (a : Nat) (r wr x : Bool) (s : Int) : Value := .agg #[.int .i64 k, .int .u64 (a : Nat), .bool r, .bool wr, .bool x, .int .i64 s]
abbrev EncL (w : World) (k : Int) (a : Nat) (r wr x : Bool) (s : Int) : List (Nat × Array Value × TypeId) := [(w.heap.size, #[.int .i64 k, .int .u64 (a : Nat), .bool r, .bool wr, .bool x, .int .i64 s], 48)]
set_option maxHeartbeats 2000000 in
set_option maxRecDepth 100000 in
theorem encode_calls (st lv k : Int) (a : Nat) (r wr x : Bool) (s : Int) (w : World) :
    Calls Try.prog 73 #[.int .i64 st, .int .i64 lv, descV k a r wr x s] w (RetB w (.tuple #[.int .u64 (encW st lv k a r wr x s : Nat), .int .i64 (checkC st lv k a r wr x s)])) := by
  have hck := descCheck_calls st lv k a r wr x s
  by_cases hE : checkC st lv k a r wr x s = 0
  · by_cases hk : k = 0
    · have h0 : encW st lv k a r wr x s = 0 := by unfold encW; rw [if_neg (by simp [hk])]
      rw [h0, hE]
      rw [hE] at hck
      subst hk
      clear h0 hE
      go_enter Try.func73, Try.ntmps73
      go_upto_region 1 with (fail)
      have hH := holds_new #[.int .i64 0, .int .u64 (a : Nat), .bool r, .bool wr, .bool x, .int .i64 s] 48 (holds_nil w)
      generalize w.alloc (.cells #[.int .i64 0, .int .u64 (a : Nat), .bool r, .bool wr, .bool x, .int .i64 s] 48) = W at *
      obtain ⟨s0, s1, _⟩ := id hH
      obtain ⟨k1, f1, z1⟩ := of_block s1
      go_wp2_with ((go_at_call 74; (with_reducible refine (hck _).mono ?_); rintro e w9 ⟨rfl, hb9⟩; have hH := holds_old hH hb9; obtain ⟨_, s1, _⟩ := id hH; obtain ⟨k1, f1, z1⟩ := of_block s1))
      go_ret2
      exact ⟨rfl, hH.1⟩
    · have h0 : encW st lv k a r wr x s = wordN k a r wr x s.toNat := by unfold encW; rw [if_pos ⟨hE, hk⟩]
      have HZ := Lib.hid ((check_zero hk).1 hE)
      rw [h0, hE]
      rw [hE] at hck
      clear h0 hE
      go_enter Try.func73, Try.ntmps73
      go_upto_region 1 with (fail)
      have hH := holds_new #[.int .i64 k, .int .u64 (a : Nat), .bool r, .bool wr, .bool x, .int .i64 s] 48 (holds_nil w)
      generalize w.alloc (.cells #[.int .i64 k, .int .u64 (a : Nat), .bool r, .bool wr, .bool x, .int .i64 s] 48) = W at *
      obtain ⟨s0, s1, _⟩ := id hH
      obtain ⟨k1, f1, z1⟩ := of_block s1
      go_wp2_with ((go_at_call 74; (with_reducible refine (hck _).mono ?_); rintro e w9 ⟨rfl, hb9⟩; have hH := holds_old hH hb9; obtain ⟨_, s1, _⟩ := id hH; obtain ⟨k1, f1, z1⟩ := of_block s1))
      refine wp_region_walked (S := Holds w (EncL w k a r wr x s)) (by kernel_rfl) (by kernel_rfl) (holds_drew hH) ?_
      repeat (apply walked_cons; (first | exact gives_and rfl rfl rfl rfl | exact gives_or rfl rfl rfl rfl | (focus (intro wS hS; obtain ⟨s0, s1, _⟩ := id hS; obtain ⟨k1, f1, z1⟩ := of_block s1; go_wp2_with (((go_at_call 80); (first | (with_reducible refine (flag_calls _ 1 1 rfl (.inl rfl) _).mono ?_) | (with_reducible refine (flag_calls _ 6 6 rfl (.inr (.inl rfl)) _).mono ?_) | (with_reducible refine (flag_calls _ 7 7 rfl (.inr (.inr (.inl rfl))) _).mono ?_) | (with_reducible refine (flag_calls _ 8 8 rfl (.inr (.inr (.inr rfl))) _).mono ?_)); rintro e w9 ⟨rfl, hb9⟩)); (first | exact ⟨rfl, rfl, hS⟩ | exact ⟨rfl, rfl, holds_old hS hb9⟩); done)) | (focus (apply gives_guard; (focus (first | exact wanted_yes rfl rfl rfl | exact wanted_no rfl rfl rfl | exact wanted_yes2 rfl rfl rfl | exact wanted_no2 rfl rfl rfl)); (focus (intro hx9; (try simp only [Bool.not_eq_true', Bool.and_eq_true, Bool.not_not] at hx9); (try obtain ⟨hx9, hy9⟩ := hx9); (try subst hy9); (try subst hx9); (first | exact gives_and rfl rfl rfl rfl | exact gives_or rfl rfl rfl rfl | (intro wS hS; obtain ⟨s0, s1, _⟩ := id hS; obtain ⟨k1, f1, z1⟩ := of_block s1; go_wp2_with (((go_at_call 80); (first | (with_reducible refine (flag_calls _ 1 1 rfl (.inl rfl) _).mono ?_) | (with_reducible refine (flag_calls _ 6 6 rfl (.inr (.inl rfl)) _).mono ?_) | (with_reducible refine (flag_calls _ 7 7 rfl (.inr (.inr (.inl rfl))) _).mono ?_) | (with_reducible refine (flag_calls _ 8 8 rfl (.inr (.inr (.inr rfl))) _).mono ?_)); rintro e w9 ⟨rfl, hb9⟩)); (first | exact ⟨rfl, rfl, hS⟩ | exact ⟨rfl, rfl, holds_old hS hb9⟩); done))))))); rfl; (try simp only [Act.put, List.setIfInBounds_toArray, List.set_cons_succ, List.set_cons_zero]))
      apply walked_nil
      intro wS hH
      obtain ⟨s0, s1, _⟩ := id hH
      obtain ⟨k1, f1, z1⟩ := of_block s1
      go_wp2
      obtain ⟨hp, q1, q2, q3, q4, _, _, _, _, _, q5, q6, _⟩ := HZ.out
      have htop := topN_le st
      have hW := @word_or k a r wr x s q6 (by omega) q3 q4
      rw [hW]
      go_ret2
      exact ⟨rfl, hH.1⟩
  · have h0 : encW st lv k a r wr x s = 0 := by unfold encW; rw [if_neg (by simp [hE])]
    rw [h0]
    generalize checkC st lv k a r wr x s = e at *
    have hne : (e != 0) = true := bne_iff_ne.2 hE
    clear h0 hE
    go_enter Try.func73, Try.ntmps73
    go_upto_region 1 with (fail)
    have hH := holds_new #[.int .i64 k, .int .u64 (a : Nat), .bool r, .bool wr, .bool x, .int .i64 s] 48 (holds_nil w)
    generalize w.alloc (.cells #[.int .i64 k, .int .u64 (a : Nat), .bool r, .bool wr, .bool x, .int .i64 s] 48) = W at *
    obtain ⟨s0, s1, _⟩ := id hH
    obtain ⟨k1, f1, z1⟩ := of_block s1
    go_wp2_with ((go_at_call 74; (with_reducible refine (hck _).mono ?_); rintro e w9 ⟨rfl, hb9⟩; have hH := holds_old hH hb9; obtain ⟨_, s1, _⟩ := id hH; obtain ⟨k1, f1, z1⟩ := of_block s1))
    go_ret2
    exact ⟨rfl, hH.1⟩
set_option maxHeartbeats 2000000 in
set_option maxRecDepth 100000 in
theorem refEncode_calls (st lv k : Int) (a : Nat) (r wr x : Bool) (s : Int) (w : World) :
    Calls Try.prog 44 #[.int .i64 st, .int .i64 lv, descV k a r wr x s] w (RetB w (.tuple #[.int .u64 (encW st lv k a r wr x s : Nat), .int .i64 (checkC st lv k a r wr x s)])) := by
  have hck := descRefCheck_calls st lv k a r wr x s
  by_cases hE : checkC st lv k a r wr x s = 0
  · by_cases hk : k = 0
    · have h0 : encW st lv k a r wr x s = 0 := by unfold encW; rw [if_neg (by simp [hk])]
      rw [h0, hE]
      rw [hE] at hck
      subst hk
      clear h0 hE
      go_enter Try.func44, Try.ntmps44
      go_upto_region 1 with (fail)
      have hH := holds_new #[.int .i64 0, .int .u64 (a : Nat), .bool r, .bool wr, .bool x, .int .i64 s] 48 (holds_nil w)
      generalize w.alloc (.cells #[.int .i64 0, .int .u64 (a : Nat), .bool r, .bool wr, .bool x, .int .i64 s] 48) = W at *
      obtain ⟨s0, s1, _⟩ := id hH
      obtain ⟨k1, f1, z1⟩ := of_block s1
      go_wp2_with ((go_at_call 68; (with_reducible refine (hck _).mono ?_); rintro e w9 ⟨rfl, hb9⟩; have hH := holds_old hH hb9; obtain ⟨_, s1, _⟩ := id hH; obtain ⟨k1, f1, z1⟩ := of_block s1))
      go_ret2
      exact ⟨rfl, hH.1⟩
    · have h0 : encW st lv k a r wr x s = wordN k a r wr x s.toNat := by unfold encW; rw [if_pos ⟨hE, hk⟩]
      have HZ := Lib.hid ((check_zero hk).1 hE)
      rw [h0, hE]
      rw [hE] at hck
      clear h0 hE
      go_enter Try.func44, Try.ntmps44
      go_upto_region 1 with (fail)
      have hH := holds_new #[.int .i64 k, .int .u64 (a : Nat), .bool r, .bool wr, .bool x, .int .i64 s] 48 (holds_nil w)
      generalize w.alloc (.cells #[.int .i64 k, .int .u64 (a : Nat), .bool r, .bool wr, .bool x, .int .i64 s] 48) = W at *
      obtain ⟨s0, s1, _⟩ := id hH
      obtain ⟨k1, f1, z1⟩ := of_block s1
      go_wp2_with ((go_at_call 68; (with_reducible refine (hck _).mono ?_); rintro e w9 ⟨rfl, hb9⟩; have hH := holds_old hH hb9; obtain ⟨_, s1, _⟩ := id hH; obtain ⟨k1, f1, z1⟩ := of_block s1))
      refine wp_region_walked (S := Holds w (EncL w k a r wr x s)) (by kernel_rfl) (by kernel_rfl) (holds_drew hH) ?_
      repeat (apply walked_cons; (first | exact gives_and rfl rfl rfl rfl | exact gives_or rfl rfl rfl rfl | (focus (intro wS hS; obtain ⟨s0, s1, _⟩ := id hS; obtain ⟨k1, f1, z1⟩ := of_block s1; go_wp2_with (((go_at_call 69); (first | (with_reducible refine (refBit_calls _ 1 1 rfl (.inl rfl) _).mono ?_) | (with_reducible refine (refBit_calls _ 6 6 rfl (.inr (.inl rfl)) _).mono ?_) | (with_reducible refine (refBit_calls _ 7 7 rfl (.inr (.inr (.inl rfl))) _).mono ?_) | (with_reducible refine (refBit_calls _ 8 8 rfl (.inr (.inr (.inr rfl))) _).mono ?_)); rintro e w9 ⟨rfl, hb9⟩)); (first | exact ⟨rfl, rfl, hS⟩ | exact ⟨rfl, rfl, holds_old hS hb9⟩); done)) | (focus (apply gives_guard; (focus (first | exact wanted_yes rfl rfl rfl | exact wanted_no rfl rfl rfl | exact wanted_yes2 rfl rfl rfl | exact wanted_no2 rfl rfl rfl)); (focus (intro hx9; (try simp only [Bool.not_eq_true', Bool.and_eq_true, Bool.not_not] at hx9); (try obtain ⟨hx9, hy9⟩ := hx9); (try subst hy9); (try subst hx9); (first | exact gives_and rfl rfl rfl rfl | exact gives_or rfl rfl rfl rfl | (intro wS hS; obtain ⟨s0, s1, _⟩ := id hS; obtain ⟨k1, f1, z1⟩ := of_block s1; go_wp2_with (((go_at_call 69); (first | (with_reducible refine (refBit_calls _ 1 1 rfl (.inl rfl) _).mono ?_) | (with_reducible refine (refBit_calls _ 6 6 rfl (.inr (.inl rfl)) _).mono ?_) | (with_reducible refine (refBit_calls _ 7 7 rfl (.inr (.inr (.inl rfl))) _).mono ?_) | (with_reducible refine (refBit_calls _ 8 8 rfl (.inr (.inr (.inr rfl))) _).mono ?_)); rintro e w9 ⟨rfl, hb9⟩)); (first | exact ⟨rfl, rfl, hS⟩ | exact ⟨rfl, rfl, holds_old hS hb9⟩); done))))))); rfl; (try simp only [Act.put, List.setIfInBounds_toArray, List.set_cons_succ, List.set_cons_zero]))
      apply walked_nil
      intro wS hH
      obtain ⟨s0, s1, _⟩ := id hH
      obtain ⟨k1, f1, z1⟩ := of_block s1
      go_wp2
      obtain ⟨hp, q1, q2, q3, q4, _, _, _, _, _, q5, q6, _⟩ := HZ.out
      have htop := topN_le st
      have hW := @word_add k a r wr x s q6 (by omega) q3 q4
      rw [hW]
      go_ret2
      exact ⟨rfl, hH.1⟩
  · have h0 : encW st lv k a r wr x s = 0 := by unfold encW; rw [if_neg (by simp [hE])]
    rw [h0]
    generalize checkC st lv k a r wr x s = e at *
    have hne : (e != 0) = true := bne_iff_ne.2 hE
    clear h0 hE
    go_enter Try.func44, Try.ntmps44
    go_upto_region 1 with (fail)
    have hH := holds_new #[.int .i64 k, .int .u64 (a : Nat), .bool r, .bool wr, .bool x, .int .i64 s] 48 (holds_nil w)
    generalize w.alloc (.cells #[.int .i64 k, .int .u64 (a : Nat), .bool r, .bool wr, .bool x, .int .i64 s] 48) = W at *
    obtain ⟨s0, s1, _⟩ := id hH
    obtain ⟨k1, f1, z1⟩ := of_block s1
    go_wp2_with ((go_at_call 68; (with_reducible refine (hck _).mono ?_); rintro e w9 ⟨rfl, hb9⟩; have hH := holds_old hH hb9; obtain ⟨_, s1, _⟩ := id hH; obtain ⟨k1, f1, z1⟩ := of_block s1))
    go_ret2
    exact ⟨rfl, hH.1⟩
end Go.Proofs.Ytlbehhbicmmdoaa
namespace Go.Proofs.Ytlbehhbicmmdoaa
set_option linter.unusedVariables false
set_option linter.unusedSimpArgs false
open Go.RowKit
/-- A call that returns v and turns nothing. -/
def RetX (w : World) (v : Value) (e : Ending) (w' : World) : Prop := e = .returned v ∧ w = w'
set_option maxHeartbeats 1000000 in
theorem mask_x (li ni : Int) (low n : Nat) (hl : li = low) (hn : ni = n) (w : World) (h1 : 1 ≤ n) (h2 : low + n ≤ 64) : Calls Try.prog 79 #[.int .i64 li, .int .i64 ni] w (RetX w (.int .u64 (maskN low n : Nat))) := by
  subst hl hn
  go_enter Try.func79, Try.ntmps79
  go_wp2
  go_ret
  refine ⟨?_, rfl⟩
  rw [← mask_value low n h1 h2]
  rfl
set_option maxHeartbeats 1000000 in
theorem field_x (xi li ni : Int) (x low n : Nat) (hx : xi = x) (hl : li = low) (hn : ni = n) (w : World) (hxl : x < 18446744073709551616) (h1 : 1 ≤ n) (h2 : low + n ≤ 64) :
    Calls Try.prog 70 #[.int .u64 xi, .int .i64 li, .int .i64 ni] w (RetX w (.int .u64 (fieldN x low n : Nat))) := by
  subst hx hl hn
  have hand := bits_and_u64_nat x (maskN low n) hxl (maskN_lt low n h2)
  have hm := maskN_pos low n h1
  have hmb : (((maskN low n : Nat) : Int) != 0) = true := by rw [bne_iff_ne]; omega
  have hv : ((x &&& maskN low n : Nat) : Int) / 2 ^ low = ((fieldN x low n : Nat) : Int) := by rw [← fieldN_and]; push_cast; rfl
  go_enter Try.func70, Try.ntmps70
  go_wp2_with fail
  (with_reducible refine (mask_x low n low n rfl rfl _ h1 h2).mono ?_)
  rintro e w1 ⟨rfl, rfl⟩
  generalize hmm : maskN low n = m at *
  go_wp2
  go_ret
  refine ⟨?_, rfl⟩
  rw [← hv]
  rfl
theorem bit_field (x i : Nat) : (((fieldN x i 1 : Nat) : Int) == 1) = bitB x i := by
  unfold fieldN bitB
  have : x / 2 ^ i % 2 ^ 1 = x / 2 ^ i % 2 := rfl
  rw [this]
  by_cases h : x / 2 ^ i % 2 = 1
  · rw [decide_eq_true h, h]; rfl
  · rw [decide_eq_false h, beq_eq_false_iff_ne]; omega
set_option maxHeartbeats 1000000 in
theorem on_x (x b i : Nat) (ii : Int) (hii : ii = i) (hi : i ≤ 63) (w : World) (hx : x < 18446744073709551616) (hc : w.cell? ⟨b, 0, none⟩ = some (.int .u64 (x : Nat))) :
    Calls Try.prog 72 #[.int .i64 ii, .pointer (some ⟨b, 0, none⟩)] w (RetX w (.bool (bitB x i))) := by
  subst hii
  have hf := fun w => field_x x i 1 x i 1 rfl rfl rfl w hx (by omega) (by omega)
  rw [← bit_field]
  go_enter Try.func72, Try.ntmps72
  go_wp2_with fail
  (with_reducible refine (hf _).mono ?_)
  rintro e w1 ⟨rfl, rfl⟩
  go_wp2
  go_ret
  exact ⟨rfl, rfl⟩
theorem refTop_x (st : Int) (w : World) : Calls Try.prog 51 #[.int .i64 st] w (RetX w (.int .u64 (topN st : Nat))) := by
  by_cases h1 : st = 1
  · subst h1
    go_enter Try.func51, Try.ntmps51
    go_wp2
    go_ret
    exact ⟨rfl, rfl⟩
  by_cases h2 : st = 2
  · subst h2
    go_enter Try.func51, Try.ntmps51
    go_wp2
    go_ret
    exact ⟨rfl, rfl⟩
  have ht : topN st = 0 := by unfold topN; rw [if_neg h1, if_neg h2]
  rw [ht]
  go_enter Try.func51, Try.ntmps51
  go_wp2
  go_ret
  exact ⟨rfl, rfl⟩
theorem top_x (st : Int) (w : World) : Calls Try.prog 45 #[.int .i64 st] w (RetX w (.int .u64 (topN st : Nat))) := by
  by_cases h1 : st = 1
  · subst h1
    go_enter Try.func45, Try.ntmps45
    go_wp2
    go_ret
    exact ⟨rfl, rfl⟩
  by_cases h2 : st = 2
  · subst h2
    go_enter Try.func45, Try.ntmps45
    go_wp2
    go_ret
    exact ⟨rfl, rfl⟩
  have ht : topN st = 0 := by unfold topN; rw [if_neg h1, if_neg h2]
  rw [ht]
  go_enter Try.func45, Try.ntmps45
  go_wp2
  go_ret
  exact ⟨rfl, rfl⟩
theorem place_yes (st lv : Int) (hp : Place st lv) (w : World) : Calls Try.prog 71 #[.int .i64 st, .int .i64 lv] w (RetX w (.bool true)) := by
  have ht := top_x st
  have hn : (((topN st : Nat) : Int) != 0) = true := bne_iff_ne.2 (by
    unfold topN
    obtain ⟨rfl | rfl, _⟩ := hp <;> simp)
  have h0 : (0 : Int) ≤ lv := hp.2.1
  have h3 : lv ≤ 3 := hp.2.2
  generalize ((topN st : Nat) : Int) = T at *
  clear hp
  go_enter Try.func71, Try.ntmps71
  go_wp2_with fail
  refine (ht _).mono ?_
  rintro e w1 ⟨rfl, rfl⟩
  go_wp2
  go_ret
  exact ⟨rfl, rfl⟩
end Go.Proofs.Ytlbehhbicmmdoaa
namespace Go.Proofs.Ytlbehhbicmmdoaa
set_option linter.unusedVariables false
set_option linter.unusedSimpArgs false
open Go.RowKit
section
variable {P : Program} {ops : Array Oper} {S : Array Bool → World → Prop} {Q : Exit → Act → World → Prop}
/-- Operation number j (of n) comes to the frame a', wherever it comes up. -/
def GivesS (P : Program) (ops : Array Oper) (S : Array Bool → World → Prop) (n j : Nat) (o : Oper) (a a' : Act) : Prop :=
  ∀ (l : Array Bool) (w : World), l.size = n → l.getD j false = false → S l w → wpList P ops (Fin (S (l.setIfInBounds j true)) a') [o] a w
/-- The operations one by one, in the order of the text. -/
def WalkedS (P : Program) (ops : Array Oper) (S : Array Bool → World → Prop) (n : Nat) (Q : Act → Prop) : List Oper → Nat → Act → Prop
  | [], _, a => Q a
  | o :: r, j, a => ∃ a', GivesS P ops S n j o a a' ∧ a'.defers = a.defers ∧ WalkedS P ops S n Q r (j + 1) a'
/-- What an operation gives at one frame it gives at every frame that agrees on what it looks at. -/
theorem gives_vals {n j : Nat} {o : Oper} {a a' : Act} (h : GivesS P ops S n j o a a') (hd : a'.defers = a.defers) (hs : ∀ cs c, o.op ≠ .select cs c) {l0 : Array Bool} {w0 : World} (z0 : l0.size = n) (n0 : l0.getD j false = false) (h0 : S l0 w0) :
    ∃ v, a' = a.put o.dst v ∧ (∃ w1, S (l0.setIfInBounds j true) w1) ∧ ∀ (l : Array Bool) (b : Act) (w : World) (K : Act → World → Prop) (Q : Exit → Act → World → Prop), Agree ops o a b → l.size = n → l.getD j false = false → S l w → (∀ w', S (l.setIfInBounds j true) w' → K (b.put o.dst v) w') →
      (if Region.wanted o (yielded ops b.tmps) then o.wp P b w K Q ∨ (o.asks P b w ∧ LetsOut Q) else K (b.put o.dst undef) w) := by
  by_cases hw : Region.wanted o (yielded ops a.tmps) = true
  · -- what it comes to in a world of S
    have key : ∀ l w, l.size = n → l.getD j false = false → S l w → o.wp P a w (fun a'' w' => a'' = a' ∧ S (l.setIfInBounds j true) w') (fun _ _ _ => False) := by
      intro l w hz hn hS
      have h1 := h l w hz hn hS
      unfold wpList at h1
      rw [if_pos hw] at h1
      rcases h1 with h1 | ⟨_, a1, w1, h1, _⟩
      · unfold Oper.wp at h1 ⊢
        generalize (execOp a.eval o).run P w = r at h1 ⊢
        cases r with
        | ok n w' =>
          cases n with
          | value v => exact h1.2
          | skip => exact h1.2
          | defer d => exact h1.2
          | enter f args =>
            simp only [Oper.upon] at h1 ⊢
            refine Calls.mono h1 fun e w'' he => ?_
            cases e with
            | returned v => exact he.2
            | panicked c => exact absurd he.1 (by simp)
            | outgrown => obtain ⟨_, _, h2, _⟩ := he; exact absurd h2 (by simp)
          | row row args =>
            simp only [Oper.upon] at h1 ⊢
            exact Rows.mono h1 fun v w'' he => he.2
          | _ => exact (h1 : False).elim
        | halt x w' =>
          cases x <;> simp only [Oper.upon] at h1 ⊢ <;> first | exact h1 | exact absurd h1.1 (by simp)
      · exact absurd h1 (by simp)
    have nodefer : ∀ d, ({ a with defers := d :: a.defers } : Act).put o.dst undef ≠ a' := by
      intro d e
      have h1 := congrArg Act.defers e
      rw [hd] at h1
      have h2 : (({ a with defers := d :: a.defers } : Act).put o.dst undef).defers = d :: a.defers := by cases o.dst <;> rfl
      rw [h2] at h1
      have := congrArg List.length h1
      simp at this
    -- the value
    have hv : ∃ v, a' = a.put o.dst v ∧ ∃ w1, S (l0.setIfInBounds j true) w1 := by
      have k0 := key l0 w0 z0 n0 h0
      unfold Oper.wp at k0
      generalize (execOp a.eval o).run P w0 = r at k0
      cases r with
      | ok n w' =>
        cases n with
        | value v => exact ⟨v, k0.1.symm, _, k0.2⟩
        | skip => exact ⟨undef, k0.1.symm, _, k0.2⟩
        | defer d => exact absurd k0.1 (nodefer d)
        | enter f args =>
          simp only [Oper.upon] at k0
          obtain ⟨e, w'', fr, hr, _⟩ := k0 []
          cases e with
          | returned v => exact ⟨v, hr.1.symm, _, hr.2⟩
          | panicked c => exact hr.elim
          | outgrown => obtain ⟨_, _, h2⟩ := hr; exact h2.elim
        | row row args =>
          simp only [Oper.upon] at k0
          obtain ⟨v, w'', hr, _⟩ := k0 default []
          exact ⟨v, hr.1.symm, _, hr.2⟩
        | _ => exact (k0 : False).elim
      | halt x w' => cases x <;> simp only [Oper.upon] at k0
    obtain ⟨v, hv, hw1⟩ := hv
    refine ⟨v, hv, hw1, fun l b w K Q hab hz hn hS hK => ?_⟩
    rw [agree_wanted hab, if_pos hw]
    refine .inl ?_
    have k := key l w hz hn hS
    unfold Oper.wp at k ⊢
    rw [agree_eval hab hs]
    have same : ∀ u, a.put o.dst u = a' → b.put o.dst u = b.put o.dst v := fun u hu => put_same hab.1 (hu.trans hv)
    generalize (execOp a.eval o).run P w = r at k ⊢
    cases r with
    | ok n w' =>
      cases n with
      | value u => show K _ _; rw [same u k.1]; exact hK _ k.2
      | skip => show K _ _; rw [same undef k.1]; exact hK _ k.2
      | defer d => exact absurd k.1 (nodefer d)
      | enter f args =>
        simp only [Oper.upon] at k ⊢
        refine Calls.mono k fun e w'' he => ?_
        cases e with
        | returned u => show K _ _; rw [same u he.1]; exact hK _ he.2
        | panicked c => exact he.elim
        | outgrown => obtain ⟨_, _, h2⟩ := he; exact h2.elim
      | row row args =>
        simp only [Oper.upon] at k ⊢
        refine Rows.mono k fun u w'' he => ?_
        rw [same u he.1]; exact hK _ he.2
      | _ => exact (k : False).elim
    | halt x w' => cases x <;> simp only [Oper.upon] at k
  · have hw' : Region.wanted o (yielded ops a.tmps) = false := by simpa using hw
    refine ⟨undef, ?_, ?_, fun l b w K Q hab hz hn hS hK => ?_⟩
    · have h1 := h l0 w0 z0 n0 h0
      unfold wpList at h1
      rw [if_neg hw] at h1
      exact h1.2.1.symm
    · have h1 := h l0 w0 z0 n0 h0
      unfold wpList at h1
      rw [if_neg hw] at h1
      exact ⟨_, h1.2.2⟩
    · rw [agree_wanted hab, if_neg hw]
      have h1 := h l w hz hn hS
      unfold wpList at h1
      rw [if_neg hw] at h1
      exact hK w h1.2.2
theorem walkedS_chain {n : Nat} {Qf : Act → Prop} : ∀ {L : List Oper} (_ : ∀ (j : Nat) (o : Oper), L[j]? = some o → ∀ cs c, o.op ≠ .select cs c) (a : Act) (l0 : Array Bool) (w0 : World) {j0 : Nat}, l0.size = n → (∀ i, j0 ≤ i → l0.getD i false = false) → S l0 w0 →
    WalkedS P ops S n Qf L j0 a →
    ∃ A : Nat → Act, A 0 = a ∧ (∀ k o, L[k]? = some o → ∃ v, A (k + 1) = (A k).put o.dst v ∧ ∀ (l : Array Bool) (b : Act) (w : World) (K : Act → World → Prop) (Q : Exit → Act → World → Prop), Agree ops o (A k) b → l.size = n → l.getD (j0 + k) false = false → S l w →
      (∀ w', S (l.setIfInBounds (j0 + k) true) w' → K (b.put o.dst v) w') → (if Region.wanted o (yielded ops b.tmps) then o.wp P b w K Q ∨ (o.asks P b w ∧ LetsOut Q) else K (b.put o.dst undef) w)) ∧ Qf (A L.length) := by
  intro L
  induction L with
  | nil => intro _ a l0 w0 j0 _ _ _ h; exact ⟨fun _ => a, rfl, fun k o hk => by simp at hk, h⟩
  | cons o L ih =>
    intro hs a l0 w0 j0 hz hn h0 h
    obtain ⟨a', hg, hd, hr⟩ := h
    obtain ⟨v, hv, ⟨w1, h1⟩, step⟩ := gives_vals hg hd (hs 0 o rfl) hz (hn j0 (Nat.le_refl _)) h0
    obtain ⟨A, hA0, hA1, hA2⟩ := ih (fun j o' ho' => hs (j + 1) o' (by simpa using ho')) a' (l0.setIfInBounds j0 true) w1 (j0 := j0 + 1) (by rw [Array.size_setIfInBounds, hz]) (fun i hi => by
      rw [getD_set_ne false (by omega)]; exact hn i (by omega)) h1 hr
    refine ⟨fun k => match k with | 0 => a | k + 1 => A k, rfl, fun k o' hk => ?_, hA2⟩
    cases k with
    | zero =>
      simp at hk
      subst hk
      exact ⟨v, by show A 0 = a.put o.dst v; rw [hA0]; exact hv, step⟩
    | succ k =>
      have := hA1 k o' (by simpa using hk)
      rw [show j0 + 1 + k = j0 + (k + 1) by omega] at this
      exact this
/-- **A statement whose order is open, and which ends in operations that wait for all ahead of them (a store, an append): one walk, in the order of the text, is enough.** -/
theorem wp_region_staged (m : Nat) {id : Nat} {a : Act} {w : World} (hm : P.follows .mixedOrders = true) (hok : seqOk ops = true) (ht : tailOk ops m = true) (hms : m ≤ ops.size) (hS : S (Array.replicate ops.size false) w.drew)
    (h : WalkedS P ops S ops.size (fun a' => ∀ l w', l.size = ops.size → (∀ k, k < m → l.getD k false = true) → S l w' → wpList P ops Q (ops.toList.drop m) a' w') (ops.toList.take m) 0 a) : (Code.region id ops true).wp P Q a w := by
  obtain ⟨A, hA0, hA, hQ⟩ := walkedS_chain (fun j o ho => (seqOk_spec (j := j) hok (by rw [List.getElem?_take] at ho; split at ho; (· simpa using ho); (· cases ho))).1) _ _ _ (by simp) (fun i _ => by simp [Array.getElem?_replicate]; split <;> rfl) hS h
  have hA' : ∀ k o, k < m → ops[k]? = some o → ∃ v, A (k + 1) = (A k).put o.dst v ∧ ∀ (l : Array Bool) (b : Act) (w : World) (K : Act → World → Prop) (Q : Exit → Act → World → Prop), Agree ops o (A k) b → l.size = ops.size → l.getD k false = false → S l w →
      (∀ w', S (l.setIfInBounds k true) w' → K (b.put o.dst v) w') → (if Region.wanted o (yielded ops b.tmps) then o.wp P b w K Q ∨ (o.asks P b w ∧ LetsOut Q) else K (b.put o.dst undef) w) := fun k o hk ho => by
    simpa using hA k o (by rw [List.getElem?_take, if_pos hk]; simpa using ho)
  have hlen : (ops.toList.take m).length = m := by simp [Nat.min_eq_left hms]
  rw [hlen] at hQ
  have asz : ∀ k, k ≤ m → (A k).tmps.size = a.tmps.size ∧ (A k).defers = a.defers := by
    intro k
    induction k with
    | zero => intro _; rw [hA0]; exact ⟨rfl, rfl⟩
    | succ k ih =>
      intro hk
      obtain ⟨v, hv, _⟩ := hA' k _ (by omega) (Array.getElem?_eq_getElem (show k < ops.size by omega))
      obtain ⟨i1, i2⟩ := ih (by omega)
      rw [hv, put_size, put_defs]; exact ⟨i1, i2⟩
  have far : ∀ k t n, k ≤ n → n ≤ m → (∀ i o, k ≤ i → i < n → ops[i]? = some o → o.dst ≠ some t) → (A n).tmps[t]? = (A k).tmps[t]? := by
    intro k t n
    induction n with
    | zero => intro h1 _ _; rw [show k = 0 by omega]
    | succ n ih =>
      intro h1 h2 hno
      by_cases hkm : k = n + 1
      · rw [hkm]
      · obtain ⟨v, hv, _⟩ := hA' n _ (by omega) (Array.getElem?_eq_getElem (show n < ops.size by omega))
        rw [hv, put_ne (hno n _ (by omega) (by omega) (Array.getElem?_eq_getElem (show n < ops.size by omega)))]
        exact ih (by omega) (by omega) (fun i o hi hi' ho => hno i o hi (by omega) ho)
  have unlike : ∀ (i j : Nat) (oi oj : Oper) (t : Tmp), ops[i]? = some oi → ops[j]? = some oj → oi.dst = some t → oj.dst = some t → i = j := by
    intro i j oi oj t hi hj ti tj
    by_cases e : i = j
    · exact e
    · exact absurd tj (((seqOk_spec hok hj).2.2 i oi hi e t ti).1)
  have main : ∀ (fuel : Nat) (listed : Array Bool) (b : Act) (w : World), ((List.range m).filter (fun k => !listed.getD k true)).length + (ops.size - m) ≤ fuel →
      Midway ops a (A m) listed b → (∀ k, listed.getD k false = true → k < m) → S listed w → wpAny P .any ops Q fuel listed b w := by
    intro fuel
    induction fuel with
    | zero =>
      intro listed b w hf hM hin hw
      have hall : ∀ k, k < m → listed.getD k false = true := by
        intro k hk
        have hnil : (List.range m).filter (fun k => !listed.getD k true) = [] := List.length_eq_zero_iff.1 (by omega)
        have := (List.filter_eq_nil_iff.1 hnil) k (List.mem_range.2 hk)
        have hkl : k < listed.size := by rw [hM.len]; omega
        simpa [hkl] using this
      have hfin : b = A m := by
        refine act_ext (Array.ext_getElem? fun t => ?_) (by rw [hM.defers, (asz _ (Nat.le_refl _)).2])
        by_cases hx : ∃ (k : Nat) (o : Oper), k < m ∧ ops[k]? = some o ∧ o.dst = some t
        · obtain ⟨k, o, hk, ho, ht⟩ := hx
          exact hM.done k o t ho (hall k hk) ht
        · rw [hM.left t (fun k o ho hl ht => hx ⟨k, o, hin k hl, ho, ht⟩), far 0 t m (by omega) (Nat.le_refl _) (fun i o _ hi ho ht => hx ⟨i, o, hi, ho, ht⟩), hA0]
      rw [hfin]
      exact forced hok ht (ops.size - m) m 0 listed _ w rfl (by omega) (Nat.le_refl _) hms ⟨hM.len, fun i _ => ⟨fun e => hin i e, fun e => hall i e⟩⟩ hM.closed (hQ listed w hM.len hall hw)
    | succ fuel ih =>
      intro listed b w hf hM hin hw
      by_cases hall : ∀ k, k < m → listed.getD k false = true
      · have hfin : b = A m := by
          refine act_ext (Array.ext_getElem? fun t => ?_) (by rw [hM.defers, (asz _ (Nat.le_refl _)).2])
          by_cases hx : ∃ (k : Nat) (o : Oper), k < m ∧ ops[k]? = some o ∧ o.dst = some t
          · obtain ⟨k, o, hk, ho, ht⟩ := hx
            exact hM.done k o t ho (hall k hk) ht
          · rw [hM.left t (fun k o ho hl ht => hx ⟨k, o, hin k hl, ho, ht⟩), far 0 t m (by omega) (Nat.le_refl _) (fun i o _ hi ho ht => hx ⟨i, o, hi, ho, ht⟩), hA0]
        rw [hfin]
        exact forced hok ht (ops.size - m) m (fuel + 1) listed _ w rfl (by omega) (Nat.le_refl _) hms ⟨hM.len, fun i _ => ⟨fun e => hin i e, fun e => hall i e⟩⟩ hM.closed (hQ listed w hM.len hall hw)
      · refine ⟨fun hnil => absurd ?_ hall, fun j hj => ?_⟩
        · -- nothing may come up: then all has
          have hall' : ∀ n k, k < n → k < m → listed.getD k false = true := by
            intro n
            induction n with
            | zero => intro k hk; omega
            | succ n ihn =>
              intro k hk hs
              by_cases hl : listed.getD k false = true
              · exact hl
              · exfalso
                have hks : k < ops.size := by omega
                have hkl : k < listed.size := by rw [hM.len]; exact hks
                have hmem : k ∈ Region.ready .any ops listed := mem_ready.2 ⟨by simpa [hkl] using hl, _, Array.getElem?_eq_getElem hks, fun e he hb => by
                  have hlt := (seqOk_spec hok (Array.getElem?_eq_getElem hks)).2.1 e he hb
                  exact ihn e.on (by omega) (by omega)⟩
                rw [hnil] at hmem
                cases hmem
          exact fun k hk => hall' _ k (Nat.lt_succ_self k) hk
        · obtain ⟨hjun, o, ho, hedges⟩ := mem_ready.1 hj
          have hjs : j < ops.size := (Array.getElem?_eq_some_iff.1 ho).1
          have hjl : j < listed.size := by rw [hM.len]; exact hjs
          have hjun' : listed.getD j false = false := by simpa [hjl] using hjun
          have hmet : AllMet ops listed j := fun o' ho' e he hb => by
            rw [ho] at ho'
            cases ho'
            exact hedges e he hb
          have hjm : j < m := by
            refine Nat.lt_of_not_le fun hle => hall fun k hk => ?_
            exact met_bit hM.closed k (j + 1) j (by omega) hjs hmet (tailOk_spec ht hjs hle (by omega))
          obtain ⟨v, hv, step⟩ := hA' j o hjm ho
          have hag : Agree ops o (A j) b := by
            refine ⟨by rw [hM.size, (asz j (by omega)).1], fun t ht => ?_⟩
            by_cases hx : ∃ (i : Nat) (oi : Oper), ops[i]? = some oi ∧ oi.dst = some t
            · obtain ⟨i, oi, hi, hti⟩ := hx
              by_cases hij : i = j
              · rw [hM.left t (fun k ok hk hlk htk => by
                  have : k = i := unlike k i ok oi t hk hi htk hti
                  rw [this, hij, hjun'] at hlk
                  cases hlk), far 0 t j (by omega) (by omega) (fun k ok _ hk hok' htk => by
                  have : k = i := unlike k i ok oi t hok' hi htk hti
                  omega), hA0]
              · rcases ((seqOk_spec hok ho).2.2 i oi hi hij t hti).2 ht with ⟨hlt, hbit⟩ | ⟨hlt, hbit⟩
                · have hli := met_bit hM.closed i (j + 1) j (by omega) hjs hmet hbit
                  rw [hM.done i oi t hi hli hti]
                  exact far j t m (by omega) (Nat.le_refl _) (fun k ok hk _ hok' htk => by
                    have : k = i := unlike k i ok oi t hok' hi htk hti
                    omega)
                · have hun : listed.getD i false ≠ true := fun hli => by
                    have his : i < ops.size := (Array.getElem?_eq_some_iff.1 hi).1
                    have := met_bit hM.closed j (i + 1) i (by omega) his (hM.closed i hli) hbit
                    rw [hjun'] at this
                    cases this
                  rw [hM.left t (fun k ok hk hlk htk => by
                    have : k = i := unlike k i ok oi t hk hi htk hti
                    rw [this] at hlk
                    exact hun hlk), far 0 t j (by omega) (by omega) (fun k ok _ hk hok' htk => by
                    have : k = i := unlike k i ok oi t hok' hi htk hti
                    omega), hA0]
            · rw [hM.left t (fun k ok hk _ htk => hx ⟨k, ok, hk, htk⟩), far 0 t j (by omega) (by omega) (fun k ok _ _ hk htk => hx ⟨k, ok, hk, htk⟩), hA0]
          have hM' : Midway ops a (A m) (listed.setIfInBounds j true) (b.put o.dst v) := by
            refine ⟨by rw [put_size, hM.size], by rw [put_defs, hM.defers], by rw [Array.size_setIfInBounds, hM.len], fun y hy => ?_, fun k ok t hk hlk htk => ?_, fun t hno => ?_⟩
            · intro oy hoy e he hb
              by_cases hyj : j = y
              · subst hyj
                exact getD_set_true (hmet oy hoy e he hb)
              · rw [getD_set_ne false hyj] at hy
                exact getD_set_true (hM.closed y hy oy hoy e he hb)
            · by_cases hkj : j = k
              · subst hkj
                rw [ho] at hk
                cases hk
                rw [htk, put_at (b := A j) (by rw [hM.size, (asz j (by omega)).1]), ← htk, ← hv]
                exact (far (j + 1) t m (by omega) (Nat.le_refl _) (fun i oi hi _ hoi hti => by
                  have : i = j := unlike i j oi o t hoi ho hti htk
                  omega)).symm
              · rw [getD_set_ne false hkj] at hlk
                rw [put_ne (fun e => hkj (unlike j k o ok t ho hk e htk))]
                exact hM.done k ok t hk hlk htk
            · have hjt : o.dst ≠ some t := hno j o ho (by simp [hjl])
              rw [put_ne hjt]
              refine hM.left t (fun k ok hk hlk => hno k ok hk ?_)
              exact getD_set_true hlk
          unfold wpOp
          simp only [ho]
          refine step listed b w _ Q hag hM.len hjun' hw (fun w' hw' => ih _ _ w' ?_ hM' (fun k hk => ?_) hw')
          · have := count_lt (p := fun k => !listed.getD k true) (q := fun k => !(listed.setIfInBounds j true).getD k true) (fun k hk => by
              by_cases hkj : j = k
              · subst hkj; simp [hjun]
              · rw [getD_set_ne true hkj] at hk; exact hk) (j := j) (by simp [hjun]) (by simp [hjl]) (List.mem_range.2 hjm)
            omega
          · by_cases hkj : j = k
            · omega
            · rw [getD_set_ne false hkj] at hk
              exact hin k hk
  refine wp_region_any hm (main ops.size _ a w.drew ?_ ?_ ?_ hS)
  · have := List.length_filter_le (fun k => !(Array.replicate ops.size false).getD k true) (List.range m)
    simp only [List.length_range] at this
    omega
  · refine ⟨rfl, rfl, by simp, fun y hy => ?_, fun k o t ho hk _ => ?_, fun t _ => rfl⟩
    · simp [Array.getElem?_replicate] at hy
      split at hy <;> simp at hy
    · simp [Array.getElem?_replicate] at hk
      split at hk <;> simp at hk
  · intro k hk
    simp [Array.getElem?_replicate] at hk
    split at hk <;> simp at hk
theorem walkedS_cons {n j : Nat} {Qf : Act → Prop} {o : Oper} {r : List Oper} {a a' : Act} (hg : GivesS P ops S n j o a a') (hd : a'.defers = a.defers) (hr : WalkedS P ops S n Qf r (j + 1) a') : WalkedS P ops S n Qf (o :: r) j a := ⟨a', hg, hd, hr⟩
theorem walkedS_nil {n j : Nat} {Qf : Act → Prop} {a : Act} (h : Qf a) : WalkedS P ops S n Qf [] j a := h
end
end Go.Proofs.Ytlbehhbicmmdoaa
namespace Go.Proofs.Ytlbehhbicmmdoaa
set_option linter.unusedVariables false
set_option linter.unusedSimpArgs false
open Go.RowKit
/-- World A until operation J has come, then world B. -/
def StageS (J : Nat) (A B : World) (l : Array Bool) (x : World) : Prop := x = bif l.getD J false then B else A
section
variable {J : Nat} {A B x : World} {l : Array Bool}
theorem stage_other (j : Nat) (hj : j ≠ J) (h : StageS J A B l x) : StageS J A B (l.setIfInBounds j true) x := by
  unfold StageS at h ⊢
  rw [getD_set_ne false hj]; exact h
theorem stage_cell {a : Addr} {v : Option Value} (h : StageS J A B l x) (hA : A.cell? a = v) (hB : B.cell? a = v) : x.cell? a = v := by
  unfold StageS at h
  rw [h]
  cases l.getD J false
  · exact hA
  · exact hB
theorem stage_before (hn : l.getD J false = false) (h : StageS J A B l x) : x = A := by
  unfold StageS at h
  rw [hn] at h; exact h
theorem stage_after (hn : l.getD J false = true) (h : StageS J A B l x) : x = B := by
  unfold StageS at h
  rw [hn] at h; exact h
theorem stage_done {n : Nat} (hz : l.size = n) (hJ : J < n) : StageS J A B (l.setIfInBounds J true) B := by
  have e : (l.setIfInBounds J true).getD J false = true := by simp [hz, hJ]
  unfold StageS
  rw [e]; rfl
end
end Go.Proofs.Ytlbehhbicmmdoaa
namespace Go.Proofs.Ytlbehhbicmmdoaa
set_option linter.unusedVariables false
set_option linter.unusedSimpArgs false
open Go.ChangeShapes Go.WideShapes Go.Deep Go.RowKit Go.Joins
theorem array6 {α : Type} {cs : Array α} (h : cs.size = 6) : ∃ c0 c1 c2 c3 c4 c5, cs = #[c0, c1, c2, c3, c4, c5] := by
  obtain ⟨l⟩ := cs
  match l, h with
  | [c0, c1, c2, c3, c4, c5], _ => exact ⟨c0, c1, c2, c3, c4, c5, rfl⟩
section
variable {H : Type} {enc : TypeId × Value → H} {P : Program} {w : World}
end
end Go.Proofs.Ytlbehhbicmmdoaa
namespace Go.Proofs.Ytlbehhbicmmdoaa
set_option linter.unusedVariables false
set_option linter.unusedSimpArgs false
open Go.RowKit
abbrev zeroV : Value := .agg #[.int .i64 0, .int .u64 0, .bool false, .bool false, .bool false, .int .i64 0]
def decV (st lv : Int) (x : Nat) : Value := if Place st lv ∧ x % 2 ≠ 0 ∧ decE st lv x = 0 then descV (decK lv x) (decA x) (bitB x 6) (bitB x 7) (bitB x 8) (decS x : Nat) else zeroV
theorem dec_arg {st lv : Int} {x : Nat} (h : ¬ Place st lv) : decV st lv x = zeroV ∧ decE st lv x = 1 := by
  refine ⟨if_neg (by simp [h]), ?_⟩
  unfold decE; rw [if_pos h]
theorem dec_zero {st lv : Int} {x : Nat} (h : Place st lv) (h2 : x % 2 = 0) : decV st lv x = zeroV ∧ decE st lv x = 0 := by
  refine ⟨if_neg (by simp [h2]), ?_⟩
  unfold decE; rw [if_neg (by simpa using h), if_pos h2]
theorem dec_bad {st lv : Int} {x : Nat} (e : Int) (h : decE st lv x = e) (he : e ≠ 0) : decV st lv x = zeroV ∧ decE st lv x = e := by
  refine ⟨if_neg (by rw [h]; simp [he]), h⟩
theorem dec_yes {st lv : Int} {x : Nat} (h : Place st lv) (h2 : x % 2 ≠ 0) (h3 : decE st lv x = 0) : decV st lv x = descV (decK lv x) (decA x) (bitB x 6) (bitB x 7) (bitB x 8) (decS x : Nat) ∧ decE st lv x = 0 :=
  ⟨if_pos ⟨h, h2, h3⟩, h3⟩
theorem has_put {w : World} {b : Nat} (o : Obj) : ∀ {L : List (Nat × Array Value × TypeId)}, (∀ y ∈ L, y.1 ≠ b) → Has w L → Has (putB w b o) L
  | [], _, _ => trivial
  | y :: L, h, hl => ⟨by rw [putB_other _ (fun e => h y (by simp) e.symm)]; exact hl.1, has_put o (fun z hz => h z (by simp [hz])) hl.2⟩
theorem holds_top {w0 w : World} {b : Nat} {C : Array Value} {t : TypeId} {L : List (Nat × Array Value × TypeId)} (C' : Array Value) (h : Holds w0 ((b, C, t) :: L) w) (hb : w0.heap.size ≤ b) (hL : ∀ y ∈ L, y.1 ≠ b) :
    Holds w0 ((b, C', t) :: L) (putB w b (.cells C' t)) := ⟨old_put h.1 _ hb, putB_same _ (lt_of_block h.2.1), has_put _ hL h.2.2⟩
theorem word_join {K : Int} {r wr x : Bool} {s A : Nat} (hs : s ≤ 15) (hA : A % 4096 = 0) (hl : A ≤ 281474976706560) : bits .or .u64 ((wordN K 0 r wr x s : Nat) : Int) (A : Int) = ((wordN K 0 r wr x s + A : Nat) : Int) := by
  have hF := flags_lt (decide (K ≠ 2)) r wr x
  unfold wordN
  generalize 1 + flagN (decide (K ≠ 2)) 1 + flagN r 6 + flagN wr 7 + flagN x 8 = F at *
  rw [bits_or_u64_nat _ _ (by omega) (by omega)]
  have e1 := or_low (i := 55) s (F + A) (by omega)
  have e2 := or_low (i := 12) (A / 4096) F hF
  have e3 := or_low (i := 55) s F (by omega)
  rw [show 2 ^ 12 * (A / 4096) = A by omega] at e2
  rw [← e2, Nat.or_assoc, Nat.or_comm A, ← Nat.or_assoc, e3, e2] at e1
  have h0 : F + 0 + s * 36028797018963968 = F + 2 ^ 55 * s := by omega
  have h2 : F + 0 + s * 36028797018963968 + A = F + A + 2 ^ 55 * s := by omega
  exact congrArg Nat.cast ((congrArg (· ||| A) h0).trans (e1.trans h2.symm))
theorem six_set {w : World} {b : Nat} {C : Array Value} {t : TypeId} (h : w.heap[b]? = some (.cells C t)) (hC : C.size = 6) (v0 v1 v2 v3 v4 v5 : Value) :
    (((((w.setCell ⟨b, 0, none⟩ v0).setCell ⟨b, 1, none⟩ v1).setCell ⟨b, 2, none⟩ v2).setCell ⟨b, 3, none⟩ v3).setCell ⟨b, 4, none⟩ v4).setCell ⟨b, 5, none⟩ v5 = putB w b (.cells #[v0, v1, v2, v3, v4, v5] t) := by
  have hb := lt_of_block h
  obtain ⟨c0, c1, c2, c3, c4, c5, rfl⟩ := array6 hC
  rw [set_of h, putB_set_same _ _ _ _ _ hb, putB_set_same _ _ _ _ _ hb, putB_set_same _ _ _ _ _ hb, putB_set_same _ _ _ _ _ hb, putB_set_same _ _ _ _ _ hb]
  rfl
set_option maxHeartbeats 8000000 in
set_option maxRecDepth 100000 in
theorem decode_calls (st lv : Int) (x : Nat) (w : World) (hx : x < 18446744073709551616) :
    Calls Try.prog 47 #[.int .i64 st, .int .i64 lv, .int .u64 (x : Nat)] w (RetB w (.tuple #[decV st lv x, .int .i64 (decE st lv x)])) := by
  have hon := fun (b i : Nat) (ii : Int) (hii : ii = i) (hi : i ≤ 63) (W : World) (hc : W.cell? ⟨b, 0, none⟩ = some (.int .u64 (x : Nat))) => on_x x b i ii hii hi W hx hc
  obtain ⟨P, hP⟩ : ∃ P, decide (Place st lv) = P := ⟨_, rfl⟩
  have hpl := place_calls st lv P hP
  cases P
  case false =>
    obtain ⟨h1, h2⟩ := dec_arg (x := x) (of_decide_eq_false hP)
    rw [h1, h2]
    clear h1 h2 hP hon
    go_enter Try.func47, Try.ntmps47
    go_upto_region 1 with (fail)
    have hH := holds_new #[.int .i64 0, .int .u64 0, .bool false, .bool false, .bool false, .int .i64 0] 48 (holds_new #[.int .u64 (x : Nat)] 22 (holds_nil w))
    simp only [World.size_alloc] at hH
    generalize (w.alloc (.cells #[.int .u64 (x : Nat)] 22)).alloc (.cells #[.int .i64 0, .int .u64 0, .bool false, .bool false, .bool false, .int .i64 0] 48) = W at *
    go_wp2_with ((go_at_call 71; (with_reducible refine (hpl _).mono ?_); rintro e w9 ⟨rfl, hb9⟩; have hH := holds_old hH hb9; obtain ⟨_, s1, s2, _⟩ := id hH; obtain ⟨k1, f1, z1⟩ := of_block s1; obtain ⟨k2, f2, z2⟩ := of_block s2))
    rw [six_set s1 rfl]
    have s9 := putB_same (.cells #[.int .i64 0, .int .u64 0, .bool false, .bool false, .bool false, .int .i64 0] 48) z1
    have ho : Old w (putB w9 (w.heap.size + 1) (.cells #[.int .i64 0, .int .u64 0, .bool false, .bool false, .bool false, .int .i64 0] 48)) := old_put hH.1 _ (by omega)
    generalize putB w9 (w.heap.size + 1) (.cells #[.int .i64 0, .int .u64 0, .bool false, .bool false, .bool false, .int .i64 0] 48) = W9 at *
    obtain ⟨k9, f9, z9⟩ := of_block s9
    refine bodyPost_ret (by simp [results, Try.results47, go_sem, k9]; try rfl) rfl ?_
    exact ⟨rfl, ho⟩
  case true =>
    have hp := of_decide_eq_true hP
    have hpx := place_yes st lv hp
    clear hP hpl
    by_cases h2 : x % 2 = 0
    · obtain ⟨h1, h3⟩ := dec_zero hp h2
      rw [h1, h3]
      have hb0 : bitB x 0 = false := decide_eq_false (by simp only [Nat.pow_zero, Nat.div_one]; omega)
      have hon0 := fun (b : Nat) (W : World) (hc : W.cell? ⟨b, 0, none⟩ = some (.int .u64 (x : Nat))) => hon b 0 0 rfl (by decide) W hc
      rw [hb0] at hon0
      clear h1 h2 h3 hp hb0 hon
      go_enter Try.func47, Try.ntmps47
      go_upto_region 1 with (fail)
      have hH := holds_new #[.int .i64 0, .int .u64 0, .bool false, .bool false, .bool false, .int .i64 0] 48 (holds_new #[.int .u64 (x : Nat)] 22 (holds_nil w))
      simp only [World.size_alloc] at hH
      generalize (w.alloc (.cells #[.int .u64 (x : Nat)] 22)).alloc (.cells #[.int .i64 0, .int .u64 0, .bool false, .bool false, .bool false, .int .i64 0] 48) = W at *
      obtain ⟨s0, s1, s2, _⟩ := id hH
      obtain ⟨k1, f1, z1⟩ := of_block s1
      obtain ⟨k2, f2, z2⟩ := of_block s2
      have c2 : W.cell? ⟨w.heap.size, 0, none⟩ = some (.int .u64 (x : Nat)) := k2 0
      go_wp2_with (first | ((go_at_call 71); (with_reducible refine (hpx _).mono ?_); rintro e w9 ⟨rfl, rfl⟩) | ((go_at_call 72); (with_reducible refine (hon0 _ _ c2).mono ?_); rintro e w9 ⟨rfl, rfl⟩))
      rw [six_set s1 rfl]
      have s9 := putB_same (.cells #[.int .i64 0, .int .u64 0, .bool false, .bool false, .bool false, .int .i64 0] 48) z1
      have ho : Old w (putB W (w.heap.size + 1) (.cells #[.int .i64 0, .int .u64 0, .bool false, .bool false, .bool false, .int .i64 0] 48)) := old_put hH.1 _ (by omega)
      generalize putB W (w.heap.size + 1) (.cells #[.int .i64 0, .int .u64 0, .bool false, .bool false, .bool false, .int .i64 0] 48) = W9 at *
      obtain ⟨k9, f9, z9⟩ := of_block s9
      refine bodyPost_ret (by simp [results, Try.results47, go_sem, k9]; try rfl) rfl ?_
      exact ⟨rfl, ho⟩
    · generalize hV : decV st lv x = V
      generalize hE : decE st lv x = E
      have HV := Lib.hid (And.intro hV hE)
      have H2 := Lib.hid h2
      have HP := Lib.hid hp
      have hb0 : bitB x 0 = true := decide_eq_true (by simp only [Nat.pow_zero, Nat.div_one]; omega)
      have hon0 := fun (b : Nat) (W : World) (hc : W.cell? ⟨b, 0, none⟩ = some (.int .u64 (x : Nat))) => hon b 0 0 rfl (by decide) W hc
      rw [hb0] at hon0
      have hf55 := fun W => field_x x 55 4 x 55 4 rfl rfl rfl W hx (by decide) (by decide)
      have hf12 := fun W => field_x x 12 36 x 12 36 rfl rfl rfl W hx (by decide) (by decide)
      have e55 : ((fieldN x 55 4 : Nat) : Int) = ((decS x : Nat) : Int) := rfl
      rw [e55] at hf55
      clear e55 h2 hp hb0 hV hE
      have hqs15 := decS_le x
      generalize hqs : decS x = qs at *
      have HQ := Lib.hid (And.intro hqs hqs15)
      have hw : IntKind.i64.wrap (qs : Int) = qs := by rw [IntKind.wrap_i64]; omega
      clear hqs hqs15
      go_enter Try.func47, Try.ntmps47
      go_upto_region 1 with (fail)
      have hH := holds_new #[.int .i64 0, .int .u64 0, .bool false, .bool false, .bool false, .int .i64 0] 48 (holds_new #[.int .u64 (x : Nat)] 22 (holds_nil w))
      simp only [World.size_alloc] at hH
      generalize (w.alloc (.cells #[.int .u64 (x : Nat)] 22)).alloc (.cells #[.int .i64 0, .int .u64 0, .bool false, .bool false, .bool false, .int .i64 0] 48) = W at *
      obtain ⟨s0, s1, s2, _⟩ := id hH
      obtain ⟨k1, f1, z1⟩ := of_block s1
      obtain ⟨k2, f2, z2⟩ := of_block s2
      have c2 : W.cell? ⟨w.heap.size, 0, none⟩ = some (.int .u64 (x : Nat)) := k2 0
      go_wp2_with (first | ((go_at_call 71); (with_reducible refine (hpx _).mono ?_); rintro e w9 ⟨rfl, rfl⟩) | ((go_at_call 72); (with_reducible refine (hon0 _ _ c2).mono ?_); rintro e w9 ⟨rfl, rfl⟩))
      have hH9 := hH
      have cA : W.drew.cell? ⟨w.heap.size, 0, none⟩ = some (.int .u64 (x : Nat)) := c2
      have cB : (W.drew.alloc (.cells #[.int .i64 0, .int .u64 0, .bool false, .bool false, .bool false, .int .i64 0] 48)).cell? ⟨w.heap.size, 0, none⟩ = some (.int .u64 (x : Nat)) := by
        rw [cell_of (keep_old (old_alloc (old_refl _) _) (show W.drew.heap[w.heap.size]? = _ from s2))]; rfl
      refine wp_region_staged (S := StageS 11 W.drew (W.drew.alloc (.cells #[.int .i64 0, .int .u64 0, .bool false, .bool false, .bool false, .int .i64 0] 48))) 12 (by kernel_rfl) (by kernel_rfl) (by kernel_rfl) (by decide) rfl ?_
      (apply walkedS_cons; (focus (intro l9 wS hz hn hS; have hS9 := stage_other 0 (by decide) hS; have c9 := stage_cell hS cA cB; clear hS; go_wp2_with (fail); exact ⟨rfl, rfl, hS9⟩)); rfl; (try simp only [Act.put, List.setIfInBounds_toArray, List.set_cons_succ, List.set_cons_zero]))
      (apply walkedS_cons; (focus (intro l9 wS hz hn hS; have hS9 := stage_other 1 (by decide) hS; have c9 := stage_cell hS cA cB; clear hS; go_wp2_with (((go_at_call 72); (first | (with_reducible refine (hon _ 6 6 rfl (by decide) _ c9).mono ?_) | (with_reducible refine (hon _ 7 7 rfl (by decide) _ c9).mono ?_) | (with_reducible refine (hon _ 8 8 rfl (by decide) _ c9).mono ?_)); rintro e w9 ⟨rfl, rfl⟩)); exact ⟨rfl, rfl, hS9⟩)); rfl; (try simp only [Act.put, List.setIfInBounds_toArray, List.set_cons_succ, List.set_cons_zero]))
      (apply walkedS_cons; (focus (intro l9 wS hz hn hS; have hS9 := stage_other 2 (by decide) hS; have c9 := stage_cell hS cA cB; clear hS; go_wp2_with (fail); exact ⟨rfl, rfl, hS9⟩)); rfl; (try simp only [Act.put, List.setIfInBounds_toArray, List.set_cons_succ, List.set_cons_zero]))
      (apply walkedS_cons; (focus (intro l9 wS hz hn hS; have hS9 := stage_other 3 (by decide) hS; have c9 := stage_cell hS cA cB; clear hS; go_wp2_with (((go_at_call 72); (first | (with_reducible refine (hon _ 6 6 rfl (by decide) _ c9).mono ?_) | (with_reducible refine (hon _ 7 7 rfl (by decide) _ c9).mono ?_) | (with_reducible refine (hon _ 8 8 rfl (by decide) _ c9).mono ?_)); rintro e w9 ⟨rfl, rfl⟩)); exact ⟨rfl, rfl, hS9⟩)); rfl; (try simp only [Act.put, List.setIfInBounds_toArray, List.set_cons_succ, List.set_cons_zero]))
      (apply walkedS_cons; (focus (intro l9 wS hz hn hS; have hS9 := stage_other 4 (by decide) hS; have c9 := stage_cell hS cA cB; clear hS; go_wp2_with (fail); exact ⟨rfl, rfl, hS9⟩)); rfl; (try simp only [Act.put, List.setIfInBounds_toArray, List.set_cons_succ, List.set_cons_zero]))
      (apply walkedS_cons; (focus (intro l9 wS hz hn hS; have hS9 := stage_other 5 (by decide) hS; have c9 := stage_cell hS cA cB; clear hS; go_wp2_with (((go_at_call 72); (first | (with_reducible refine (hon _ 6 6 rfl (by decide) _ c9).mono ?_) | (with_reducible refine (hon _ 7 7 rfl (by decide) _ c9).mono ?_) | (with_reducible refine (hon _ 8 8 rfl (by decide) _ c9).mono ?_)); rintro e w9 ⟨rfl, rfl⟩)); exact ⟨rfl, rfl, hS9⟩)); rfl; (try simp only [Act.put, List.setIfInBounds_toArray, List.set_cons_succ, List.set_cons_zero]))
      (apply walkedS_cons; (focus (intro l9 wS hz hn hS; have hS9 := stage_other 6 (by decide) hS; have c9 := stage_cell hS cA cB; clear hS; go_wp2_with (fail); exact ⟨rfl, rfl, hS9⟩)); rfl; (try simp only [Act.put, List.setIfInBounds_toArray, List.set_cons_succ, List.set_cons_zero]))
      (apply walkedS_cons; (focus (intro l9 wS hz hn hS; have hS9 := stage_other 7 (by decide) hS; have c9 := stage_cell hS cA cB; clear hS; go_wp2_with (fail); exact ⟨rfl, rfl, hS9⟩)); rfl; (try simp only [Act.put, List.setIfInBounds_toArray, List.set_cons_succ, List.set_cons_zero]))
      (apply walkedS_cons; (focus (intro l9 wS hz hn hS; have hS9 := stage_other 8 (by decide) hS; have c9 := stage_cell hS cA cB; clear hS; go_wp2_with (((go_at_call 70); (with_reducible refine (hf55 _).mono ?_); rintro e w9 ⟨rfl, rfl⟩)); exact ⟨rfl, rfl, hS9⟩)); rfl; (try simp only [Act.put, List.setIfInBounds_toArray, List.set_cons_succ, List.set_cons_zero]))
      (apply walkedS_cons; (focus (intro l9 wS hz hn hS; have hS9 := stage_other 9 (by decide) hS; have c9 := stage_cell hS cA cB; clear hS; go_wp2_with (fail); exact ⟨rfl, rfl, hS9⟩)); rfl; (try simp only [Act.put, List.setIfInBounds_toArray, List.set_cons_succ, List.set_cons_zero]))
      (apply walkedS_cons; (focus (intro l9 wS hz hn hS; have hS9 := stage_other 10 (by decide) hS; have c9 := stage_cell hS cA cB; clear hS; go_wp2_with (fail); exact ⟨rfl, rfl, hS9⟩)); rfl; (try simp only [Act.put, List.setIfInBounds_toArray, List.set_cons_succ, List.set_cons_zero]))
      apply walkedS_cons
      · intro l9 wS hz hn hS
        obtain rfl := stage_before hn hS
        clear hS
        go_wp2
        exact ⟨rfl, rfl, stage_done hz (by decide)⟩
      · rfl
      apply walkedS_nil
      intro l9 wS hz hall hS
      obtain rfl := stage_after (hall 11 (by decide)) hS
      clear hS
      show wpList _ _ _ [_] _ _
      go_upto_region 7 with (fail)
      clear hH s0 s1 s2 k1 f1 z2 k2 f2 c2 cA cB hall
      have hH := holds_drew (holds_new #[.int .i64 2, .int .u64 0, .bool (bitB x 6), .bool (bitB x 7), .bool (bitB x 8), .int .i64 (qs : Nat)] 48 hH9)
      generalize (W.alloc (.cells #[.int .i64 2, .int .u64 0, .bool (bitB x 6), .bool (bitB x 7), .bool (bitB x 8), .int .i64 (qs : Nat)] 48)).drew = W2 at *
      have hzp : w.heap.size + 1 < W.heap.size := z1
      generalize W.heap.size = p at *
      have hon1 := fun (b : Nat) (W : World) (hc : W.cell? ⟨b, 0, none⟩ = some (.int .u64 (x : Nat))) => hon b 1 1 rfl (by decide) W hc
      obtain ⟨s0, s1, s2, s3, _⟩ := id hH
      obtain ⟨k1, f1, z1⟩ := of_block s1
      obtain ⟨k2, f2, z2⟩ := of_block s2
      obtain ⟨k3, f3, z3⟩ := of_block s3
      have c2 : W2.cell? ⟨w.heap.size, 0, none⟩ = some (.int .u64 (x : Nat)) := k3 0
      obtain ⟨K, hK⟩ : ∃ K, decK lv x = K := ⟨_, rfl⟩
      have hKd : decK lv x = bif bitB x 1 then (if lv = 3 then 3 else 1) else 2 := rfl
      rw [hK] at hKd
      have HK := Lib.hid hK
      clear hK
      cases hb1 : bitB x 1
      case false =>
        rw [hb1] at hKd hon1
        obtain rfl : K = 2 := hKd
        clear hb1 hon
        go_upto_region 11 with (first | ((go_at_call 72); (with_reducible refine (hon1 _ _ c2).mono ?_); rintro e w9 ⟨rfl, rfl⟩))
        clear hon1 c2
        obtain ⟨s0, s1, s2, s3, _⟩ := id hH
        obtain ⟨k1, f1, z1⟩ := of_block s1
        obtain ⟨k2, f2, z2⟩ := of_block s2
        obtain ⟨k3, f3, z3⟩ := of_block s3
        have hTop := top_x st
        have hA1 := decA_le x
        have hA2 := decA_mod x
        have hAw : IntKind.u64.wrap (((fieldN x 12 36 : Nat) : Int) * 4096) = ((decA x : Nat) : Int) := by
          rw [IntKind.wrap_u64]
          have : decA x = fieldN x 12 36 * 4096 := rfl
          omega
        have hAd := HV.out.2
        unfold decE at hAd
        rw [if_neg (show ¬ ¬ Place st lv from not_not_intro HP.out), if_neg H2.out, HK.out, HQ.out.1] at hAd
        have henc : ∀ w : World, Calls Try.prog 73 #[.int .i64 st, .int .i64 lv, .agg #[.int .i64 2, .int .u64 0, .bool (bitB x 6), .bool (bitB x 7), .bool (bitB x 8), .int .i64 (qs : Nat)]] w _ := encode_calls st lv 2 0 (bitB x 6) (bitB x 7) (bitB x 8) (qs : Nat)
        have hck := descCheck_calls st lv 2 (decA x) (bitB x 6) (bitB x 7) (bitB x 8) (qs : Nat)
        have hvd := @dec_yes st lv x HP.out H2.out
        rw [HK.out, HQ.out.1] at hvd
        have hwj := @word_join 2 (bitB x 6) (bitB x 7) (bitB x 8) qs (decA x) HQ.out.2 hA2 hA1
        generalize decA x = A at *
        by_cases c1 : checkC st lv 2 0 (bitB x 6) (bitB x 7) (bitB x 8) (qs : Nat) = 0
        case neg =>
          rw [if_pos (fun e => c1 e.1)] at hAd
          obtain rfl : 4 = E := hAd; obtain rfl : V = zeroV := HV.out.1.symm.trans (dec_bad 4 HV.out.2 (by decide)).1
          have hew : encW st lv 2 0 (bitB x 6) (bitB x 7) (bitB x 8) (qs : Nat) = 0 := if_neg (fun e => c1 e.1)
          rw [hew] at henc
          generalize checkC st lv 2 0 (bitB x 6) (bitB x 7) (bitB x 8) (qs : Nat) = e1 at *
          have hne : (e1 != 0) = true := bne_iff_ne.2 c1
          clear c1 hew hck hvd hwj
          go_wp2_with (first | ((go_at_call 70); (with_reducible refine (hf12 _).mono ?_); rintro e w9 ⟨rfl, rfl⟩) | ((go_at_call 73); (with_reducible refine (henc _).mono ?_); rintro e w9 ⟨rfl, hb9⟩; have hH := holds_old hH hb9; obtain ⟨s0, s1, s2, s3, _⟩ := id hH; obtain ⟨k1, f1, z1⟩ := of_block s1; obtain ⟨k2, f2, z2⟩ := of_block s2; obtain ⟨k3, f3, z3⟩ := of_block s3))
          rw [six_set s2 rfl]
          have ho := old_put hH.1 (.cells #[.int .i64 0, .int .u64 0, .bool false, .bool false, .bool false, .int .i64 0] 48) (show w.heap.size ≤ w.heap.size + 1 by omega)
          have s9 := putB_same (.cells #[.int .i64 0, .int .u64 0, .bool false, .bool false, .bool false, .int .i64 0] 48) z2
          generalize putB _ (w.heap.size + 1) (.cells #[.int .i64 0, .int .u64 0, .bool false, .bool false, .bool false, .int .i64 0] 48) = W9 at *
          obtain ⟨k9, f9, z9⟩ := of_block s9
          refine bodyPost_ret (by simp [results, Try.results47, go_sem, k9]; try rfl) rfl ?_
          exact ⟨rfl, ho⟩
        case pos =>
        have hew : encW st lv 2 0 (bitB x 6) (bitB x 7) (bitB x 8) (qs : Nat) = wordN 2 0 (bitB x 6) (bitB x 7) (bitB x 8) qs := if_pos ⟨c1, by decide⟩
        rw [hew, c1] at henc
        rw [c1] at hAd
        clear hew c1
        generalize wordN 2 0 (bitB x 6) (bitB x 7) (bitB x 8) qs = V0 at *
        by_cases c2 : V0 + A = x
        case neg =>
          rw [if_pos (fun e => c2 e.2)] at hAd
          obtain rfl : 4 = E := hAd; obtain rfl : V = zeroV := HV.out.1.symm.trans (dec_bad 4 HV.out.2 (by decide)).1
          generalize V0 + A = Y at *
          have hne : ((Y : Int) != (x : Int)) = true := bne_iff_ne.2 (by omega)
          clear c2 hck hvd
          go_wp2_with (first | ((go_at_call 70); (with_reducible refine (hf12 _).mono ?_); rintro e w9 ⟨rfl, rfl⟩) | ((go_at_call 73); (with_reducible refine (henc _).mono ?_); rintro e w9 ⟨rfl, hb9⟩; have hH := holds_old hH hb9; obtain ⟨s0, s1, s2, s3, _⟩ := id hH; obtain ⟨k1, f1, z1⟩ := of_block s1; obtain ⟨k2, f2, z2⟩ := of_block s2; obtain ⟨k3, f3, z3⟩ := of_block s3))
          rw [six_set s2 rfl]
          have ho := old_put hH.1 (.cells #[.int .i64 0, .int .u64 0, .bool false, .bool false, .bool false, .int .i64 0] 48) (show w.heap.size ≤ w.heap.size + 1 by omega)
          have s9 := putB_same (.cells #[.int .i64 0, .int .u64 0, .bool false, .bool false, .bool false, .int .i64 0] 48) z2
          generalize putB _ (w.heap.size + 1) (.cells #[.int .i64 0, .int .u64 0, .bool false, .bool false, .bool false, .int .i64 0] 48) = W9 at *
          obtain ⟨k9, f9, z9⟩ := of_block s9
          refine bodyPost_ret (by simp [results, Try.results47, go_sem, k9]; try rfl) rfl ?_
          exact ⟨rfl, ho⟩
        case pos =>
        rw [if_neg (not_not_intro ⟨rfl, c2⟩)] at hAd
        rw [c2] at hwj
        have hxx : ((x : Int) != (x : Int)) = false := by simp
        clear c2
        go_upto_region 15 with (first | ((go_at_call 70); (with_reducible refine (hf12 _).mono ?_); rintro e w9 ⟨rfl, rfl⟩) | ((go_at_call 73); (with_reducible refine (henc _).mono ?_); rintro e w9 ⟨rfl, hb9⟩; have hH := holds_old hH hb9; obtain ⟨s0, s1, s2, s3, _⟩ := id hH; obtain ⟨k1, f1, z1⟩ := of_block s1; obtain ⟨k2, f2, z2⟩ := of_block s2; obtain ⟨k3, f3, z3⟩ := of_block s3))
        by_cases c3 : topN st ≤ A
        case pos =>
          rw [if_pos c3] at hAd
          obtain rfl : 2 = E := hAd; obtain rfl : V = zeroV := HV.out.1.symm.trans (dec_bad 2 HV.out.2 (by decide)).1
          clear hck hvd
          go_wp2_with (first | ((go_at_call 45); (with_reducible refine (hTop _).mono ?_); rintro e w9 ⟨rfl, rfl⟩))
          rw [six_set s2 rfl]
          have ho := old_put hH.1 (.cells #[.int .i64 0, .int .u64 0, .bool false, .bool false, .bool false, .int .i64 0] 48) (show w.heap.size ≤ w.heap.size + 1 by omega)
          have s9 := putB_same (.cells #[.int .i64 0, .int .u64 0, .bool false, .bool false, .bool false, .int .i64 0] 48) z2
          generalize putB _ (w.heap.size + 1) (.cells #[.int .i64 0, .int .u64 0, .bool false, .bool false, .bool false, .int .i64 0] 48) = W9 at *
          obtain ⟨k9, f9, z9⟩ := of_block s9
          refine bodyPost_ret (by simp [results, Try.results47, go_sem, k9]; try rfl) rfl ?_
          exact ⟨rfl, ho⟩
        case neg =>
        rw [if_neg c3] at hAd
        go_upto_region 18 with (first | ((go_at_call 45); (with_reducible refine (hTop _).mono ?_); rintro e w9 ⟨rfl, rfl⟩))
        clear c3
        rw [set_of s1]
        have hH := holds_top #[.int .i64 2, .int .u64 (A : Nat), .bool (bitB x 6), .bool (bitB x 7), .bool (bitB x 8), .int .i64 (qs : Nat)] hH (by omega) (by intro y hy; simp only [List.mem_cons, List.not_mem_nil, or_false] at hy; rcases hy with rfl | rfl <;> simp only [ne_eq] <;> omega)
        generalize hW6 : putB _ p (.cells (Array.setIfInBounds _ 1 _) _) = W6
        replace hH : Holds w ((p, #[.int .i64 2, .int .u64 (A : Nat), .bool (bitB x 6), .bool (bitB x 7), .bool (bitB x 8), .int .i64 (qs : Nat)], 48) :: [(w.heap.size + 1, #[.int .i64 0, .int .u64 0, .bool false, .bool false, .bool false, .int .i64 0], 48), (w.heap.size, #[.int .u64 (x : Nat)], 22)]) W6 := by rw [← hW6]; exact hH
        clear hW6
        obtain ⟨s0, s1, s2, s3, _⟩ := id hH
        obtain ⟨k1, f1, z1⟩ := of_block s1
        obtain ⟨k2, f2, z2⟩ := of_block s2
        obtain ⟨k3, f3, z3⟩ := of_block s3
        by_cases c4 : checkC st lv 2 A (bitB x 6) (bitB x 7) (bitB x 8) (qs : Nat) = 0
        case neg =>
          rw [if_pos c4] at hAd
          obtain rfl : 4 = E := hAd; obtain rfl : V = zeroV := HV.out.1.symm.trans (dec_bad 4 HV.out.2 (by decide)).1
          generalize checkC st lv 2 A (bitB x 6) (bitB x 7) (bitB x 8) (qs : Nat) = e1 at *
          have hne : (e1 != 0) = true := bne_iff_ne.2 c4
          clear c4 hvd
          go_wp2_with (first | ((go_at_call 74); (with_reducible refine (hck _).mono ?_); rintro e w9 ⟨rfl, hb9⟩; have hH := holds_old hH hb9; obtain ⟨s0, s1, s2, s3, _⟩ := id hH; obtain ⟨k1, f1, z1⟩ := of_block s1; obtain ⟨k2, f2, z2⟩ := of_block s2; obtain ⟨k3, f3, z3⟩ := of_block s3))
          rw [six_set s2 rfl]
          have ho := old_put hH.1 (.cells #[.int .i64 0, .int .u64 0, .bool false, .bool false, .bool false, .int .i64 0] 48) (show w.heap.size ≤ w.heap.size + 1 by omega)
          have s9 := putB_same (.cells #[.int .i64 0, .int .u64 0, .bool false, .bool false, .bool false, .int .i64 0] 48) z2
          generalize putB _ (w.heap.size + 1) (.cells #[.int .i64 0, .int .u64 0, .bool false, .bool false, .bool false, .int .i64 0] 48) = W9 at *
          obtain ⟨k9, f9, z9⟩ := of_block s9
          refine bodyPost_ret (by simp [results, Try.results47, go_sem, k9]; try rfl) rfl ?_
          exact ⟨rfl, ho⟩
        case pos =>
        rw [if_neg (not_not_intro c4)] at hAd
        rw [c4] at hck
        obtain rfl : 0 = E := hAd; obtain rfl : V = descV 2 A (bitB x 6) (bitB x 7) (bitB x 8) (qs : Nat) := HV.out.1.symm.trans (hvd HV.out.2).1
        clear c4 hvd
        go_wp2_with (first | ((go_at_call 74); (with_reducible refine (hck _).mono ?_); rintro e w9 ⟨rfl, hb9⟩; have hH := holds_old hH hb9; obtain ⟨s0, s1, s2, s3, _⟩ := id hH; obtain ⟨k1, f1, z1⟩ := of_block s1; obtain ⟨k2, f2, z2⟩ := of_block s2; obtain ⟨k3, f3, z3⟩ := of_block s3))
        rw [six_set s2 rfl]
        have ho := old_put hH.1 (.cells #[.int .i64 2, .int .u64 (A : Nat), .bool (bitB x 6), .bool (bitB x 7), .bool (bitB x 8), .int .i64 (qs : Nat)] 48) (show w.heap.size ≤ w.heap.size + 1 by omega)
        have s9 := putB_same (.cells #[.int .i64 2, .int .u64 (A : Nat), .bool (bitB x 6), .bool (bitB x 7), .bool (bitB x 8), .int .i64 (qs : Nat)] 48) z2
        generalize putB _ (w.heap.size + 1) (.cells #[.int .i64 2, .int .u64 (A : Nat), .bool (bitB x 6), .bool (bitB x 7), .bool (bitB x 8), .int .i64 (qs : Nat)] 48) = W9 at *
        obtain ⟨k9, f9, z9⟩ := of_block s9
        refine bodyPost_ret (by simp [results, Try.results47, go_sem, k9]; try rfl) rfl ?_
        exact ⟨rfl, ho⟩
      case true =>
        rw [hb1] at hKd hon1
        by_cases hl : lv = 3
        · subst hl
          obtain rfl : K = 3 := hKd
          clear hb1 hon
          go_upto_region 11 with (first | ((go_at_call 72); (with_reducible refine (hon1 _ _ c2).mono ?_); rintro e w9 ⟨rfl, rfl⟩))
          rw [set_of s1]
          have hH := holds_top #[.int .i64 3, .int .u64 0, .bool (bitB x 6), .bool (bitB x 7), .bool (bitB x 8), .int .i64 (qs : Nat)] hH (by omega) (by intro y hy; simp only [List.mem_cons, List.not_mem_nil, or_false] at hy; rcases hy with rfl | rfl <;> simp only [ne_eq] <;> omega)
          generalize hW6 : putB W2 p (.cells (Array.setIfInBounds _ 0 _) _) = W3
          replace hH : Holds w ((p, #[.int .i64 3, .int .u64 0, .bool (bitB x 6), .bool (bitB x 7), .bool (bitB x 8), .int .i64 (qs : Nat)], 48) :: [(w.heap.size + 1, #[.int .i64 0, .int .u64 0, .bool false, .bool false, .bool false, .int .i64 0], 48), (w.heap.size, #[.int .u64 (x : Nat)], 22)]) W3 := by rw [← hW6]; exact hH
          clear hW6
          clear hon1 c2
          obtain ⟨s0, s1, s2, s3, _⟩ := id hH
          obtain ⟨k1, f1, z1⟩ := of_block s1
          obtain ⟨k2, f2, z2⟩ := of_block s2
          obtain ⟨k3, f3, z3⟩ := of_block s3
          have hTop := top_x st
          have hA1 := decA_le x
          have hA2 := decA_mod x
          have hAw : IntKind.u64.wrap (((fieldN x 12 36 : Nat) : Int) * 4096) = ((decA x : Nat) : Int) := by
            rw [IntKind.wrap_u64]
            have : decA x = fieldN x 12 36 * 4096 := rfl
            omega
          have hAd := HV.out.2
          unfold decE at hAd
          rw [if_neg (show ¬ ¬ Place st 3 from not_not_intro HP.out), if_neg H2.out, HK.out, HQ.out.1] at hAd
          have henc : ∀ w : World, Calls Try.prog 73 #[.int .i64 st, .int .i64 3, .agg #[.int .i64 3, .int .u64 0, .bool (bitB x 6), .bool (bitB x 7), .bool (bitB x 8), .int .i64 (qs : Nat)]] w _ := encode_calls st 3 3 0 (bitB x 6) (bitB x 7) (bitB x 8) (qs : Nat)
          have hck := descCheck_calls st 3 3 (decA x) (bitB x 6) (bitB x 7) (bitB x 8) (qs : Nat)
          have hvd := @dec_yes st 3 x HP.out H2.out
          rw [HK.out, HQ.out.1] at hvd
          have hwj := @word_join 3 (bitB x 6) (bitB x 7) (bitB x 8) qs (decA x) HQ.out.2 hA2 hA1
          generalize decA x = A at *
          by_cases c1 : checkC st 3 3 0 (bitB x 6) (bitB x 7) (bitB x 8) (qs : Nat) = 0
          case neg =>
            rw [if_pos (fun e => c1 e.1)] at hAd
            obtain rfl : 4 = E := hAd; obtain rfl : V = zeroV := HV.out.1.symm.trans (dec_bad 4 HV.out.2 (by decide)).1
            have hew : encW st 3 3 0 (bitB x 6) (bitB x 7) (bitB x 8) (qs : Nat) = 0 := if_neg (fun e => c1 e.1)
            rw [hew] at henc
            generalize checkC st 3 3 0 (bitB x 6) (bitB x 7) (bitB x 8) (qs : Nat) = e1 at *
            have hne : (e1 != 0) = true := bne_iff_ne.2 c1
            clear c1 hew hck hvd hwj
            go_wp2_with (first | ((go_at_call 70); (with_reducible refine (hf12 _).mono ?_); rintro e w9 ⟨rfl, rfl⟩) | ((go_at_call 73); (with_reducible refine (henc _).mono ?_); rintro e w9 ⟨rfl, hb9⟩; have hH := holds_old hH hb9; obtain ⟨s0, s1, s2, s3, _⟩ := id hH; obtain ⟨k1, f1, z1⟩ := of_block s1; obtain ⟨k2, f2, z2⟩ := of_block s2; obtain ⟨k3, f3, z3⟩ := of_block s3))
            rw [six_set s2 rfl]
            have ho := old_put hH.1 (.cells #[.int .i64 0, .int .u64 0, .bool false, .bool false, .bool false, .int .i64 0] 48) (show w.heap.size ≤ w.heap.size + 1 by omega)
            have s9 := putB_same (.cells #[.int .i64 0, .int .u64 0, .bool false, .bool false, .bool false, .int .i64 0] 48) z2
            generalize putB _ (w.heap.size + 1) (.cells #[.int .i64 0, .int .u64 0, .bool false, .bool false, .bool false, .int .i64 0] 48) = W9 at *
            obtain ⟨k9, f9, z9⟩ := of_block s9
            refine bodyPost_ret (by simp [results, Try.results47, go_sem, k9]; try rfl) rfl ?_
            exact ⟨rfl, ho⟩
          case pos =>
          have hew : encW st 3 3 0 (bitB x 6) (bitB x 7) (bitB x 8) (qs : Nat) = wordN 3 0 (bitB x 6) (bitB x 7) (bitB x 8) qs := if_pos ⟨c1, by decide⟩
          rw [hew, c1] at henc
          rw [c1] at hAd
          clear hew c1
          generalize wordN 3 0 (bitB x 6) (bitB x 7) (bitB x 8) qs = V0 at *
          by_cases c2 : V0 + A = x
          case neg =>
            rw [if_pos (fun e => c2 e.2)] at hAd
            obtain rfl : 4 = E := hAd; obtain rfl : V = zeroV := HV.out.1.symm.trans (dec_bad 4 HV.out.2 (by decide)).1
            generalize V0 + A = Y at *
            have hne : ((Y : Int) != (x : Int)) = true := bne_iff_ne.2 (by omega)
            clear c2 hck hvd
            go_wp2_with (first | ((go_at_call 70); (with_reducible refine (hf12 _).mono ?_); rintro e w9 ⟨rfl, rfl⟩) | ((go_at_call 73); (with_reducible refine (henc _).mono ?_); rintro e w9 ⟨rfl, hb9⟩; have hH := holds_old hH hb9; obtain ⟨s0, s1, s2, s3, _⟩ := id hH; obtain ⟨k1, f1, z1⟩ := of_block s1; obtain ⟨k2, f2, z2⟩ := of_block s2; obtain ⟨k3, f3, z3⟩ := of_block s3))
            rw [six_set s2 rfl]
            have ho := old_put hH.1 (.cells #[.int .i64 0, .int .u64 0, .bool false, .bool false, .bool false, .int .i64 0] 48) (show w.heap.size ≤ w.heap.size + 1 by omega)
            have s9 := putB_same (.cells #[.int .i64 0, .int .u64 0, .bool false, .bool false, .bool false, .int .i64 0] 48) z2
            generalize putB _ (w.heap.size + 1) (.cells #[.int .i64 0, .int .u64 0, .bool false, .bool false, .bool false, .int .i64 0] 48) = W9 at *
            obtain ⟨k9, f9, z9⟩ := of_block s9
            refine bodyPost_ret (by simp [results, Try.results47, go_sem, k9]; try rfl) rfl ?_
            exact ⟨rfl, ho⟩
          case pos =>
          rw [if_neg (not_not_intro ⟨rfl, c2⟩)] at hAd
          rw [c2] at hwj
          have hxx : ((x : Int) != (x : Int)) = false := by simp
          clear c2
          go_upto_region 15 with (first | ((go_at_call 70); (with_reducible refine (hf12 _).mono ?_); rintro e w9 ⟨rfl, rfl⟩) | ((go_at_call 73); (with_reducible refine (henc _).mono ?_); rintro e w9 ⟨rfl, hb9⟩; have hH := holds_old hH hb9; obtain ⟨s0, s1, s2, s3, _⟩ := id hH; obtain ⟨k1, f1, z1⟩ := of_block s1; obtain ⟨k2, f2, z2⟩ := of_block s2; obtain ⟨k3, f3, z3⟩ := of_block s3))
          by_cases c3 : topN st ≤ A
          case pos =>
            rw [if_pos c3] at hAd
            obtain rfl : 2 = E := hAd; obtain rfl : V = zeroV := HV.out.1.symm.trans (dec_bad 2 HV.out.2 (by decide)).1
            clear hck hvd
            go_wp2_with (first | ((go_at_call 45); (with_reducible refine (hTop _).mono ?_); rintro e w9 ⟨rfl, rfl⟩))
            rw [six_set s2 rfl]
            have ho := old_put hH.1 (.cells #[.int .i64 0, .int .u64 0, .bool false, .bool false, .bool false, .int .i64 0] 48) (show w.heap.size ≤ w.heap.size + 1 by omega)
            have s9 := putB_same (.cells #[.int .i64 0, .int .u64 0, .bool false, .bool false, .bool false, .int .i64 0] 48) z2
            generalize putB _ (w.heap.size + 1) (.cells #[.int .i64 0, .int .u64 0, .bool false, .bool false, .bool false, .int .i64 0] 48) = W9 at *
            obtain ⟨k9, f9, z9⟩ := of_block s9
            refine bodyPost_ret (by simp [results, Try.results47, go_sem, k9]; try rfl) rfl ?_
            exact ⟨rfl, ho⟩
          case neg =>
          rw [if_neg c3] at hAd
          go_upto_region 18 with (first | ((go_at_call 45); (with_reducible refine (hTop _).mono ?_); rintro e w9 ⟨rfl, rfl⟩))
          clear c3
          rw [set_of s1]
          have hH := holds_top #[.int .i64 3, .int .u64 (A : Nat), .bool (bitB x 6), .bool (bitB x 7), .bool (bitB x 8), .int .i64 (qs : Nat)] hH (by omega) (by intro y hy; simp only [List.mem_cons, List.not_mem_nil, or_false] at hy; rcases hy with rfl | rfl <;> simp only [ne_eq] <;> omega)
          generalize hW6 : putB _ p (.cells (Array.setIfInBounds _ 1 _) _) = W6
          replace hH : Holds w ((p, #[.int .i64 3, .int .u64 (A : Nat), .bool (bitB x 6), .bool (bitB x 7), .bool (bitB x 8), .int .i64 (qs : Nat)], 48) :: [(w.heap.size + 1, #[.int .i64 0, .int .u64 0, .bool false, .bool false, .bool false, .int .i64 0], 48), (w.heap.size, #[.int .u64 (x : Nat)], 22)]) W6 := by rw [← hW6]; exact hH
          clear hW6
          obtain ⟨s0, s1, s2, s3, _⟩ := id hH
          obtain ⟨k1, f1, z1⟩ := of_block s1
          obtain ⟨k2, f2, z2⟩ := of_block s2
          obtain ⟨k3, f3, z3⟩ := of_block s3
          by_cases c4 : checkC st 3 3 A (bitB x 6) (bitB x 7) (bitB x 8) (qs : Nat) = 0
          case neg =>
            rw [if_pos c4] at hAd
            obtain rfl : 4 = E := hAd; obtain rfl : V = zeroV := HV.out.1.symm.trans (dec_bad 4 HV.out.2 (by decide)).1
            generalize checkC st 3 3 A (bitB x 6) (bitB x 7) (bitB x 8) (qs : Nat) = e1 at *
            have hne : (e1 != 0) = true := bne_iff_ne.2 c4
            clear c4 hvd
            go_wp2_with (first | ((go_at_call 74); (with_reducible refine (hck _).mono ?_); rintro e w9 ⟨rfl, hb9⟩; have hH := holds_old hH hb9; obtain ⟨s0, s1, s2, s3, _⟩ := id hH; obtain ⟨k1, f1, z1⟩ := of_block s1; obtain ⟨k2, f2, z2⟩ := of_block s2; obtain ⟨k3, f3, z3⟩ := of_block s3))
            rw [six_set s2 rfl]
            have ho := old_put hH.1 (.cells #[.int .i64 0, .int .u64 0, .bool false, .bool false, .bool false, .int .i64 0] 48) (show w.heap.size ≤ w.heap.size + 1 by omega)
            have s9 := putB_same (.cells #[.int .i64 0, .int .u64 0, .bool false, .bool false, .bool false, .int .i64 0] 48) z2
            generalize putB _ (w.heap.size + 1) (.cells #[.int .i64 0, .int .u64 0, .bool false, .bool false, .bool false, .int .i64 0] 48) = W9 at *
            obtain ⟨k9, f9, z9⟩ := of_block s9
            refine bodyPost_ret (by simp [results, Try.results47, go_sem, k9]; try rfl) rfl ?_
            exact ⟨rfl, ho⟩
          case pos =>
          rw [if_neg (not_not_intro c4)] at hAd
          rw [c4] at hck
          obtain rfl : 0 = E := hAd; obtain rfl : V = descV 3 A (bitB x 6) (bitB x 7) (bitB x 8) (qs : Nat) := HV.out.1.symm.trans (hvd HV.out.2).1
          clear c4 hvd
          go_wp2_with (first | ((go_at_call 74); (with_reducible refine (hck _).mono ?_); rintro e w9 ⟨rfl, hb9⟩; have hH := holds_old hH hb9; obtain ⟨s0, s1, s2, s3, _⟩ := id hH; obtain ⟨k1, f1, z1⟩ := of_block s1; obtain ⟨k2, f2, z2⟩ := of_block s2; obtain ⟨k3, f3, z3⟩ := of_block s3))
          rw [six_set s2 rfl]
          have ho := old_put hH.1 (.cells #[.int .i64 3, .int .u64 (A : Nat), .bool (bitB x 6), .bool (bitB x 7), .bool (bitB x 8), .int .i64 (qs : Nat)] 48) (show w.heap.size ≤ w.heap.size + 1 by omega)
          have s9 := putB_same (.cells #[.int .i64 3, .int .u64 (A : Nat), .bool (bitB x 6), .bool (bitB x 7), .bool (bitB x 8), .int .i64 (qs : Nat)] 48) z2
          generalize putB _ (w.heap.size + 1) (.cells #[.int .i64 3, .int .u64 (A : Nat), .bool (bitB x 6), .bool (bitB x 7), .bool (bitB x 8), .int .i64 (qs : Nat)] 48) = W9 at *
          obtain ⟨k9, f9, z9⟩ := of_block s9
          refine bodyPost_ret (by simp [results, Try.results47, go_sem, k9]; try rfl) rfl ?_
          exact ⟨rfl, ho⟩
        · obtain rfl : K = 1 := by rw [hKd, cond_true, if_neg hl]
          clear hKd hb1 hon
          go_upto_region 11 with (first | ((go_at_call 72); (with_reducible refine (hon1 _ _ c2).mono ?_); rintro e w9 ⟨rfl, rfl⟩))
          rw [set_of s1]
          have hH := holds_top #[.int .i64 1, .int .u64 0, .bool (bitB x 6), .bool (bitB x 7), .bool (bitB x 8), .int .i64 (qs : Nat)] hH (by omega) (by intro y hy; simp only [List.mem_cons, List.not_mem_nil, or_false] at hy; rcases hy with rfl | rfl <;> simp only [ne_eq] <;> omega)
          generalize hW6 : putB W2 p (.cells (Array.setIfInBounds _ 0 _) _) = W3
          replace hH : Holds w ((p, #[.int .i64 1, .int .u64 0, .bool (bitB x 6), .bool (bitB x 7), .bool (bitB x 8), .int .i64 (qs : Nat)], 48) :: [(w.heap.size + 1, #[.int .i64 0, .int .u64 0, .bool false, .bool false, .bool false, .int .i64 0], 48), (w.heap.size, #[.int .u64 (x : Nat)], 22)]) W3 := by rw [← hW6]; exact hH
          clear hW6
          clear hon1 c2
          obtain ⟨s0, s1, s2, s3, _⟩ := id hH
          obtain ⟨k1, f1, z1⟩ := of_block s1
          obtain ⟨k2, f2, z2⟩ := of_block s2
          obtain ⟨k3, f3, z3⟩ := of_block s3
          have hTop := top_x st
          have hA1 := decA_le x
          have hA2 := decA_mod x
          have hAw : IntKind.u64.wrap (((fieldN x 12 36 : Nat) : Int) * 4096) = ((decA x : Nat) : Int) := by
            rw [IntKind.wrap_u64]
            have : decA x = fieldN x 12 36 * 4096 := rfl
            omega
          have hAd := HV.out.2
          unfold decE at hAd
          rw [if_neg (show ¬ ¬ Place st lv from not_not_intro HP.out), if_neg H2.out, HK.out, HQ.out.1] at hAd
          have henc : ∀ w : World, Calls Try.prog 73 #[.int .i64 st, .int .i64 lv, .agg #[.int .i64 1, .int .u64 0, .bool (bitB x 6), .bool (bitB x 7), .bool (bitB x 8), .int .i64 (qs : Nat)]] w _ := encode_calls st lv 1 0 (bitB x 6) (bitB x 7) (bitB x 8) (qs : Nat)
          have hck := descCheck_calls st lv 1 (decA x) (bitB x 6) (bitB x 7) (bitB x 8) (qs : Nat)
          have hvd := @dec_yes st lv x HP.out H2.out
          rw [HK.out, HQ.out.1] at hvd
          have hwj := @word_join 1 (bitB x 6) (bitB x 7) (bitB x 8) qs (decA x) HQ.out.2 hA2 hA1
          generalize decA x = A at *
          by_cases c1 : checkC st lv 1 0 (bitB x 6) (bitB x 7) (bitB x 8) (qs : Nat) = 0
          case neg =>
            rw [if_pos (fun e => c1 e.1)] at hAd
            obtain rfl : 4 = E := hAd; obtain rfl : V = zeroV := HV.out.1.symm.trans (dec_bad 4 HV.out.2 (by decide)).1
            have hew : encW st lv 1 0 (bitB x 6) (bitB x 7) (bitB x 8) (qs : Nat) = 0 := if_neg (fun e => c1 e.1)
            rw [hew] at henc
            generalize checkC st lv 1 0 (bitB x 6) (bitB x 7) (bitB x 8) (qs : Nat) = e1 at *
            have hne : (e1 != 0) = true := bne_iff_ne.2 c1
            clear c1 hew hck hvd hwj
            go_wp2_with (first | ((go_at_call 70); (with_reducible refine (hf12 _).mono ?_); rintro e w9 ⟨rfl, rfl⟩) | ((go_at_call 73); (with_reducible refine (henc _).mono ?_); rintro e w9 ⟨rfl, hb9⟩; have hH := holds_old hH hb9; obtain ⟨s0, s1, s2, s3, _⟩ := id hH; obtain ⟨k1, f1, z1⟩ := of_block s1; obtain ⟨k2, f2, z2⟩ := of_block s2; obtain ⟨k3, f3, z3⟩ := of_block s3))
            rw [six_set s2 rfl]
            have ho := old_put hH.1 (.cells #[.int .i64 0, .int .u64 0, .bool false, .bool false, .bool false, .int .i64 0] 48) (show w.heap.size ≤ w.heap.size + 1 by omega)
            have s9 := putB_same (.cells #[.int .i64 0, .int .u64 0, .bool false, .bool false, .bool false, .int .i64 0] 48) z2
            generalize putB _ (w.heap.size + 1) (.cells #[.int .i64 0, .int .u64 0, .bool false, .bool false, .bool false, .int .i64 0] 48) = W9 at *
            obtain ⟨k9, f9, z9⟩ := of_block s9
            refine bodyPost_ret (by simp [results, Try.results47, go_sem, k9]; try rfl) rfl ?_
            exact ⟨rfl, ho⟩
          case pos =>
          have hew : encW st lv 1 0 (bitB x 6) (bitB x 7) (bitB x 8) (qs : Nat) = wordN 1 0 (bitB x 6) (bitB x 7) (bitB x 8) qs := if_pos ⟨c1, by decide⟩
          rw [hew, c1] at henc
          rw [c1] at hAd
          clear hew c1
          generalize wordN 1 0 (bitB x 6) (bitB x 7) (bitB x 8) qs = V0 at *
          by_cases c2 : V0 + A = x
          case neg =>
            rw [if_pos (fun e => c2 e.2)] at hAd
            obtain rfl : 4 = E := hAd; obtain rfl : V = zeroV := HV.out.1.symm.trans (dec_bad 4 HV.out.2 (by decide)).1
            generalize V0 + A = Y at *
            have hne : ((Y : Int) != (x : Int)) = true := bne_iff_ne.2 (by omega)
            clear c2 hck hvd
            go_wp2_with (first | ((go_at_call 70); (with_reducible refine (hf12 _).mono ?_); rintro e w9 ⟨rfl, rfl⟩) | ((go_at_call 73); (with_reducible refine (henc _).mono ?_); rintro e w9 ⟨rfl, hb9⟩; have hH := holds_old hH hb9; obtain ⟨s0, s1, s2, s3, _⟩ := id hH; obtain ⟨k1, f1, z1⟩ := of_block s1; obtain ⟨k2, f2, z2⟩ := of_block s2; obtain ⟨k3, f3, z3⟩ := of_block s3))
            rw [six_set s2 rfl]
            have ho := old_put hH.1 (.cells #[.int .i64 0, .int .u64 0, .bool false, .bool false, .bool false, .int .i64 0] 48) (show w.heap.size ≤ w.heap.size + 1 by omega)
            have s9 := putB_same (.cells #[.int .i64 0, .int .u64 0, .bool false, .bool false, .bool false, .int .i64 0] 48) z2
            generalize putB _ (w.heap.size + 1) (.cells #[.int .i64 0, .int .u64 0, .bool false, .bool false, .bool false, .int .i64 0] 48) = W9 at *
            obtain ⟨k9, f9, z9⟩ := of_block s9
            refine bodyPost_ret (by simp [results, Try.results47, go_sem, k9]; try rfl) rfl ?_
            exact ⟨rfl, ho⟩
          case pos =>
          rw [if_neg (not_not_intro ⟨rfl, c2⟩)] at hAd
          rw [c2] at hwj
          have hxx : ((x : Int) != (x : Int)) = false := by simp
          clear c2
          go_upto_region 15 with (first | ((go_at_call 70); (with_reducible refine (hf12 _).mono ?_); rintro e w9 ⟨rfl, rfl⟩) | ((go_at_call 73); (with_reducible refine (henc _).mono ?_); rintro e w9 ⟨rfl, hb9⟩; have hH := holds_old hH hb9; obtain ⟨s0, s1, s2, s3, _⟩ := id hH; obtain ⟨k1, f1, z1⟩ := of_block s1; obtain ⟨k2, f2, z2⟩ := of_block s2; obtain ⟨k3, f3, z3⟩ := of_block s3))
          by_cases c3 : topN st ≤ A
          case pos =>
            rw [if_pos c3] at hAd
            obtain rfl : 2 = E := hAd; obtain rfl : V = zeroV := HV.out.1.symm.trans (dec_bad 2 HV.out.2 (by decide)).1
            clear hck hvd
            go_wp2_with (first | ((go_at_call 45); (with_reducible refine (hTop _).mono ?_); rintro e w9 ⟨rfl, rfl⟩))
            rw [six_set s2 rfl]
            have ho := old_put hH.1 (.cells #[.int .i64 0, .int .u64 0, .bool false, .bool false, .bool false, .int .i64 0] 48) (show w.heap.size ≤ w.heap.size + 1 by omega)
            have s9 := putB_same (.cells #[.int .i64 0, .int .u64 0, .bool false, .bool false, .bool false, .int .i64 0] 48) z2
            generalize putB _ (w.heap.size + 1) (.cells #[.int .i64 0, .int .u64 0, .bool false, .bool false, .bool false, .int .i64 0] 48) = W9 at *
            obtain ⟨k9, f9, z9⟩ := of_block s9
            refine bodyPost_ret (by simp [results, Try.results47, go_sem, k9]; try rfl) rfl ?_
            exact ⟨rfl, ho⟩
          case neg =>
          rw [if_neg c3] at hAd
          go_upto_region 18 with (first | ((go_at_call 45); (with_reducible refine (hTop _).mono ?_); rintro e w9 ⟨rfl, rfl⟩))
          clear c3
          rw [set_of s1]
          have hH := holds_top #[.int .i64 1, .int .u64 (A : Nat), .bool (bitB x 6), .bool (bitB x 7), .bool (bitB x 8), .int .i64 (qs : Nat)] hH (by omega) (by intro y hy; simp only [List.mem_cons, List.not_mem_nil, or_false] at hy; rcases hy with rfl | rfl <;> simp only [ne_eq] <;> omega)
          generalize hW6 : putB _ p (.cells (Array.setIfInBounds _ 1 _) _) = W6
          replace hH : Holds w ((p, #[.int .i64 1, .int .u64 (A : Nat), .bool (bitB x 6), .bool (bitB x 7), .bool (bitB x 8), .int .i64 (qs : Nat)], 48) :: [(w.heap.size + 1, #[.int .i64 0, .int .u64 0, .bool false, .bool false, .bool false, .int .i64 0], 48), (w.heap.size, #[.int .u64 (x : Nat)], 22)]) W6 := by rw [← hW6]; exact hH
          clear hW6
          obtain ⟨s0, s1, s2, s3, _⟩ := id hH
          obtain ⟨k1, f1, z1⟩ := of_block s1
          obtain ⟨k2, f2, z2⟩ := of_block s2
          obtain ⟨k3, f3, z3⟩ := of_block s3
          by_cases c4 : checkC st lv 1 A (bitB x 6) (bitB x 7) (bitB x 8) (qs : Nat) = 0
          case neg =>
            rw [if_pos c4] at hAd
            obtain rfl : 4 = E := hAd; obtain rfl : V = zeroV := HV.out.1.symm.trans (dec_bad 4 HV.out.2 (by decide)).1
            generalize checkC st lv 1 A (bitB x 6) (bitB x 7) (bitB x 8) (qs : Nat) = e1 at *
            have hne : (e1 != 0) = true := bne_iff_ne.2 c4
            clear c4 hvd
            go_wp2_with (first | ((go_at_call 74); (with_reducible refine (hck _).mono ?_); rintro e w9 ⟨rfl, hb9⟩; have hH := holds_old hH hb9; obtain ⟨s0, s1, s2, s3, _⟩ := id hH; obtain ⟨k1, f1, z1⟩ := of_block s1; obtain ⟨k2, f2, z2⟩ := of_block s2; obtain ⟨k3, f3, z3⟩ := of_block s3))
            rw [six_set s2 rfl]
            have ho := old_put hH.1 (.cells #[.int .i64 0, .int .u64 0, .bool false, .bool false, .bool false, .int .i64 0] 48) (show w.heap.size ≤ w.heap.size + 1 by omega)
            have s9 := putB_same (.cells #[.int .i64 0, .int .u64 0, .bool false, .bool false, .bool false, .int .i64 0] 48) z2
            generalize putB _ (w.heap.size + 1) (.cells #[.int .i64 0, .int .u64 0, .bool false, .bool false, .bool false, .int .i64 0] 48) = W9 at *
            obtain ⟨k9, f9, z9⟩ := of_block s9
            refine bodyPost_ret (by simp [results, Try.results47, go_sem, k9]; try rfl) rfl ?_
            exact ⟨rfl, ho⟩
          case pos =>
          rw [if_neg (not_not_intro c4)] at hAd
          rw [c4] at hck
          obtain rfl : 0 = E := hAd; obtain rfl : V = descV 1 A (bitB x 6) (bitB x 7) (bitB x 8) (qs : Nat) := HV.out.1.symm.trans (hvd HV.out.2).1
          clear c4 hvd
          go_wp2_with (first | ((go_at_call 74); (with_reducible refine (hck _).mono ?_); rintro e w9 ⟨rfl, hb9⟩; have hH := holds_old hH hb9; obtain ⟨s0, s1, s2, s3, _⟩ := id hH; obtain ⟨k1, f1, z1⟩ := of_block s1; obtain ⟨k2, f2, z2⟩ := of_block s2; obtain ⟨k3, f3, z3⟩ := of_block s3))
          rw [six_set s2 rfl]
          have ho := old_put hH.1 (.cells #[.int .i64 1, .int .u64 (A : Nat), .bool (bitB x 6), .bool (bitB x 7), .bool (bitB x 8), .int .i64 (qs : Nat)] 48) (show w.heap.size ≤ w.heap.size + 1 by omega)
          have s9 := putB_same (.cells #[.int .i64 1, .int .u64 (A : Nat), .bool (bitB x 6), .bool (bitB x 7), .bool (bitB x 8), .int .i64 (qs : Nat)] 48) z2
          generalize putB _ (w.heap.size + 1) (.cells #[.int .i64 1, .int .u64 (A : Nat), .bool (bitB x 6), .bool (bitB x 7), .bool (bitB x 8), .int .i64 (qs : Nat)] 48) = W9 at *
          obtain ⟨k9, f9, z9⟩ := of_block s9
          refine bodyPost_ret (by simp [results, Try.results47, go_sem, k9]; try rfl) rfl ?_
          exact ⟨rfl, ho⟩
end Go.Proofs.Ytlbehhbicmmdoaa
namespace Go.Proofs.Ytlbehhbicmmdoaa
set_option linter.unusedVariables false
set_option linter.unusedSimpArgs false
open Go.RowKit
/-- A descriptor, plain. -/
structure D6 where
  k : Int
  a : Nat
  r : Bool
  w : Bool
  x : Bool
  s : Int
abbrev D6.v (d : D6) : Value := descV d.k d.a d.r d.w d.x d.s
/-- What a word is decoded to. -/
def decD (st lv : Int) (x : Nat) : D6 := if Place st lv ∧ x % 2 ≠ 0 ∧ decE st lv x = 0 then ⟨decK lv x, decA x, bitB x 6, bitB x 7, bitB x 8, (decS x : Nat)⟩ else ⟨0, 0, false, false, false, 0⟩
theorem decD_v (st lv : Int) (x : Nat) : decV st lv x = (decD st lv x).v := by unfold decV decD; split <;> rfl
theorem decD_a (st lv : Int) (x : Nat) : (decD st lv x).a < 18446744073709551616 := by
  unfold decD; split
  · have := decA_le x; show decA x < _; omega
  · decide
theorem decD_last (st : Int) (x : Nat) : (decD st 3 x).k ≠ 1 := by
  unfold decD; split
  · show decK 3 x ≠ 1
    unfold decK
    cases bitB x 1 <;> simp
  · decide
theorem decD_kind (st lv : Int) (x : Nat) : (decD st lv x).k = 0 ∨ (decD st lv x).k = 1 ∨ (decD st lv x).k = 2 ∨ (decD st lv x).k = 3 := by
  unfold decD; split
  · show decK lv x = 0 ∨ decK lv x = 1 ∨ decK lv x = 2 ∨ decK lv x = 3
    unfold decK
    cases bitB x 1
    · simp
    · by_cases h : lv = 3 <;> simp [h]
  · exact .inl rfl
/-- A step of a walk. -/
structure St where
  lv : Nat
  at_ : Nat
  raw : Nat
  d : D6
def St.cells (s : St) : List Value := [.int .i64 s.lv, .int .u64 (s.at_ : Nat), .int .u64 (s.raw : Nat), .int .i64 s.d.k, .int .u64 (s.d.a : Nat), .bool s.d.r, .bool s.d.w, .bool s.d.x, .int .i64 s.d.s]
def stCells : List St → List Value
  | [] => []
  | s :: l => s.cells ++ stCells l
theorem stCells_append (l m : List St) : stCells (l ++ m) = stCells l ++ stCells m := by
  induction l with
  | nil => rfl
  | cons s l ih => simp only [List.cons_append, stCells, ih, List.append_assoc]
theorem stCells_get : ∀ (l : List St) (i : Nat) (s : St) (c : Nat) (v : Value), l[i]? = some s → s.cells[c]? = some v → (stCells l)[i * 9 + c]? = some v
  | [], i, s, c, v, h, _ => by simp at h
  | t :: l, 0, s, c, v, h, hc => by
    simp at h; subst h
    have hl := (List.getElem?_eq_some_iff.1 hc).1
    simp only [stCells, Nat.zero_mul, Nat.zero_add]
    rw [List.getElem?_append_left hl]; exact hc
  | t :: l, i + 1, s, c, v, h, hc => by
    have := stCells_get l i s c v (by simpa using h) hc
    have e : (i + 1) * 9 + c = t.cells.length + (i * 9 + c) := by simp only [St.cells, List.length_cons, List.length_nil]; omega
    rw [stCells, e, List.getElem?_append_right (Nat.le_add_right _ _), Nat.add_sub_cancel_left]; exact this
/-- Where the next word stands. -/
def atN (root addr lv : Nat) : Nat := (root + 8 * indexN addr lv) % 18446744073709551616
theorem atN_lt (root addr lv : Nat) : atN root addr lv < 18446744073709551616 := Nat.mod_lt _ (by decide)
theorem atN_wrap (root addr lv : Nat) : IntKind.u64.wrap ((root : Int) + 8 * ((indexN addr lv : Nat) : Int)) = ((atN root addr lv : Nat) : Int) := by
  unfold atN
  rw [IntKind.wrap_u64]; omega
/-- A walk from a table of level lv on, at most n more words: the steps, and what it comes to. -/
def walkN (raw : Nat → Nat) (ok : Nat → Bool) (st : Int) (addr : Nat) : Nat → Nat → Nat → List St × Int
  | 0, _, _ => ([], 0)
  | n + 1, lv, root =>
    let at_ := atN root addr lv
    if ok at_ = false then ([], -1) else
    let d := decD st lv (raw at_)
    let e := decE st lv (raw at_)
    let s : St := ⟨lv, at_, raw at_, d⟩
    if e = 2 then ([s], 3) else if e ≠ 0 then ([s], 4) else if d.k = 0 then ([s], 1) else if d.k = 1 then
      (s :: (walkN raw ok st addr n (lv + 1) d.a).1, (walkN raw ok st addr n (lv + 1) d.a).2) else ([s], 0)
section
variable {raw : Nat → Nat} {ok : Nat → Bool} {st : Int} {addr n lv root : Nat}
theorem walkN_no (h : ok (atN root addr lv) = false) : walkN raw ok st addr (n + 1) lv root = ([], -1) := by unfold walkN; simp [h]
theorem walkN_range (h : ok (atN root addr lv) = true) (he : decE st lv (raw (atN root addr lv)) = 2) : walkN raw ok st addr (n + 1) lv root = ([⟨lv, atN root addr lv, raw (atN root addr lv), decD st lv (raw (atN root addr lv))⟩], 3) := by
  unfold walkN; simp [h, he]
theorem walkN_form (h : ok (atN root addr lv) = true) (he : decE st lv (raw (atN root addr lv)) ≠ 2) (h0 : decE st lv (raw (atN root addr lv)) ≠ 0) : walkN raw ok st addr (n + 1) lv root = ([⟨lv, atN root addr lv, raw (atN root addr lv), decD st lv (raw (atN root addr lv))⟩], 4) := by
  unfold walkN; simp [h, he, h0]
theorem walkN_none (h : ok (atN root addr lv) = true) (h0 : decE st lv (raw (atN root addr lv)) = 0) (hk : (decD st lv (raw (atN root addr lv))).k = 0) : walkN raw ok st addr (n + 1) lv root = ([⟨lv, atN root addr lv, raw (atN root addr lv), decD st lv (raw (atN root addr lv))⟩], 1) := by
  unfold walkN; simp [h, h0, hk]
theorem walkN_table (h : ok (atN root addr lv) = true) (h0 : decE st lv (raw (atN root addr lv)) = 0) (hk : (decD st lv (raw (atN root addr lv))).k = 1) : walkN raw ok st addr (n + 1) lv root =
    (⟨lv, atN root addr lv, raw (atN root addr lv), decD st lv (raw (atN root addr lv))⟩ :: (walkN raw ok st addr n (lv + 1) (decD st lv (raw (atN root addr lv))).a).1, (walkN raw ok st addr n (lv + 1) (decD st lv (raw (atN root addr lv))).a).2) := by
  conv => lhs; unfold walkN
  simp [h, h0, hk]
theorem walkN_leaf (h : ok (atN root addr lv) = true) (h0 : decE st lv (raw (atN root addr lv)) = 0) (hk : (decD st lv (raw (atN root addr lv))).k ≠ 0) (hk1 : (decD st lv (raw (atN root addr lv))).k ≠ 1) : walkN raw ok st addr (n + 1) lv root = ([⟨lv, atN root addr lv, raw (atN root addr lv), decD st lv (raw (atN root addr lv))⟩], 0) := by
  unfold walkN; simp [h, h0, hk, hk1]
end
end Go.Proofs.Ytlbehhbicmmdoaa
namespace Go.Proofs.Ytlbehhbicmmdoaa
set_option linter.unusedVariables false
set_option linter.unusedSimpArgs false
open Go.ChangeShapes Go.WideShapes Go.Deep Go.RowKit Go.Joins
section
variable {H : Type} {enc : TypeId × Value → H} {P : Program} {w : World}
end
end Go.Proofs.Ytlbehhbicmmdoaa
namespace Go.Proofs.Ytlbehhbicmmdoaa
set_option linter.unusedVariables false
set_option linter.unusedSimpArgs false
open Go.ChangeShapes Go.WideShapes Go.Deep Go.RowKit Go.Joins
/-- A slice of words reads as l. -/
def Words (w : World) (ad : Option Addr) (c : Nat) (l : List Nat) : Prop :=
  l.length ≤ c ∧ c ≤ maxLen ∧ (ad = none → c = 0) ∧ ∀ (k x : Nat), l[k]? = some x → x < 18446744073709551616 ∧ ∃ bb off, ad = some ⟨bb, off, none⟩ ∧ bb < w.heap.size ∧ w.cell? ⟨bb, off + k, none⟩ = some (.int .u64 x)
def D6.cells (d : D6) : List Value := [.int .i64 d.k, .int .u64 (d.a : Nat), .bool d.r, .bool d.w, .bool d.x, .int .i64 d.s]
section
variable {H : Type} {enc : TypeId × Value → H} {P : Program} {w : World}
end
end Go.Proofs.Ytlbehhbicmmdoaa
namespace Go.Proofs.Ytlbehhbicmmdoaa
set_option linter.unusedVariables false
set_option linter.unusedSimpArgs false
open Go.RowKit
/-- An append whose run is known. -/
theorem wpList_append_run {P : Program} {w : World} {ops : Array Oper} {rest : List Oper} {o : Oper} {a : Act} {Q : Exit → Act → World → Prop} (hgd : o.guard = none) (s x : Operand) (t : TypeId)
    (ho : o.op = .call { callee := .builtin .append, args := #[s, x], argTypes := #[t, t] }) (u v : Value) (hs : a.eval s = u) (hx : a.eval x = v) (v' : Value) (w' : World)
    (hrun : (Builtin.append_ #[t, t] o.type #[u, v]).run P w = .ok v' w') (h : wpList P ops Q rest (a.put o.dst v') w') : wpList P ops Q (o :: rest) a w := by
  refine wpList_plain hgd fun K hK => ?_
  unfold Oper.wp
  simp [execOp, ho, resolve, invoke, builtin, hs, hx, hrun, Result.andThen]
  exact hK _ _ h
set_option maxRecDepth 100000 in
/-- append([]byte{}, page...). -/
theorem copy_run (ty : TypeId) (w : World) (ad : Option Addr) (c : Nat) (L : List Nat) (hB : Bytes w ad c L) (hL : L.length ≤ 1000000) :
    ∃ v w2, (Builtin.append_ #[87, 87] ty #[.slice (some ⟨w.heap.size, 0, none⟩) 0 0, .slice ad L.length c]).run Try.prog (w.alloc (.cells #[] 5)) = .ok v w2 ∧
      w2.ownsRow w.heap.size 5 1 v L.length (L.map vb) ∧ Old w w2 ∧ w.heap.size < w2.heap.size := by
  obtain ⟨i0, hi, hz0, hz1, hz2⟩ := info_parts u8_info
  have hlit : (w.alloc (.cells #[] 5)).ownsRow w.heap.size 5 1 (.slice (some ⟨w.heap.size, 0, none⟩) 0 0) 0 [] := World.ownsRow_lit w #[] 0 (Nat.le_refl _) (by decide) rfl
  have hO1 : Old w (w.alloc (.cells #[] 5)) := old_alloc (old_refl w) _
  have hs1 : w.heap.size < (w.alloc (.cells #[] 5)).heap.size := by simp
  have hBL := bytes_old hB hO1
  cases ad with
  | none =>
    have h0 := hB.2.2.1 rfl
    obtain rfl : L = [] := by
      cases L with
      | nil => rfl
      | cons x l => have := hB.1; simp at this; omega
    subst h0
    exact ⟨_, _, run_append_owned_none (P := Try.prog) _ w.heap.size 87 ty 5 i0 1 Try.underlying87 hi _ 0 [] hlit, hlit, hO1, hs1⟩
  | some a =>
    obtain ⟨v, w2, hrun, hown, hgrow, -⟩ := run_append_own (P := Try.prog) (w.alloc (.cells #[] 5)) w.heap.size 87 ty 5 i0 (.int .u8 0) 1 1 Try.underlying87 hi hz0 hz1 hz2 rfl (by decide) _ 0 [] hlit a L.length c (L.map vb) (by simp) (bytes_news2 hBL) (vb_one L) (by unfold maxLen; omega) (by omega) hO1.size
    simp only [Nat.zero_add, List.nil_append] at hown
    refine ⟨v, w2, hrun, hown, old_grown hO1 hgrow (fun g e => ?_), Nat.lt_of_lt_of_le hs1 hgrow.size⟩
    have e' : some w.heap.size = some g := e
    have := Option.some.inj e'
    omega
end Go.Proofs.Ytlbehhbicmmdoaa
namespace Go.Proofs.Ytlbehhbicmmdoaa
set_option linter.unusedVariables false
set_option linter.unusedSimpArgs false
open Go.RowKit
theorem own_only {F : Nat → Prop} {w w' : World} {B : Nat} {e : TypeId} {s n : Nat} {v : Value} {xs : List Value} (h : w.ownsRow B e s v n xs) (ho : Only F w w') (hF : ∀ b, B ≤ b → ¬ F b) : w'.ownsRow B e s v n xs := by
  refine ⟨h.1, ?_⟩
  rcases h.2 with h' | ⟨g, cap, cur, h', hb, hg, rest⟩
  · exact .inl h'
  · exact .inr ⟨g, cap, cur, h', hb, keep_only ho (hF g hb) hg, rest⟩
theorem own_old {w w' : World} {B : Nat} {e : TypeId} {s n : Nat} {v : Value} {xs : List Value} (h : w.ownsRow B e s v n xs) (ho : Old w w') : w'.ownsRow B e s v n xs :=
  own_only h (Only.of_below ho) (fun _ _ f => f)
theorem news_block (w : World) (l : List Value) (t : TypeId) (b : Nat) (hb : b = w.heap.size) : ∀ (j : Nat) (u : Value), l[j]? = some u → (w.alloc (.cells l.toArray t)).cell? ((⟨b, 0, none⟩ : Addr).add j) = some u := by
  subst hb
  intro j u hu
  rw [add_eq _ _ rfl, cell_of (new_block _ _)]
  simpa using hu
/-- What an append leaves, told by blocks. -/
theorem grown_only {w w' : World} {row : Option Nat} (h : w.grownBy w' row) : Only (fun b => some b = row) w w' :=
  ⟨h.os, h.tape, h.output, h.size, fun k hk hF => h.block k hk (fun e => hF e)⟩
theorem own_nil {w : World} {B : Nat} {e : TypeId} {s : Nat} : w.ownsRow B e s (.slice none 0 0) 0 [] := World.ownsRow_nil _ _ _ _
/-- A row's value. -/
theorem own_value {w : World} {B : Nat} {e : TypeId} {s n : Nat} {v : Value} {xs : List Value} (h : w.ownsRow B e s v n xs) : ∃ ad c, v = .slice ad n c ∧ n ≤ c ∧ c ≤ maxLen ∧ (∀ bb off, ad = some ⟨bb, off, none⟩ → off = 0 ∧ B ≤ bb ∧ bb < w.heap.size) ∧ (0 < n → ∃ g, ad = some ⟨g, 0, none⟩) := by
  rcases h.2 with ⟨rfl, rfl⟩ | ⟨g, cap, cur, rfl, hb, hg, hnc, hcm, _⟩
  · exact ⟨none, 0, rfl, Nat.le_refl _, Nat.zero_le _, (fun _ _ e => by cases e), fun f => absurd f (Nat.lt_irrefl _)⟩
  · exact ⟨some ⟨g, 0, none⟩, cap, rfl, hnc, hcm, (fun _ _ e => by cases e; exact ⟨rfl, hb, lt_of_block hg⟩), fun _ => ⟨g, rfl⟩⟩
/-- A row's cell. -/
theorem own_cell {w : World} {B : Nat} {e : TypeId} {s n c : Nat} {ad : Option Addr} {xs : List Value} (h : w.ownsRow B e s (.slice ad n c) n xs) {g off : Nat} (ha : ad = some ⟨g, off, none⟩) (j : Nat) {u : Value} (hu : xs[j]? = some u) : w.cell? ⟨g, j, none⟩ = some u := by
  rcases h.2 with ⟨e', h0⟩ | ⟨g', cap, cur, e', hb, hg, hnc, hcm, hcs, ht⟩
  · subst ha; cases e'
  · subst ha
    simp only [Value.slice.injEq, Option.some.injEq, Addr.mk.injEq, and_true, true_and] at e'
    obtain ⟨⟨rfl, rfl⟩, rfl⟩ := e'
    have hj : j < n * s := by rw [← h.1]; exact (List.getElem?_eq_some_iff.1 hu).1
    rw [← hu, ← ht, List.getElem?_take, if_pos hj]
    show _ = _
    rw [World.cell?, hg]
    simp
end Go.Proofs.Ytlbehhbicmmdoaa
namespace Go.Proofs.Ytlbehhbicmmdoaa
set_option linter.unusedVariables false
set_option linter.unusedSimpArgs false
open Go.RowKit
theorem step_info : (Try.prog.info? 52).map (fun i => (i.zero, i.size, i.bytes)) = some (some (.agg #[.int .i64 0, .int .u64 0, .int .u64 0, .int .i64 0, .int .u64 0, .bool false, .bool false, .bool false, .int .i64 0]), 9, 56) := by kernel_rfl
theorem func_nil (f : FuncId) (caps : Array Value) (w : World) : (binOp .eql 34 (.func (.func f) #[] caps) .nilFunc).run Try.prog w = .ok (.bool false) w := by kernel_rfl
/-- The frame at the label. -/
def WalkFrame (st : Int) (root addr : Nat) (f : FuncId) (caps : Array Value) (v : Value) (lv : Nat) (a : Act) : Prop := ∀ Q : Act → Prop, (∀ u4 u5 u6 u7 u9 u11 u12 u13 u14 u15 u16 u17 u18 u19 u20 u21 u22 u23 u24 u25 u26 u27 u28 u29 u30 u31 u32 u33 u34 u35 u36 u37 u38 u39 u40 u41 u42 u43 u44 u45 u46 u47 u48 u49 u50 u51 u52 u53 u54 u55 u56 u57 u58 u59 u60 u61 u62 u63 u64 u65 u66 u67 u68 u69 u70 u71 u72 u73 : Value, Q { tmps := #[.int .i64 st, .int .u64 (root : Nat), .int .u64 (addr : Nat), .func (.func f) #[] caps, u4, u5, u6, u7, v, u9, .int .i64 (lv : Nat), u11, u12, u13, u14, u15, u16, u17, u18, u19, u20, u21, u22, u23, u24, u25, u26, u27, u28, u29, u30, u31, u32, u33, u34, u35, u36, u37, u38, u39, u40, u41, u42, u43, u44, u45, u46, u47, u48, u49, u50, u51, u52, u53, u54, u55, u56, u57, u58, u59, u60, u61, u62, u63, u64, u65, u66, u67, u68, u69, u70, u71, u72, u73], defers := [] }) → Q a
/-- A step was laid behind the others. -/
theorem walk_append (w0 w3 W4 : World) (G : Nat → Prop) (S : Nat → World → Prop) (v : Value) (lv n : Nat) (l : List St) (s : St) (bd : Nat) (o : Obj) (hlv : lv ≤ 3) (hl : l.length = lv) (hkeep : ∀ k x y, S k x → Only (fun b => w0.heap.size ≤ b) x y → S k y)
    (hown : w3.ownsRow w0.heap.size 52 9 v lv (stCells l)) (hS : S n w3) (hO : Only G w0 w3) (hG : ∀ b, G b → b < w0.heap.size) (hW : W4 = w3.alloc o) (hbd : bd = w3.heap.size) :
    ∃ v' w5, (Builtin.append_ #[29, 29] 29 #[v, .slice (some ⟨W4.heap.size, 0, none⟩) 1 1]).run Try.prog (W4.alloc (.cells #[.int .i64 s.lv, .int .u64 (s.at_ : Nat), .int .u64 (s.raw : Nat), .int .i64 s.d.k, .int .u64 (s.d.a : Nat), .bool s.d.r, .bool s.d.w, .bool s.d.x, .int .i64 s.d.s] 52)) = .ok v' w5 ∧
      w5.ownsRow w0.heap.size 52 9 v' (lv + 1) (stCells (l ++ [s])) ∧ S n w5 ∧ Only G w0 w5 ∧ w5.heap[bd]? = some o := by
  subst hW hbd
  obtain ⟨i0, hi, hz0, hz1, hz2⟩ := info_parts step_info
  have hsz := hO.size
  have hown4 := (hown.alloc o).alloc (.cells #[.int .i64 s.lv, .int .u64 (s.at_ : Nat), .int .u64 (s.raw : Nat), .int .i64 s.d.k, .int .u64 (s.d.a : Nat), .bool s.d.r, .bool s.d.w, .bool s.d.x, .int .i64 s.d.s] 52)
  have hnew := news_block (w3.alloc o) s.cells 52 (w3.alloc o).heap.size rfl
  obtain ⟨v', w5, hrun, ho5, hgr, -⟩ := run_append_own (P := Try.prog) _ w0.heap.size 29 29 52 i0 _ 9 56 Try.underlying29 hi hz0 hz1 hz2 rfl (by decide) v lv (stCells l) hown4 ⟨(w3.alloc o).heap.size, 0, none⟩ 1 1 s.cells rfl hnew (by intro u hu; simp only [St.cells, List.mem_cons, List.not_mem_nil, or_false] at hu; rcases hu with rfl | rfl | rfl | rfl | rfl | rfl | rfl | rfl | rfl <;> rfl) (by unfold maxLen; omega) (by omega) (by simp; omega)
  have hrow : ∀ b, some b = v.ownBlock → w0.heap.size ≤ b ∧ b < w3.heap.size := fun b e => hown.lt b e.symm
  have hOn : Only (fun b => some b = v.ownBlock) w3 w5 := Only.trans (((Only.refl _ w3).alloc o).alloc _) (grown_only hgr)
  refine ⟨v', w5, hrun, ?_, hkeep _ _ _ hS (hOn.mono fun b _ e => (hrow b e).1), ?_, ?_⟩
  · rw [stCells_append]
    have e : stCells [s] = s.cells := by simp [stCells]
    rw [e]; exact ho5
  · exact hO.step hOn (fun b hb e => by have := (hrow b e).1; omega)
  · rw [hgr.block _ (by simp; omega) (fun e => by have := (hrow _ e).2; omega)]
    rw [alloc_heap_old _ _ _ (by simp), alloc_heap_new _ _ _ rfl]
end Go.Proofs.Ytlbehhbicmmdoaa
