/- Words of descriptors: plain laws, no program in sight. -/
import Derived.Test.YtlbehhbicmmdoaaDescC
import Derived.Laws.Bits64b
namespace Go.Proofs.Ytlbehhbicmmdoaa
set_option linter.unusedVariables false
set_option linter.unusedSimpArgs false
open Go.RowKit

/-- The word of a descriptor that is not none. -/
def wordN (k : Int) (a : Nat) (r wr x : Bool) (s : Nat) : Nat := 1 + flagN (decide (k ≠ 2)) 1 + flagN r 6 + flagN wr 7 + flagN x 8 + a + s * 36028797018963968

def bitB (w i : Nat) : Bool := decide (w / 2 ^ i % 2 = 1)
def decK (lv : Int) (w : Nat) : Int := bif bitB w 1 then (if lv = 3 then 3 else 1) else 2
def decS (w : Nat) : Nat := w / 36028797018963968 % 16
def decA (w : Nat) : Nat := w / 4096 % 68719476736 * 4096

theorem flag_cases (b : Bool) (i : Nat) : flagN b i = if b = true then 2 ^ i else 0 := by cases b <;> rfl

theorem decA_le (w : Nat) : decA w ≤ 281474976706560 := by unfold decA; omega
theorem decA_mod (w : Nat) : decA w % 4096 = 0 := by unfold decA; omega
theorem decS_le (w : Nat) : decS w ≤ 15 := by unfold decS; omega
theorem decK_range (lv : Int) (w : Nat) : 1 ≤ decK lv w ∧ decK lv w ≤ 3 := by
  unfold decK; cases bitB w 1
  · rw [cond_false]; exact ⟨by decide, by decide⟩
  · simp only [cond_true]; split <;> exact ⟨by decide, by decide⟩

theorem wordN_add (k : Int) (a : Nat) (r wr x : Bool) (s : Nat) : wordN k a r wr x s = wordN k 0 r wr x s + a := by unfold wordN; omega

theorem flags_lt (b r wr x : Bool) : 1 + flagN b 1 + flagN r 6 + flagN wr 7 + flagN x 8 < 4096 := by
  cases b <;> cases r <;> cases wr <;> cases x <;> decide

theorem word_parts {k : Int} {a : Nat} {r wr x : Bool} {s : Nat} (ha : a % 4096 = 0) (hl : a < 281474976710656) (hs : s ≤ 15) :
    wordN k a r wr x s < 18446744073709551616 ∧ wordN k a r wr x s % 2 = 1 ∧ bitB (wordN k a r wr x s) 1 = decide (k ≠ 2) ∧ bitB (wordN k a r wr x s) 6 = r ∧ bitB (wordN k a r wr x s) 7 = wr ∧
      bitB (wordN k a r wr x s) 8 = x ∧ decS (wordN k a r wr x s) = s ∧ decA (wordN k a r wr x s) = a := by
  unfold wordN bitB decS decA
  have key : ∀ F : Nat, F < 4096 → (F + a + s * 36028797018963968 < 18446744073709551616 ∧ (F + a + s * 36028797018963968) / 36028797018963968 % 16 = s ∧ (F + a + s * 36028797018963968) / 4096 % 68719476736 * 4096 = a ∧
      (F + a + s * 36028797018963968) % 4096 = F) := by
    intro F hF; refine ⟨by omega, by omega, by omega, by omega⟩
  have hF := flags_lt (decide (k ≠ 2)) r wr x
  have hK := key _ hF
  generalize hW : 1 + flagN (decide (k ≠ 2)) 1 + flagN r 6 + flagN wr 7 + flagN x 8 + a + s * 36028797018963968 = W at *
  obtain ⟨h1, h2, h3, h4⟩ := hK
  have low : ∀ i : Nat, i = 1 ∨ i = 6 ∨ i = 7 ∨ i = 8 → W / 2 ^ i % 2 = W % 4096 / 2 ^ i % 2 := by
    intro i hi; rcases hi with rfl | rfl | rfl | rfl <;> simp only [Nat.reducePow] <;> omega
  refine ⟨h1, ?_, ?_, ?_, ?_, ?_, h2, h3⟩
  · have : W % 2 = W % 4096 % 2 := by omega
    rw [this, h4]; cases decide (k ≠ 2) <;> cases r <;> cases wr <;> cases x <;> decide
  · rw [low 1 (.inl rfl), h4]; cases decide (k ≠ 2) <;> cases r <;> cases wr <;> cases x <;> decide
  · rw [low 6 (.inr (.inl rfl)), h4]; cases decide (k ≠ 2) <;> cases r <;> cases wr <;> cases x <;> decide
  · rw [low 7 (.inr (.inr (.inl rfl))), h4]; cases decide (k ≠ 2) <;> cases r <;> cases wr <;> cases x <;> decide
  · rw [low 8 (.inr (.inr (.inr rfl))), h4]; cases decide (k ≠ 2) <;> cases r <;> cases wr <;> cases x <;> decide

/-- What Check = 0 says of a descriptor that is not none. -/
theorem check_zero {st lv k : Int} {a : Nat} {r wr x : Bool} {s : Int} (hk : k ≠ 0) : checkC st lv k a r wr x s = 0 ↔
    Place st lv ∧ 1 ≤ k ∧ k ≤ 3 ∧ 0 ≤ s ∧ s ≤ 15 ∧ (k = 1 → lv ≠ 3) ∧ (k = 2 → lv ≠ 0 ∧ lv ≠ 3) ∧ (k = 3 → lv = 3) ∧ (k = 1 → r = false ∧ wr = false ∧ x = false) ∧ (wr = true → r = true) ∧ a < topN st ∧ a % 4096 = 0 ∧ (k = 2 → a % spanN lv.toNat = 0) := by
  unfold checkC
  constructor
  · intro h
    split at h
    · cases h
    split at h
    · cases h
    split at h
    · cases h
    split at h
    · cases h
    split at h
    · cases h
    rename_i h1 h2 h3 h4 h5
    have hP : Place st lv := Classical.byContradiction fun e => h1 (.inl e)
    have h3a : ¬ (k ≤ 1 ∧ (r || wr || x) = true) := fun e => h3 (.inl e)
    have h3b : ¬ (wr && !r) = true := fun e => h3 (.inr (.inl e))
    refine ⟨hP, by omega, by omega, by omega, by omega, by omega, by omega, by omega, ?_, ?_, by omega, by omega, by omega⟩
    · intro e
      have : ¬ (r || wr || x) = true := fun g => h3a ⟨by omega, g⟩
      revert this; cases r <;> cases wr <;> cases x <;> simp
    · revert h3b; cases r <;> cases wr <;> simp
  · rintro ⟨hP, h1, h2, h3, h4, h5, h6, h7, h8, h9, h10, h11, h12⟩
    have n1 : ¬ (¬ Place st lv ∨ k < 0 ∨ 3 < k ∨ s < 0 ∨ 15 < s) := by
      intro e
      rcases e with e | e
      · exact e hP
      · omega
    rw [if_neg n1, if_neg (by omega), if_neg, if_neg (by omega), if_neg (by omega)]
    rintro (⟨e, g⟩ | e | e)
    · obtain ⟨rfl, rfl, rfl⟩ := h8 (by omega); cases g
    · revert h9 e; cases r <;> cases wr <;> simp
    · omega

/-- What Decode answers: its error. -/
def decE (st lv : Int) (w : Nat) : Int :=
  if ¬ Place st lv then 1
  else if w % 2 = 0 then 0
  else if ¬ (checkC st lv (decK lv w) 0 (bitB w 6) (bitB w 7) (bitB w 8) (decS w : Nat) = 0 ∧ wordN (decK lv w) 0 (bitB w 6) (bitB w 7) (bitB w 8) (decS w) + decA w = w) then 4
  else if topN st ≤ decA w then 2
  else if checkC st lv (decK lv w) (decA w) (bitB w 6) (bitB w 7) (bitB w 8) (decS w : Nat) ≠ 0 then 4
  else 0
/-- The document's way. -/
def refE (st lv : Int) (w : Nat) : Int :=
  if ¬ Place st lv then 1
  else if w % 2 = 0 then 0
  else if checkC st lv (decK lv w) (decA w) (bitB w 6) (bitB w 7) (bitB w 8) (decS w : Nat) = 0 ∧ wordN (decK lv w) (decA w) (bitB w 6) (bitB w 7) (bitB w 8) (decS w) = w then 0
  else if (checkC st lv (decK lv w) 0 (bitB w 6) (bitB w 7) (bitB w 8) (decS w : Nat) = 0 ∧ wordN (decK lv w) 0 (bitB w 6) (bitB w 7) (bitB w 8) (decS w) = w - decA w) ∧ topN st ≤ decA w then 2
  else 4

theorem zero_mod_span (n : Nat) : 0 % spanN n = 0 := Nat.zero_mod _
theorem decA_le_self (w : Nat) : decA w ≤ w := by unfold decA; omega

theorem check_base {st lv k : Int} {a : Nat} {r wr x : Bool} {s : Int} (hk : k ≠ 0) (h : checkC st lv k a r wr x s = 0) : checkC st lv k 0 r wr x s = 0 := by
  rw [check_zero hk] at h ⊢
  obtain ⟨h0, h1, h2, h3, h4, h5, h6, h7, h8, h9, h10, h11, h12⟩ := h
  exact ⟨h0, h1, h2, h3, h4, h5, h6, h7, h8, h9, by omega, rfl, fun _ => zero_mod_span _⟩

theorem dec_ref (st lv : Int) (w : Nat) : decE st lv w = refE st lv w := by
  unfold decE refE
  have hk : decK lv w ≠ 0 := by have := decK_range lv w; omega
  have hwd := wordN_add (decK lv w) (decA w) (bitB w 6) (bitB w 7) (bitB w 8) (decS w)
  have hle := decA_le_self w
  have hb := @check_base st lv (decK lv w) (decA w) (bitB w 6) (bitB w 7) (bitB w 8) (decS w : Nat) hk
  have hz := @check_zero st lv (decK lv w) (decA w) (bitB w 6) (bitB w 7) (bitB w 8) (decS w : Nat) hk
  generalize wordN (decK lv w) (decA w) (bitB w 6) (bitB w 7) (bitB w 8) (decS w) = X at *
  generalize wordN (decK lv w) 0 (bitB w 6) (bitB w 7) (bitB w 8) (decS w) = Y at *
  have ht : checkC st lv (decK lv w) (decA w) (bitB w 6) (bitB w 7) (bitB w 8) (decS w : Nat) = 0 → decA w < topN st := fun e => (hz.1 e).2.2.2.2.2.2.2.2.2.2.1
  clear hz
  generalize checkC st lv (decK lv w) (decA w) (bitB w 6) (bitB w 7) (bitB w 8) (decS w : Nat) = C at *
  generalize checkC st lv (decK lv w) 0 (bitB w 6) (bitB w 7) (bitB w 8) (decS w : Nat) = D at *
  generalize decA w = A at *
  by_cases p1 : ¬ Place st lv
  · rw [if_pos p1, if_pos p1]
  rw [if_neg p1, if_neg p1]
  by_cases p2 : w % 2 = 0
  · rw [if_pos p2, if_pos p2]
  rw [if_neg p2, if_neg p2]
  by_cases c0 : C = 0
  · have d0 := hb c0
    have t0 := ht c0
    subst c0
    rw [d0]
    by_cases q : Y + A = w
    · rw [if_neg (by simp [q]), if_neg (by omega), if_neg (by simp), if_pos ⟨rfl, by omega⟩]
    · rw [if_pos (by simp [q]), if_neg (by omega), if_neg (by omega)]
  · by_cases d0 : D = 0
    · by_cases q : Y + A = w
      · by_cases t : topN st ≤ A
        · rw [if_neg (by simp [d0, q]), if_pos t, if_neg (by omega), if_pos ⟨⟨d0, by omega⟩, t⟩]
        · rw [if_neg (by simp [d0, q]), if_neg t, if_pos c0, if_neg (by omega), if_neg (by omega)]
      · rw [if_pos (by simp [q]), if_neg (by omega), if_neg (by omega)]
    · rw [if_pos (by simp [d0]), if_neg (by omega), if_neg (by omega)]

/-- A word that is a descriptor. -/
theorem dec_ok {st lv : Int} {w : Nat} (hp : Place st lv) (hv : w % 2 ≠ 0) (h : decE st lv w = 0) :
    checkC st lv (decK lv w) (decA w) (bitB w 6) (bitB w 7) (bitB w 8) (decS w : Nat) = 0 ∧ wordN (decK lv w) (decA w) (bitB w 6) (bitB w 7) (bitB w 8) (decS w) = w := by
  unfold decE at h
  rw [if_neg (by simpa using hp), if_neg hv] at h
  split at h
  · cases h
  rename_i h1
  split at h
  · cases h
  split at h
  · cases h
  rename_i h2
  have h1 := Classical.not_not.1 h1
  exact ⟨Classical.not_not.1 h2, by rw [wordN_add]; exact h1.2⟩

theorem topN_two (st lv : Int) (hp : Place st lv) : topN st ≤ 1099511627776 := topN_le st

/-- A descriptor's word is read as the descriptor. -/
theorem dec_word {st lv k : Int} {a : Nat} {r wr x : Bool} {s : Nat} (hk : k ≠ 0) (h : checkC st lv k a r wr x (s : Nat) = 0) :
    decE st lv (wordN k a r wr x s) = 0 ∧ wordN k a r wr x s < 18446744073709551616 ∧ wordN k a r wr x s % 2 = 1 ∧ decK lv (wordN k a r wr x s) = k ∧ decA (wordN k a r wr x s) = a ∧ bitB (wordN k a r wr x s) 6 = r ∧ bitB (wordN k a r wr x s) 7 = wr ∧ bitB (wordN k a r wr x s) 8 = x ∧ decS (wordN k a r wr x s) = s := by
  have hz := (check_zero hk).1 h
  obtain ⟨h0, h1, h2, h3, h4, h5, h6, h7, h8, h9, h10, h11, h12⟩ := hz
  have htop := topN_le st
  obtain ⟨p1, p2, p3, p4, p5, p6, p7, p8⟩ := @word_parts k a r wr x s h11 (by omega) (by omega)
  have pk : decK lv (wordN k a r wr x s) = k := by
    unfold decK; rw [p3]
    by_cases e : k = 2
    · subst e; rfl
    · rw [decide_eq_true (show k ≠ 2 from e), cond_true]
      split <;> omega
  refine ⟨?_, p1, p2, pk, p8, p4, p5, p6, p7⟩
  unfold decE
  rw [pk, p8, p4, p5, p6, p7]
  rw [if_neg (by simpa using h0), if_neg (by omega), if_neg, if_neg (by omega), if_neg (by simpa using h)]
  rw [Classical.not_not]
  exact ⟨check_base hk h, (wordN_add k a r wr x s).symm⟩

/-! The word as the program makes it. -/

theorem or_flags (b r wr x : Bool) : bits .or .u64 (bits .or .u64 (bits .or .u64 (bits .or .u64 1 (flagN b 1 : Nat)) (flagN r 6 : Nat)) (flagN wr 7 : Nat)) (flagN x 8 : Nat) = ((1 + flagN b 1 + flagN r 6 + flagN wr 7 + flagN x 8 : Nat) : Int) := by
  cases b <;> cases r <;> cases wr <;> cases x <;> rfl

theorem or_low {i : Nat} (q b : Nat) (h : b < 2 ^ i) : b ||| 2 ^ i * q = b + 2 ^ i * q := by
  rw [Nat.or_comm, ← Nat.two_pow_add_eq_or_of_lt h, Nat.add_comm]

theorem ne_two (k : Int) : (k != 2) = decide (k ≠ 2) := by
  by_cases h : k = 2
  · subst h; rfl
  · rw [decide_eq_true h, bne_iff_ne.2 h]

theorem word_or {k : Int} {a : Nat} {r wr x : Bool} {s : Int} (ha : a % 4096 = 0) (hl : a < 281474976710656) (hs : 0 ≤ s) (hs2 : s ≤ 15) :
    bits .or .u64 (bits .or .u64 (bits .or .u64 (bits .or .u64 (bits .or .u64 (bits .or .u64 1 (flagN (k != 2) 1 : Nat)) (flagN r 6 : Nat)) (flagN wr 7 : Nat)) (flagN x 8 : Nat)) (a : Int))
      (IntKind.u64.wrap (IntKind.u64.wrap s * 36028797018963968)) = ((wordN k a r wr x s.toNat : Nat) : Int) := by
  rw [ne_two, or_flags]
  have hF := flags_lt (decide (k ≠ 2)) r wr x
  have hw : IntKind.u64.wrap (IntKind.u64.wrap s * 36028797018963968) = ((2 ^ 55 * s.toNat : Nat) : Int) := by
    rw [show IntKind.u64.wrap s = s by rw [IntKind.wrap_u64]; omega]
    rw [IntKind.wrap_u64]; omega
  rw [hw]
  unfold wordN
  generalize 1 + flagN (decide (k ≠ 2)) 1 + flagN r 6 + flagN wr 7 + flagN x 8 = F at *
  rw [bits_or_u64_nat _ _ (by omega) (by omega)]
  have h1 : F ||| a = F + a := by
    have := or_low (i := 12) (a / 4096) F hF
    rw [show 2 ^ 12 * (a / 4096) = a by omega] at this
    exact this
  rw [h1, bits_or_u64_nat _ _ (by omega) (by omega), or_low _ _ (by omega)]
  congr 1
  omega

theorem word_add {k : Int} {a : Nat} {r wr x : Bool} {s : Int} (ha : a % 4096 = 0) (hl : a < 281474976710656) (hs : 0 ≤ s) (hs2 : s ≤ 15) :
    IntKind.u64.wrap (IntKind.u64.wrap (IntKind.u64.wrap (IntKind.u64.wrap (IntKind.u64.wrap (IntKind.u64.wrap (1 + (flagN (k != 2) 1 : Nat)) + (flagN r 6 : Nat)) + (flagN wr 7 : Nat)) + (flagN x 8 : Nat)) + (a : Int)) +
      IntKind.u64.wrap (IntKind.u64.wrap s * 36028797018963968)) = ((wordN k a r wr x s.toNat : Nat) : Int) := by
  rw [ne_two]
  have hF := flags_lt (decide (k ≠ 2)) r wr x
  rw [show IntKind.u64.wrap s = s by rw [IntKind.wrap_u64]; omega]
  unfold wordN
  generalize flagN (decide (k ≠ 2)) 1 = F1 at *
  generalize flagN r 6 = F2 at *
  generalize flagN wr 7 = F3 at *
  generalize flagN x 8 = F4 at *
  simp only [IntKind.wrap_u64]
  omega

end Go.Proofs.Ytlbehhbicmmdoaa
