/- The statements of layer 15: lines. -/
import Derived.Test.YtfiofjalpaeohaaTlbLines
namespace Go.Proofs.Ytfiofjalpaeohaa
set_option linter.unusedVariables false
set_option linter.unusedSimpArgs false
open Go.RowKit

section
variable {w : World}
set_option maxHeartbeats 8000000 in
set_option maxRecDepth 100000 in
theorem lines_calls {B1 B2 : Nat} {v1 v2 : Value} {L1 L2 : List Ln} (h1 : OwnLns w B1 v1 L1) (h2 : OwnLns w B2 v2 L2) (hl : L1.length ≤ 1000) :
    Calls Try.prog 32 #[v1, v2] w (RetB w (.bool (decide (L1 = L2)))) := by
  by_cases hne : L1.length = L2.length
  · obtain ⟨r, hr⟩ : ∃ r, decide (L1 = L2) = r := ⟨_, rfl⟩
    rw [hr]
    obtain ⟨ad1, c1, rfl, _, _, _, q1⟩ := own_value h1
    obtain ⟨ad2, c2, rfl, _, _, _, q2⟩ := own_value h2
    have HO1 := Lib.hid (And.intro h1 q1)
    have HO2 := Lib.hid (And.intro h2 q2)
    rw [← hne]
    have HR := Lib.hid hr
    have HN := Lib.hid hne
    obtain ⟨N, hN⟩ : ∃ N, N = L1.length := ⟨_, rfl⟩
    rw [← hN]
    have HL := Lib.hid hN
    have n1 : (N : Int) ≤ 1000 := by omega
    clear h1 h2 hl hne hr hN q1 q2
    go_enter Try.func32, Try.ntmps32
    go_wp2
    go_loopw [5] (fun s5 wx => ∃ k : Nat, k ≤ N ∧ s5 = .int .i64 (k : Nat) ∧ Old w wx ∧ L1.take k = L2.take k) (fun s5 _ => N - (intOf s5).toNat)
    case atStart => exact ⟨0, by omega, rfl, old_refl _, by simp⟩
    case round =>
      obtain ⟨k, hk, rfl, hO, ht⟩ := hrel
      by_cases hkn : k = N
      · subst hkn
        have hrt : r = true := by
          rw [← HR.out, decide_eq_true_iff]
          rw [List.take_of_length_le (by rw [← HL.out]; exact Nat.le_refl _), List.take_of_length_le (by rw [← HN.out, ← HL.out]; exact Nat.le_refl _)] at ht
          exact ht
        subst hrt
        clear hk ht
        go_wp2
        go_ret
        exact ⟨rfl, hO⟩
      · have hlt : k < N := by omega
        obtain ⟨a, ha⟩ : ∃ a, L1[k]? = some a := ⟨_, List.getElem?_eq_getElem (by rw [← HL.out]; exact hlt)⟩
        obtain ⟨b, hb⟩ : ∃ b, L2[k]? = some b := ⟨_, List.getElem?_eq_getElem (by rw [← HN.out, ← HL.out]; exact hlt)⟩
        obtain ⟨g1, rfl⟩ := HO1.out.2 (by rw [← HL.out]; omega)
        obtain ⟨g2, rfl⟩ := HO2.out.2 (by rw [← HN.out, ← HL.out]; omega)
        have k1 : ∀ x, Old w x → ∀ (c : Nat) (u : Value), a.cells[c]? = some u → x.cell? ⟨g1, k * 11 + c, none⟩ = some u := fun x hx cc u hu => own_cell (own_old HO1.out.1 hx) rfl _ (flatC_get ln_len L1 k a cc u ha hu)
        have k2 : ∀ x, Old w x → ∀ (c : Nat) (u : Value), b.cells[c]? = some u → x.cell? ⟨g2, k * 11 + c, none⟩ = some u := fun x hx cc u hu => own_cell (own_old HO2.out.1 hx) rfl _ (flatC_get ln_len L2 k b cc u hb hu)
        have HK := Lib.hid (And.intro k1 k2)
        have i1 : (k : Int) < N := by omega
        have heq := eq_line a b
        obtain ⟨e, he⟩ : ∃ e, lnB a b = e := ⟨_, rfl⟩
        rw [he] at heq
        have HE := Lib.hid he
        have HT := Lib.hid (And.intro ht (And.intro ha hb))
        have HO := Lib.hid hO
        have HLT := Lib.hid hlt
        clear hk hO ht hkn hlt ha hb k1 k2 he
        go_upto_region 6 with (fail)
        refine wp_region_walked (S := Old w) (by kernel_rfl) (by kernel_rfl) (old_drew HO.out) ?_
        apply walked_cons
        · intro wS hS
          go_wp2
          exact ⟨rfl, rfl, hS⟩
        · rfl
        (try simp only [Act.put, List.setIfInBounds_toArray, List.set_cons_succ, List.set_cons_zero])
        apply walked_cons
        · intro wS hS
          go_wp2
          exact ⟨rfl, rfl, hS⟩
        · rfl
        (try simp only [Act.put, List.setIfInBounds_toArray, List.set_cons_succ, List.set_cons_zero])
        apply walked_cons
        · intro wS hS
          go_wp2
          exact ⟨rfl, rfl, hS⟩
        · rfl
        (try simp only [Act.put, List.setIfInBounds_toArray, List.set_cons_succ, List.set_cons_zero])
        apply walked_cons
        · intro wS hS
          go_wp2_with (refine wpList_load_at rfl 64 _ rfl g1 (k * 11) rfl a.cells _ (HK.out.1 wS hS) Try.underlying64 rfl (by kernel_rfl) ?_)
          exact ⟨rfl, rfl, hS⟩
        · rfl
        (try simp only [Act.put, List.setIfInBounds_toArray, List.set_cons_succ, List.set_cons_zero])
        apply walked_cons
        · intro wS hS
          go_wp2
          exact ⟨rfl, rfl, hS⟩
        · rfl
        (try simp only [Act.put, List.setIfInBounds_toArray, List.set_cons_succ, List.set_cons_zero])
        apply walked_cons
        · intro wS hS
          go_wp2
          exact ⟨rfl, rfl, hS⟩
        · rfl
        (try simp only [Act.put, List.setIfInBounds_toArray, List.set_cons_succ, List.set_cons_zero])
        apply walked_cons
        · intro wS hS
          go_wp2
          exact ⟨rfl, rfl, hS⟩
        · rfl
        (try simp only [Act.put, List.setIfInBounds_toArray, List.set_cons_succ, List.set_cons_zero])
        apply walked_cons
        · intro wS hS
          go_wp2_with (refine wpList_load_at rfl 64 _ rfl g2 (k * 11) rfl b.cells _ (HK.out.2 wS hS) Try.underlying64 rfl (by kernel_rfl) ?_)
          exact ⟨rfl, rfl, hS⟩
        · rfl
        (try simp only [Act.put, List.setIfInBounds_toArray, List.set_cons_succ, List.set_cons_zero])
        apply walked_cons
        · intro wS hS
          go_wp2
          exact ⟨rfl, rfl, hS⟩
        · rfl
        (try simp only [Act.put, List.setIfInBounds_toArray, List.set_cons_succ, List.set_cons_zero])
        apply walked_nil
        intro wS hS
        cases e
        case true =>
          go_wp2
          go_roundw
          case rel =>
            obtain ⟨ht, ha, hb⟩ := HT.out
            refine ⟨k + 1, HLT.out, by simp, hS, ?_⟩
            rw [take_get _ _ _ ha, take_get _ _ _ hb, ht, (lnB_iff a b).1 HE.out]
          case measure => have := HLT.out; (simp [intOf]) <;> omega
        case false =>
          have hrf : r = false := by
            rw [← HR.out, decide_eq_false_iff_not]
            intro e
            obtain ⟨ht, ha, hb⟩ := HT.out
            rw [e, hb] at ha
            obtain rfl := Option.some.inj ha
            have := (lnB_iff b b).2 rfl
            rw [HE.out] at this
            cases this
          subst hrf
          go_wp2
          go_ret
          exact ⟨rfl, hS⟩
  · have e : decide (L1 = L2) = false := decide_eq_false (fun h => hne (by rw [h]))
    rw [e]
    obtain ⟨ad1, c1, rfl, _⟩ := own_value h1
    obtain ⟨ad2, c2, rfl, _⟩ := own_value h2
    have hn' : ¬ (L1.length : Int) = (L2.length : Int) := by omega
    have hb : ((L1.length : Int) != (L2.length : Int)) = true := by simp; omega
    generalize L1.length = x1 at *
    generalize L2.length = x2 at *
    clear h1 h2 hne e
    go_enter Try.func32, Try.ntmps32
    go_wp2
    go_ret
    exact ⟨rfl, old_refl _⟩
end
end Go.Proofs.Ytfiofjalpaeohaa
