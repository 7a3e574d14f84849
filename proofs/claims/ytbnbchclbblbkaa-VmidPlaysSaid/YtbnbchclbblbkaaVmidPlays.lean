/- The statement VmidPlays: the plain law: of (by guest) and own (by ID) say the same. -/
import Derived.Test.YtbnbchclbblbkaaRef16
namespace Go.Proofs.Ytbnbchclbblbkaa
set_option linter.unusedVariables false
set_option linter.unusedSimpArgs false
open Go.RowKit

/-- The two tellings agree; q have been given in this turn. -/
def Same (n q : Nat) (of own : List Int) : Prop :=
  of.length = 256 ∧ own.length = n ∧ q ≤ n ∧ (∀ g i : Nat, 1 ≤ g → g ≤ 255 → (of[g]? = some ((i : Int) + 1) ↔ own[i]? = some (g : Int))) ∧
    (∀ (g : Nat) (x : Int), of[g]? = some x → 0 ≤ x) ∧ ∀ i : Nat, q ≤ i → i < n → own[i]? = some 0

theorem same_first (n : Nat) : Same n 0 zeros256 (List.replicate n 0) := by
  refine ⟨by unfold zeros256; exact List.length_replicate, List.length_replicate, by omega, fun g i h1 h2 => ⟨fun h => ?_, fun h => ?_⟩, fun g x h => ?_, fun i _ hi => by rw [List.getElem?_replicate, if_pos hi]⟩
  · rw [zeros_get g (by omega)] at h
    have := Option.some.inj h
    omega
  · rw [List.getElem?_replicate] at h
    split at h
    · have := Option.some.inj h; omega
    · cases h
  · unfold zeros256 at h
    rw [List.getElem?_replicate] at h
    split at h
    · have := Option.some.inj h; omega
    · cases h

theorem same_owns {n q g i : Nat} {of own : List Int} (h : Same n q of own) (h1 : 1 ≤ g) (h2 : g ≤ 255) (hx : of[g]? = some ((i : Int) + 1)) : OwnsAt own g i := by
  refine ⟨(h.2.2.2.1 g i h1 h2).1 hx, fun j hj e => ?_⟩
  have := (h.2.2.2.1 g j h1 h2).2 e
  rw [hx] at this
  have := Option.some.inj this
  omega

theorem same_none {n q g : Nat} {of own : List Int} (h : Same n q of own) (h1 : 1 ≤ g) (h2 : g ≤ 255) (hx : of[g]? = some 0) : ∀ j : Nat, own[j]? ≠ some (g : Int) := by
  intro j e
  have := (h.2.2.2.1 g j h1 h2).2 e
  rw [hx] at this
  have := Option.some.inj this
  omega

theorem same_new {n q g : Nat} {of own : List Int} (h : Same n q of own) (h1 : 1 ≤ g) (h2 : g ≤ 255) (hx : of[g]? = some 0) (hq : q < n) : Same n (q + 1) (of.set g ((q : Int) + 1)) (own.set q g) := by
  have hno := same_none h h1 h2 hx
  obtain ⟨a, b, c, d, e, f⟩ := h
  refine ⟨by rw [List.length_set]; exact a, by rw [List.length_set]; exact b, by omega, fun g' i k1 k2 => ?_, fun g' x hx' => ?_, fun i i1 i2 => by rw [List.getElem?_set_ne (by omega)]; exact f i (by omega) i2⟩
  · by_cases hg : g = g'
    · subst hg
      rw [List.getElem?_set_self (by omega)]
      by_cases hi : q = i
      · subst hi
        rw [List.getElem?_set_self (by omega)]
        exact ⟨fun _ => rfl, fun _ => rfl⟩
      · rw [List.getElem?_set_ne hi]
        constructor
        · intro k; have := Option.some.inj k; omega
        · intro k; exact absurd k (hno i)
    · rw [List.getElem?_set_ne hg]
      by_cases hi : q = i
      · subst hi
        rw [List.getElem?_set_self (by omega), d g' q k1 k2, f q (Nat.le_refl _) hq]
        constructor
        · intro k; have := Option.some.inj k; omega
        · intro k; have := Option.some.inj k; omega
      · rw [List.getElem?_set_ne hi]; exact d g' i k1 k2
  · by_cases hg : g = g'
    · subst hg
      rw [List.getElem?_set_self (by omega)] at hx'
      have := Option.some.inj hx'
      omega
    · rw [List.getElem?_set_ne hg] at hx'; exact e g' x hx'

theorem same_drop {n q g i : Nat} {of own : List Int} (h : Same n q of own) (h1 : 1 ≤ g) (h2 : g ≤ 255) (hx : of[g]? = some ((i : Int) + 1)) : Same n q (of.set g 0) (own.set i 0) := by
  have hown := same_owns h h1 h2 hx
  obtain ⟨a, b, c, d, e, f⟩ := h
  have hil := (List.getElem?_eq_some_iff.1 hown.1).1
  refine ⟨by rw [List.length_set]; exact a, by rw [List.length_set]; exact b, c, fun g' j k1 k2 => ?_, fun g' x hx' => ?_, fun j i1 i2 => ?_⟩
  · by_cases hg : g = g'
    · subst hg
      rw [List.getElem?_set_self (by omega)]
      by_cases hi : i = j
      · subst hi
        rw [List.getElem?_set_self hil]
        constructor
        · intro k; have := Option.some.inj k; omega
        · intro k; have := Option.some.inj k; omega
      · rw [List.getElem?_set_ne hi]
        constructor
        · intro k; have := Option.some.inj k; omega
        · intro k
          have := (d g j k1 k2).2 k
          rw [hx] at this
          have := Option.some.inj this
          omega
    · rw [List.getElem?_set_ne hg]
      by_cases hi : i = j
      · subst hi
        rw [List.getElem?_set_self hil, d g' i k1 k2, hown.1]
        constructor
        · intro k; have := Option.some.inj k; omega
        · intro k; have := Option.some.inj k; omega
      · rw [List.getElem?_set_ne hi]; exact d g' j k1 k2
  · by_cases hg : g = g'
    · subst hg
      rw [List.getElem?_set_self (by omega)] at hx'
      have := Option.some.inj hx'
      omega
    · rw [List.getElem?_set_ne hg] at hx'; exact e g' x hx'
  · by_cases hi : i = j
    · subst hi
      rw [List.getElem?_set_self hil]
    · rw [List.getElem?_set_ne hi]; exact f j i1 i2

end Go.Proofs.Ytbnbchclbblbkaa
