/- Two calls in a chain that turn the world, beside reads, in one drawn statement. No function of the program stands here. -/
import Derived.Test.YtfiofjalpaeohaaStageM
namespace Go.Proofs.Ytfiofjalpaeohaa
set_option linter.unusedVariables false
set_option linter.unusedSimpArgs false
open Go.RowKit

/-- A till operation i has come, then B till j has, then C. -/
def TwoCalls (i j : Nat) (A B C : World → Prop) (l : Array Bool) (x : World) : Prop :=
  (l.getD j false = true → C x) ∧ (l.getD j false = false → l.getD i false = true → B x) ∧ (l.getD i false = false → A x) ∧ (l.getD j false = true → l.getD i false = true)
section
variable {i j : Nat} {A B C : World → Prop} {l : Array Bool} {x : World}
theorem two_other (k : Nat) (hi : k ≠ i) (hj : k ≠ j) (h : TwoCalls i j A B C l x) : TwoCalls i j A B C (l.setIfInBounds k true) x := by
  unfold TwoCalls at h ⊢
  rw [getD_set_ne false hi, getD_set_ne false hj]; exact h
theorem two_start (n : Nat) (h : A x) : TwoCalls i j A B C (Array.replicate n false) x := by
  have e : ∀ k : Nat, (Array.replicate n false).getD k false = false := by intro k; simp [Array.getElem?_replicate]; split <;> rfl
  unfold TwoCalls
  rw [e, e]
  exact ⟨fun f => (by cases f), fun _ f => (by cases f), fun _ => h, fun f => (by cases f)⟩
theorem two_any {P : World → Prop} (h : TwoCalls i j A B C l x) (hA : A x → P x) (hB : B x → P x) (hC : C x → P x) : P x := by
  obtain ⟨h1, h2, h3, _⟩ := h
  cases e : l.getD j false with
  | true => exact hC (h1 e)
  | false =>
    cases e2 : l.getD i false with
    | true => exact hB (h2 e e2)
    | false => exact hA (h3 e2)
theorem two_first (hij : i ≠ j) (hl : i < l.size) (hn : l.getD i false = false) (h : TwoCalls i j A B C l x) : A x ∧ ∀ y, B y → TwoCalls i j A B C (l.setIfInBounds i true) y := by
  obtain ⟨h1, h2, h3, h4⟩ := h
  have nj : l.getD j false = false := by
    cases e : l.getD j false with
    | false => rfl
    | true => have := h4 e; rw [hn] at this; cases this
  have si : (l.setIfInBounds i true).getD i false = true := by simp [hl]
  refine ⟨h3 hn, fun y hy => ?_⟩
  unfold TwoCalls
  rw [si, getD_set_ne false hij, nj]
  exact ⟨fun f => (by cases f), fun _ _ => hy, fun f => (by cases f), fun _ => rfl⟩
theorem two_second (hij : i ≠ j) (hl : j < l.size) (hi : l.getD i false = true) (hn : l.getD j false = false) (h : TwoCalls i j A B C l x) : B x ∧ ∀ y, C y → TwoCalls i j A B C (l.setIfInBounds j true) y := by
  obtain ⟨h1, h2, h3, h4⟩ := h
  have sj : (l.setIfInBounds j true).getD j false = true := by simp [hl]
  refine ⟨h2 hn hi, fun y hy => ?_⟩
  unfold TwoCalls
  rw [sj, getD_set_ne false hij.symm, hi]
  exact ⟨fun _ => hy, fun f => (by cases f), fun f => (by cases f), fun _ => rfl⟩
theorem two_end (hj : l.getD j false = true) (h : TwoCalls i j A B C l x) : C x := h.1 hj
end
end Go.Proofs.Ytfiofjalpaeohaa
