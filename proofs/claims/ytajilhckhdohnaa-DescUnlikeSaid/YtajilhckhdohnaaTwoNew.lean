/- A drawn statement that makes two new variables out of two calls ('m, n := f(..), f(..)'): eight values, two allocations, two stores. No function of the program stands here. -/
import Derived.Test.YtajilhckhdohnaaInv
namespace Go.Proofs.Ytajilhckhdohnaa
set_option linter.unusedVariables false
set_option linter.unusedSimpArgs false
open Go.RowKit

/-- The two new variables, as far as they have come. -/
def TwoNew (m : Nat) (Z A B : Array Value) (t : TypeId) (l : Array Bool) (v7 v8 : Value) (x : World) : Prop :=
  (l.getD 8 false = true → ∃ p, v7 = .pointer (some ⟨p, 0, none⟩) ∧ m < p ∧ x.heap[p]? = some (.cells (bif l.getD 10 false then A else Z) t)) ∧
  (l.getD 9 false = true → ∃ q, v8 = .pointer (some ⟨q, 0, none⟩) ∧ m < q ∧ x.heap[q]? = some (.cells (bif l.getD 11 false then B else Z) t)) ∧
  (l.getD 8 false = true → l.getD 9 false = true → v7 ≠ v8) ∧ (l.getD 10 false = true → l.getD 8 false = true) ∧ (l.getD 11 false = true → l.getD 9 false = true)

theorem twoNew_set {m : Nat} {Z A B : Array Value} {t : TypeId} {l : Array Bool} {v7 v8 : Value} {x y : World} (j : Nat) (hj : j < 8) (h : TwoNew m Z A B t l v7 v8 x) (ho : Old x y) : TwoNew m Z A B t (l.setIfInBounds j true) v7 v8 y := by
  unfold TwoNew at h ⊢
  simp only [getD_set_ne false (show j ≠ 8 by omega), getD_set_ne false (show j ≠ 9 by omega), getD_set_ne false (show j ≠ 10 by omega), getD_set_ne false (show j ≠ 11 by omega)]
  refine ⟨fun e => ?_, fun e => ?_, h.2.2⟩
  · obtain ⟨p, a, b, c⟩ := h.1 e
    exact ⟨p, a, b, keep_old ho c⟩
  · obtain ⟨p, a, b, c⟩ := h.2.1 e
    exact ⟨p, a, b, keep_old ho c⟩

theorem twoNew_8 {m : Nat} {Z A B : Array Value} {t : TypeId} {l : Array Bool} {v7 v8 : Value} {x : World} (hl : l.size = 12) (hn : l.getD 8 false = false) (hx : m < x.heap.size) (h : TwoNew m Z A B t l v7 v8 x) :
    TwoNew m Z A B t (l.setIfInBounds 8 true) (.pointer (some ⟨x.heap.size, 0, none⟩)) v8 (x.alloc (.cells Z t)) := by
  unfold TwoNew at h ⊢
  have e8 : (l.setIfInBounds 8 true).getD 8 false = true := by simp [hl]
  have e10 : l.getD 10 false = false := by
    cases h10 : l.getD 10 false with
    | false => rfl
    | true => have := h.2.2.2.1 h10; rw [hn] at this; cases this
  simp only [getD_set_ne false (show (8 : Nat) ≠ 9 by decide), getD_set_ne false (show (8 : Nat) ≠ 10 by decide), getD_set_ne false (show (8 : Nat) ≠ 11 by decide), e8, e10]
  refine ⟨fun _ => ⟨_, rfl, hx, new_block _ _⟩, fun e => ?_, fun _ e => ?_, (fun e => by cases e), h.2.2.2.2⟩
  · obtain ⟨q, a, b, c⟩ := h.2.1 e
    exact ⟨q, a, b, keep_alloc _ c⟩
  · obtain ⟨q, a, b, c⟩ := h.2.1 e
    rw [a]
    intro e'
    have := lt_of_block c
    have e2 : x.heap.size = q := by
      injection e' with e'
      injection e' with e'
      injection e' with e'
    omega
theorem twoNew_9 {m : Nat} {Z A B : Array Value} {t : TypeId} {l : Array Bool} {v7 v8 : Value} {x : World} (hl : l.size = 12) (hn : l.getD 9 false = false) (hx : m < x.heap.size) (h : TwoNew m Z A B t l v7 v8 x) :
    TwoNew m Z A B t (l.setIfInBounds 9 true) v7 (.pointer (some ⟨x.heap.size, 0, none⟩)) (x.alloc (.cells Z t)) := by
  unfold TwoNew at h ⊢
  have e9 : (l.setIfInBounds 9 true).getD 9 false = true := by simp [hl]
  have e11 : l.getD 11 false = false := by
    cases h11 : l.getD 11 false with
    | false => rfl
    | true => have := h.2.2.2.2 h11; rw [hn] at this; cases this
  simp only [getD_set_ne false (show (9 : Nat) ≠ 8 by decide), getD_set_ne false (show (9 : Nat) ≠ 10 by decide), getD_set_ne false (show (9 : Nat) ≠ 11 by decide), e9, e11]
  refine ⟨fun e => ?_, fun _ => ⟨_, rfl, hx, new_block _ _⟩, fun e _ => ?_, h.2.2.2.1, (fun e => by cases e)⟩
  · obtain ⟨q, a, b, c⟩ := h.1 e
    exact ⟨q, a, b, keep_alloc _ c⟩
  · obtain ⟨q, a, b, c⟩ := h.1 e
    rw [a]
    intro e'
    have := lt_of_block c
    have e2 : q = x.heap.size := by
      injection e' with e'
      injection e' with e'
      injection e' with e'
    omega
theorem twoNew_10 {m : Nat} {Z A B : Array Value} {t : TypeId} {l : Array Bool} {v7 v8 : Value} {x : World} {p : Nat} (hl : l.size = 12) (h8 : l.getD 8 false = true) (hp : v7 = .pointer (some ⟨p, 0, none⟩)) (h : TwoNew m Z A B t l v7 v8 x) :
    TwoNew m Z A B t (l.setIfInBounds 10 true) v7 v8 (putB x p (.cells A t)) := by
  unfold TwoNew at h ⊢
  have e10 : (l.setIfInBounds 10 true).getD 10 false = true := by simp [hl]
  simp only [getD_set_ne false (show (10 : Nat) ≠ 8 by decide), getD_set_ne false (show (10 : Nat) ≠ 9 by decide), getD_set_ne false (show (10 : Nat) ≠ 11 by decide), e10]
  refine ⟨fun e => ?_, fun e => ?_, h.2.2.1, fun _ => h8, h.2.2.2.2⟩
  · obtain ⟨q, a, b, c⟩ := h.1 e
    rw [hp] at a
    obtain rfl : p = q := by injection a with a; injection a with a; injection a
    exact ⟨p, hp, b, putB_same _ (lt_of_block c)⟩
  · obtain ⟨q, a, b, c⟩ := h.2.1 e
    have hne : p ≠ q := fun e' => h.2.2.1 h8 e (by rw [hp, a, e'])
    exact ⟨q, a, b, by rw [putB_other _ hne]; exact c⟩
theorem twoNew_11 {m : Nat} {Z A B : Array Value} {t : TypeId} {l : Array Bool} {v7 v8 : Value} {x : World} {p : Nat} (hl : l.size = 12) (h9 : l.getD 9 false = true) (hp : v8 = .pointer (some ⟨p, 0, none⟩)) (h : TwoNew m Z A B t l v7 v8 x) :
    TwoNew m Z A B t (l.setIfInBounds 11 true) v7 v8 (putB x p (.cells B t)) := by
  unfold TwoNew at h ⊢
  have e11 : (l.setIfInBounds 11 true).getD 11 false = true := by simp [hl]
  simp only [getD_set_ne false (show (11 : Nat) ≠ 8 by decide), getD_set_ne false (show (11 : Nat) ≠ 9 by decide), getD_set_ne false (show (11 : Nat) ≠ 10 by decide), e11]
  refine ⟨fun e => ?_, fun e => ?_, h.2.2.1, h.2.2.2.1, fun _ => h9⟩
  · obtain ⟨q, a, b, c⟩ := h.1 e
    have hne : p ≠ q := fun e' => h.2.2.1 e h9 (by rw [hp, a, e'])
    exact ⟨q, a, b, by rw [putB_other _ hne]; exact c⟩
  · obtain ⟨q, a, b, c⟩ := h.2.1 e
    rw [hp] at a
    obtain rfl : p = q := by injection a with a; injection a with a; injection a
    exact ⟨p, hp, b, putB_same _ (lt_of_block c)⟩

/-- The values, as far as they have come. -/
def EightVals (c0 c1 c2 c3 c4 c5 c6 c7 : Value) (l : Array Bool) (v0 v1 v2 v3 v4 v5 v6 v7 : Value) : Prop := (l.getD 0 false = true → v0 = c0) ∧ (l.getD 1 false = true → v1 = c1) ∧ (l.getD 2 false = true → v2 = c2) ∧ (l.getD 3 false = true → v3 = c3) ∧ (l.getD 4 false = true → v4 = c4) ∧ (l.getD 5 false = true → v5 = c5) ∧ (l.getD 6 false = true → v6 = c6) ∧ (l.getD 7 false = true → v7 = c7)
theorem eightVals_set {c0 c1 c2 c3 c4 c5 c6 c7 : Value} {l : Array Bool} {v0 v1 v2 v3 v4 v5 v6 v7 : Value} (j : Nat) (hj : 8 ≤ j) (h : EightVals c0 c1 c2 c3 c4 c5 c6 c7 l v0 v1 v2 v3 v4 v5 v6 v7) : EightVals c0 c1 c2 c3 c4 c5 c6 c7 (l.setIfInBounds j true) v0 v1 v2 v3 v4 v5 v6 v7 := by
  unfold EightVals at h ⊢
  simp only [getD_set_ne false (show j ≠ 0 by omega), getD_set_ne false (show j ≠ 1 by omega), getD_set_ne false (show j ≠ 2 by omega), getD_set_ne false (show j ≠ 3 by omega), getD_set_ne false (show j ≠ 4 by omega), getD_set_ne false (show j ≠ 5 by omega), getD_set_ne false (show j ≠ 6 by omega), getD_set_ne false (show j ≠ 7 by omega)]
  exact h
theorem eightVals_0 {c0 c1 c2 c3 c4 c5 c6 c7 : Value} {l : Array Bool} {v0 v1 v2 v3 v4 v5 v6 v7 : Value} (h : EightVals c0 c1 c2 c3 c4 c5 c6 c7 l v0 v1 v2 v3 v4 v5 v6 v7) : EightVals c0 c1 c2 c3 c4 c5 c6 c7 (l.setIfInBounds 0 true) c0 v1 v2 v3 v4 v5 v6 v7 := by
  unfold EightVals at h ⊢
  obtain ⟨h0, h1, h2, h3, h4, h5, h6, h7⟩ := h
  exact ⟨fun _ => rfl, fun e => h1 (by rwa [getD_set_ne false (by decide)] at e), fun e => h2 (by rwa [getD_set_ne false (by decide)] at e), fun e => h3 (by rwa [getD_set_ne false (by decide)] at e), fun e => h4 (by rwa [getD_set_ne false (by decide)] at e), fun e => h5 (by rwa [getD_set_ne false (by decide)] at e), fun e => h6 (by rwa [getD_set_ne false (by decide)] at e), fun e => h7 (by rwa [getD_set_ne false (by decide)] at e)⟩
theorem eightVals_1 {c0 c1 c2 c3 c4 c5 c6 c7 : Value} {l : Array Bool} {v0 v1 v2 v3 v4 v5 v6 v7 : Value} (h : EightVals c0 c1 c2 c3 c4 c5 c6 c7 l v0 v1 v2 v3 v4 v5 v6 v7) : EightVals c0 c1 c2 c3 c4 c5 c6 c7 (l.setIfInBounds 1 true) v0 c1 v2 v3 v4 v5 v6 v7 := by
  unfold EightVals at h ⊢
  obtain ⟨h0, h1, h2, h3, h4, h5, h6, h7⟩ := h
  exact ⟨fun e => h0 (by rwa [getD_set_ne false (by decide)] at e), fun _ => rfl, fun e => h2 (by rwa [getD_set_ne false (by decide)] at e), fun e => h3 (by rwa [getD_set_ne false (by decide)] at e), fun e => h4 (by rwa [getD_set_ne false (by decide)] at e), fun e => h5 (by rwa [getD_set_ne false (by decide)] at e), fun e => h6 (by rwa [getD_set_ne false (by decide)] at e), fun e => h7 (by rwa [getD_set_ne false (by decide)] at e)⟩
theorem eightVals_2 {c0 c1 c2 c3 c4 c5 c6 c7 : Value} {l : Array Bool} {v0 v1 v2 v3 v4 v5 v6 v7 : Value} (h : EightVals c0 c1 c2 c3 c4 c5 c6 c7 l v0 v1 v2 v3 v4 v5 v6 v7) : EightVals c0 c1 c2 c3 c4 c5 c6 c7 (l.setIfInBounds 2 true) v0 v1 c2 v3 v4 v5 v6 v7 := by
  unfold EightVals at h ⊢
  obtain ⟨h0, h1, h2, h3, h4, h5, h6, h7⟩ := h
  exact ⟨fun e => h0 (by rwa [getD_set_ne false (by decide)] at e), fun e => h1 (by rwa [getD_set_ne false (by decide)] at e), fun _ => rfl, fun e => h3 (by rwa [getD_set_ne false (by decide)] at e), fun e => h4 (by rwa [getD_set_ne false (by decide)] at e), fun e => h5 (by rwa [getD_set_ne false (by decide)] at e), fun e => h6 (by rwa [getD_set_ne false (by decide)] at e), fun e => h7 (by rwa [getD_set_ne false (by decide)] at e)⟩
theorem eightVals_3 {c0 c1 c2 c3 c4 c5 c6 c7 : Value} {l : Array Bool} {v0 v1 v2 v3 v4 v5 v6 v7 : Value} (h : EightVals c0 c1 c2 c3 c4 c5 c6 c7 l v0 v1 v2 v3 v4 v5 v6 v7) : EightVals c0 c1 c2 c3 c4 c5 c6 c7 (l.setIfInBounds 3 true) v0 v1 v2 c3 v4 v5 v6 v7 := by
  unfold EightVals at h ⊢
  obtain ⟨h0, h1, h2, h3, h4, h5, h6, h7⟩ := h
  exact ⟨fun e => h0 (by rwa [getD_set_ne false (by decide)] at e), fun e => h1 (by rwa [getD_set_ne false (by decide)] at e), fun e => h2 (by rwa [getD_set_ne false (by decide)] at e), fun _ => rfl, fun e => h4 (by rwa [getD_set_ne false (by decide)] at e), fun e => h5 (by rwa [getD_set_ne false (by decide)] at e), fun e => h6 (by rwa [getD_set_ne false (by decide)] at e), fun e => h7 (by rwa [getD_set_ne false (by decide)] at e)⟩
theorem eightVals_4 {c0 c1 c2 c3 c4 c5 c6 c7 : Value} {l : Array Bool} {v0 v1 v2 v3 v4 v5 v6 v7 : Value} (h : EightVals c0 c1 c2 c3 c4 c5 c6 c7 l v0 v1 v2 v3 v4 v5 v6 v7) : EightVals c0 c1 c2 c3 c4 c5 c6 c7 (l.setIfInBounds 4 true) v0 v1 v2 v3 c4 v5 v6 v7 := by
  unfold EightVals at h ⊢
  obtain ⟨h0, h1, h2, h3, h4, h5, h6, h7⟩ := h
  exact ⟨fun e => h0 (by rwa [getD_set_ne false (by decide)] at e), fun e => h1 (by rwa [getD_set_ne false (by decide)] at e), fun e => h2 (by rwa [getD_set_ne false (by decide)] at e), fun e => h3 (by rwa [getD_set_ne false (by decide)] at e), fun _ => rfl, fun e => h5 (by rwa [getD_set_ne false (by decide)] at e), fun e => h6 (by rwa [getD_set_ne false (by decide)] at e), fun e => h7 (by rwa [getD_set_ne false (by decide)] at e)⟩
theorem eightVals_5 {c0 c1 c2 c3 c4 c5 c6 c7 : Value} {l : Array Bool} {v0 v1 v2 v3 v4 v5 v6 v7 : Value} (h : EightVals c0 c1 c2 c3 c4 c5 c6 c7 l v0 v1 v2 v3 v4 v5 v6 v7) : EightVals c0 c1 c2 c3 c4 c5 c6 c7 (l.setIfInBounds 5 true) v0 v1 v2 v3 v4 c5 v6 v7 := by
  unfold EightVals at h ⊢
  obtain ⟨h0, h1, h2, h3, h4, h5, h6, h7⟩ := h
  exact ⟨fun e => h0 (by rwa [getD_set_ne false (by decide)] at e), fun e => h1 (by rwa [getD_set_ne false (by decide)] at e), fun e => h2 (by rwa [getD_set_ne false (by decide)] at e), fun e => h3 (by rwa [getD_set_ne false (by decide)] at e), fun e => h4 (by rwa [getD_set_ne false (by decide)] at e), fun _ => rfl, fun e => h6 (by rwa [getD_set_ne false (by decide)] at e), fun e => h7 (by rwa [getD_set_ne false (by decide)] at e)⟩
theorem eightVals_6 {c0 c1 c2 c3 c4 c5 c6 c7 : Value} {l : Array Bool} {v0 v1 v2 v3 v4 v5 v6 v7 : Value} (h : EightVals c0 c1 c2 c3 c4 c5 c6 c7 l v0 v1 v2 v3 v4 v5 v6 v7) : EightVals c0 c1 c2 c3 c4 c5 c6 c7 (l.setIfInBounds 6 true) v0 v1 v2 v3 v4 v5 c6 v7 := by
  unfold EightVals at h ⊢
  obtain ⟨h0, h1, h2, h3, h4, h5, h6, h7⟩ := h
  exact ⟨fun e => h0 (by rwa [getD_set_ne false (by decide)] at e), fun e => h1 (by rwa [getD_set_ne false (by decide)] at e), fun e => h2 (by rwa [getD_set_ne false (by decide)] at e), fun e => h3 (by rwa [getD_set_ne false (by decide)] at e), fun e => h4 (by rwa [getD_set_ne false (by decide)] at e), fun e => h5 (by rwa [getD_set_ne false (by decide)] at e), fun _ => rfl, fun e => h7 (by rwa [getD_set_ne false (by decide)] at e)⟩
theorem eightVals_7 {c0 c1 c2 c3 c4 c5 c6 c7 : Value} {l : Array Bool} {v0 v1 v2 v3 v4 v5 v6 v7 : Value} (h : EightVals c0 c1 c2 c3 c4 c5 c6 c7 l v0 v1 v2 v3 v4 v5 v6 v7) : EightVals c0 c1 c2 c3 c4 c5 c6 c7 (l.setIfInBounds 7 true) v0 v1 v2 v3 v4 v5 v6 c7 := by
  unfold EightVals at h ⊢
  obtain ⟨h0, h1, h2, h3, h4, h5, h6, h7⟩ := h
  exact ⟨fun e => h0 (by rwa [getD_set_ne false (by decide)] at e), fun e => h1 (by rwa [getD_set_ne false (by decide)] at e), fun e => h2 (by rwa [getD_set_ne false (by decide)] at e), fun e => h3 (by rwa [getD_set_ne false (by decide)] at e), fun e => h4 (by rwa [getD_set_ne false (by decide)] at e), fun e => h5 (by rwa [getD_set_ne false (by decide)] at e), fun e => h6 (by rwa [getD_set_ne false (by decide)] at e), fun _ => rfl⟩

end Go.Proofs.Ytajilhckhdohnaa
