/- The statement PermOrder: its walk. -/
import Derived.Test.YtbnbchclbblbkaaPerm5
import Derived.Test.YtbnbchclbblbkaaSeq
import Derived.Test.YtbnbchclbblbkaaInv
namespace Go.Proofs.Ytbnbchclbblbkaa
set_option linter.unusedVariables false
set_option linter.unusedSimpArgs false
open Go.RowKit

theorem order_one (a0 a1 a2 b0 b1 b2 c0 c1 c2 : Bool) : (withinB a0 a1 a2 b0 b1 b2 && withinB b0 b1 b2 c0 c1 c2 && !withinB a0 a1 a2 c0 c1 c2 || !withinB a0 a1 a2 a0 a1 a2) = false := by
  cases a0 <;> cases a1 <;> cases a2 <;> cases b0 <;> cases b1 <;> cases b2 <;> cases c0 <;> cases c1 <;> cases c2 <;> rfl
theorem allows_and (a0 a1 a2 b0 b1 b2 : Bool) (k : Int) : allowsB (a0 && b0) (a1 && b1) (a2 && b2) k = (allowsB a0 a1 a2 k && allowsB b0 b1 b2 k) := by
  unfold allowsB; split
  · rfl
  split
  · rfl
  split <;> rfl
theorem order_two (a0 a1 a2 b0 b1 b2 : Bool) (k : Int) : (withinB a0 a1 a2 b0 b1 b2 && allowsB a0 a1 a2 k && !allowsB b0 b1 b2 k) = false := by
  unfold allowsB withinB; split
  · cases a0 <;> cases b0 <;> simp
  split
  · cases a1 <;> cases b1 <;> simp
  split
  · cases a2 <;> cases b2 <;> simp
  simp
theorem text_same (a0 a1 a2 b0 b1 b2 : Bool) : ((permText a0 a1 a2).toList == (permText b0 b1 b2).toList) = (a0 == b0 && (a1 == b1 && (a2 == b2 && true))) := by
  rw [str_beq]
  by_cases h : permText a0 a1 a2 = permText b0 b1 b2
  · obtain ⟨rfl, rfl, rfl⟩ := permText_inj h
    simp
  · rw [decide_eq_false h]
    cases a0 <;> cases a1 <;> cases a2 <;> cases b0 <;> cases b1 <;> cases b2 <;> first | rfl | exact absurd rfl h

/-- The three that came in. -/
abbrev OrdL (w : World) (A B C : Array Value) : List (Nat × Array Value × TypeId) := [(w.heap.size + 1 + 1, C, 23), (w.heap.size + 1, B, 23), (w.heap.size, A, 23)]

/-- While both sums are under way: of what has come, what it gave. -/
def OrdVals (a0 a1 a2 b0 b1 b2 c0 c1 c2 x0 x1 x2 : Bool) (l : Array Bool) (v30 v31 v32 v33 v34 v35 v36 v37 v38 v39 : Value) : Prop :=
  (l.getD 0 false = true → v30 = .agg #[.bool a0, .bool a1, .bool a2]) ∧ (l.getD 1 false = true → v31 = .agg #[.bool b0, .bool b1, .bool b2]) ∧ (l.getD 2 false = true → v32 = .agg #[.bool (a0 && b0), .bool (a1 && b1), .bool (a2 && b2)]) ∧ (l.getD 3 false = true → v33 = .agg #[.bool c0, .bool c1, .bool c2]) ∧ (l.getD 4 false = true → v34 = .agg #[.bool x0, .bool x1, .bool x2]) ∧ (l.getD 5 false = true → v35 = .agg #[.bool a0, .bool a1, .bool a2]) ∧ (l.getD 6 false = true → v36 = .agg #[.bool b0, .bool b1, .bool b2]) ∧ (l.getD 7 false = true → v37 = .agg #[.bool c0, .bool c1, .bool c2]) ∧ (l.getD 8 false = true → v38 = .agg #[.bool (b0 && c0), .bool (b1 && c1), .bool (b2 && c2)]) ∧ (l.getD 9 false = true → v39 = .agg #[.bool x0, .bool x1, .bool x2])
def OrdAllocs (w : World) (x0 x1 x2 : Bool) (l : Array Bool) (v7 v8 : Value) (x : World) : Prop :=
  (l.getD 10 false = true → ∃ p, v7 = .pointer (some ⟨p, 0, none⟩) ∧ w.heap.size + 1 + 1 < p ∧ x.heap[p]? = some (.cells (bif l.getD 12 false then #[.bool x0, .bool x1, .bool x2] else #[.bool false, .bool false, .bool false]) 23)) ∧
  (l.getD 11 false = true → ∃ q, v8 = .pointer (some ⟨q, 0, none⟩) ∧ w.heap.size + 1 + 1 < q ∧ x.heap[q]? = some (.cells (bif l.getD 13 false then #[.bool x0, .bool x1, .bool x2] else #[.bool false, .bool false, .bool false]) 23)) ∧
  (l.getD 10 false = true → l.getD 11 false = true → v7 ≠ v8) ∧ (l.getD 12 false = true → l.getD 10 false = true) ∧ (l.getD 13 false = true → l.getD 11 false = true)

theorem ordVals_set {a0 a1 a2 b0 b1 b2 c0 c1 c2 x0 x1 x2 : Bool} {l : Array Bool} {v30 v31 v32 v33 v34 v35 v36 v37 v38 v39 : Value} (j : Nat) (hj : 10 ≤ j) (h : OrdVals a0 a1 a2 b0 b1 b2 c0 c1 c2 x0 x1 x2 l v30 v31 v32 v33 v34 v35 v36 v37 v38 v39) :
    OrdVals a0 a1 a2 b0 b1 b2 c0 c1 c2 x0 x1 x2 (l.setIfInBounds j true) v30 v31 v32 v33 v34 v35 v36 v37 v38 v39 := by
  unfold OrdVals at h ⊢
  simp only [getD_set_ne false (show j ≠ 0 by omega), getD_set_ne false (show j ≠ 1 by omega), getD_set_ne false (show j ≠ 2 by omega), getD_set_ne false (show j ≠ 3 by omega), getD_set_ne false (show j ≠ 4 by omega), getD_set_ne false (show j ≠ 5 by omega), getD_set_ne false (show j ≠ 6 by omega), getD_set_ne false (show j ≠ 7 by omega), getD_set_ne false (show j ≠ 8 by omega), getD_set_ne false (show j ≠ 9 by omega)]
  exact h
theorem ordVals_0 {a0 a1 a2 b0 b1 b2 c0 c1 c2 x0 x1 x2 : Bool} {l : Array Bool} {v30 v31 v32 v33 v34 v35 v36 v37 v38 v39 : Value} (h : OrdVals a0 a1 a2 b0 b1 b2 c0 c1 c2 x0 x1 x2 l v30 v31 v32 v33 v34 v35 v36 v37 v38 v39) :
    OrdVals a0 a1 a2 b0 b1 b2 c0 c1 c2 x0 x1 x2 (l.setIfInBounds 0 true) (.agg #[.bool a0, .bool a1, .bool a2]) v31 v32 v33 v34 v35 v36 v37 v38 v39 := by
  unfold OrdVals at h ⊢
  obtain ⟨h0, h1, h2, h3, h4, h5, h6, h7, h8, h9⟩ := h
  refine ⟨fun _ => rfl, fun e => h1 (by rwa [getD_set_ne false (by decide)] at e), fun e => h2 (by rwa [getD_set_ne false (by decide)] at e), fun e => h3 (by rwa [getD_set_ne false (by decide)] at e), fun e => h4 (by rwa [getD_set_ne false (by decide)] at e), fun e => h5 (by rwa [getD_set_ne false (by decide)] at e), fun e => h6 (by rwa [getD_set_ne false (by decide)] at e), fun e => h7 (by rwa [getD_set_ne false (by decide)] at e), fun e => h8 (by rwa [getD_set_ne false (by decide)] at e), fun e => h9 (by rwa [getD_set_ne false (by decide)] at e)⟩
theorem ordVals_1 {a0 a1 a2 b0 b1 b2 c0 c1 c2 x0 x1 x2 : Bool} {l : Array Bool} {v30 v31 v32 v33 v34 v35 v36 v37 v38 v39 : Value} (h : OrdVals a0 a1 a2 b0 b1 b2 c0 c1 c2 x0 x1 x2 l v30 v31 v32 v33 v34 v35 v36 v37 v38 v39) :
    OrdVals a0 a1 a2 b0 b1 b2 c0 c1 c2 x0 x1 x2 (l.setIfInBounds 1 true) v30 (.agg #[.bool b0, .bool b1, .bool b2]) v32 v33 v34 v35 v36 v37 v38 v39 := by
  unfold OrdVals at h ⊢
  obtain ⟨h0, h1, h2, h3, h4, h5, h6, h7, h8, h9⟩ := h
  refine ⟨fun e => h0 (by rwa [getD_set_ne false (by decide)] at e), fun _ => rfl, fun e => h2 (by rwa [getD_set_ne false (by decide)] at e), fun e => h3 (by rwa [getD_set_ne false (by decide)] at e), fun e => h4 (by rwa [getD_set_ne false (by decide)] at e), fun e => h5 (by rwa [getD_set_ne false (by decide)] at e), fun e => h6 (by rwa [getD_set_ne false (by decide)] at e), fun e => h7 (by rwa [getD_set_ne false (by decide)] at e), fun e => h8 (by rwa [getD_set_ne false (by decide)] at e), fun e => h9 (by rwa [getD_set_ne false (by decide)] at e)⟩
theorem ordVals_2 {a0 a1 a2 b0 b1 b2 c0 c1 c2 x0 x1 x2 : Bool} {l : Array Bool} {v30 v31 v32 v33 v34 v35 v36 v37 v38 v39 : Value} (h : OrdVals a0 a1 a2 b0 b1 b2 c0 c1 c2 x0 x1 x2 l v30 v31 v32 v33 v34 v35 v36 v37 v38 v39) :
    OrdVals a0 a1 a2 b0 b1 b2 c0 c1 c2 x0 x1 x2 (l.setIfInBounds 2 true) v30 v31 (.agg #[.bool (a0 && b0), .bool (a1 && b1), .bool (a2 && b2)]) v33 v34 v35 v36 v37 v38 v39 := by
  unfold OrdVals at h ⊢
  obtain ⟨h0, h1, h2, h3, h4, h5, h6, h7, h8, h9⟩ := h
  refine ⟨fun e => h0 (by rwa [getD_set_ne false (by decide)] at e), fun e => h1 (by rwa [getD_set_ne false (by decide)] at e), fun _ => rfl, fun e => h3 (by rwa [getD_set_ne false (by decide)] at e), fun e => h4 (by rwa [getD_set_ne false (by decide)] at e), fun e => h5 (by rwa [getD_set_ne false (by decide)] at e), fun e => h6 (by rwa [getD_set_ne false (by decide)] at e), fun e => h7 (by rwa [getD_set_ne false (by decide)] at e), fun e => h8 (by rwa [getD_set_ne false (by decide)] at e), fun e => h9 (by rwa [getD_set_ne false (by decide)] at e)⟩
theorem ordVals_3 {a0 a1 a2 b0 b1 b2 c0 c1 c2 x0 x1 x2 : Bool} {l : Array Bool} {v30 v31 v32 v33 v34 v35 v36 v37 v38 v39 : Value} (h : OrdVals a0 a1 a2 b0 b1 b2 c0 c1 c2 x0 x1 x2 l v30 v31 v32 v33 v34 v35 v36 v37 v38 v39) :
    OrdVals a0 a1 a2 b0 b1 b2 c0 c1 c2 x0 x1 x2 (l.setIfInBounds 3 true) v30 v31 v32 (.agg #[.bool c0, .bool c1, .bool c2]) v34 v35 v36 v37 v38 v39 := by
  unfold OrdVals at h ⊢
  obtain ⟨h0, h1, h2, h3, h4, h5, h6, h7, h8, h9⟩ := h
  refine ⟨fun e => h0 (by rwa [getD_set_ne false (by decide)] at e), fun e => h1 (by rwa [getD_set_ne false (by decide)] at e), fun e => h2 (by rwa [getD_set_ne false (by decide)] at e), fun _ => rfl, fun e => h4 (by rwa [getD_set_ne false (by decide)] at e), fun e => h5 (by rwa [getD_set_ne false (by decide)] at e), fun e => h6 (by rwa [getD_set_ne false (by decide)] at e), fun e => h7 (by rwa [getD_set_ne false (by decide)] at e), fun e => h8 (by rwa [getD_set_ne false (by decide)] at e), fun e => h9 (by rwa [getD_set_ne false (by decide)] at e)⟩
theorem ordVals_4 {a0 a1 a2 b0 b1 b2 c0 c1 c2 x0 x1 x2 : Bool} {l : Array Bool} {v30 v31 v32 v33 v34 v35 v36 v37 v38 v39 : Value} (h : OrdVals a0 a1 a2 b0 b1 b2 c0 c1 c2 x0 x1 x2 l v30 v31 v32 v33 v34 v35 v36 v37 v38 v39) :
    OrdVals a0 a1 a2 b0 b1 b2 c0 c1 c2 x0 x1 x2 (l.setIfInBounds 4 true) v30 v31 v32 v33 (.agg #[.bool x0, .bool x1, .bool x2]) v35 v36 v37 v38 v39 := by
  unfold OrdVals at h ⊢
  obtain ⟨h0, h1, h2, h3, h4, h5, h6, h7, h8, h9⟩ := h
  refine ⟨fun e => h0 (by rwa [getD_set_ne false (by decide)] at e), fun e => h1 (by rwa [getD_set_ne false (by decide)] at e), fun e => h2 (by rwa [getD_set_ne false (by decide)] at e), fun e => h3 (by rwa [getD_set_ne false (by decide)] at e), fun _ => rfl, fun e => h5 (by rwa [getD_set_ne false (by decide)] at e), fun e => h6 (by rwa [getD_set_ne false (by decide)] at e), fun e => h7 (by rwa [getD_set_ne false (by decide)] at e), fun e => h8 (by rwa [getD_set_ne false (by decide)] at e), fun e => h9 (by rwa [getD_set_ne false (by decide)] at e)⟩
theorem ordVals_5 {a0 a1 a2 b0 b1 b2 c0 c1 c2 x0 x1 x2 : Bool} {l : Array Bool} {v30 v31 v32 v33 v34 v35 v36 v37 v38 v39 : Value} (h : OrdVals a0 a1 a2 b0 b1 b2 c0 c1 c2 x0 x1 x2 l v30 v31 v32 v33 v34 v35 v36 v37 v38 v39) :
    OrdVals a0 a1 a2 b0 b1 b2 c0 c1 c2 x0 x1 x2 (l.setIfInBounds 5 true) v30 v31 v32 v33 v34 (.agg #[.bool a0, .bool a1, .bool a2]) v36 v37 v38 v39 := by
  unfold OrdVals at h ⊢
  obtain ⟨h0, h1, h2, h3, h4, h5, h6, h7, h8, h9⟩ := h
  refine ⟨fun e => h0 (by rwa [getD_set_ne false (by decide)] at e), fun e => h1 (by rwa [getD_set_ne false (by decide)] at e), fun e => h2 (by rwa [getD_set_ne false (by decide)] at e), fun e => h3 (by rwa [getD_set_ne false (by decide)] at e), fun e => h4 (by rwa [getD_set_ne false (by decide)] at e), fun _ => rfl, fun e => h6 (by rwa [getD_set_ne false (by decide)] at e), fun e => h7 (by rwa [getD_set_ne false (by decide)] at e), fun e => h8 (by rwa [getD_set_ne false (by decide)] at e), fun e => h9 (by rwa [getD_set_ne false (by decide)] at e)⟩
theorem ordVals_6 {a0 a1 a2 b0 b1 b2 c0 c1 c2 x0 x1 x2 : Bool} {l : Array Bool} {v30 v31 v32 v33 v34 v35 v36 v37 v38 v39 : Value} (h : OrdVals a0 a1 a2 b0 b1 b2 c0 c1 c2 x0 x1 x2 l v30 v31 v32 v33 v34 v35 v36 v37 v38 v39) :
    OrdVals a0 a1 a2 b0 b1 b2 c0 c1 c2 x0 x1 x2 (l.setIfInBounds 6 true) v30 v31 v32 v33 v34 v35 (.agg #[.bool b0, .bool b1, .bool b2]) v37 v38 v39 := by
  unfold OrdVals at h ⊢
  obtain ⟨h0, h1, h2, h3, h4, h5, h6, h7, h8, h9⟩ := h
  refine ⟨fun e => h0 (by rwa [getD_set_ne false (by decide)] at e), fun e => h1 (by rwa [getD_set_ne false (by decide)] at e), fun e => h2 (by rwa [getD_set_ne false (by decide)] at e), fun e => h3 (by rwa [getD_set_ne false (by decide)] at e), fun e => h4 (by rwa [getD_set_ne false (by decide)] at e), fun e => h5 (by rwa [getD_set_ne false (by decide)] at e), fun _ => rfl, fun e => h7 (by rwa [getD_set_ne false (by decide)] at e), fun e => h8 (by rwa [getD_set_ne false (by decide)] at e), fun e => h9 (by rwa [getD_set_ne false (by decide)] at e)⟩
theorem ordVals_7 {a0 a1 a2 b0 b1 b2 c0 c1 c2 x0 x1 x2 : Bool} {l : Array Bool} {v30 v31 v32 v33 v34 v35 v36 v37 v38 v39 : Value} (h : OrdVals a0 a1 a2 b0 b1 b2 c0 c1 c2 x0 x1 x2 l v30 v31 v32 v33 v34 v35 v36 v37 v38 v39) :
    OrdVals a0 a1 a2 b0 b1 b2 c0 c1 c2 x0 x1 x2 (l.setIfInBounds 7 true) v30 v31 v32 v33 v34 v35 v36 (.agg #[.bool c0, .bool c1, .bool c2]) v38 v39 := by
  unfold OrdVals at h ⊢
  obtain ⟨h0, h1, h2, h3, h4, h5, h6, h7, h8, h9⟩ := h
  refine ⟨fun e => h0 (by rwa [getD_set_ne false (by decide)] at e), fun e => h1 (by rwa [getD_set_ne false (by decide)] at e), fun e => h2 (by rwa [getD_set_ne false (by decide)] at e), fun e => h3 (by rwa [getD_set_ne false (by decide)] at e), fun e => h4 (by rwa [getD_set_ne false (by decide)] at e), fun e => h5 (by rwa [getD_set_ne false (by decide)] at e), fun e => h6 (by rwa [getD_set_ne false (by decide)] at e), fun _ => rfl, fun e => h8 (by rwa [getD_set_ne false (by decide)] at e), fun e => h9 (by rwa [getD_set_ne false (by decide)] at e)⟩
theorem ordVals_8 {a0 a1 a2 b0 b1 b2 c0 c1 c2 x0 x1 x2 : Bool} {l : Array Bool} {v30 v31 v32 v33 v34 v35 v36 v37 v38 v39 : Value} (h : OrdVals a0 a1 a2 b0 b1 b2 c0 c1 c2 x0 x1 x2 l v30 v31 v32 v33 v34 v35 v36 v37 v38 v39) :
    OrdVals a0 a1 a2 b0 b1 b2 c0 c1 c2 x0 x1 x2 (l.setIfInBounds 8 true) v30 v31 v32 v33 v34 v35 v36 v37 (.agg #[.bool (b0 && c0), .bool (b1 && c1), .bool (b2 && c2)]) v39 := by
  unfold OrdVals at h ⊢
  obtain ⟨h0, h1, h2, h3, h4, h5, h6, h7, h8, h9⟩ := h
  refine ⟨fun e => h0 (by rwa [getD_set_ne false (by decide)] at e), fun e => h1 (by rwa [getD_set_ne false (by decide)] at e), fun e => h2 (by rwa [getD_set_ne false (by decide)] at e), fun e => h3 (by rwa [getD_set_ne false (by decide)] at e), fun e => h4 (by rwa [getD_set_ne false (by decide)] at e), fun e => h5 (by rwa [getD_set_ne false (by decide)] at e), fun e => h6 (by rwa [getD_set_ne false (by decide)] at e), fun e => h7 (by rwa [getD_set_ne false (by decide)] at e), fun _ => rfl, fun e => h9 (by rwa [getD_set_ne false (by decide)] at e)⟩
theorem ordVals_9 {a0 a1 a2 b0 b1 b2 c0 c1 c2 x0 x1 x2 : Bool} {l : Array Bool} {v30 v31 v32 v33 v34 v35 v36 v37 v38 v39 : Value} (h : OrdVals a0 a1 a2 b0 b1 b2 c0 c1 c2 x0 x1 x2 l v30 v31 v32 v33 v34 v35 v36 v37 v38 v39) :
    OrdVals a0 a1 a2 b0 b1 b2 c0 c1 c2 x0 x1 x2 (l.setIfInBounds 9 true) v30 v31 v32 v33 v34 v35 v36 v37 v38 (.agg #[.bool x0, .bool x1, .bool x2]) := by
  unfold OrdVals at h ⊢
  obtain ⟨h0, h1, h2, h3, h4, h5, h6, h7, h8, h9⟩ := h
  refine ⟨fun e => h0 (by rwa [getD_set_ne false (by decide)] at e), fun e => h1 (by rwa [getD_set_ne false (by decide)] at e), fun e => h2 (by rwa [getD_set_ne false (by decide)] at e), fun e => h3 (by rwa [getD_set_ne false (by decide)] at e), fun e => h4 (by rwa [getD_set_ne false (by decide)] at e), fun e => h5 (by rwa [getD_set_ne false (by decide)] at e), fun e => h6 (by rwa [getD_set_ne false (by decide)] at e), fun e => h7 (by rwa [getD_set_ne false (by decide)] at e), fun e => h8 (by rwa [getD_set_ne false (by decide)] at e), fun _ => rfl⟩
theorem ordAllocs_set {w : World} {x0 x1 x2 : Bool} {l : Array Bool} {v7 v8 : Value} {x y : World} (j : Nat) (hj : j < 10) (h : OrdAllocs w x0 x1 x2 l v7 v8 x) (ho : Old x y) : OrdAllocs w x0 x1 x2 (l.setIfInBounds j true) v7 v8 y := by
  unfold OrdAllocs at h ⊢
  simp only [getD_set_ne false (show j ≠ 10 by omega), getD_set_ne false (show j ≠ 11 by omega), getD_set_ne false (show j ≠ 12 by omega), getD_set_ne false (show j ≠ 13 by omega)]
  refine ⟨fun e => ?_, fun e => ?_, h.2.2⟩
  · obtain ⟨p, a, b, c⟩ := h.1 e
    exact ⟨p, a, b, keep_old ho c⟩
  · obtain ⟨p, a, b, c⟩ := h.2.1 e
    exact ⟨p, a, b, keep_old ho c⟩

theorem ordAllocs_10 {w : World} {x0 x1 x2 : Bool} {l : Array Bool} {v7 v8 : Value} {x : World} (hl : l.size = 14) (hn : l.getD 10 false = false) (hx : w.heap.size + 1 + 1 < x.heap.size) (h : OrdAllocs w x0 x1 x2 l v7 v8 x) :
    OrdAllocs w x0 x1 x2 (l.setIfInBounds 10 true) (.pointer (some ⟨x.heap.size, 0, none⟩)) v8 (x.alloc (.cells #[.bool false, .bool false, .bool false] 23)) := by
  unfold OrdAllocs at h ⊢
  have e10 : (l.setIfInBounds 10 true).getD 10 false = true := by simp [hl]
  have e12 : l.getD 12 false = false := by
    cases h12 : l.getD 12 false with
    | false => rfl
    | true => have := h.2.2.2.1 h12; rw [hn] at this; cases this
  simp only [getD_set_ne false (show (10 : Nat) ≠ 11 by decide), getD_set_ne false (show (10 : Nat) ≠ 12 by decide), getD_set_ne false (show (10 : Nat) ≠ 13 by decide), e10, e12]
  refine ⟨fun _ => ⟨_, rfl, hx, new_block _ _⟩, fun e => ?_, fun _ e => ?_, (fun e => by cases e), h.2.2.2.2⟩
  · obtain ⟨q, a, b, c⟩ := h.2.1 e
    exact ⟨q, a, b, keep_alloc _ c⟩
  · obtain ⟨q, a, b, c⟩ := h.2.1 e
    rw [a]
    intro e'
    have := lt_of_block c
    have e2 : x.heap.size = q := by
      injection e' with e'
      injection e' with e'
      injection e' with e'
    omega
theorem ordAllocs_11 {w : World} {x0 x1 x2 : Bool} {l : Array Bool} {v7 v8 : Value} {x : World} (hl : l.size = 14) (hn : l.getD 11 false = false) (hx : w.heap.size + 1 + 1 < x.heap.size) (h : OrdAllocs w x0 x1 x2 l v7 v8 x) :
    OrdAllocs w x0 x1 x2 (l.setIfInBounds 11 true) v7 (.pointer (some ⟨x.heap.size, 0, none⟩)) (x.alloc (.cells #[.bool false, .bool false, .bool false] 23)) := by
  unfold OrdAllocs at h ⊢
  have e11 : (l.setIfInBounds 11 true).getD 11 false = true := by simp [hl]
  have e13 : l.getD 13 false = false := by
    cases h13 : l.getD 13 false with
    | false => rfl
    | true => have := h.2.2.2.2 h13; rw [hn] at this; cases this
  simp only [getD_set_ne false (show (11 : Nat) ≠ 10 by decide), getD_set_ne false (show (11 : Nat) ≠ 12 by decide), getD_set_ne false (show (11 : Nat) ≠ 13 by decide), e11, e13]
  refine ⟨fun e => ?_, fun _ => ⟨_, rfl, hx, new_block _ _⟩, fun e _ => ?_, h.2.2.2.1, (fun e => by cases e)⟩
  · obtain ⟨q, a, b, c⟩ := h.1 e
    exact ⟨q, a, b, keep_alloc _ c⟩
  · obtain ⟨q, a, b, c⟩ := h.1 e
    rw [a]
    intro e'
    have := lt_of_block c
    have e2 : q = x.heap.size := by
      injection e' with e'
      injection e' with e'
      injection e' with e'
    omega
theorem ordAllocs_12 {w : World} {x0 x1 x2 : Bool} {l : Array Bool} {v7 v8 : Value} {x : World} {p : Nat} (hl : l.size = 14) (h10 : l.getD 10 false = true) (hp : v7 = .pointer (some ⟨p, 0, none⟩)) (h : OrdAllocs w x0 x1 x2 l v7 v8 x) :
    OrdAllocs w x0 x1 x2 (l.setIfInBounds 12 true) v7 v8 (putB x p (.cells #[.bool x0, .bool x1, .bool x2] 23)) := by
  unfold OrdAllocs at h ⊢
  have e12 : (l.setIfInBounds 12 true).getD 12 false = true := by simp [hl]
  simp only [getD_set_ne false (show (12 : Nat) ≠ 10 by decide), getD_set_ne false (show (12 : Nat) ≠ 11 by decide), getD_set_ne false (show (12 : Nat) ≠ 13 by decide), e12]
  refine ⟨fun e => ?_, fun e => ?_, h.2.2.1, fun _ => h10, h.2.2.2.2⟩
  · obtain ⟨q, a, b, c⟩ := h.1 e
    rw [hp] at a
    obtain rfl : p = q := by injection a with a; injection a with a; injection a
    exact ⟨p, hp, b, putB_same _ (lt_of_block c)⟩
  · obtain ⟨q, a, b, c⟩ := h.2.1 e
    have hne : p ≠ q := fun e' => h.2.2.1 h10 e (by rw [hp, a, e'])
    exact ⟨q, a, b, by rw [putB_other _ hne]; exact c⟩
theorem ordAllocs_13 {w : World} {x0 x1 x2 : Bool} {l : Array Bool} {v7 v8 : Value} {x : World} {p : Nat} (hl : l.size = 14) (h11 : l.getD 11 false = true) (hp : v8 = .pointer (some ⟨p, 0, none⟩)) (h : OrdAllocs w x0 x1 x2 l v7 v8 x) :
    OrdAllocs w x0 x1 x2 (l.setIfInBounds 13 true) v7 v8 (putB x p (.cells #[.bool x0, .bool x1, .bool x2] 23)) := by
  unfold OrdAllocs at h ⊢
  have e13 : (l.setIfInBounds 13 true).getD 13 false = true := by simp [hl]
  simp only [getD_set_ne false (show (13 : Nat) ≠ 10 by decide), getD_set_ne false (show (13 : Nat) ≠ 11 by decide), getD_set_ne false (show (13 : Nat) ≠ 12 by decide), e13]
  refine ⟨fun e => ?_, fun e => ?_, h.2.2.1, h.2.2.2.1, fun _ => h11⟩
  · obtain ⟨q, a, b, c⟩ := h.1 e
    have hne : p ≠ q := fun e' => h.2.2.1 e h11 (by rw [hp, a, e'])
    exact ⟨q, a, b, by rw [putB_other _ hne]; exact c⟩
  · obtain ⟨q, a, b, c⟩ := h.2.1 e
    rw [hp] at a
    obtain rfl : p = q := by injection a with a; injection a with a; injection a
    exact ⟨p, hp, b, putB_same _ (lt_of_block c)⟩

theorem set3 {x : World} {p : Nat} {y0 y1 y2 x0 x1 x2 : Value} (h : x.heap[p]? = some (.cells #[y0, y1, y2] 23)) :
    ((x.setCell ⟨p, 0, none⟩ x0).setCell ⟨p, 1, none⟩ x1).setCell ⟨p, 2, none⟩ x2 = putB x p (.cells #[x0, x1, x2] 23) := by
  have hp := lt_of_block h
  rw [set_of h, putB_set_same _ _ _ _ _ hp, putB_set_same _ _ _ _ _ hp]
  rfl
theorem holds_put3 {w x : World} {A B C : Array Value} {p : Nat} (o : Obj) (h : Holds w (OrdL w A B C) x) (hp : w.heap.size + 1 + 1 < p) : Holds w (OrdL w A B C) (putB x p o) := by
  obtain ⟨h0, h1, h2, h3, _⟩ := h
  exact ⟨old_put h0 _ (by omega), by rw [putB_other _ (show p ≠ _ by omega)]; exact h1, by rw [putB_other _ (show p ≠ _ by omega)]; exact h2, by rw [putB_other _ (show p ≠ _ by omega)]; exact h3, trivial⟩

/-- The frame and the world. -/
def OrdS (w : World) (a0 a1 a2 b0 b1 b2 c0 c1 c2 x0 x1 x2 : Bool) (u10 u11 u12 u13 u14 u15 u16 u17 u18 u19 u20 u21 u22 u23 u24 u25 u26 u27 u28 u40 u41 u42 u43 u44 u45 u46 u47 u48 u49 u50 u51 u52 u53 u54 u55 u56 u57 u58 u59 u60 u61 u62 u63 u64 u65 u66 u67 u68 u69 u70 u71 u72 u73 u74 u75 u76 u77 u78 u79 u80 u81 u82 u83 u84 u85 u86 u87 u88 u89 u90 u91 u92 u93 u94 u95 u96 u97 u98 u99 u100 u101 u102 u103 u104 u105 u106 u107 u108 u109 u110 u111 : Value) (l : Array Bool) (b : Act) (x : World) : Prop :=
  ∃ v7 v8 v30 v31 v32 v33 v34 v35 v36 v37 v38 v39 : Value, b = { tmps := #[.agg #[.bool a0, .bool a1, .bool a2], .agg #[.bool b0, .bool b1, .bool b2], .agg #[.bool c0, .bool c1, .bool c2], .pointer (some ⟨w.heap.size, 0, none⟩), .pointer (some ⟨w.heap.size + 1, 0, none⟩), .pointer (some ⟨w.heap.size + 1 + 1, 0, none⟩), .bool false, v7, v8, undef, u10, u11, u12, u13, u14, u15, u16, u17, u18, u19, u20, u21, u22, u23, u24, u25, u26, u27, u28, .bool false, v30, v31, v32, v33, v34, v35, v36, v37, v38, v39, u40, u41, u42, u43, u44, u45, u46, u47, u48, u49, u50, u51, u52, u53, u54, u55, u56, u57, u58, u59, u60, u61, u62, u63, u64, u65, u66, u67, u68, u69, u70, u71, u72, u73, u74, u75, u76, u77, u78, u79, u80, u81, u82, u83, u84, u85, u86, u87, u88, u89, u90, u91, u92, u93, u94, u95, u96, u97, u98, u99, u100, u101, u102, u103, u104, u105, u106, u107, u108, u109, u110, u111], defers := [] } ∧ Holds w (OrdL w #[.bool a0, .bool a1, .bool a2] #[.bool b0, .bool b1, .bool b2] #[.bool c0, .bool c1, .bool c2]) x ∧ OrdVals a0 a1 a2 b0 b1 b2 c0 c1 c2 x0 x1 x2 l v30 v31 v32 v33 v34 v35 v36 v37 v38 v39 ∧ OrdAllocs w x0 x1 x2 l v7 v8 x

set_option maxHeartbeats 8000000 in
set_option maxRecDepth 100000 in
theorem permOrder_walk (a0 a1 a2 b0 b1 b2 c0 c1 c2 : Bool) (w : World) :
    Calls Try.prog 6 #[.agg #[.bool a0, .bool a1, .bool a2], .agg #[.bool b0, .bool b1, .bool b2], .agg #[.bool c0, .bool c1, .bool c2]] w (RetB w (.bool true)) := by
  have hone := order_one a0 a1 a2 b0 b1 b2 c0 c1 c2
  obtain ⟨x0, hx0⟩ : ∃ x0, (a0 && b0 && c0) = x0 := ⟨_, rfl⟩
  obtain ⟨x1, hx1⟩ : ∃ x1, (a1 && b1 && c1) = x1 := ⟨_, rfl⟩
  obtain ⟨x2, hx2⟩ : ∃ x2, (a2 && b2 && c2) = x2 := ⟨_, rfl⟩
  have hy0 : (a0 && (b0 && c0)) = x0 := by rw [← hx0, Bool.and_assoc]
  have hy1 : (a1 && (b1 && c1)) = x1 := by rw [← hx1, Bool.and_assoc]
  have hy2 : (a2 && (b2 && c2)) = x2 := by rw [← hx2, Bool.and_assoc]
  have haa : withinB a0 a1 a2 a0 a1 a2 = true := by cases a0 <;> cases a1 <;> cases a2 <;> rfl
  rw [haa] at hone
  have HX0 := Lib.hid hx0; have HX1 := Lib.hid hx1; have HX2 := Lib.hid hx2
  have HY0 := Lib.hid hy0; have HY1 := Lib.hid hy1; have HY2 := Lib.hid hy2
  clear hx0 hx1 hx2 hy0 hy1 hy2
  go_enter Try.func6, Try.ntmps6
  go_upto_region 1 with (fail)
  have hH := holds_new #[.bool c0, .bool c1, .bool c2] 23 (holds_new #[.bool b0, .bool b1, .bool b2] 23 (holds_new #[.bool a0, .bool a1, .bool a2] 23 (holds_nil w)))
  simp only [World.size_alloc] at hH
  generalize ((w.alloc (.cells #[.bool a0, .bool a1, .bool a2] 23)).alloc (.cells #[.bool b0, .bool b1, .bool b2] 23)).alloc (.cells #[.bool c0, .bool c1, .bool c2] 23) = W at *
  go_cut [29] (fun s29 wx => s29 = .bool false ∧ Holds w (OrdL w #[.bool a0, .bool a1, .bool a2] #[.bool b0, .bool b1, .bool b2] #[.bool c0, .bool c1, .bool c2]) wx)
  case first =>
    obtain ⟨s0, s1, s2, s3, _⟩ := id hH
    obtain ⟨k1, f1, z1⟩ := of_block s1
    obtain ⟨k2, f2, z2⟩ := of_block s2
    obtain ⟨k3, f3, z3⟩ := of_block s3
    cases hp : withinB a0 a1 a2 b0 b1 b2 <;> cases hq : withinB b0 b1 b2 c0 c1 c2
    all_goals
      rw [hp, hq] at hone
      have hr : withinB a0 a1 a2 c0 c1 c2 = true ∨ ¬ (withinB a0 a1 a2 b0 b1 b2 = true ∧ withinB b0 b1 b2 c0 c1 c2 = true) := by
        rw [hp, hq]
        cases hz : withinB a0 a1 a2 c0 c1 c2
        · rw [hz] at hone; simp at hone ⊢
        · exact .inl rfl
      have HR := Lib.hid hr
      clear hone hr
      go_wp2_with (first | (go_at_call 21; (with_reducible refine (within_any _ _ _ _ _ _ _ (by first | exact hp | exact hq | exact haa | exact HR.out.elim id (fun h => absurd ⟨hp, hq⟩ h)) _).mono ?_); rintro e w9 ⟨rfl, hb9⟩; have hH := holds_old hH hb9; obtain ⟨_, s1, s2, s3, _⟩ := id hH; obtain ⟨k1, f1, z1⟩ := of_block s1; obtain ⟨k2, f2, z2⟩ := of_block s2; obtain ⟨k3, f3, z3⟩ := of_block s3))
      go_meet
      case rel => exact ⟨rfl, hH⟩
  case rest =>
  obtain ⟨rfl, hH⟩ := hcut
  clear hone
  go_upto_region 3 with (fail)
  go_cut [7, 8] (fun s7 s8 wx => ∃ p q, s7 = .pointer (some ⟨p, 0, none⟩) ∧ s8 = .pointer (some ⟨q, 0, none⟩) ∧ Holds w ((q, #[.bool x0, .bool x1, .bool x2], 23) :: (p, #[.bool x0, .bool x1, .bool x2], 23) :: (OrdL w #[.bool a0, .bool a1, .bool a2] #[.bool b0, .bool b1, .bool b2] #[.bool c0, .bool c1, .bool c2])) wx)
  case first =>
    have hx0 := HX0.out; have hx1 := HX1.out; have hx2 := HX2.out
    have hy0 := HY0.out; have hy1 := HY1.out; have hy2 := HY2.out
    refine wp_region_inv (OrdS w a0 a1 a2 b0 b1 b2 c0 c1 c2 x0 x1 x2 u10 u11 u12 u13 u14 u15 u16 u17 u18 u19 u20 u21 u22 u23 u24 u25 u26 u27 u28 u40 u41 u42 u43 u44 u45 u46 u47 u48 u49 u50 u51 u52 u53 u54 u55 u56 u57 u58 u59 u60 u61 u62 u63 u64 u65 u66 u67 u68 u69 u70 u71 u72 u73 u74 u75 u76 u77 u78 u79 u80 u81 u82 u83 u84 u85 u86 u87 u88 u89 u90 u91 u92 u93 u94 u95 u96 u97 u98 u99 u100 u101 u102 u103 u104 u105 u106 u107 u108 u109 u110 u111) (by kernel_rfl) (by kernel_rfl) ?_ ?_ ?_
    · exact ⟨_, _, _, _, _, _, _, _, _, _, _, _, rfl, holds_drew hH, by unfold OrdVals; simp, by unfold OrdAllocs; simp⟩
    · intro j o ho l b x hl hn hmet hS
      have hj : j < 14 := by
        have := (Array.getElem?_eq_some_iff.1 ho).1
        exact this
      obtain rfl | rfl | rfl | rfl | rfl | rfl | rfl | rfl | rfl | rfl | rfl | rfl | rfl | rfl : j = 0 ∨ j = 1 ∨ j = 2 ∨ j = 3 ∨ j = 4 ∨ j = 5 ∨ j = 6 ∨ j = 7 ∨ j = 8 ∨ j = 9 ∨ j = 10 ∨ j = 11 ∨ j = 12 ∨ j = 13 := by omega
      · obtain rfl := Option.some.inj ho
        obtain ⟨v7, v8, v30, v31, v32, v33, v34, v35, v36, v37, v38, v39, rfl, hH, hV, hA⟩ := hS
        obtain ⟨s0, s1, s2, s3, _⟩ := id hH
        obtain ⟨k1, f1, z1⟩ := of_block s1
        obtain ⟨k2, f2, z2⟩ := of_block s2
        obtain ⟨k3, f3, z3⟩ := of_block s3
        go_wp2
        exact ⟨_, _, _, _, _, _, _, _, _, _, _, _, rfl, hH, ordVals_0 hV, ordAllocs_set 0 (by decide) hA (old_refl _)⟩
      · obtain rfl := Option.some.inj ho
        obtain ⟨v7, v8, v30, v31, v32, v33, v34, v35, v36, v37, v38, v39, rfl, hH, hV, hA⟩ := hS
        obtain ⟨s0, s1, s2, s3, _⟩ := id hH
        obtain ⟨k1, f1, z1⟩ := of_block s1
        obtain ⟨k2, f2, z2⟩ := of_block s2
        obtain ⟨k3, f3, z3⟩ := of_block s3
        go_wp2
        exact ⟨_, _, _, _, _, _, _, _, _, _, _, _, rfl, hH, ordVals_1 hV, ordAllocs_set 1 (by decide) hA (old_refl _)⟩
      · obtain rfl := Option.some.inj ho
        obtain ⟨v7, v8, v30, v31, v32, v33, v34, v35, v36, v37, v38, v39, rfl, hH, hV, hA⟩ := hS
        obtain ⟨s0, s1, s2, s3, _⟩ := id hH
        obtain ⟨k1, f1, z1⟩ := of_block s1
        obtain ⟨k2, f2, z2⟩ := of_block s2
        obtain ⟨k3, f3, z3⟩ := of_block s3
        have p0 : l.getD 0 false = true := hmet _ rfl ⟨0, .data⟩ (by simp) rfl
        obtain rfl := (hV.1) p0
        have p1 : l.getD 1 false = true := hmet _ rfl ⟨1, .data⟩ (by simp) rfl
        obtain rfl := (hV.2.1) p1
        go_wp2_with (go_at_call 19; (with_reducible refine (and_any _ _ _ _ _ _ _ _ _ rfl rfl rfl _).mono ?_); rintro e w9 ⟨rfl, hb9⟩)
        exact ⟨_, _, _, _, _, _, _, _, _, _, _, _, rfl, holds_old hH hb9, ordVals_2 hV, ordAllocs_set 2 (by decide) hA hb9⟩
      · obtain rfl := Option.some.inj ho
        obtain ⟨v7, v8, v30, v31, v32, v33, v34, v35, v36, v37, v38, v39, rfl, hH, hV, hA⟩ := hS
        obtain ⟨s0, s1, s2, s3, _⟩ := id hH
        obtain ⟨k1, f1, z1⟩ := of_block s1
        obtain ⟨k2, f2, z2⟩ := of_block s2
        obtain ⟨k3, f3, z3⟩ := of_block s3
        go_wp2
        exact ⟨_, _, _, _, _, _, _, _, _, _, _, _, rfl, hH, ordVals_3 hV, ordAllocs_set 3 (by decide) hA (old_refl _)⟩
      · obtain rfl := Option.some.inj ho
        obtain ⟨v7, v8, v30, v31, v32, v33, v34, v35, v36, v37, v38, v39, rfl, hH, hV, hA⟩ := hS
        obtain ⟨s0, s1, s2, s3, _⟩ := id hH
        obtain ⟨k1, f1, z1⟩ := of_block s1
        obtain ⟨k2, f2, z2⟩ := of_block s2
        obtain ⟨k3, f3, z3⟩ := of_block s3
        have p2 : l.getD 2 false = true := hmet _ rfl ⟨2, .data⟩ (by simp) rfl
        obtain rfl := (hV.2.2.1) p2
        have p3 : l.getD 3 false = true := hmet _ rfl ⟨3, .data⟩ (by simp) rfl
        obtain rfl := (hV.2.2.2.1) p3
        go_wp2_with (go_at_call 19; (with_reducible refine (and_any _ _ _ _ _ _ x0 x1 x2 hx0 hx1 hx2 _).mono ?_); rintro e w9 ⟨rfl, hb9⟩)
        exact ⟨_, _, _, _, _, _, _, _, _, _, _, _, rfl, holds_old hH hb9, ordVals_4 hV, ordAllocs_set 4 (by decide) hA hb9⟩
      · obtain rfl := Option.some.inj ho
        obtain ⟨v7, v8, v30, v31, v32, v33, v34, v35, v36, v37, v38, v39, rfl, hH, hV, hA⟩ := hS
        obtain ⟨s0, s1, s2, s3, _⟩ := id hH
        obtain ⟨k1, f1, z1⟩ := of_block s1
        obtain ⟨k2, f2, z2⟩ := of_block s2
        obtain ⟨k3, f3, z3⟩ := of_block s3
        go_wp2
        exact ⟨_, _, _, _, _, _, _, _, _, _, _, _, rfl, hH, ordVals_5 hV, ordAllocs_set 5 (by decide) hA (old_refl _)⟩
      · obtain rfl := Option.some.inj ho
        obtain ⟨v7, v8, v30, v31, v32, v33, v34, v35, v36, v37, v38, v39, rfl, hH, hV, hA⟩ := hS
        obtain ⟨s0, s1, s2, s3, _⟩ := id hH
        obtain ⟨k1, f1, z1⟩ := of_block s1
        obtain ⟨k2, f2, z2⟩ := of_block s2
        obtain ⟨k3, f3, z3⟩ := of_block s3
        go_wp2
        exact ⟨_, _, _, _, _, _, _, _, _, _, _, _, rfl, hH, ordVals_6 hV, ordAllocs_set 6 (by decide) hA (old_refl _)⟩
      · obtain rfl := Option.some.inj ho
        obtain ⟨v7, v8, v30, v31, v32, v33, v34, v35, v36, v37, v38, v39, rfl, hH, hV, hA⟩ := hS
        obtain ⟨s0, s1, s2, s3, _⟩ := id hH
        obtain ⟨k1, f1, z1⟩ := of_block s1
        obtain ⟨k2, f2, z2⟩ := of_block s2
        obtain ⟨k3, f3, z3⟩ := of_block s3
        go_wp2
        exact ⟨_, _, _, _, _, _, _, _, _, _, _, _, rfl, hH, ordVals_7 hV, ordAllocs_set 7 (by decide) hA (old_refl _)⟩
      · obtain rfl := Option.some.inj ho
        obtain ⟨v7, v8, v30, v31, v32, v33, v34, v35, v36, v37, v38, v39, rfl, hH, hV, hA⟩ := hS
        obtain ⟨s0, s1, s2, s3, _⟩ := id hH
        obtain ⟨k1, f1, z1⟩ := of_block s1
        obtain ⟨k2, f2, z2⟩ := of_block s2
        obtain ⟨k3, f3, z3⟩ := of_block s3
        have p6 : l.getD 6 false = true := hmet _ rfl ⟨6, .data⟩ (by simp) rfl
        obtain rfl := (hV.2.2.2.2.2.2.1) p6
        have p7 : l.getD 7 false = true := hmet _ rfl ⟨7, .data⟩ (by simp) rfl
        obtain rfl := (hV.2.2.2.2.2.2.2.1) p7
        go_wp2_with (go_at_call 19; (with_reducible refine (and_any _ _ _ _ _ _ _ _ _ rfl rfl rfl _).mono ?_); rintro e w9 ⟨rfl, hb9⟩)
        exact ⟨_, _, _, _, _, _, _, _, _, _, _, _, rfl, holds_old hH hb9, ordVals_8 hV, ordAllocs_set 8 (by decide) hA hb9⟩
      · obtain rfl := Option.some.inj ho
        obtain ⟨v7, v8, v30, v31, v32, v33, v34, v35, v36, v37, v38, v39, rfl, hH, hV, hA⟩ := hS
        obtain ⟨s0, s1, s2, s3, _⟩ := id hH
        obtain ⟨k1, f1, z1⟩ := of_block s1
        obtain ⟨k2, f2, z2⟩ := of_block s2
        obtain ⟨k3, f3, z3⟩ := of_block s3
        have p5 : l.getD 5 false = true := hmet _ rfl ⟨5, .data⟩ (by simp) rfl
        obtain rfl := (hV.2.2.2.2.2.1) p5
        have p8 : l.getD 8 false = true := hmet _ rfl ⟨8, .data⟩ (by simp) rfl
        obtain rfl := (hV.2.2.2.2.2.2.2.2.1) p8
        go_wp2_with (go_at_call 19; (with_reducible refine (and_any _ _ _ _ _ _ x0 x1 x2 hy0 hy1 hy2 _).mono ?_); rintro e w9 ⟨rfl, hb9⟩)
        exact ⟨_, _, _, _, _, _, _, _, _, _, _, _, rfl, holds_old hH hb9, ordVals_9 hV, ordAllocs_set 9 (by decide) hA hb9⟩
      · obtain rfl := Option.some.inj ho
        obtain ⟨v7, v8, v30, v31, v32, v33, v34, v35, v36, v37, v38, v39, rfl, hH, hV, hA⟩ := hS
        obtain ⟨s0, s1, s2, s3, _⟩ := id hH
        obtain ⟨k1, f1, z1⟩ := of_block s1
        obtain ⟨k2, f2, z2⟩ := of_block s2
        obtain ⟨k3, f3, z3⟩ := of_block s3
        go_wp2
        exact ⟨_, _, _, _, _, _, _, _, _, _, _, _, rfl, holds_old hH (old_alloc (old_refl _) _), ordVals_set 10 (by decide) hV, ordAllocs_10 hl hn z1 hA⟩
      · obtain rfl := Option.some.inj ho
        obtain ⟨v7, v8, v30, v31, v32, v33, v34, v35, v36, v37, v38, v39, rfl, hH, hV, hA⟩ := hS
        obtain ⟨s0, s1, s2, s3, _⟩ := id hH
        obtain ⟨k1, f1, z1⟩ := of_block s1
        obtain ⟨k2, f2, z2⟩ := of_block s2
        obtain ⟨k3, f3, z3⟩ := of_block s3
        go_wp2
        exact ⟨_, _, _, _, _, _, _, _, _, _, _, _, rfl, holds_old hH (old_alloc (old_refl _) _), ordVals_set 11 (by decide) hV, ordAllocs_11 hl hn z1 hA⟩
      · obtain rfl := Option.some.inj ho
        obtain ⟨v7, v8, v30, v31, v32, v33, v34, v35, v36, v37, v38, v39, rfl, hH, hV, hA⟩ := hS
        obtain ⟨s0, s1, s2, s3, _⟩ := id hH
        obtain ⟨k1, f1, z1⟩ := of_block s1
        obtain ⟨k2, f2, z2⟩ := of_block s2
        obtain ⟨k3, f3, z3⟩ := of_block s3
        have pv : l.getD 4 false = true := hmet _ rfl ⟨4, .data⟩ (by simp) rfl
        have pa : l.getD 10 false = true := hmet _ rfl ⟨10, .data⟩ (by simp) rfl
        obtain rfl := (hV.2.2.2.2.1) pv
        obtain ⟨p, rfl, hp1, hp2⟩ := hA.1 pa
        rw [hn] at hp2
        obtain ⟨kp, fp, zp⟩ := of_block hp2
        go_wp2
        rw [set3 hp2]
        exact ⟨_, _, _, _, _, _, _, _, _, _, _, _, rfl, holds_put3 _ hH hp1, ordVals_set 12 (by decide) hV, ordAllocs_12 hl pa rfl hA⟩
      · obtain rfl := Option.some.inj ho
        obtain ⟨v7, v8, v30, v31, v32, v33, v34, v35, v36, v37, v38, v39, rfl, hH, hV, hA⟩ := hS
        obtain ⟨s0, s1, s2, s3, _⟩ := id hH
        obtain ⟨k1, f1, z1⟩ := of_block s1
        obtain ⟨k2, f2, z2⟩ := of_block s2
        obtain ⟨k3, f3, z3⟩ := of_block s3
        have pv : l.getD 9 false = true := hmet _ rfl ⟨9, .data⟩ (by simp) rfl
        have pa : l.getD 11 false = true := hmet _ rfl ⟨11, .data⟩ (by simp) rfl
        obtain rfl := (hV.2.2.2.2.2.2.2.2.2) pv
        obtain ⟨p, rfl, hp1, hp2⟩ := hA.2.1 pa
        rw [hn] at hp2
        obtain ⟨kp, fp, zp⟩ := of_block hp2
        go_wp2
        rw [set3 hp2]
        exact ⟨_, _, _, _, _, _, _, _, _, _, _, _, rfl, holds_put3 _ hH hp1, ordVals_set 13 (by decide) hV, ordAllocs_13 hl pa rfl hA⟩
    · intro l b x hl hall hS
      obtain ⟨v7, v8, v30, v31, v32, v33, v34, v35, v36, v37, v38, v39, rfl, hH, hV, hA⟩ := hS
      obtain ⟨p, rfl, hp1, hp2⟩ := hA.1 (hall 10 (by decide))
      obtain ⟨q, rfl, hq1, hq2⟩ := hA.2.1 (hall 11 (by decide))
      rw [hall 12 (by decide)] at hp2
      rw [hall 13 (by decide)] at hq2
      go_wp2
      go_meet
      case rel => exact ⟨p, q, rfl, rfl, hH.1, hq2, hp2, hH.2⟩
  case rest =>
  obtain ⟨p, q, rfl, rfl, hH⟩ := hcut
  have hXB : ∀ k : Int, allowsB x0 x1 x2 k = (allowsB a0 a1 a2 k && allowsB b0 b1 b2 k && allowsB c0 c1 c2 k) := fun k => by
    rw [← HX0.out, ← HX1.out, ← HX2.out, allows_and, allows_and]
  have hO2 : ∀ k : Int, (withinB a0 a1 a2 b0 b1 b2 && allowsB a0 a1 a2 k && !allowsB b0 b1 b2 k) = false := fun k => order_two _ _ _ _ _ _ k
  have HXB := Lib.hid hXB
  have HO2 := Lib.hid hO2
  clear hXB hO2
  go_wp2
  go_loopw [9] (fun v wr => ∃ k : Nat, v = .int .i64 k ∧ 1 ≤ k ∧ k ≤ 4 ∧ Holds w ((q, #[.bool x0, .bool x1, .bool x2], 23) :: (p, #[.bool x0, .bool x1, .bool x2], 23) :: (OrdL w #[.bool a0, .bool a1, .bool a2] #[.bool b0, .bool b1, .bool b2] #[.bool c0, .bool c1, .bool c2])) wr) (fun v _ => (5 - intOf v).toNat)
  case atStart => exact ⟨1, rfl, by omega, by omega, hH⟩
  case round =>
  clear hH
  obtain ⟨k, rfl, hk1, hk4, hH⟩ := hrel
  by_cases hk : k < 4
  · have hX := HXB.out k
    have hO := HO2.out k
    generalize hA : allowsB a0 a1 a2 k = A at *
    generalize hB : allowsB b0 b1 b2 k = B at *
    generalize hC : allowsB c0 c1 c2 k = C at *
    generalize hp : withinB a0 a1 a2 b0 b1 b2 = P at *
    cases A <;> cases B
    case false.false =>
      simp only [Bool.and_true, Bool.true_and, Bool.and_false, Bool.false_and, Bool.and_self] at hX
      clear hO
      go_wp2_with fail
      refine wp_region_walked (S := Holds w ((q, #[.bool x0, .bool x1, .bool x2], 23) :: (p, #[.bool x0, .bool x1, .bool x2], 23) :: (OrdL w #[.bool a0, .bool a1, .bool a2] #[.bool b0, .bool b1, .bool b2] #[.bool c0, .bool c1, .bool c2]))) (by kernel_rfl) (by kernel_rfl) (holds_drew hH) ?_
      repeat (apply walked_cons; (first | exact gives_and rfl rfl rfl rfl | exact gives_or rfl rfl rfl rfl | (focus (intro wS hS; obtain ⟨s0, s1, s2, s3, s4, s5, _⟩ := id hS; obtain ⟨k1, f1, z1⟩ := of_block s1; obtain ⟨k2, f2, z2⟩ := of_block s2; obtain ⟨k3, f3, z3⟩ := of_block s3; obtain ⟨k4, f4, z4⟩ := of_block s4; obtain ⟨k5, f5, z5⟩ := of_block s5; go_wp2_with (first | (go_at_call 20; (with_reducible refine (allows_any _ _ _ _ _ (by first | exact hA | exact hB | exact hC | exact hX) _).mono ?_); rintro e w9 ⟨rfl, hb9⟩) | (go_at_call 21; (with_reducible refine (within_any _ _ _ _ _ _ _ (by exact hp) _).mono ?_); rintro e w9 ⟨rfl, hb9⟩)); (first | exact ⟨rfl, rfl, hS⟩ | exact ⟨rfl, rfl, holds_old hS hb9⟩); done)) | (focus (apply gives_guard; (focus (first | exact wanted_yes rfl rfl rfl | exact wanted_no rfl rfl rfl | exact wanted_yes2 rfl rfl rfl | exact wanted_no2 rfl rfl rfl)); (focus (intro hx9; (try simp only [Bool.not_eq_true', Bool.and_eq_true, Bool.not_not] at hx9); (try obtain ⟨hx9, hy9⟩ := hx9); (try subst hy9); (try subst hx9); (first | exact gives_and rfl rfl rfl rfl | exact gives_or rfl rfl rfl rfl | (intro wS hS; obtain ⟨s0, s1, s2, s3, s4, s5, _⟩ := id hS; obtain ⟨k1, f1, z1⟩ := of_block s1; obtain ⟨k2, f2, z2⟩ := of_block s2; obtain ⟨k3, f3, z3⟩ := of_block s3; obtain ⟨k4, f4, z4⟩ := of_block s4; obtain ⟨k5, f5, z5⟩ := of_block s5; go_wp2_with (first | (go_at_call 20; (with_reducible refine (allows_any _ _ _ _ _ (by first | exact hA | exact hB | exact hC | exact hX) _).mono ?_); rintro e w9 ⟨rfl, hb9⟩) | (go_at_call 21; (with_reducible refine (within_any _ _ _ _ _ _ _ (by exact hp) _).mono ?_); rintro e w9 ⟨rfl, hb9⟩)); (first | exact ⟨rfl, rfl, hS⟩ | exact ⟨rfl, rfl, holds_old hS hb9⟩); done))))))); rfl; (try simp only [Act.put, List.setIfInBounds_toArray, List.set_cons_succ, List.set_cons_zero]))
      apply walked_nil
      intro wS hS
      go_wp2
      go_roundw
      case rel => exact ⟨k + 1, by go_num, by omega, by omega, hS⟩
      case measure => (simp [intOf]) <;> omega
    case false.true =>
      simp only [Bool.and_true, Bool.true_and, Bool.and_false, Bool.false_and, Bool.and_self] at hX
      clear hO
      go_wp2_with fail
      refine wp_region_walked (S := Holds w ((q, #[.bool x0, .bool x1, .bool x2], 23) :: (p, #[.bool x0, .bool x1, .bool x2], 23) :: (OrdL w #[.bool a0, .bool a1, .bool a2] #[.bool b0, .bool b1, .bool b2] #[.bool c0, .bool c1, .bool c2]))) (by kernel_rfl) (by kernel_rfl) (holds_drew hH) ?_
      repeat (apply walked_cons; (first | exact gives_and rfl rfl rfl rfl | exact gives_or rfl rfl rfl rfl | (focus (intro wS hS; obtain ⟨s0, s1, s2, s3, s4, s5, _⟩ := id hS; obtain ⟨k1, f1, z1⟩ := of_block s1; obtain ⟨k2, f2, z2⟩ := of_block s2; obtain ⟨k3, f3, z3⟩ := of_block s3; obtain ⟨k4, f4, z4⟩ := of_block s4; obtain ⟨k5, f5, z5⟩ := of_block s5; go_wp2_with (first | (go_at_call 20; (with_reducible refine (allows_any _ _ _ _ _ (by first | exact hA | exact hB | exact hC | exact hX) _).mono ?_); rintro e w9 ⟨rfl, hb9⟩) | (go_at_call 21; (with_reducible refine (within_any _ _ _ _ _ _ _ (by exact hp) _).mono ?_); rintro e w9 ⟨rfl, hb9⟩)); (first | exact ⟨rfl, rfl, hS⟩ | exact ⟨rfl, rfl, holds_old hS hb9⟩); done)) | (focus (apply gives_guard; (focus (first | exact wanted_yes rfl rfl rfl | exact wanted_no rfl rfl rfl | exact wanted_yes2 rfl rfl rfl | exact wanted_no2 rfl rfl rfl)); (focus (intro hx9; (try simp only [Bool.not_eq_true', Bool.and_eq_true, Bool.not_not] at hx9); (try obtain ⟨hx9, hy9⟩ := hx9); (try subst hy9); (try subst hx9); (first | exact gives_and rfl rfl rfl rfl | exact gives_or rfl rfl rfl rfl | (intro wS hS; obtain ⟨s0, s1, s2, s3, s4, s5, _⟩ := id hS; obtain ⟨k1, f1, z1⟩ := of_block s1; obtain ⟨k2, f2, z2⟩ := of_block s2; obtain ⟨k3, f3, z3⟩ := of_block s3; obtain ⟨k4, f4, z4⟩ := of_block s4; obtain ⟨k5, f5, z5⟩ := of_block s5; go_wp2_with (first | (go_at_call 20; (with_reducible refine (allows_any _ _ _ _ _ (by first | exact hA | exact hB | exact hC | exact hX) _).mono ?_); rintro e w9 ⟨rfl, hb9⟩) | (go_at_call 21; (with_reducible refine (within_any _ _ _ _ _ _ _ (by exact hp) _).mono ?_); rintro e w9 ⟨rfl, hb9⟩)); (first | exact ⟨rfl, rfl, hS⟩ | exact ⟨rfl, rfl, holds_old hS hb9⟩); done))))))); rfl; (try simp only [Act.put, List.setIfInBounds_toArray, List.set_cons_succ, List.set_cons_zero]))
      apply walked_nil
      intro wS hS
      go_wp2
      go_roundw
      case rel => exact ⟨k + 1, by go_num, by omega, by omega, hS⟩
      case measure => (simp [intOf]) <;> omega
    case true.false =>
      obtain rfl : P = false := by simpa using hO
      simp only [Bool.and_true, Bool.true_and, Bool.and_false, Bool.false_and, Bool.and_self] at hX
      clear hO
      go_wp2_with fail
      refine wp_region_walked (S := Holds w ((q, #[.bool x0, .bool x1, .bool x2], 23) :: (p, #[.bool x0, .bool x1, .bool x2], 23) :: (OrdL w #[.bool a0, .bool a1, .bool a2] #[.bool b0, .bool b1, .bool b2] #[.bool c0, .bool c1, .bool c2]))) (by kernel_rfl) (by kernel_rfl) (holds_drew hH) ?_
      repeat (apply walked_cons; (first | exact gives_and rfl rfl rfl rfl | exact gives_or rfl rfl rfl rfl | (focus (intro wS hS; obtain ⟨s0, s1, s2, s3, s4, s5, _⟩ := id hS; obtain ⟨k1, f1, z1⟩ := of_block s1; obtain ⟨k2, f2, z2⟩ := of_block s2; obtain ⟨k3, f3, z3⟩ := of_block s3; obtain ⟨k4, f4, z4⟩ := of_block s4; obtain ⟨k5, f5, z5⟩ := of_block s5; go_wp2_with (first | (go_at_call 20; (with_reducible refine (allows_any _ _ _ _ _ (by first | exact hA | exact hB | exact hC | exact hX) _).mono ?_); rintro e w9 ⟨rfl, hb9⟩) | (go_at_call 21; (with_reducible refine (within_any _ _ _ _ _ _ _ (by exact hp) _).mono ?_); rintro e w9 ⟨rfl, hb9⟩)); (first | exact ⟨rfl, rfl, hS⟩ | exact ⟨rfl, rfl, holds_old hS hb9⟩); done)) | (focus (apply gives_guard; (focus (first | exact wanted_yes rfl rfl rfl | exact wanted_no rfl rfl rfl | exact wanted_yes2 rfl rfl rfl | exact wanted_no2 rfl rfl rfl)); (focus (intro hx9; (try simp only [Bool.not_eq_true', Bool.and_eq_true, Bool.not_not] at hx9); (try obtain ⟨hx9, hy9⟩ := hx9); (try subst hy9); (try subst hx9); (first | exact gives_and rfl rfl rfl rfl | exact gives_or rfl rfl rfl rfl | (intro wS hS; obtain ⟨s0, s1, s2, s3, s4, s5, _⟩ := id hS; obtain ⟨k1, f1, z1⟩ := of_block s1; obtain ⟨k2, f2, z2⟩ := of_block s2; obtain ⟨k3, f3, z3⟩ := of_block s3; obtain ⟨k4, f4, z4⟩ := of_block s4; obtain ⟨k5, f5, z5⟩ := of_block s5; go_wp2_with (first | (go_at_call 20; (with_reducible refine (allows_any _ _ _ _ _ (by first | exact hA | exact hB | exact hC | exact hX) _).mono ?_); rintro e w9 ⟨rfl, hb9⟩) | (go_at_call 21; (with_reducible refine (within_any _ _ _ _ _ _ _ (by exact hp) _).mono ?_); rintro e w9 ⟨rfl, hb9⟩)); (first | exact ⟨rfl, rfl, hS⟩ | exact ⟨rfl, rfl, holds_old hS hb9⟩); done))))))); rfl; (try simp only [Act.put, List.setIfInBounds_toArray, List.set_cons_succ, List.set_cons_zero]))
      apply walked_nil
      intro wS hS
      go_wp2
      go_roundw
      case rel => exact ⟨k + 1, by go_num, by omega, by omega, hS⟩
      case measure => (simp [intOf]) <;> omega
    case true.true =>
      simp only [Bool.and_true, Bool.true_and, Bool.and_false, Bool.false_and, Bool.and_self] at hX
      clear hO
      go_wp2_with fail
      refine wp_region_walked (S := Holds w ((q, #[.bool x0, .bool x1, .bool x2], 23) :: (p, #[.bool x0, .bool x1, .bool x2], 23) :: (OrdL w #[.bool a0, .bool a1, .bool a2] #[.bool b0, .bool b1, .bool b2] #[.bool c0, .bool c1, .bool c2]))) (by kernel_rfl) (by kernel_rfl) (holds_drew hH) ?_
      repeat (apply walked_cons; (first | exact gives_and rfl rfl rfl rfl | exact gives_or rfl rfl rfl rfl | (focus (intro wS hS; obtain ⟨s0, s1, s2, s3, s4, s5, _⟩ := id hS; obtain ⟨k1, f1, z1⟩ := of_block s1; obtain ⟨k2, f2, z2⟩ := of_block s2; obtain ⟨k3, f3, z3⟩ := of_block s3; obtain ⟨k4, f4, z4⟩ := of_block s4; obtain ⟨k5, f5, z5⟩ := of_block s5; go_wp2_with (first | (go_at_call 20; (with_reducible refine (allows_any _ _ _ _ _ (by first | exact hA | exact hB | exact hC | exact hX) _).mono ?_); rintro e w9 ⟨rfl, hb9⟩) | (go_at_call 21; (with_reducible refine (within_any _ _ _ _ _ _ _ (by exact hp) _).mono ?_); rintro e w9 ⟨rfl, hb9⟩)); (first | exact ⟨rfl, rfl, hS⟩ | exact ⟨rfl, rfl, holds_old hS hb9⟩); done)) | (focus (apply gives_guard; (focus (first | exact wanted_yes rfl rfl rfl | exact wanted_no rfl rfl rfl | exact wanted_yes2 rfl rfl rfl | exact wanted_no2 rfl rfl rfl)); (focus (intro hx9; (try simp only [Bool.not_eq_true', Bool.and_eq_true, Bool.not_not] at hx9); (try obtain ⟨hx9, hy9⟩ := hx9); (try subst hy9); (try subst hx9); (first | exact gives_and rfl rfl rfl rfl | exact gives_or rfl rfl rfl rfl | (intro wS hS; obtain ⟨s0, s1, s2, s3, s4, s5, _⟩ := id hS; obtain ⟨k1, f1, z1⟩ := of_block s1; obtain ⟨k2, f2, z2⟩ := of_block s2; obtain ⟨k3, f3, z3⟩ := of_block s3; obtain ⟨k4, f4, z4⟩ := of_block s4; obtain ⟨k5, f5, z5⟩ := of_block s5; go_wp2_with (first | (go_at_call 20; (with_reducible refine (allows_any _ _ _ _ _ (by first | exact hA | exact hB | exact hC | exact hX) _).mono ?_); rintro e w9 ⟨rfl, hb9⟩) | (go_at_call 21; (with_reducible refine (within_any _ _ _ _ _ _ _ (by exact hp) _).mono ?_); rintro e w9 ⟨rfl, hb9⟩)); (first | exact ⟨rfl, rfl, hS⟩ | exact ⟨rfl, rfl, holds_old hS hb9⟩); done))))))); rfl; (try simp only [Act.put, List.setIfInBounds_toArray, List.set_cons_succ, List.set_cons_zero]))
      apply walked_nil
      intro wS hS
      go_wp2
      · rename_i hbad
        exact absurd hbad (by simp)
      go_roundw
      case rel => exact ⟨k + 1, by go_num, by omega, by omega, hS⟩
      case measure => (simp [intOf]) <;> omega
  · obtain rfl : k = 4 := by omega
    clear hk hk1 hk4
    go_wp2_with fail
    generalize hp : withinB a0 a1 a2 b0 b1 b2 = P at *
    have hq1 : ∀ w' : World, (Op.equalIn 10000 23 (.agg #[.bool x0, .bool x1, .bool x2]) (.agg #[.bool x0, .bool x1, .bool x2])).run Try.prog w' = .ok true w' := fun w' => by rw [eq_perm]; simp
    have hq2 : ∀ w' : World, (Op.equalIn 10000 23 (.agg #[.bool a0, .bool a1, .bool a2]) (.agg #[.bool a0, .bool a1, .bool a2])).run Try.prog w' = .ok true w' := fun w' => by rw [eq_perm]; simp
    have hq3 : ∀ w' : World, (Op.equalIn 10000 23 (.agg #[.bool (a0 && b0), .bool (a1 && b1), .bool (a2 && b2)]) (.agg #[.bool a0, .bool a1, .bool a2])).run Try.prog w' = .ok P w' := fun w' => by rw [eq_perm, ← hp, ← within_and]
    obtain ⟨E, hE⟩ : ∃ E, (a0 == b0 && (a1 == b1 && (a2 == b2 && true))) = E := ⟨_, rfl⟩
    have hq4 : ∀ w' : World, (Op.equalIn 10000 23 (.agg #[.bool a0, .bool a1, .bool a2]) (.agg #[.bool b0, .bool b1, .bool b2])).run Try.prog w' = .ok E w' := fun w' => by rw [eq_perm, hE]
    have hT : ((permText a0 a1 a2).toList == (permText b0 b1 b2).toList) = E := by rw [text_same, hE]
    clear hE
    refine wp_region_walked (S := Holds w ((q, #[.bool x0, .bool x1, .bool x2], 23) :: (p, #[.bool x0, .bool x1, .bool x2], 23) :: (OrdL w #[.bool a0, .bool a1, .bool a2] #[.bool b0, .bool b1, .bool b2] #[.bool c0, .bool c1, .bool c2]))) (by kernel_rfl) (by kernel_rfl) (holds_drew hH) ?_
    repeat (apply walked_cons; (first | exact gives_and rfl rfl rfl rfl | exact gives_or rfl rfl rfl rfl | (focus (intro wS hS; obtain ⟨s0, s1, s2, s3, s4, s5, _⟩ := id hS; obtain ⟨k1, f1, z1⟩ := of_block s1; obtain ⟨k2, f2, z2⟩ := of_block s2; obtain ⟨k3, f3, z3⟩ := of_block s3; obtain ⟨k4, f4, z4⟩ := of_block s4; obtain ⟨k5, f5, z5⟩ := of_block s5; go_wp2_with (first | (go_at_call 16; (with_reducible refine (permTold_calls _).mono ?_); rintro e w9 ⟨rfl, hb9⟩) | (go_at_call 19; (with_reducible refine (and_any _ _ _ _ _ _ _ _ _ rfl rfl rfl _).mono ?_); rintro e w9 ⟨rfl, hb9⟩) | (go_at_call 21; (with_reducible refine (within_any _ _ _ _ _ _ _ hp _).mono ?_); rintro e w9 ⟨rfl, hb9⟩) | (go_at_call 17; (with_reducible refine (text_calls _ _ _ _).mono ?_); rintro e w9 ⟨rfl, hb9⟩)); (first | exact ⟨rfl, rfl, hS⟩ | exact ⟨rfl, rfl, holds_old hS hb9⟩); done)) | (focus (apply gives_guard; (focus (first | exact wanted_yes rfl rfl rfl | exact wanted_no rfl rfl rfl | exact wanted_yes2 rfl rfl rfl | exact wanted_no2 rfl rfl rfl)); (focus (intro hx9; (try simp only [Bool.not_eq_true', Bool.and_eq_true, Bool.not_not] at hx9); (try obtain ⟨hx9, hy9⟩ := hx9); (try subst hy9); (try subst hx9); (first | exact gives_and rfl rfl rfl rfl | exact gives_or rfl rfl rfl rfl | (intro wS hS; obtain ⟨s0, s1, s2, s3, s4, s5, _⟩ := id hS; obtain ⟨k1, f1, z1⟩ := of_block s1; obtain ⟨k2, f2, z2⟩ := of_block s2; obtain ⟨k3, f3, z3⟩ := of_block s3; obtain ⟨k4, f4, z4⟩ := of_block s4; obtain ⟨k5, f5, z5⟩ := of_block s5; go_wp2_with (first | (go_at_call 16; (with_reducible refine (permTold_calls _).mono ?_); rintro e w9 ⟨rfl, hb9⟩) | (go_at_call 19; (with_reducible refine (and_any _ _ _ _ _ _ _ _ _ rfl rfl rfl _).mono ?_); rintro e w9 ⟨rfl, hb9⟩) | (go_at_call 21; (with_reducible refine (within_any _ _ _ _ _ _ _ hp _).mono ?_); rintro e w9 ⟨rfl, hb9⟩) | (go_at_call 17; (with_reducible refine (text_calls _ _ _ _).mono ?_); rintro e w9 ⟨rfl, hb9⟩)); (first | exact ⟨rfl, rfl, hS⟩ | exact ⟨rfl, rfl, holds_old hS hb9⟩); done))))))); rfl; (try simp only [Act.put, List.setIfInBounds_toArray, List.set_cons_succ, List.set_cons_zero]))
    apply walked_nil
    intro wS hS
    go_wp2
    go_returns
    exact ⟨rfl, hS.1⟩

end Go.Proofs.Ytbnbchclbblbkaa
