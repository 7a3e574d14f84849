/- Contracts of the document's disk: Write that writes. -/
import Derived.Test.YtfiofjalpaeohaaRef6d
import Derived.Test.YtfiofjalpaeohaaInv
namespace Go.Proofs.Ytfiofjalpaeohaa
set_option linter.unusedVariables false
set_option linter.unusedSimpArgs false
open Go.RowKit

/-- The values, as far as they have come. -/
def NineVals (c0 c1 c2 c3 c4 c5 c6 c7 c8 : Value) (l : Array Bool) (v0 v1 v2 v3 v4 v5 v6 v7 v8 : Value) : Prop := (l.getD 0 false = true → v0 = c0) ∧ (l.getD 1 false = true → v1 = c1) ∧ (l.getD 2 false = true → v2 = c2) ∧ (l.getD 3 false = true → v3 = c3) ∧ (l.getD 4 false = true → v4 = c4) ∧ (l.getD 5 false = true → v5 = c5) ∧ (l.getD 6 false = true → v6 = c6) ∧ (l.getD 7 false = true → v7 = c7) ∧ (l.getD 8 false = true → v8 = c8)
theorem nineVals_set {c0 c1 c2 c3 c4 c5 c6 c7 c8 : Value} {l : Array Bool} {v0 v1 v2 v3 v4 v5 v6 v7 v8 : Value} (j : Nat) (hj : 9 ≤ j) (h : NineVals c0 c1 c2 c3 c4 c5 c6 c7 c8 l v0 v1 v2 v3 v4 v5 v6 v7 v8) : NineVals c0 c1 c2 c3 c4 c5 c6 c7 c8 (l.setIfInBounds j true) v0 v1 v2 v3 v4 v5 v6 v7 v8 := by
  unfold NineVals at h ⊢
  simp only [getD_set_ne false (show j ≠ 0 by omega), getD_set_ne false (show j ≠ 1 by omega), getD_set_ne false (show j ≠ 2 by omega), getD_set_ne false (show j ≠ 3 by omega), getD_set_ne false (show j ≠ 4 by omega), getD_set_ne false (show j ≠ 5 by omega), getD_set_ne false (show j ≠ 6 by omega), getD_set_ne false (show j ≠ 7 by omega), getD_set_ne false (show j ≠ 8 by omega)]
  exact h
theorem nineVals_0 {c0 c1 c2 c3 c4 c5 c6 c7 c8 : Value} {l : Array Bool} {v0 v1 v2 v3 v4 v5 v6 v7 v8 : Value} (h : NineVals c0 c1 c2 c3 c4 c5 c6 c7 c8 l v0 v1 v2 v3 v4 v5 v6 v7 v8) : NineVals c0 c1 c2 c3 c4 c5 c6 c7 c8 (l.setIfInBounds 0 true) c0 v1 v2 v3 v4 v5 v6 v7 v8 := by
  unfold NineVals at h ⊢
  obtain ⟨h0, h1, h2, h3, h4, h5, h6, h7, h8⟩ := h
  exact ⟨fun _ => rfl, fun e => h1 (by rwa [getD_set_ne false (by decide)] at e), fun e => h2 (by rwa [getD_set_ne false (by decide)] at e), fun e => h3 (by rwa [getD_set_ne false (by decide)] at e), fun e => h4 (by rwa [getD_set_ne false (by decide)] at e), fun e => h5 (by rwa [getD_set_ne false (by decide)] at e), fun e => h6 (by rwa [getD_set_ne false (by decide)] at e), fun e => h7 (by rwa [getD_set_ne false (by decide)] at e), fun e => h8 (by rwa [getD_set_ne false (by decide)] at e)⟩
theorem nineVals_1 {c0 c1 c2 c3 c4 c5 c6 c7 c8 : Value} {l : Array Bool} {v0 v1 v2 v3 v4 v5 v6 v7 v8 : Value} (h : NineVals c0 c1 c2 c3 c4 c5 c6 c7 c8 l v0 v1 v2 v3 v4 v5 v6 v7 v8) : NineVals c0 c1 c2 c3 c4 c5 c6 c7 c8 (l.setIfInBounds 1 true) v0 c1 v2 v3 v4 v5 v6 v7 v8 := by
  unfold NineVals at h ⊢
  obtain ⟨h0, h1, h2, h3, h4, h5, h6, h7, h8⟩ := h
  exact ⟨fun e => h0 (by rwa [getD_set_ne false (by decide)] at e), fun _ => rfl, fun e => h2 (by rwa [getD_set_ne false (by decide)] at e), fun e => h3 (by rwa [getD_set_ne false (by decide)] at e), fun e => h4 (by rwa [getD_set_ne false (by decide)] at e), fun e => h5 (by rwa [getD_set_ne false (by decide)] at e), fun e => h6 (by rwa [getD_set_ne false (by decide)] at e), fun e => h7 (by rwa [getD_set_ne false (by decide)] at e), fun e => h8 (by rwa [getD_set_ne false (by decide)] at e)⟩
theorem nineVals_2 {c0 c1 c2 c3 c4 c5 c6 c7 c8 : Value} {l : Array Bool} {v0 v1 v2 v3 v4 v5 v6 v7 v8 : Value} (h : NineVals c0 c1 c2 c3 c4 c5 c6 c7 c8 l v0 v1 v2 v3 v4 v5 v6 v7 v8) : NineVals c0 c1 c2 c3 c4 c5 c6 c7 c8 (l.setIfInBounds 2 true) v0 v1 c2 v3 v4 v5 v6 v7 v8 := by
  unfold NineVals at h ⊢
  obtain ⟨h0, h1, h2, h3, h4, h5, h6, h7, h8⟩ := h
  exact ⟨fun e => h0 (by rwa [getD_set_ne false (by decide)] at e), fun e => h1 (by rwa [getD_set_ne false (by decide)] at e), fun _ => rfl, fun e => h3 (by rwa [getD_set_ne false (by decide)] at e), fun e => h4 (by rwa [getD_set_ne false (by decide)] at e), fun e => h5 (by rwa [getD_set_ne false (by decide)] at e), fun e => h6 (by rwa [getD_set_ne false (by decide)] at e), fun e => h7 (by rwa [getD_set_ne false (by decide)] at e), fun e => h8 (by rwa [getD_set_ne false (by decide)] at e)⟩
theorem nineVals_3 {c0 c1 c2 c3 c4 c5 c6 c7 c8 : Value} {l : Array Bool} {v0 v1 v2 v3 v4 v5 v6 v7 v8 : Value} (h : NineVals c0 c1 c2 c3 c4 c5 c6 c7 c8 l v0 v1 v2 v3 v4 v5 v6 v7 v8) : NineVals c0 c1 c2 c3 c4 c5 c6 c7 c8 (l.setIfInBounds 3 true) v0 v1 v2 c3 v4 v5 v6 v7 v8 := by
  unfold NineVals at h ⊢
  obtain ⟨h0, h1, h2, h3, h4, h5, h6, h7, h8⟩ := h
  exact ⟨fun e => h0 (by rwa [getD_set_ne false (by decide)] at e), fun e => h1 (by rwa [getD_set_ne false (by decide)] at e), fun e => h2 (by rwa [getD_set_ne false (by decide)] at e), fun _ => rfl, fun e => h4 (by rwa [getD_set_ne false (by decide)] at e), fun e => h5 (by rwa [getD_set_ne false (by decide)] at e), fun e => h6 (by rwa [getD_set_ne false (by decide)] at e), fun e => h7 (by rwa [getD_set_ne false (by decide)] at e), fun e => h8 (by rwa [getD_set_ne false (by decide)] at e)⟩
theorem nineVals_4 {c0 c1 c2 c3 c4 c5 c6 c7 c8 : Value} {l : Array Bool} {v0 v1 v2 v3 v4 v5 v6 v7 v8 : Value} (h : NineVals c0 c1 c2 c3 c4 c5 c6 c7 c8 l v0 v1 v2 v3 v4 v5 v6 v7 v8) : NineVals c0 c1 c2 c3 c4 c5 c6 c7 c8 (l.setIfInBounds 4 true) v0 v1 v2 v3 c4 v5 v6 v7 v8 := by
  unfold NineVals at h ⊢
  obtain ⟨h0, h1, h2, h3, h4, h5, h6, h7, h8⟩ := h
  exact ⟨fun e => h0 (by rwa [getD_set_ne false (by decide)] at e), fun e => h1 (by rwa [getD_set_ne false (by decide)] at e), fun e => h2 (by rwa [getD_set_ne false (by decide)] at e), fun e => h3 (by rwa [getD_set_ne false (by decide)] at e), fun _ => rfl, fun e => h5 (by rwa [getD_set_ne false (by decide)] at e), fun e => h6 (by rwa [getD_set_ne false (by decide)] at e), fun e => h7 (by rwa [getD_set_ne false (by decide)] at e), fun e => h8 (by rwa [getD_set_ne false (by decide)] at e)⟩
theorem nineVals_5 {c0 c1 c2 c3 c4 c5 c6 c7 c8 : Value} {l : Array Bool} {v0 v1 v2 v3 v4 v5 v6 v7 v8 : Value} (h : NineVals c0 c1 c2 c3 c4 c5 c6 c7 c8 l v0 v1 v2 v3 v4 v5 v6 v7 v8) : NineVals c0 c1 c2 c3 c4 c5 c6 c7 c8 (l.setIfInBounds 5 true) v0 v1 v2 v3 v4 c5 v6 v7 v8 := by
  unfold NineVals at h ⊢
  obtain ⟨h0, h1, h2, h3, h4, h5, h6, h7, h8⟩ := h
  exact ⟨fun e => h0 (by rwa [getD_set_ne false (by decide)] at e), fun e => h1 (by rwa [getD_set_ne false (by decide)] at e), fun e => h2 (by rwa [getD_set_ne false (by decide)] at e), fun e => h3 (by rwa [getD_set_ne false (by decide)] at e), fun e => h4 (by rwa [getD_set_ne false (by decide)] at e), fun _ => rfl, fun e => h6 (by rwa [getD_set_ne false (by decide)] at e), fun e => h7 (by rwa [getD_set_ne false (by decide)] at e), fun e => h8 (by rwa [getD_set_ne false (by decide)] at e)⟩
theorem nineVals_6 {c0 c1 c2 c3 c4 c5 c6 c7 c8 : Value} {l : Array Bool} {v0 v1 v2 v3 v4 v5 v6 v7 v8 : Value} (h : NineVals c0 c1 c2 c3 c4 c5 c6 c7 c8 l v0 v1 v2 v3 v4 v5 v6 v7 v8) : NineVals c0 c1 c2 c3 c4 c5 c6 c7 c8 (l.setIfInBounds 6 true) v0 v1 v2 v3 v4 v5 c6 v7 v8 := by
  unfold NineVals at h ⊢
  obtain ⟨h0, h1, h2, h3, h4, h5, h6, h7, h8⟩ := h
  exact ⟨fun e => h0 (by rwa [getD_set_ne false (by decide)] at e), fun e => h1 (by rwa [getD_set_ne false (by decide)] at e), fun e => h2 (by rwa [getD_set_ne false (by decide)] at e), fun e => h3 (by rwa [getD_set_ne false (by decide)] at e), fun e => h4 (by rwa [getD_set_ne false (by decide)] at e), fun e => h5 (by rwa [getD_set_ne false (by decide)] at e), fun _ => rfl, fun e => h7 (by rwa [getD_set_ne false (by decide)] at e), fun e => h8 (by rwa [getD_set_ne false (by decide)] at e)⟩
theorem nineVals_7 {c0 c1 c2 c3 c4 c5 c6 c7 c8 : Value} {l : Array Bool} {v0 v1 v2 v3 v4 v5 v6 v7 v8 : Value} (h : NineVals c0 c1 c2 c3 c4 c5 c6 c7 c8 l v0 v1 v2 v3 v4 v5 v6 v7 v8) : NineVals c0 c1 c2 c3 c4 c5 c6 c7 c8 (l.setIfInBounds 7 true) v0 v1 v2 v3 v4 v5 v6 c7 v8 := by
  unfold NineVals at h ⊢
  obtain ⟨h0, h1, h2, h3, h4, h5, h6, h7, h8⟩ := h
  exact ⟨fun e => h0 (by rwa [getD_set_ne false (by decide)] at e), fun e => h1 (by rwa [getD_set_ne false (by decide)] at e), fun e => h2 (by rwa [getD_set_ne false (by decide)] at e), fun e => h3 (by rwa [getD_set_ne false (by decide)] at e), fun e => h4 (by rwa [getD_set_ne false (by decide)] at e), fun e => h5 (by rwa [getD_set_ne false (by decide)] at e), fun e => h6 (by rwa [getD_set_ne false (by decide)] at e), fun _ => rfl, fun e => h8 (by rwa [getD_set_ne false (by decide)] at e)⟩
theorem nineVals_8 {c0 c1 c2 c3 c4 c5 c6 c7 c8 : Value} {l : Array Bool} {v0 v1 v2 v3 v4 v5 v6 v7 v8 : Value} (h : NineVals c0 c1 c2 c3 c4 c5 c6 c7 c8 l v0 v1 v2 v3 v4 v5 v6 v7 v8) : NineVals c0 c1 c2 c3 c4 c5 c6 c7 c8 (l.setIfInBounds 8 true) v0 v1 v2 v3 v4 v5 v6 v7 c8 := by
  unfold NineVals at h ⊢
  obtain ⟨h0, h1, h2, h3, h4, h5, h6, h7, h8⟩ := h
  exact ⟨fun e => h0 (by rwa [getD_set_ne false (by decide)] at e), fun e => h1 (by rwa [getD_set_ne false (by decide)] at e), fun e => h2 (by rwa [getD_set_ne false (by decide)] at e), fun e => h3 (by rwa [getD_set_ne false (by decide)] at e), fun e => h4 (by rwa [getD_set_ne false (by decide)] at e), fun e => h5 (by rwa [getD_set_ne false (by decide)] at e), fun e => h6 (by rwa [getD_set_ne false (by decide)] at e), fun e => h7 (by rwa [getD_set_ne false (by decide)] at e), fun _ => rfl⟩
/-- World A, behind operation 5 B, behind 7 C, behind 9 D. -/
def FourW (A B C D : World) (l : Array Bool) (x : World) : Prop :=
  x = (bif l.getD 9 false then D else bif l.getD 7 false then C else bif l.getD 5 false then B else A) ∧ (l.getD 7 false = true → l.getD 5 false = true) ∧ (l.getD 9 false = true → l.getD 7 false = true)
section
variable {A B C D x : World} {l : Array Bool}
theorem fourW_set (j : Nat) (h5 : j ≠ 5) (h7 : j ≠ 7) (h9 : j ≠ 9) (h : FourW A B C D l x) : FourW A B C D (l.setIfInBounds j true) x := by
  unfold FourW at h ⊢
  rw [getD_set_ne false h5, getD_set_ne false h7, getD_set_ne false h9]; exact h
theorem fourW_cell {a : Addr} {v : Option Value} (h : FourW A B C D l x) (hA : A.cell? a = v) (hB : B.cell? a = v) (hC : C.cell? a = v) (hD : D.cell? a = v) : x.cell? a = v := by
  rw [h.1]
  cases l.getD 9 false
  · cases l.getD 7 false
    · cases l.getD 5 false
      · exact hA
      · exact hB
    · exact hC
  · exact hD
theorem fourW_5 (hz : l.size = 10) (hn : l.getD 5 false = false) (h : FourW A B C D l x) : x = A ∧ FourW A B C D (l.setIfInBounds 5 true) B := by
  obtain ⟨h1, h2, h3⟩ := h
  have n7 : l.getD 7 false = false := by
    cases e : l.getD 7 false with
    | false => rfl
    | true => have := h2 e; rw [hn] at this; cases this
  have n9 : l.getD 9 false = false := by
    cases e : l.getD 9 false with
    | false => rfl
    | true => have := h3 e; rw [n7] at this; cases this
  rw [hn, n7, n9] at h1
  refine ⟨h1, ?_, ?_, ?_⟩
  · rw [getD_set_ne false (show (5 : Nat) ≠ 7 by decide), getD_set_ne false (show (5 : Nat) ≠ 9 by decide), n7, n9, show (l.setIfInBounds 5 true).getD 5 false = true by simp [hz]]; rfl
  · intro _; simp [hz]
  · rw [getD_set_ne false (show (5 : Nat) ≠ 7 by decide), getD_set_ne false (show (5 : Nat) ≠ 9 by decide)]; exact h3
theorem fourW_7 (hz : l.size = 10) (h5 : l.getD 5 false = true) (hn : l.getD 7 false = false) (h : FourW A B C D l x) : x = B ∧ FourW A B C D (l.setIfInBounds 7 true) C := by
  obtain ⟨h1, h2, h3⟩ := h
  have n9 : l.getD 9 false = false := by
    cases e : l.getD 9 false with
    | false => rfl
    | true => have := h3 e; rw [hn] at this; cases this
  rw [h5, hn, n9] at h1
  refine ⟨h1, ?_, ?_, ?_⟩
  · rw [getD_set_ne false (show (7 : Nat) ≠ 9 by decide), n9, show (l.setIfInBounds 7 true).getD 7 false = true by simp [hz]]; rfl
  · intro _; rw [getD_set_ne false (show (7 : Nat) ≠ 5 by decide)]; exact h5
  · intro _; simp [hz]
theorem fourW_9 (hz : l.size = 10) (h7 : l.getD 7 false = true) (hn : l.getD 9 false = false) (h : FourW A B C D l x) : x = C ∧ FourW A B C D (l.setIfInBounds 9 true) D := by
  obtain ⟨h1, h2, h3⟩ := h
  rw [h7, hn] at h1
  refine ⟨h1, ?_, ?_, ?_⟩
  · rw [show (l.setIfInBounds 9 true).getD 9 false = true by simp [hz]]; rfl
  · rw [getD_set_ne false (show (9 : Nat) ≠ 5 by decide), getD_set_ne false (show (9 : Nat) ≠ 7 by decide)]; exact h2
  · intro _; rw [getD_set_ne false (show (9 : Nat) ≠ 7 by decide)]; exact h7
end

/-- A slot's page written anew. -/
theorem ref_write {w w2 : World} {O : Nat → Prop} {q ob gb slots : Nat} {on : List Bool} {vs : List Value} {fv : Value} {pg : Int → Option (List Nat)} {F : List Bool} (h : RefAt w O q ob gb slots on vs fv pg F) (j : Nat) (hj : j < slots) (hsome : (pg j).isSome = true)
    (B : Nat) (hq : q < B) (hob : ob < B) (hgb : gb < B) (hO2 : Old w w2) {g c : Nat} {l : List Nat} (hrow : Row w2 B g c l) (hl : l.length = 4096) :
    RefAt (putB w2 gb (.cells (vs.set j (.slice (some ⟨g, 0, none⟩) 4096 c)).toArray 31)) (fun b => O b ∨ B ≤ b) q ob gb slots on (vs.set j (.slice (some ⟨g, 0, none⟩) 4096 c)) fv (updP pg j (some l)) F ∧
      Only (fun b => b = gb) w (putB w2 gb (.cells (vs.set j (.slice (some ⟨g, 0, none⟩) 4096 c)).toArray 31)) := by
  have hO3 : Only (fun b => b = gb) w2 (putB w2 gb (.cells (vs.set j (.slice (some ⟨g, 0, none⟩) 4096 c)).toArray 31)) := (Only.refl _ w2).putB _ fun _ => rfl
  have hall : Only (fun b => b = gb) w (putB w2 gb (.cells (vs.set j (.slice (some ⟨g, 0, none⟩) 4096 c)).toArray 31)) := ((Only.of_below hO2).mono fun b _ f => f.elim).trans hO3
  have hrp := row_parts hrow
  refine ⟨{ hq := keep_only hall h.n2 h.hq, oq := .inl h.oq, ho := keep_only hall h.n3 h.ho, oo := .inl h.oo, hg := putB_same _ (lt_of_block (keep_old hO2 h.hg)), og := .inl h.og, n1 := h.n1, n2 := h.n2, n3 := h.n3, hs := h.hs, lo := h.lo, lv := by rw [List.length_set]; exact h.lv, hon := ?_, hin := ?_, hpg := ?_, hF := ?_ }, hall⟩
  · intro k hk
    unfold updP
    by_cases e : k = j
    · subst e
      rw [if_pos rfl, h.hon k hk, hsome]; rfl
    · rw [if_neg (by omega)]
      exact h.hon k hk
  · intro k hk
    unfold updP at hk
    split at hk
    · omega
    · exact h.hin k hk
  · intro k l' hk
    unfold updP at hk
    split at hk
    · rename_i e
      obtain rfl : k = j := by omega
      obtain rfl := Option.some.inj hk
      refine ⟨_, List.getElem?_set_self (by rw [h.lv]; exact hj), g, c, rfl, hl, ?_, .inr hrp.1, by omega, by omega, by omega⟩
      exact row_only (row_zero hrow) hO3 (by omega)
    · rename_i e
      obtain ⟨v, a, b⟩ := h.hpg k l' hk
      exact ⟨v, by rw [List.getElem?_set_ne (by intro e'; exact e (by rw [e']))]; exact a, refPage_more (refPage_only b hall fun b _ _ _ h2 e => h2 e) fun b hb => .inl hb⟩
  · exact refFails_more (refFails_only h.hF hall fun b _ _ _ h2 e => h2 e) fun b hb => .inl hb

theorem IsRef.intro {w : World} {O : Nat → Prop} {q ob gb slots : Nat} {on : List Bool} {vs : List Value} {fv : Value} {pg : Int → Option (List Nat)} {F : List Bool} (h : RefAt w O q ob gb slots on vs fv pg F) : IsRef w O q slots pg F := ⟨ob, gb, on, vs, fv, h⟩

/-- The frame and the world. -/
def WriteS (q gb slots bb off c j n g c2 : Nat) (A B C D : World) (l : Array Bool) (b : Act) (x : World) : Prop :=
  ∃ v0 v1 v2 v3 v4 v5 v6 v7 v8 : Value, b = { tmps := #[.pointer (some ⟨q, 0, none⟩), .int .i64 (j : Nat), .slice (some ⟨bb, off, none⟩) 4096 c, undef, undef, undef, .int .i64 0, .bool false, .pointer (some ⟨q, 0, none⟩), .int .i64 (j : Nat), .bool true, .bool false, .bool false, .slice (some ⟨bb, off, none⟩) 4096 c, .int .i64 4096, .bool false, .bool false, .pointer (some ⟨q, 0, none⟩), .bool false, v0, v1, v2, v3, v4, v5, v6, v7, v8], defers := [] } ∧ NineVals (.pointer (some ⟨q, 0, none⟩)) (.pointer (some ⟨q, 0, none⟩)) (.pointer (some ⟨q, 1, none⟩)) (.slice (some ⟨gb, 0, none⟩) slots slots) (.int .i64 (j : Nat)) (.slice (some ⟨n, 0, none⟩) 0 0) (.slice (some ⟨bb, off, none⟩) 4096 c) (.slice (some ⟨g, 0, none⟩) 4096 c2) (.pointer (some ⟨gb, j, none⟩)) l v0 v1 v2 v3 v4 v5 v6 v7 v8 ∧ FourW A B C D l x

set_option maxHeartbeats 4000000 in
set_option maxRecDepth 100000 in
theorem refWrite_ok (O : Nat → Prop) (q slots : Nat) (pg : Int → Option (List Nat)) (F : List Bool) (k : Int) (l : List Nat) (P : List Nat) (ad : Option Addr) (c : Nat) (w : World) (h : IsRef w O q slots pg F) (hk : pg k = some l) (hF : F.headD false = false) (hB : Bytes w ad c P) (hP : P.length = 4096) (hBp : ∀ bb off, ad = some ⟨bb, off, none⟩ → bb ≠ q) :
    Calls Try.prog 20 #[.pointer (some ⟨q, 0, none⟩), .int .i64 k, .slice ad 4096 c] w (RetRef w O q slots (.int .i64 0) (updP pg k (some P)) F.tail) := by
  have hh := refHas_calls O q slots pg F k w h
  rw [hk] at hh
  have H := Lib.hid h
  have HK := Lib.hid hk
  obtain ⟨bb, off, rfl, hcells⟩ := bytes_some hB (by omega)
  have hne := hBp bb off rfl
  have hcc := hB.1
  have hcm := hB.2.1
  have hblt : bb < w.heap.size := by
    obtain ⟨x, bb', off', _, _, e, hb, _⟩ := bytes_at hB 0 (by omega)
    cases e; exact hb
  have hP256 := bytes_lt hB
  obtain ⟨i0, hi, hz0, hz1, hz2⟩ := info_parts u8_info
  have HC := Lib.hid hcells
  have HP := Lib.hid hP256
  clear h hk hB hBp hcells hP256
  go_enter Try.func20, Try.ntmps20
  go_wp2_with fail
  (with_reducible refine hh.mono ?_)
  rintro e w1 ⟨rfl, hb1⟩
  have hf := refFails_calls O q slots pg F w1 (ref_old H.out hb1)
  rw [hF] at hf
  clear hh
  go_wp2_with fail
  (with_reducible refine hf.mono ?_)
  rintro e w2 ⟨rfl, h2, ho2⟩
  clear hf
  go_upto_region 7 with (fail)
  obtain ⟨ob, gb, on, vs, fv, h3⟩ := h2
  obtain ⟨h0, h1⟩ := h3.hin k (by rw [HK.out]; rfl)
  obtain ⟨j, rfl⟩ : ∃ j : Nat, k = j := ⟨k.toNat, by omega⟩
  have hj : j < slots := by omega
  have hs := h3.hs
  have hlit : (w2.drew.alloc (.cells #[] 5)).ownsRow w2.heap.size 5 1 (.slice (some ⟨w2.heap.size, 0, none⟩) 0 0) 0 [] := World.ownsRow_lit w2.drew #[] 0 (Nat.le_refl _) (by decide) rfl
  have hO1 : Old w2 (w2.drew.alloc (.cells #[] 5)) := old_alloc (old_drew (old_refl w2)) _
  have hOnly2 : Only (fun b => b = q) w w2 := ((Only.of_below hb1).mono fun b _ f => f.elim).trans ho2
  have hB1 : Bytes (w2.drew.alloc (.cells #[] 5)) (some ⟨bb, off, none⟩) c P := by
    refine ⟨hcc, hcm, fun e => (by cases e), fun k x hx => ⟨(HC.out k x hx).1, bb, off, rfl, Nat.lt_of_lt_of_le hblt (Nat.le_trans hOnly2.size hO1.size), ?_⟩⟩
    rw [hO1.cell (p := ⟨bb, off + k, none⟩) (Nat.lt_of_lt_of_le hblt hOnly2.size), hOnly2.cell bb _ hblt hne]
    exact (HC.out k x hx).2
  obtain ⟨v2, C, hrun, hown, hgrow, -⟩ := run_append_own (P := Try.prog) (w2.drew.alloc (.cells #[] 5)) w2.heap.size 31 31 5 i0 (.int .u8 0) 1 1 Try.underlying31 hi hz0 hz1 hz2 rfl (by decide) _ 0 [] hlit ⟨bb, off, none⟩ 4096 c (P.map vb) (by simp [hP]) (bytes_news2 hB1) (vb_one P) (by unfold maxLen; omega) (by omega) hO1.size
  simp only [Nat.zero_add, List.nil_append] at hown
  obtain ⟨g, c2, hv2, hrow⟩ := row_of hown hP.symm (by omega) HP.out
  rw [hP] at hv2
  subst hv2
  have hOC := old_grown hO1 hgrow (fun g e => by have e' : some w2.heap.size = some g := e; have := Option.some.inj e'; omega)
  have hfin := ref_write h3 j hj (by rw [HK.out]; rfl) w2.heap.size (lt_of_block h3.hq) (lt_of_block h3.ho) (lt_of_block h3.hg) hOC hrow hP
  have eC : C.heap[gb]? = some (.cells vs.toArray 31) := keep_old hOC h3.hg
  have cg : ∃ u, C.cell? ⟨gb, j, none⟩ = some u := ⟨vs[j]'(by rw [h3.lv]; exact hj), by rw [cell_of eC]; simp [h3.lv, hj]⟩
  obtain ⟨u, cg⟩ := cg
  have fg : C.frozen? ⟨gb, j, none⟩ = false := frozen_of eC _
  have sg : C.setCell ⟨gb, j, none⟩ (.slice (some ⟨g, 0, none⟩) 4096 c2) = putB C gb (.cells (vs.set j (.slice (some ⟨g, 0, none⟩) 4096 c2)).toArray 31) := by
    rw [set_of eC]; simp [List.setIfInBounds_toArray]
  have cA : w2.drew.cell? ⟨q, 1, none⟩ = some (.slice (some ⟨gb, 0, none⟩) slots slots) := by rw [cell_of (show w2.drew.heap[q]? = _ from h3.hq)]; rfl
  have cB : (w2.drew.alloc (.cells #[] 5)).cell? ⟨q, 1, none⟩ = some (.slice (some ⟨gb, 0, none⟩) slots slots) := by rw [cell_of (keep_old hO1 h3.hq)]; rfl
  have cC : C.cell? ⟨q, 1, none⟩ = some (.slice (some ⟨gb, 0, none⟩) slots slots) := by rw [cell_of (keep_old hOC h3.hq)]; rfl
  have cD : (putB C gb (.cells (vs.set j (.slice (some ⟨g, 0, none⟩) 4096 c2)).toArray 31)).cell? ⟨q, 1, none⟩ = some (.slice (some ⟨gb, 0, none⟩) slots slots) := by rw [cell_of hfin.1.hq]; rfl
  have hback : w.heap.size ≤ w2.heap.size := hOnly2.size
  have HF := Lib.hid (And.intro (IsRef.intro hfin.1) ((hOnly2.mono fun b _ e => by rw [e]; exact h3.oq).trans (hfin.2.mono fun b _ e => by rw [e]; exact h3.og) : Only O w _))
  generalize hD : putB C gb (.cells (vs.set j (.slice (some ⟨g, 0, none⟩) 4096 c2)).toArray 31) = D at *
  generalize hBW : w2.drew.alloc (.cells #[] 5) = B at *
  have HBW := Lib.hid hBW
  clear hD hBW h3 hlit hO1 hB1 hown hgrow hrow hOC hfin eC hOnly2 ho2 HC HP HK H hb1
  refine wp_region_inv (WriteS q gb slots bb off c j w2.heap.size g c2 w2.drew B C D) (by kernel_rfl) (by kernel_rfl) ?_ ?_ ?_
  · exact ⟨_, _, _, _, _, _, _, _, _, rfl, by unfold NineVals; simp, by unfold FourW; simp⟩
  · intro i o ho l b x hl hn hmet hS
    have hi10 : i < 10 := by
      have := (Array.getElem?_eq_some_iff.1 ho).1
      exact this
    obtain rfl | rfl | rfl | rfl | rfl | rfl | rfl | rfl | rfl | rfl : i = 0 ∨ i = 1 ∨ i = 2 ∨ i = 3 ∨ i = 4 ∨ i = 5 ∨ i = 6 ∨ i = 7 ∨ i = 8 ∨ i = 9 := by omega
    · obtain rfl := Option.some.inj ho
      obtain ⟨v0, v1, v2, v3, v4, v5, v6, v7, v8, rfl, hV, hW⟩ := hS
      go_wp2
      exact ⟨_, _, _, _, _, _, _, _, _, rfl, nineVals_0 hV, fourW_set 0 (by decide) (by decide) (by decide) hW⟩
    · obtain rfl := Option.some.inj ho
      obtain ⟨v0, v1, v2, v3, v4, v5, v6, v7, v8, rfl, hV, hW⟩ := hS
      have p0 : l.getD 0 false = true := hmet _ rfl ⟨0, .data⟩ (by simp) rfl
      obtain rfl := (hV.1) p0
      go_wp2
      exact ⟨_, _, _, _, _, _, _, _, _, rfl, nineVals_1 hV, fourW_set 1 (by decide) (by decide) (by decide) hW⟩
    · obtain rfl := Option.some.inj ho
      obtain ⟨v0, v1, v2, v3, v4, v5, v6, v7, v8, rfl, hV, hW⟩ := hS
      have p1 : l.getD 1 false = true := hmet _ rfl ⟨1, .data⟩ (by simp) rfl
      obtain rfl := (hV.2.1) p1
      go_wp2
      exact ⟨_, _, _, _, _, _, _, _, _, rfl, nineVals_2 hV, fourW_set 2 (by decide) (by decide) (by decide) hW⟩
    · obtain rfl := Option.some.inj ho
      obtain ⟨v0, v1, v2, v3, v4, v5, v6, v7, v8, rfl, hV, hW⟩ := hS
      have p2 : l.getD 2 false = true := hmet _ rfl ⟨2, .data⟩ (by simp) rfl
      obtain rfl := (hV.2.2.1) p2
      have cq := fourW_cell hW cA cB cC cD
      go_wp2
      exact ⟨_, _, _, _, _, _, _, _, _, rfl, nineVals_3 hV, fourW_set 3 (by decide) (by decide) (by decide) hW⟩
    · obtain rfl := Option.some.inj ho
      obtain ⟨v0, v1, v2, v3, v4, v5, v6, v7, v8, rfl, hV, hW⟩ := hS
      go_wp2
      exact ⟨_, _, _, _, _, _, _, _, _, rfl, nineVals_4 hV, fourW_set 4 (by decide) (by decide) (by decide) hW⟩
    · obtain rfl := Option.some.inj ho
      obtain ⟨v0, v1, v2, v3, v4, v5, v6, v7, v8, rfl, hV, hW⟩ := hS
      obtain ⟨rfl, hW'⟩ := fourW_5 hl hn hW
      clear hW
      go_wp2
      rw [show (w2.alloc (.cells #[] 5)).drew = B from HBW.out]
      exact ⟨_, _, _, _, _, _, _, _, _, rfl, nineVals_5 hV, hW'⟩
    · obtain rfl := Option.some.inj ho
      obtain ⟨v0, v1, v2, v3, v4, v5, v6, v7, v8, rfl, hV, hW⟩ := hS
      go_wp2
      exact ⟨_, _, _, _, _, _, _, _, _, rfl, nineVals_6 hV, fourW_set 6 (by decide) (by decide) (by decide) hW⟩
    · obtain rfl := Option.some.inj ho
      obtain ⟨v0, v1, v2, v3, v4, v5, v6, v7, v8, rfl, hV, hW⟩ := hS
      have p5 : l.getD 5 false = true := hmet _ rfl ⟨5, .data⟩ (by simp) rfl
      obtain rfl := (hV.2.2.2.2.2.1) p5
      have p6 : l.getD 6 false = true := hmet _ rfl ⟨6, .data⟩ (by simp) rfl
      obtain rfl := (hV.2.2.2.2.2.2.1) p6
      obtain ⟨rfl, hW'⟩ := fourW_7 hl p5 hn hW
      clear hW
      refine wpList_append_at rfl _ _ 31 rfl _ _ rfl rfl _ _ hrun ?_
      go_wp2
      exact ⟨_, _, _, _, _, _, _, _, _, rfl, nineVals_7 hV, hW'⟩
    · obtain rfl := Option.some.inj ho
      obtain ⟨v0, v1, v2, v3, v4, v5, v6, v7, v8, rfl, hV, hW⟩ := hS
      have p3 : l.getD 3 false = true := hmet _ rfl ⟨3, .data⟩ (by simp) rfl
      obtain rfl := (hV.2.2.2.1) p3
      have p4 : l.getD 4 false = true := hmet _ rfl ⟨4, .data⟩ (by simp) rfl
      obtain rfl := (hV.2.2.2.2.1) p4
      go_wp2
      exact ⟨_, _, _, _, _, _, _, _, _, rfl, nineVals_8 hV, fourW_set 8 (by decide) (by decide) (by decide) hW⟩
    · obtain rfl := Option.some.inj ho
      obtain ⟨v0, v1, v2, v3, v4, v5, v6, v7, v8, rfl, hV, hW⟩ := hS
      have p8 : l.getD 8 false = true := hmet _ rfl ⟨8, .data⟩ (by simp) rfl
      obtain rfl := (hV.2.2.2.2.2.2.2.2) p8
      have p7 : l.getD 7 false = true := hmet _ rfl ⟨7, .data⟩ (by simp) rfl
      obtain rfl := (hV.2.2.2.2.2.2.2.1) p7
      obtain ⟨rfl, hW'⟩ := fourW_9 hl p7 hn hW
      clear hW
      go_wp2
      exact ⟨_, _, _, _, _, _, _, _, _, rfl, nineVals_set 9 (by decide) hV, hW'⟩
  · intro l b x hl hall hS
    obtain ⟨v0, v1, v2, v3, v4, v5, v6, v7, v8, rfl, hV, hW⟩ := hS
    have hx : x = D := by rw [hW.1, hall 9 (by decide)]; rfl
    subst hx
    clear hW hV hall
    go_wp2
    go_ret
    exact ⟨rfl, ref_more HF.out.1 (fun b hb => hb.imp id fun h => Nat.le_trans hback h), HF.out.2⟩

end Go.Proofs.Ytfiofjalpaeohaa
