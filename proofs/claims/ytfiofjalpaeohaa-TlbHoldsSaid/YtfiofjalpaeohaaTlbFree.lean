/- A drawn statement 'x, ok := call' with an allocation for x that may come before or behind the call: what holds meanwhile, beside a TLB. -/
import Derived.Test.YtfiofjalpaeohaaTlbFirstN
namespace Go.Proofs.Ytfiofjalpaeohaa
set_option linter.unusedVariables false
set_option linter.unusedSimpArgs false
open Go.RowKit

/-- x0: the world ahead; T0, T1: the TLB ahead of the call and behind it; J: the call's number, A: the allocation's, B: the store's. -/
def FreeS (J A B : Nat) (x0 : World) (p gs : Nat) (bs : List Nat) (n wy : Nat) (T0 T1 : List (List Pl)) (Z Q : Array Value) (t : TypeId) (v : Value) (l : Array Bool) (x : World) : Prop :=
  IsTlb x p gs bs n wy (bif l.getD J false then T1 else T0) ∧ Only (fun z => z ∈ bs) x0 x ∧ (l.getD A false = true → ∃ r, v = .pointer (some ⟨r, 0, none⟩) ∧ x0.heap.size ≤ r ∧ x.heap[r]? = some (.cells (bif l.getD B false then Q else Z) t)) ∧
  (p < x0.heap.size ∧ gs < x0.heap.size ∧ ∀ b ∈ bs, b < x0.heap.size) ∧ (l.getD B false = true → l.getD A false = true)
section
variable {J A B : Nat} {x0 x y : World} {p gs : Nat} {bs : List Nat} {n wy : Nat} {T0 T1 : List (List Pl)} {Z Q : Array Value} {t : TypeId} {v : Value} {l : Array Bool}
theorem freeS_start {N : Nat} (h : IsTlb x0 p gs bs n wy T0) : FreeS J A B x0 p gs bs n wy T0 T1 Z Q t v (Array.replicate N false) x0 := by
  have e : ∀ k, (Array.replicate N false).getD k false = false := fun k => by simp [Array.getElem?_replicate]; split <;> rfl
  refine ⟨by rw [e]; exact h, Only.refl _ _, (fun h => by rw [e] at h; cases h), tlb_lt h, (fun h => by rw [e] at h; cases h)⟩
theorem freeS_other (j : Nat) (hJ : j ≠ J) (hA : j ≠ A) (hB : j ≠ B) (h : FreeS J A B x0 p gs bs n wy T0 T1 Z Q t v l x) : FreeS J A B x0 p gs bs n wy T0 T1 Z Q t v (l.setIfInBounds j true) x := by
  unfold FreeS at h ⊢
  rw [getD_set_ne false hJ, getD_set_ne false hA, getD_set_ne false hB]
  exact h
theorem freeS_alloc {N : Nat} (hz : l.size = N) (hAN : A < N) (hJA : A ≠ J) (hBA : A ≠ B) (hn : l.getD A false = false) (h : FreeS J A B x0 p gs bs n wy T0 T1 Z Q t v l x) :
    FreeS J A B x0 p gs bs n wy T0 T1 Z Q t (.pointer (some ⟨x.heap.size, 0, none⟩)) (l.setIfInBounds A true) (x.alloc (.cells Z t)) := by
  obtain ⟨h1, h2, h3, h4, h5⟩ := h
  have hB : l.getD B false = false := by
    cases hb : l.getD B false with
    | false => rfl
    | true => have := h5 hb; rw [hn] at this; cases this
  have e : (l.setIfInBounds A true).getD A false = true := by simp [hz, hAN]
  unfold FreeS
  rw [getD_set_ne false hJA, getD_set_ne false hBA, e, hB]
  exact ⟨tlb_old h1 (old_alloc (old_refl x) _), h2.alloc _, fun _ => ⟨_, rfl, h2.size, new_block _ _⟩, h4, fun e => by cases e⟩
theorem freeS_call {N : Nat} (hz : l.size = N) (hJN : J < N) (hJA : J ≠ A) (hJB : J ≠ B) (h : FreeS J A B x0 p gs bs n wy T0 T1 Z Q t v l x) (hT : IsTlb y p gs bs n wy T1) (ho : Only (fun z => z ∈ bs) x y) :
    FreeS J A B x0 p gs bs n wy T0 T1 Z Q t v (l.setIfInBounds J true) y := by
  obtain ⟨h1, h2, h3, h4, h5⟩ := h
  have e : (l.setIfInBounds J true).getD J false = true := by simp [hz, hJN]
  unfold FreeS
  rw [getD_set_ne false hJA, getD_set_ne false hJB, e]
  refine ⟨hT, h2.trans ho, fun ha => ?_, h4, h5⟩
  obtain ⟨r, a, b, c⟩ := h3 ha
  exact ⟨r, a, b, keep_only ho (fun hm => by have := h4.2.2 r hm; omega) c⟩
theorem freeS_store {N : Nat} (hz : l.size = N) (hBN : B < N) (hBJ : B ≠ J) (hBA : B ≠ A) {r : Nat} (ha : l.getD A false = true) (hv : v = .pointer (some ⟨r, 0, none⟩)) (h : FreeS J A B x0 p gs bs n wy T0 T1 Z Q t v l x) :
    FreeS J A B x0 p gs bs n wy T0 T1 Z Q t v (l.setIfInBounds B true) (putB x r (.cells Q t)) := by
  obtain ⟨h1, h2, h3, h4, h5⟩ := h
  obtain ⟨r', a, b, c⟩ := h3 ha
  rw [hv] at a
  obtain rfl : r = r' := by injection a with a; injection a with a; injection a
  have e : (l.setIfInBounds B true).getD B false = true := by simp [hz, hBN]
  unfold FreeS
  rw [getD_set_ne false hBJ, getD_set_ne false hBA, e]
  refine ⟨tlb_only h1 ((Only.refl (fun z => z = r) x).putB _ (fun _ => rfl)) (fun e => by have := h4.1; omega) (fun e => by have := h4.2.1; omega) (fun q hq e => by have := h4.2.2 q hq; omega), h2.putB _ (fun hlt => by omega), fun _ => ⟨r, hv, b, putB_same _ (lt_of_block c)⟩, h4, fun _ => ha⟩
theorem freeS_tlb (hn : l.getD J false = false) (h : FreeS J A B x0 p gs bs n wy T0 T1 Z Q t v l x) : IsTlb x p gs bs n wy T0 := by
  have := h.1
  rw [hn] at this
  exact this
/-- A cell of an old block that is no set's. -/
theorem freeS_cell (h : FreeS J A B x0 p gs bs n wy T0 T1 Z Q t v l x) {b i : Nat} (hb : b < x0.heap.size) (hn : ¬ b ∈ bs) {u : Option Value} (hc : x0.cell? ⟨b, i, none⟩ = u) : x.cell? ⟨b, i, none⟩ = u := by
  rw [h.2.1.cell b i hb hn]; exact hc
end
theorem walkedF_step {P : Program} {ops : Array Oper} {S : Value → Array Bool → World → Prop} {F n j : Nat} {Qf : Value → Act → Prop} {o : Oper} {r : List Oper} {a : Value → Act} (a' : Value → Act) (u : Value) (ha : ∀ v, a' v = (a v).put o.dst u) (hj : j ≠ F) (hg : ∀ v, GivesM P ops (S v) n j o (a v) (a' v)) (hr : WalkedF P ops S F n Qf r (j + 1) a') : WalkedF P ops S F n Qf (o :: r) j a := by
  have e : a' = fun v => (a v).put o.dst u := funext ha
  subst e
  exact walkedF_cons u hj hg hr
end Go.Proofs.Ytfiofjalpaeohaa
