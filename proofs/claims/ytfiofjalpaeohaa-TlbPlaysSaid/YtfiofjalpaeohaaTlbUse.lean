/- A TLB beside lines and lists (the same as in the text of TlbApart). -/
import Derived.Test.YtfiofjalpaeohaaTlbTold2
namespace Go.Proofs.Ytfiofjalpaeohaa
set_option linter.unusedVariables false
set_option linter.unusedSimpArgs false
open Go.RowKit

theorem old_stepT {F : Nat → Prop} {w x y : World} (h : Old w x) (ho : Only F x y) (hF : ∀ b, F b → w.heap.size ≤ b) : Old w y :=
  Only.to_below ((Only.of_below h).step ho (fun b hb f => by have := hF b f; omega))
theorem linesP_lose (B : Ln → Bool) (t : List Pl) : linesP (t.map (loseP B)) = (linesP t).filter (fun l => !B l) := by
  induction t with
  | nil => rfl
  | cons q t ih =>
    obtain ⟨on, l⟩ := q
    cases on
    · simpa [linesP, loseP] using ih
    · cases hB : B l
      · simpa [linesP, loseP, hB] using ih
      · simpa [linesP, loseP, hB, pl0] using ih
theorem linesT_lose (B : Ln → Bool) (T : List (List Pl)) : linesT (T.map (fun t => t.map (loseP B))) = (linesT T).filter (fun l => !B l) := by
  induction T with
  | nil => rfl
  | cons t T ih => simp only [List.map_cons, linesT, List.filter_append, linesP_lose, ih]
theorem cntP_lines (B : Ln → Bool) (t : List Pl) : cntP B t + ((linesP t).filter (fun l => !B l)).length = (linesP t).length := by
  induction t with
  | nil => rfl
  | cons q t ih =>
    obtain ⟨on, l⟩ := q
    cases on
    · simp [cntP, linesP]; exact ih
    · cases hB : B l
      · simp [cntP, linesP, hB]; omega
      · simp [cntP, linesP, hB]; omega
theorem cntT_lines (B : Ln → Bool) (T : List (List Pl)) : cntT B T + ((linesT T).filter (fun l => !B l)).length = (linesT T).length := by
  induction T with
  | nil => rfl
  | cons t T ih =>
    have := cntP_lines B t
    simp only [cntT, linesT, List.filter_append, List.length_append]
    omega

section
variable {w x y : World} {p gs : Nat} {bs : List Nat} {n wy : Nat} {T : List (List Pl)}
/-- Blocks of lines beside a TLB. -/
theorem holds_tlb {L : List (Nat × Array Value × TypeId)} (h : IsTlb x p gs bs n wy T) (hH : Holds w L x) (hL : ∀ z ∈ L, z.2.2 = 64) (ho : Only (fun z => z ∈ bs) x y) (hb : ∀ b ∈ bs, w.heap.size ≤ b) : Holds w L y := by
  refine ⟨Only.below (((Only.of_below hH.1).mono (G := fun k => w.heap.size ≤ k) (fun _ _ f => f.elim)).trans (ho.mono fun i _ e => hb i e)) (Nat.le_refl _), has_only' ho (fun z hz e => ?_) hH.2⟩
  obtain ⟨i, hi⟩ := List.getElem?_of_mem e
  have hiT : i < T.length := by rw [h.lT, ← h.lb]; exact (List.getElem?_eq_some_iff.1 hi).1
  have hblk := (h.set_ i z.1 T[i] hi (List.getElem?_eq_getElem hiT)).2
  have hz2 := has_mem' hH.2 z hz
  rw [hblk, hL z hz] at hz2
  simp only [Option.some.injEq, Obj.cells.injEq] at hz2
  exact absurd hz2.2.1 (by decide)
/-- A line laid, whichever. -/
theorem fill_any (h : IsTlb x p gs bs n wy T) (l : Ln) (way : Int) : Calls Try.prog 30 #[.pointer (some ⟨p, 0, none⟩), .agg l.cells.toArray, .int .i64 way] x
    (fun e y => ∃ v T', e = .returned v ∧ IsTlb y p gs bs n wy T' ∧ Only (fun z => z ∈ bs) x y) := by
  have hn := h.h1.1
  obtain ⟨b, t, hb, ht, htl⟩ := tlb_block h (i := l.vp % n) (Nat.mod_lt _ (by omega))
  have hJ := fillJ_lt t l way wy h.h2.1 h.h2.2 htl
  refine (fill_calls h l way rfl hb ht _ (List.getElem?_eq_getElem (by rw [htl]; exact hJ))).mono ?_
  rintro e y ⟨rfl, h1, h2⟩
  exact ⟨_, _, rfl, h1, h2.mono fun i _ e => by rw [e]; exact List.mem_of_getElem? hb⟩
theorem list_tlb (h : IsTlb x p gs bs n wy T) : Calls Try.prog 33 #[.pointer (some ⟨p, 0, none⟩)] x
    (fun e y => ∃ v B, e = .returned v ∧ OwnLns y B v (linesT T) ∧ (∀ b, B ≤ b → ¬ b ∈ bs) ∧ Old x y) := by
  refine (list_calls h).mono ?_
  rintro e y ⟨v, rfl, h1, h2⟩
  exact ⟨v, _, rfl, h1, fun b hb hm => by have := (tlb_lt h).2.2 b hm; omega, h2⟩
theorem linesT_512 (h : IsTlb x p gs bs n wy T) : (linesT T).length ≤ 512 := by
  have a := linesT_len wy T (tlb_lens h)
  have b1 := h.h1.2
  have b2 := h.h2.2
  have b3 := Nat.mul_le_mul (show T.length ≤ 64 by rw [h.lT]; exact b1) b2
  omega
end

end Go.Proofs.Ytfiofjalpaeohaa
