/- Arguments that are slices of truths. -/
import Derived.Test.YtfiofjalpaeohaaDiskLaw
import Derived.Test.YtfiofjalpaeohaaIntsArg
namespace Go.Proofs.Ytfiofjalpaeohaa
set_option linter.unusedVariables false
set_option linter.unusedSimpArgs false
open Go.ChangeShapes Go.WideShapes Go.Deep Go.RowKit Go.Joins

section
variable {H : Type} {enc : TypeId × Value → H} {P : Program} {w : World}
theorem open_boolsarg {r : Reach} {b0 : Nat} {t e : TypeId} {v : Value} {d : DataW H} {p : List MemPlace} (ht : P.underlying t = some (.slice e)) (he : P.underlying e = some .bool) (hc : P.cellsOf e = 1)
    (hv : Value.okWide P w r b0 t v) (h : DataW.Trod enc P w 0 (fun _ => true) true t v d p) :
    ∃ ad cap l, v = .slice ad l.length cap ∧ Bools w ad cap l := by
  obtain ⟨a0, len0, cap0, rfl⟩ := okWide_slice ht hv
  obtain ⟨fuel, hf⟩ := h
  rcases Go.Deep.open_slice ht hf with ⟨hcs, _⟩ | ⟨a, len, cap, m, n, D, Pl, hcs, _, hl, hm, hmm, _, hi⟩
  · simp [Value.cells] at hcs
    obtain ⟨rfl, rfl, rfl⟩ := hcs
    exact ⟨none, 0, [], rfl, Nat.le_refl _, Nat.zero_le _, fun _ => rfl, fun k x hx => by simp at hx⟩
  · simp [Value.cells] at hcs
    obtain ⟨rfl, rfl, rfl⟩ := hcs
    simp only [if_true] at hmm
    subst hmm
    have hcell : ∀ i, i < m → ∃ y, w.cell? (a.add i) = some (.bool y) := by
      intro i hi'
      obtain ⟨cs', h1, h2⟩ := hi i hi'
      rw [hc, Nat.mul_one] at h1
      obtain ⟨y, q0, _⟩ := DataW.trod_bool he h2
      subst q0
      exact ⟨y, cell_of_cells?_one h1⟩
    have hspot : len0 = 0 ∨ a.spot = none := by
      by_cases h0 : len0 = 0
      · exact .inl h0
      · obtain ⟨y, hy⟩ := hcell 0 (by omega)
        exact .inr (by simpa [Addr.add] using (cell_plain hy).1)
    obtain ⟨l, hll, hq⟩ := list_of (Q := fun i (x : Bool) => ∃ bb off, (some a : Option Addr) = some ⟨bb, off, none⟩ ∧ bb < w.heap.size ∧ w.cell? ⟨bb, off + i, none⟩ = some (.bool x)) len0 (fun i hil => by
      obtain ⟨y, hy⟩ := hcell i (by omega)
      rcases hspot with h0 | hs
      · omega
      · obtain ⟨ab, ao, spot⟩ := a
        simp only at hs
        subst hs
        rw [add_eq _ _ rfl] at hy
        exact ⟨y, ab, ao, rfl, (cell_plain hy).2, hy⟩)
    exact ⟨some a, m, l, by rw [hll], by omega, hm, (fun e => by cases e), fun k x hx => hq k x hx⟩
end
end Go.Proofs.Ytfiofjalpaeohaa
