/- Arguments that are slices of whole numbers, of truths. No function of the program stands here. -/
import Derived.Test.YtfiofjalpaeohaaArgs
import Derived.ChangeSlices
namespace Go.Proofs.Ytfiofjalpaeohaa
set_option linter.unusedVariables false
set_option linter.unusedSimpArgs false
open Go.ChangeShapes Go.WideShapes Go.Deep Go.RowKit Go.Joins

/-- A slice of whole numbers reads as l. -/
def Ints (w : World) (ad : Option Addr) (c : Nat) (l : List Int) : Prop :=
  l.length ≤ c ∧ c ≤ maxLen ∧ (ad = none → c = 0) ∧ ∀ (k : Nat) (x : Int), l[k]? = some x → I64 x ∧ ∃ bb off, ad = some ⟨bb, off, none⟩ ∧ bb < w.heap.size ∧ w.cell? ⟨bb, off + k, none⟩ = some (.int .i64 x)

theorem ints_old {w x : World} {ad : Option Addr} {c : Nat} {l : List Int} (h : Ints w ad c l) (ho : Old w x) : Ints x ad c l := by
  refine ⟨h.1, h.2.1, h.2.2.1, fun k y hy => ?_⟩
  obtain ⟨a, bb, off, rfl, hb, hc⟩ := h.2.2.2 k y hy
  exact ⟨a, bb, off, rfl, Nat.lt_of_lt_of_le hb ho.size, by rw [ho.cell hb]; exact hc⟩

section
variable {H : Type} {enc : TypeId × Value → H} {P : Program} {w : World}
theorem open_intsarg {r : Reach} {b0 : Nat} {t e : TypeId} {v : Value} {d : DataW H} {p : List MemPlace} (ht : P.underlying t = some (.slice e)) (he : P.underlying e = some (.int .i64)) (hc : P.cellsOf e = 1)
    (hv : Value.okWide P w r b0 t v) (h : DataW.Trod enc P w 0 (fun _ => true) true t v d p) :
    ∃ ad cap l, v = .slice ad l.length cap ∧ Ints w ad cap l := by
  obtain ⟨a0, len0, cap0, rfl⟩ := okWide_slice ht hv
  obtain ⟨fuel, hf⟩ := h
  rcases Go.ChangeShapes.open_ints ht he hc hf with ⟨hcs, _⟩ | ⟨a, len, cap, zs, hcs, _, hl, hm, hz, _, hcell, hwz⟩
  · simp [Value.cells] at hcs
    obtain ⟨rfl, rfl, rfl⟩ := hcs
    exact ⟨none, 0, [], rfl, Nat.le_refl _, Nat.zero_le _, fun _ => rfl, fun k x hx => by simp at hx⟩
  · simp [Value.cells] at hcs
    obtain ⟨rfl, rfl, rfl⟩ := hcs
    simp only [if_true] at hz
    have hlen : (zs.take len0).length = len0 := by simp; omega
    refine ⟨some a, cap0, zs.take len0, by rw [hlen], by omega, hm, (fun e => by cases e), fun k x hx => ?_⟩
    have hk : k < len0 := by
      have := (List.getElem?_eq_some_iff.1 hx).1
      rwa [hlen] at this
    have hkz : k < zs.length := by omega
    rw [List.getElem?_take, if_pos hk, List.getElem?_eq_getElem hkz] at hx
    have hx' : zs[k] = x := Option.some.inj hx
    have hw := i64_of (hwz _ (List.getElem_mem hkz))
    have hc' := hcell k hkz
    rw [List.getD_eq_getElem?_getD, List.getElem?_eq_getElem hkz] at hc'
    simp only [Option.getD_some] at hc'
    obtain ⟨ab, ao, spot⟩ := a
    have hspot : spot = none := by
      have := (cell_plain (hcell 0 (by omega))).1
      simpa [Addr.add] using this
    subst hspot
    rw [add_eq _ _ rfl] at hc'
    rw [hx'] at hc' hw
    exact ⟨hw, ab, ao, rfl, (cell_plain hc').2, hc'⟩
end
end Go.Proofs.Ytfiofjalpaeohaa
