/- Arguments that are slices: what their reading says of the cells. No function of the program stands here. -/
import Derived.Test.YtfiofjalpaeohaaBase
import Derived.ProofKit
import Derived.Deep.Slices
import Derived.Deep.SlicePairs
import Derived.Deep.Fields
import Derived.Lib.SmallJoins
namespace Go.Proofs.Ytfiofjalpaeohaa
set_option linter.unusedVariables false
set_option linter.unusedSimpArgs false
open Go.ChangeShapes Go.WideShapes Go.Deep Go.RowKit Go.Joins

/-- A list of what is there, place by place. -/
theorem list_of {α : Type} {Q : Nat → α → Prop} : ∀ (n : Nat), (∀ i, i < n → ∃ x, Q i x) → ∃ l : List α, l.length = n ∧ ∀ i x, l[i]? = some x → Q i x
  | 0, _ => ⟨[], rfl, fun i x h => by simp at h⟩
  | n + 1, h => by
    obtain ⟨l, hl, hq⟩ := list_of n (fun i hi => h i (by omega))
    obtain ⟨x, hx⟩ := h n (by omega)
    refine ⟨l ++ [x], by simp [hl], fun i y hy => ?_⟩
    rcases Nat.lt_or_ge i n with hi | hi
    · rw [List.getElem?_append_left (by omega)] at hy
      exact hq i y hy
    · rw [List.getElem?_append_right (by omega)] at hy
      have : i = n := by
        by_cases e : i = n
        · exact e
        · rw [List.getElem?_eq_none (by simp; omega)] at hy
          cases hy
      subst this
      simp [hl] at hy
      rw [← hy]; exact hx

/-- A whole number of 64 bits. -/
def I64 (x : Int) : Prop := -9223372036854775808 ≤ x ∧ x ≤ 9223372036854775807

theorem i64_of {x : Int} (h : (Lit.int .i64 x).wf = true) : I64 x := by
  simp [Lit.wf, IntKind.min, IntKind.max, IntKind.signed, IntKind.bits] at h
  exact ⟨by omega, by omega⟩

/-- The cells of a slice of pairs of whole numbers. -/
def Pairs (w : World) (ad : Option Addr) (l : List (Int × Int)) : Prop :=
  ∀ i x, l[i]? = some x → ∃ b off, ad = some ⟨b, off, none⟩ ∧ b < w.heap.size ∧ w.cell? ⟨b, off + i * 2, none⟩ = some (.int .i64 x.1) ∧ w.cell? ⟨b, off + i * 2 + 1, none⟩ = some (.int .i64 x.2) ∧ I64 x.1 ∧ I64 x.2

theorem add_eq (a : Addr) (n : Nat) (h : a.spot = none) : a.add n = ⟨a.block, a.off + n, none⟩ := by
  obtain ⟨b, o, s⟩ := a
  simp at h
  subst h
  unfold Addr.add
  split <;> simp_all

theorem cell_plain {w : World} {a : Addr} {v : Value} (h : w.cell? a = some v) : a.spot = none ∧ a.block < w.heap.size := by
  unfold World.cell? at h
  cases hb : w.heap[a.block]? with
  | none => simp [hb] at h
  | some o =>
    refine ⟨?_, lt_of_block hb⟩
    rw [hb] at h
    cases o <;> simp at h
    exact h.1

theorem add_spot (a : Addr) (n : Nat) (h : (a.add n).spot = none) (hn : n = 0 ∨ a.spot = none) : a.spot = none := by
  rcases hn with rfl | hn
  · simpa [Addr.add] using h
  · exact hn

section
variable {H : Type} {enc : TypeId × Value → H} {P : Program} {w : World}

theorem cell_shape {w : World} {a : Addr} {i : Nat} {x y : Value} (hs : a.spot = none) (h0 : w.cell? (a.add (i * 2)) = some x) (h1 : w.cell? (a.add (i * 2 + 1)) = some y) :
    ∃ b off, a = ⟨b, off, none⟩ ∧ b < w.heap.size ∧ w.cell? ⟨b, off + i * 2, none⟩ = some x ∧ w.cell? ⟨b, off + i * 2 + 1, none⟩ = some y := by
  obtain ⟨s1, k1⟩ := cell_plain h1
  obtain ⟨b, o, s⟩ := a
  simp only at hs
  subst hs
  have k : ∀ n, (⟨b, o, none⟩ : Addr).add n = ⟨b, o + n, none⟩ := fun n => add_eq _ n rfl
  rw [k] at h0 h1 k1
  exact ⟨b, o, rfl, k1, h0, by rw [Nat.add_assoc]; exact h1⟩

theorem open_pairs {r : Reach} {b0 : Nat} {t e : TypeId} {f0 f1 : Field} {v : Value} {d : DataW H} {p : List MemPlace} (ht : P.underlying t = some (.slice e)) (he : P.underlying e = some (.struct #[f0, f1]))
    (hone : oneCellFields P #[f0, f1] = true) (hC : P.cellsOf e = 2) (h0 : P.underlying f0.type = some (.int .i64)) (h1 : P.underlying f1.type = some (.int .i64))
    (hv : Value.okWide P w r b0 t v) (h : DataW.Trod enc P w 0 (fun _ => true) true t v d p) :
    ∃ ad cap l, v = .slice ad l.length cap ∧ l.length ≤ maxLen ∧ Pairs w ad l := by
  obtain ⟨a0, len0, cap0, rfl⟩ := okWide_slice ht hv
  obtain ⟨fuel, hf⟩ := h
  obtain ⟨o0, k0⟩ := hone_of hone 0 f0 rfl
  obtain ⟨o1, k1⟩ := hone_of hone 1 f1 rfl
  rcases open_slice_pairs ht he hC o0 o1 k0 k1 hf with ⟨hcs, _⟩ | ⟨a, len, cap, m, n, V0, V1, D0, D1, P0, P1, hcs, _, hl, hm, hmm, _, hi⟩
  · simp [Value.cells] at hcs
    obtain ⟨e0, e1, e2⟩ := hcs
    rw [e0, e1, e2]
    exact ⟨none, 0, [], rfl, by simp, fun i x hx => by simp at hx⟩
  · simp [Value.cells] at hcs
    obtain ⟨e0, e1, e2⟩ := hcs
    rw [e0, e1, e2]
    obtain ⟨l, hll, hq⟩ := list_of (Q := fun i (x : Int × Int) => ∃ b off, (some a : Option Addr) = some ⟨b, off, none⟩ ∧ b < w.heap.size ∧ w.cell? ⟨b, off + i * 2, none⟩ = some (.int .i64 x.1) ∧ w.cell? ⟨b, off + i * 2 + 1, none⟩ = some (.int .i64 x.2) ∧ I64 x.1 ∧ I64 x.2) len (fun i hil => by
      obtain ⟨c0, c1, t0, t1⟩ := hi i (by
        rw [hmm]
        split
        · omega
        · exact hil)
      obtain ⟨n0, q0, _, r0⟩ := DataW.trod_int h0 t0
      obtain ⟨n1, q1, _, r1⟩ := DataW.trod_int h1 t1
      simp at q0 q1
      rw [q0] at c0
      rw [q1] at c1
      have hs : a.spot = none := by
        have := (cell_plain (hi 0 (by
          rw [hmm]
          split
          · omega
          · omega)).1).1
        simpa [Addr.add] using this
      obtain ⟨b, off, ha, hb, g0, g1⟩ := cell_shape hs c0 c1
      exact ⟨(n0, n1), b, off, by rw [ha], hb, g0, g1, i64_of r0, i64_of r1⟩)
    exact ⟨some a, cap, l, by rw [hll], by omega, fun i x hx => hq i x hx⟩
end

end Go.Proofs.Ytfiofjalpaeohaa
