/- The program's disk beside the document's: what both hold, and what a call of either leaves. -/
import Derived.Test.YtfiofjalpaeohaaRef6f
import Derived.Test.YtfiofjalpaeohaaPage3
namespace Go.Proofs.Ytfiofjalpaeohaa
set_option linter.unusedVariables false
set_option linter.unusedSimpArgs false
open Go.RowKit

theorem refPage_clip {w : World} {O : Nat → Prop} {q ob gb : Nat} {v : Value} {l : List Nat} (h : RefPage w O q ob gb v l) : RefPage w (fun b => O b ∧ b < w.heap.size) q ob gb v l := by
  obtain ⟨g, c, rfl, h1, h2, h3, h4⟩ := h
  exact ⟨g, c, rfl, h1, h2, ⟨h3, (row_parts h2).2.1⟩, h4⟩
theorem ref_clip {w : World} {O : Nat → Prop} {q slots : Nat} {pg : Int → Option (List Nat)} {F : List Bool} (h : IsRef w O q slots pg F) : IsRef w (fun b => O b ∧ b < w.heap.size) q slots pg F := by
  obtain ⟨ob, gb, on, vs, fv, h⟩ := h
  refine ⟨ob, gb, on, vs, fv, { h with oq := ⟨h.oq, lt_of_block h.hq⟩, oo := ⟨h.oo, lt_of_block h.ho⟩, og := ⟨h.og, lt_of_block h.hg⟩, hpg := ?_, hF := ?_ }⟩
  · intro k l hk
    obtain ⟨v, a, b⟩ := h.hpg k l hk
    exact ⟨v, a, refPage_clip b⟩
  · obtain ⟨ad, c, e, h1, h2, h3⟩ := h.hF
    refine ⟨ad, c, e, h1, h2, fun k y hy => ?_⟩
    obtain ⟨g, off, e, a1, a2, a3, a4, a5, a6⟩ := h3 k y hy
    exact ⟨g, off, e, ⟨a1, a5⟩, a2, a3, a4, a5, a6⟩

/-- Both disks in one world x that was w: T: what is not the program's; R: what is the document's; K: what is neither's and stays. -/
structure Both (n p q : Nat) (w : World) (T R K : Nat → Prop) (pg : Int → Option (List Nat)) (F : List Bool) (pg' : Int → Option (List Nat)) (F' : List Bool) (x : World) : Prop where
  hd : IsDisk x T p n pg F
  hr : IsRef x R q n pg' F'
  tx : ∀ b, T b → b < x.heap.size
  rt : ∀ b, R b → T b ∧ w.heap.size ≤ b
  kt : ∀ b, K b → T b ∧ ¬ R b
  wt : ∀ b, b < w.heap.size → K b
  ho : Old w x

section
variable {n p q : Nat} {w x y : World} {T R K : Nat → Prop} {pg pg' pg1 : Int → Option (List Nat)} {F F' F1 : List Bool}
/-- The program's disk was called: all that K names stays. -/
theorem both_disk (h : Both n p q w T R K pg F pg' F' x) (hd : IsDisk y T p n pg1 F1) (ho : Only (fun b => ¬ T b) x y) : Both n p q w T R K pg1 F1 pg' F' y :=
  { hd := hd
    hr := ref_only h.hr ho fun b hb f => f (h.rt b hb).1
    tx := fun b hb => Nat.lt_of_lt_of_le (h.tx b hb) ho.size
    rt := h.rt
    kt := h.kt
    wt := h.wt
    ho := old_not h.ho ho fun b hb => (h.kt b (h.wt b hb)).1 }
theorem keep_disk (h : Both n p q w T R K pg F pg' F' x) (ho : Only (fun b => ¬ T b) x y) : Only (fun b => ¬ K b) x y := ho.mono fun b _ f hk => f (h.kt b hk).1

/-- The document's disk was called. -/
theorem both_ref (h : Both n p q w T R K pg F pg' F' x) (hr : IsRef y (fun b => R b ∨ x.heap.size ≤ b) q n pg1 F1) (ho : Only R x y) :
    Both n p q w (fun b => T b ∨ (x.heap.size ≤ b ∧ b < y.heap.size)) (fun b => (R b ∨ x.heap.size ≤ b) ∧ b < y.heap.size) K pg F pg1 F1 y :=
  { hd := disk_only (disk_more h.hd fun b hb => hb.imp id fun e => e.1) ho fun b hb hR => hb (.inl (h.rt b hR).1)
    hr := ref_clip hr
    tx := fun b hb => by
      rcases hb with hb | hb
      · exact Nat.lt_of_lt_of_le (h.tx b hb) ho.size
      · exact hb.2
    rt := fun b hb => by
      rcases hb with ⟨hb | hb, hl⟩
      · exact ⟨.inl (h.rt b hb).1, (h.rt b hb).2⟩
      · exact ⟨.inr ⟨hb, hl⟩, Nat.le_trans h.ho.size hb⟩
    kt := fun b hb => ⟨.inl (h.kt b hb).1, fun f => by
      rcases f with ⟨f | f, _⟩
      · exact (h.kt b hb).2 f
      · have := h.tx b (h.kt b hb).1; omega⟩
    wt := h.wt
    ho := by
      refine old_not (X := K) h.ho (ho.mono fun b _ hR hk => (h.kt b hk).2 hR) h.wt }
theorem keep_ref (h : Both n p q w T R K pg F pg' F' x) (ho : Only R x y) : Only (fun b => ¬ K b) x y := ho.mono fun b _ hR hk => (h.kt b hk).2 hR

/-- New blocks that are neither's. -/
theorem both_grow (h : Both n p q w T R K pg F pg' F' x) (ho : Old x y) :
    Both n p q w (fun b => T b ∨ (x.heap.size ≤ b ∧ b < y.heap.size)) R (fun b => K b ∨ (x.heap.size ≤ b ∧ b < y.heap.size)) pg F pg' F' y :=
  { hd := disk_old (disk_more h.hd fun b hb => hb.imp id fun e => e.1) ho
    hr := ref_old h.hr ho
    tx := fun b hb => by
      rcases hb with hb | hb
      · exact Nat.lt_of_lt_of_le (h.tx b hb) ho.size
      · exact hb.2
    rt := fun b hb => ⟨.inl (h.rt b hb).1, (h.rt b hb).2⟩
    kt := fun b hb => by
      rcases hb with hb | hb
      · exact ⟨.inl (h.kt b hb).1, (h.kt b hb).2⟩
      · exact ⟨.inr hb, fun f => by have := h.tx b (h.rt b f).1; omega⟩
    wt := fun b hb => .inl (h.wt b hb)
    ho := old_then h.ho ho }
/-- Blocks that are neither's were turned. -/
theorem both_own (h : Both n p q w T R K pg F pg' F' x) {G : Nat → Prop} (ho : Only G x y) (hG : ∀ b, G b → K b ∧ w.heap.size ≤ b) : Both n p q w T R K pg F pg' F' y :=
  { hd := disk_only h.hd ho fun b hb hg => hb (h.kt b (hG b hg).1).1
    hr := ref_only h.hr ho fun b hb hg => (h.kt b (hG b hg).1).2 hb
    tx := fun b hb => Nat.lt_of_lt_of_le (h.tx b hb) ho.size
    rt := h.rt
    kt := h.kt
    wt := h.wt
    ho := old_not (X := fun b => b < w.heap.size) h.ho (ho.mono fun b _ hg hb => by have := (hG b hg).2; omega) fun _ hb => hb }
/-- Fewer blocks are held to stay. -/
theorem both_less (h : Both n p q w T R K pg F pg' F' x) {K' : Nat → Prop} (hK : ∀ b, K' b → K b) (hw : ∀ b, b < w.heap.size → K' b) : Both n p q w T R K' pg F pg' F' x :=
  { h with kt := fun b hb => h.kt b (hK b hb), wt := hw }
theorem both_X (h : Both n p q w T R K pg F pg' F' x) : ∀ b, T b → b < x.heap.size := h.tx
end

end Go.Proofs.Ytfiofjalpaeohaa
