/- What the statements of layer 12 share: the worlds in which a walk's steps are read, bits of addresses. -/
import Derived.Test.YtlbehhbicmmdoaaWalkTold
import Derived.Test.YtlbehhbicmmdoaaDescSplit
import Derived.Test.YtlbehhbicmmdoaaBitsFields
namespace Go.Proofs.Ytlbehhbicmmdoaa
set_option linter.unusedVariables false
set_option linter.unusedSimpArgs false
open Go.RowKit

/-- Blocks, and a walk's steps. -/
def StepS (w : World) (l : List (Nat × Array Value × TypeId)) (B g n c : Nat) (L : List St) (x : World) : Prop :=
  Holds w l x ∧ x.ownsRow B 52 9 (.slice (some ⟨g, 0, none⟩) n c) n (stCells L)
section
variable {w x y : World} {l : List (Nat × Array Value × TypeId)} {B g n c : Nat} {L : List St}
theorem stepS_old (h : StepS w l B g n c L x) (ho : Old x y) : StepS w l B g n c L y := ⟨holds_old h.1 ho, own_old h.2 ho⟩
theorem stepS_drew (h : StepS w l B g n c L x) : StepS w l B g n c L x.drew := ⟨holds_drew h.1, own_old h.2 (old_drew (old_refl _))⟩
theorem stepS_cell (h : StepS w l B g n c L x) (j : Nat) {u : Value} (hu : (stCells L)[j]? = some u) : x.cell? ⟨g, j, none⟩ = some u := own_cell h.2 rfl j hu
end
theorem old_step {F : Nat → Prop} {w x y : World} (h : Old w x) (ho : Only F x y) (hF : ∀ b, F b → w.heap.size ≤ b) : Old w y :=
  Only.to_below ((Only.of_below h).step ho (fun b hb f => by have := hF b f; omega))
theorem has_only {F : Nat → Prop} {x y : World} (ho : Only F x y) : ∀ {l : List (Nat × Array Value × TypeId)}, (∀ z ∈ l, ¬ F z.1) → Has x l → Has y l
  | [], _, _ => trivial
  | z :: l, hF, h => ⟨keep_only ho (hF z (List.mem_cons_self ..)) h.1, has_only ho (fun z' hz => hF z' (List.mem_cons_of_mem _ hz)) h.2⟩

theorem and_4095 (x : Nat) (hx : x < 18446744073709551616) : bits .and .u64 (x : Int) 4095 = ((x % 4096 : Nat) : Int) := by
  have h1 := bits_and_u64_nat x 4095 hx (by decide)
  have h2 : x &&& 4095 = x % 4096 := Nat.and_two_pow_sub_one_eq_mod _ 12
  rw [show (4095 : Int) = ((4095 : Nat) : Int) from rfl, h1, h2]
theorem and_table (x : Nat) (hx : x < 18446744073709551616) : ∃ t : Nat, bits .and .u64 (x : Int) 1099511623680 = ((t : Nat) : Int) ∧ t % 4096 = 0 ∧ t ≤ 1099511623680 := by
  refine ⟨x &&& 1099511623680, bits_and_u64_nat x 1099511623680 hx (by decide), ?_, Nat.and_le_right⟩
  have h : x &&& 1099511623680 = fieldN x 12 28 * 2 ^ 12 := by
    refine Nat.eq_of_testBit_eq fun i => ?_
    have hm : (1099511623680 : Nat) = maskN 12 28 := by decide
    rw [hm, Nat.testBit_and, maskN_bit, Nat.testBit_mul_two_pow, fieldN_bit]
    by_cases h : 12 ≤ i
    · rw [show 12 + (i - 12) = i by omega]
      by_cases h2 : i < 12 + 28
      · simp [h, h2]; omega
      · simp [h, h2]; omega
    · simp [h]
  rw [h]
  omega
end Go.Proofs.Ytlbehhbicmmdoaa
