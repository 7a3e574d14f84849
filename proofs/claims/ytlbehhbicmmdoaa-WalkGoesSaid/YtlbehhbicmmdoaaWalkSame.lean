/- Layer 12's same, on two rows of like steps. -/
import Derived.Test.YtlbehhbicmmdoaaWalkN
import Derived.Test.YtlbehhbicmmdoaaDescTold
import Derived.Test.YtlbehhbicmmdoaaFrame
import Derived.Test.YtlbehhbicmmdoaaOwn
namespace Go.Proofs.Ytlbehhbicmmdoaa
set_option linter.unusedVariables false
set_option linter.unusedSimpArgs false
open Go.RowKit

set_option maxHeartbeats 8000000 in
set_option maxRecDepth 100000 in
theorem same_calls {w : World} {B1 B2 n : Nat} {v1 v2 : Value} {L : List St} (h1 : w.ownsRow B1 52 9 v1 n (stCells L)) (h2 : w.ownsRow B2 54 9 v2 n (stCells L)) (hL : L.length = n) (hn : n ≤ 4) :
    Calls Try.prog 21 #[v1, v2] w (RetB w (.bool true)) := by
  obtain ⟨a1, c1, rfl, -, -, -, q1⟩ := own_value h1
  obtain ⟨a2, c2, rfl, -, -, -, q2⟩ := own_value h2
  have H1 := Lib.hid (And.intro h1 q1)
  have H2 := Lib.hid (And.intro h2 q2)
  have HL := Lib.hid hL
  have n4 : (n : Int) ≤ 4 := by omega
  clear h1 h2 q1 q2 hL hn
  go_enter Try.func21, Try.ntmps21
  go_wp2
  refine wp_loopF [false, false, false, false, true, true, false, false, false, false, false, true, true, true, true, true, true, true, true, true, true, true, true, true, true, true, true, true, true, true, true, true, true, true, true, true, true, true, true, true, true, true, true, true, true, true, true, true, true, true, true, true, true, true, true, true, true, true, true, true, true, true, true, true, true, true, true] (fun f x => ∃ i : Nat, i ≤ n ∧ f 5 = .int .i64 (i : Nat) ∧ Old w x) (fun f => n - (intOf (f 5)).toNat) ?start1 ?round1
  case start1 => exact ⟨0, by omega, rfl, (by first | exact old_refl _ | exact old_drew (old_refl _))⟩
  case round1 =>
    intro f1 wq hrel J1 K1 hJ1 hM1
    dsimp only [mergeA, mergeL, Nat.reduceAdd]
    obtain ⟨i, hi, h5, hO⟩ := hrel
    rw [h5]
    have H5 := Lib.hid h5
    have HO := Lib.hid hO
    clear h5 hO
    by_cases hin : i = n
    · have e1 : ¬ (i : Int) < n := by omega
      clear hin hi
      go_wp2
      go_ret
      exact ⟨rfl, HO.out⟩
    · have e1 : (i : Int) < n := by omega
      have hlt : i < n := by omega
      obtain ⟨t, ht⟩ : ∃ t, L[i]? = some t := ⟨_, List.getElem?_eq_getElem (by rw [HL.out]; exact hlt)⟩
      obtain ⟨g1, rfl⟩ := H1.out.2 (by omega)
      obtain ⟨g2, rfl⟩ := H2.out.2 (by omega)
      have hra : ∀ (c : Nat) (u : Value), t.cells[c]? = some u → wq.cell? ⟨g1, i * 9 + c, none⟩ = some u := fun c u hu => own_cell (own_old H1.out.1 HO.out) rfl _ (stCells_get L _ t c u ht hu)
      have hrb : ∀ (c : Nat) (u : Value), t.cells[c]? = some u → wq.cell? ⟨g2, i * 9 + c, none⟩ = some u := fun c u hu => own_cell (own_old H2.out.1 HO.out) rfl _ (stCells_get L _ t c u ht hu)
      obtain ⟨tlv, tat, traw, ⟨tk, ta, tr, tw, tx, tS⟩⟩ := t
      have ra0 : wq.cell? ⟨g1, i * 9, none⟩ = some (.int .i64 (tlv : Nat)) := hra 0 _ rfl
      have ra1 : wq.cell? ⟨g1, i * 9 + 1, none⟩ = some (.int .u64 (tat : Nat)) := hra 1 _ rfl
      have ra2 : wq.cell? ⟨g1, i * 9 + 2, none⟩ = some (.int .u64 (traw : Nat)) := hra 2 _ rfl
      have ra3 : wq.cell? ⟨g1, i * 9 + 3, none⟩ = some (.int .i64 tk) := hra 3 _ rfl
      have ra4 : wq.cell? ⟨g1, i * 9 + 4, none⟩ = some (.int .u64 (ta : Nat)) := hra 4 _ rfl
      have ra5 : wq.cell? ⟨g1, i * 9 + 5, none⟩ = some (.bool tr) := hra 5 _ rfl
      have ra6 : wq.cell? ⟨g1, i * 9 + 6, none⟩ = some (.bool tw) := hra 6 _ rfl
      have ra7 : wq.cell? ⟨g1, i * 9 + 7, none⟩ = some (.bool tx) := hra 7 _ rfl
      have ra8 : wq.cell? ⟨g1, i * 9 + 8, none⟩ = some (.int .i64 tS) := hra 8 _ rfl
      have rb0 : wq.cell? ⟨g2, i * 9, none⟩ = some (.int .i64 (tlv : Nat)) := hrb 0 _ rfl
      have rb1 : wq.cell? ⟨g2, i * 9 + 1, none⟩ = some (.int .u64 (tat : Nat)) := hrb 1 _ rfl
      have rb2 : wq.cell? ⟨g2, i * 9 + 2, none⟩ = some (.int .u64 (traw : Nat)) := hrb 2 _ rfl
      have rb3 : wq.cell? ⟨g2, i * 9 + 3, none⟩ = some (.int .i64 tk) := hrb 3 _ rfl
      have rb4 : wq.cell? ⟨g2, i * 9 + 4, none⟩ = some (.int .u64 (ta : Nat)) := hrb 4 _ rfl
      have rb5 : wq.cell? ⟨g2, i * 9 + 5, none⟩ = some (.bool tr) := hrb 5 _ rfl
      have rb6 : wq.cell? ⟨g2, i * 9 + 6, none⟩ = some (.bool tw) := hrb 6 _ rfl
      have rb7 : wq.cell? ⟨g2, i * 9 + 7, none⟩ = some (.bool tx) := hrb 7 _ rfl
      have rb8 : wq.cell? ⟨g2, i * 9 + 8, none⟩ = some (.int .i64 tS) := hrb 8 _ rfl
      have heq : (Op.equalIn 10000 48 (.agg #[Value.int .i64 tk, .int .u64 (ta : Nat), .bool tr, .bool tw, .bool tx, .int .i64 tS]) (.agg #[Value.int .i64 tk, .int .u64 (ta : Nat), .bool tr, .bool tw, .bool tx, .int .i64 tS])).run Try.prog wq.drew = .ok true wq.drew := (eq_desc tk ta tS tk ta tS tr tw tx tr tw tx wq.drew).trans (by simp)
      have HI := Lib.hid hlt
      clear hin hi hlt ht hra hrb
      go_upto_region 6 with (fail)
      refine wp_region_walked (S := Is wq.drew) (by kernel_rfl) (by kernel_rfl) rfl ?_
      apply walked_cons
      · intro wS hS; cases hS; go_wp2; exact ⟨rfl, rfl, rfl⟩
      · rfl
      (try simp only [Act.put, List.setIfInBounds_toArray, List.set_cons_succ, List.set_cons_zero])
      apply walked_cons
      · intro wS hS; cases hS; go_wp2; exact ⟨rfl, rfl, rfl⟩
      · rfl
      (try simp only [Act.put, List.setIfInBounds_toArray, List.set_cons_succ, List.set_cons_zero])
      apply walked_cons
      · intro wS hS; cases hS; go_wp2; exact ⟨rfl, rfl, rfl⟩
      · rfl
      (try simp only [Act.put, List.setIfInBounds_toArray, List.set_cons_succ, List.set_cons_zero])
      apply walked_cons
      · intro wS hS; cases hS; go_wp2; exact ⟨rfl, rfl, rfl⟩
      · rfl
      (try simp only [Act.put, List.setIfInBounds_toArray, List.set_cons_succ, List.set_cons_zero])
      apply walked_cons
      · intro wS hS; cases hS; go_wp2; exact ⟨rfl, rfl, rfl⟩
      · rfl
      (try simp only [Act.put, List.setIfInBounds_toArray, List.set_cons_succ, List.set_cons_zero])
      apply walked_cons
      · intro wS hS; cases hS; go_wp2; exact ⟨rfl, rfl, rfl⟩
      · rfl
      (try simp only [Act.put, List.setIfInBounds_toArray, List.set_cons_succ, List.set_cons_zero])
      apply walked_cons
      · intro wS hS; cases hS; go_wp2; exact ⟨rfl, rfl, rfl⟩
      · rfl
      (try simp only [Act.put, List.setIfInBounds_toArray, List.set_cons_succ, List.set_cons_zero])
      apply walked_cons
      · intro wS hS; cases hS; go_wp2; exact ⟨rfl, rfl, rfl⟩
      · rfl
      (try simp only [Act.put, List.setIfInBounds_toArray, List.set_cons_succ, List.set_cons_zero])
      apply walked_cons
      · intro wS hS; cases hS; go_wp2; exact ⟨rfl, rfl, rfl⟩
      · rfl
      (try simp only [Act.put, List.setIfInBounds_toArray, List.set_cons_succ, List.set_cons_zero])
      apply walked_cons
      · intro wS hS; cases hS; go_wp2; exact ⟨rfl, rfl, rfl⟩
      · rfl
      (try simp only [Act.put, List.setIfInBounds_toArray, List.set_cons_succ, List.set_cons_zero])
      apply walked_cons
      · intro wS hS; cases hS; go_wp2; exact ⟨rfl, rfl, rfl⟩
      · rfl
      (try simp only [Act.put, List.setIfInBounds_toArray, List.set_cons_succ, List.set_cons_zero])
      apply walked_cons
      · intro wS hS; cases hS; go_wp2; exact ⟨rfl, rfl, rfl⟩
      · rfl
      (try simp only [Act.put, List.setIfInBounds_toArray, List.set_cons_succ, List.set_cons_zero])
      apply walked_cons
      · intro wS hS; cases hS; go_wp2; exact ⟨rfl, rfl, rfl⟩
      · rfl
      (try simp only [Act.put, List.setIfInBounds_toArray, List.set_cons_succ, List.set_cons_zero])
      apply walked_cons
      · intro wS hS; cases hS; go_wp2; exact ⟨rfl, rfl, rfl⟩
      · rfl
      (try simp only [Act.put, List.setIfInBounds_toArray, List.set_cons_succ, List.set_cons_zero])
      apply walked_cons
      · intro wS hS; cases hS; go_wp2; exact ⟨rfl, rfl, rfl⟩
      · rfl
      (try simp only [Act.put, List.setIfInBounds_toArray, List.set_cons_succ, List.set_cons_zero])
      apply walked_cons
      · intro wS hS; cases hS; go_wp2; exact ⟨rfl, rfl, rfl⟩
      · rfl
      (try simp only [Act.put, List.setIfInBounds_toArray, List.set_cons_succ, List.set_cons_zero])
      apply walked_cons
      · intro wS hS; cases hS; go_wp2; exact ⟨rfl, rfl, rfl⟩
      · rfl
      (try simp only [Act.put, List.setIfInBounds_toArray, List.set_cons_succ, List.set_cons_zero])
      apply walked_cons
      · intro wS hS; cases hS; go_wp2; exact ⟨rfl, rfl, rfl⟩
      · rfl
      (try simp only [Act.put, List.setIfInBounds_toArray, List.set_cons_succ, List.set_cons_zero])
      apply walked_cons
      · intro wS hS; cases hS; go_wp2; exact ⟨rfl, rfl, rfl⟩
      · rfl
      (try simp only [Act.put, List.setIfInBounds_toArray, List.set_cons_succ, List.set_cons_zero])
      apply walked_cons
      · intro wS hS; cases hS; go_wp2; exact ⟨rfl, rfl, rfl⟩
      · rfl
      (try simp only [Act.put, List.setIfInBounds_toArray, List.set_cons_succ, List.set_cons_zero])
      apply walked_cons
      · intro wS hS; cases hS; go_wp2; exact ⟨rfl, rfl, rfl⟩
      · rfl
      (try simp only [Act.put, List.setIfInBounds_toArray, List.set_cons_succ, List.set_cons_zero])
      apply walked_cons
      · intro wS hS; cases hS; go_wp2; exact ⟨rfl, rfl, rfl⟩
      · rfl
      (try simp only [Act.put, List.setIfInBounds_toArray, List.set_cons_succ, List.set_cons_zero])
      apply walked_cons
      · intro wS hS; cases hS; go_wp2; exact ⟨rfl, rfl, rfl⟩
      · rfl
      (try simp only [Act.put, List.setIfInBounds_toArray, List.set_cons_succ, List.set_cons_zero])
      apply walked_cons
      · intro wS hS; cases hS; go_wp2; exact ⟨rfl, rfl, rfl⟩
      · rfl
      (try simp only [Act.put, List.setIfInBounds_toArray, List.set_cons_succ, List.set_cons_zero])
      apply walked_cons
      · intro wS hS; cases hS; go_wp2; exact ⟨rfl, rfl, rfl⟩
      · rfl
      (try simp only [Act.put, List.setIfInBounds_toArray, List.set_cons_succ, List.set_cons_zero])
      apply walked_cons
      · intro wS hS; cases hS; go_wp2; exact ⟨rfl, rfl, rfl⟩
      · rfl
      (try simp only [Act.put, List.setIfInBounds_toArray, List.set_cons_succ, List.set_cons_zero])
      apply walked_cons
      · intro wS hS; cases hS; go_wp2; exact ⟨rfl, rfl, rfl⟩
      · rfl
      (try simp only [Act.put, List.setIfInBounds_toArray, List.set_cons_succ, List.set_cons_zero])
      apply walked_cons
      · intro wS hS; cases hS; go_wp2; exact ⟨rfl, rfl, rfl⟩
      · rfl
      (try simp only [Act.put, List.setIfInBounds_toArray, List.set_cons_succ, List.set_cons_zero])
      apply walked_cons
      · intro wS hS; cases hS; go_wp2; exact ⟨rfl, rfl, rfl⟩
      · rfl
      (try simp only [Act.put, List.setIfInBounds_toArray, List.set_cons_succ, List.set_cons_zero])
      apply walked_cons
      · intro wS hS; cases hS; go_wp2; exact ⟨rfl, rfl, rfl⟩
      · rfl
      (try simp only [Act.put, List.setIfInBounds_toArray, List.set_cons_succ, List.set_cons_zero])
      apply walked_cons
      · intro wS hS; cases hS; go_wp2; exact ⟨rfl, rfl, rfl⟩
      · rfl
      (try simp only [Act.put, List.setIfInBounds_toArray, List.set_cons_succ, List.set_cons_zero])
      apply walked_cons
      · intro wS hS; cases hS; go_wp2; exact ⟨rfl, rfl, rfl⟩
      · rfl
      (try simp only [Act.put, List.setIfInBounds_toArray, List.set_cons_succ, List.set_cons_zero])
      apply walked_cons
      · intro wS hS; cases hS; go_wp2; exact ⟨rfl, rfl, rfl⟩
      · rfl
      (try simp only [Act.put, List.setIfInBounds_toArray, List.set_cons_succ, List.set_cons_zero])
      apply walked_cons
      · intro wS hS; cases hS; go_wp2; exact ⟨rfl, rfl, rfl⟩
      · rfl
      (try simp only [Act.put, List.setIfInBounds_toArray, List.set_cons_succ, List.set_cons_zero])
      apply walked_cons
      · intro wS hS; cases hS; go_wp2; exact ⟨rfl, rfl, rfl⟩
      · rfl
      (try simp only [Act.put, List.setIfInBounds_toArray, List.set_cons_succ, List.set_cons_zero])
      apply walked_cons
      · intro wS hS; cases hS; go_wp2; exact ⟨rfl, rfl, rfl⟩
      · rfl
      (try simp only [Act.put, List.setIfInBounds_toArray, List.set_cons_succ, List.set_cons_zero])
      apply walked_cons
      · intro wS hS; cases hS; go_wp2; exact ⟨rfl, rfl, rfl⟩
      · rfl
      (try simp only [Act.put, List.setIfInBounds_toArray, List.set_cons_succ, List.set_cons_zero])
      apply walked_cons
      · intro wS hS; cases hS; go_wp2; exact ⟨rfl, rfl, rfl⟩
      · rfl
      (try simp only [Act.put, List.setIfInBounds_toArray, List.set_cons_succ, List.set_cons_zero])
      apply walked_cons
      · intro wS hS; cases hS; go_wp2; exact ⟨rfl, rfl, rfl⟩
      · rfl
      (try simp only [Act.put, List.setIfInBounds_toArray, List.set_cons_succ, List.set_cons_zero])
      apply walked_cons
      · intro wS hS; cases hS; go_wp2; exact ⟨rfl, rfl, rfl⟩
      · rfl
      (try simp only [Act.put, List.setIfInBounds_toArray, List.set_cons_succ, List.set_cons_zero])
      apply walked_cons
      · intro wS hS; cases hS; go_wp2; exact ⟨rfl, rfl, rfl⟩
      · rfl
      (try simp only [Act.put, List.setIfInBounds_toArray, List.set_cons_succ, List.set_cons_zero])
      apply walked_cons
      · intro wS hS; cases hS; go_wp2; exact ⟨rfl, rfl, rfl⟩
      · rfl
      (try simp only [Act.put, List.setIfInBounds_toArray, List.set_cons_succ, List.set_cons_zero])
      apply walked_cons
      · intro wS hS; cases hS; go_wp2; exact ⟨rfl, rfl, rfl⟩
      · rfl
      (try simp only [Act.put, List.setIfInBounds_toArray, List.set_cons_succ, List.set_cons_zero])
      apply walked_cons
      · intro wS hS; cases hS; go_wp2; exact ⟨rfl, rfl, rfl⟩
      · rfl
      (try simp only [Act.put, List.setIfInBounds_toArray, List.set_cons_succ, List.set_cons_zero])
      apply walked_cons
      · intro wS hS; cases hS; go_wp2; exact ⟨rfl, rfl, rfl⟩
      · rfl
      (try simp only [Act.put, List.setIfInBounds_toArray, List.set_cons_succ, List.set_cons_zero])
      apply walked_cons
      · intro wS hS; cases hS; go_wp2; exact ⟨rfl, rfl, rfl⟩
      · rfl
      (try simp only [Act.put, List.setIfInBounds_toArray, List.set_cons_succ, List.set_cons_zero])
      apply walked_cons
      · intro wS hS; cases hS; go_wp2; exact ⟨rfl, rfl, rfl⟩
      · rfl
      (try simp only [Act.put, List.setIfInBounds_toArray, List.set_cons_succ, List.set_cons_zero])
      apply walked_cons
      · intro wS hS; cases hS; go_wp2; exact ⟨rfl, rfl, rfl⟩
      · rfl
      (try simp only [Act.put, List.setIfInBounds_toArray, List.set_cons_succ, List.set_cons_zero])
      apply walked_cons
      · intro wS hS; cases hS; go_wp2; exact ⟨rfl, rfl, rfl⟩
      · rfl
      (try simp only [Act.put, List.setIfInBounds_toArray, List.set_cons_succ, List.set_cons_zero])
      apply walked_cons
      · intro wS hS; cases hS; go_wp2; exact ⟨rfl, rfl, rfl⟩
      · rfl
      (try simp only [Act.put, List.setIfInBounds_toArray, List.set_cons_succ, List.set_cons_zero])
      apply walked_nil
      intro wS hS
      cases hS
      clear heq ra0 ra1 ra2 ra3 ra4 ra5 ra6 ra7 ra8 rb0 rb1 rb2 rb3 rb4 rb5 rb6 rb7 rb8
      go_wp2
      refine Met.intro (hJ1 _ _ (by kernel_rfl) ?_ ?_)
      · exact ⟨i + 1, HI.out, by show Value.int .i64 ((i : Int) + 1) = _; simp, old_then HO.out (old_drew (old_refl _))⟩
      · rw [H5.out]
        show n - (intOf (Value.int .i64 ((i : Int) + 1))).toNat < n - (intOf (Value.int .i64 (i : Int))).toNat
        have := HI.out
        simp [intOf]
        omega
end Go.Proofs.Ytlbehhbicmmdoaa

