/- Contracts of the document's disk: Take. -/
import Derived.Test.YtfiofjalpaeohaaRef6c
namespace Go.Proofs.Ytfiofjalpaeohaa
set_option linter.unusedVariables false
set_option linter.unusedSimpArgs false
open Go.RowKit

set_option maxHeartbeats 1000000 in
theorem refTake_full (O : Nat → Prop) (q slots : Nat) (pg : Int → Option (List Nat)) (F : List Bool) (w : World) (h : IsRef w O q slots pg F) (hall : ∀ j : Nat, j < slots → (pg j).isSome = true) :
    Calls Try.prog 15 #[.pointer (some ⟨q, 0, none⟩)] w (RetB w (.tuple #[.int .i64 0, .int .i64 12])) := by
  obtain ⟨ob, gb, on, vs, fv, h⟩ := h
  have c0 : w.cell? ⟨q, 0, none⟩ = some (.slice (some ⟨ob, 0, none⟩) slots slots) := by rw [cell_of h.hq]; rfl
  have cb : ∀ j : Nat, j < slots → w.cell? ⟨ob, j, none⟩ = some (.bool true) := fun j hj => by rw [cell_of h.ho, boolsC_get, h.hon j hj, hall j hj]; rfl
  have hs := h.hs
  have HB := Lib.hid cb
  clear h cb hall
  go_enter Try.func15, Try.ntmps15
  go_wp2
  go_loopw [4] (fun i wr => ∃ j : Nat, i = .int .i64 j ∧ j ≤ slots ∧ wr = w) (fun i _ => (4097 - intOf i).toNat)
  case atStart => exact ⟨0, rfl, by omega, rfl⟩
  case round =>
  obtain ⟨j, rfl, hj, rfl⟩ := hrel
  by_cases hjs : j < slots
  · have cj := HB.out j hjs
    go_wp2
    go_roundw
    case rel => exact ⟨j + 1, by go_num, by omega, by first | rfl | trivial⟩
    case measure => (simp [intOf]) <;> omega
  · obtain rfl : j = slots := by omega
    go_wp2
    go_ret2
    exact ⟨rfl, old_refl _⟩

theorem row_zero {w : World} {B g c : Nat} {l : List Nat} (h : Row w B g c l) : Row w 0 g c l :=
  ⟨⟨h.1.1, h.1.2.imp id fun ⟨a, b, d, e, _, r⟩ => ⟨a, b, d, e, Nat.zero_le _, r⟩⟩, h.2⟩

/-- A slot taken, its page made. -/
theorem ref_take {w w2 : World} {O : Nat → Prop} {q ob gb slots : Nat} {on : List Bool} {vs : List Value} {fv : Value} {pg : Int → Option (List Nat)} {F : List Bool} (h : RefAt w O q ob gb slots on vs fv pg F) (j : Nat) (hj : j < slots)
    (B : Nat) (hB : B ≤ w.heap.size) (hq : q < B) (hob : ob < B) (hgb : gb < B) (hO2 : Old (putB w ob (.cells (boolsC (on.set j true)) 4)) w2) {g c : Nat} {l : List Nat} (hrow : Row w2 B g c l) (hl : l.length = 4096) :
    RefAt (putB w2 gb (.cells (vs.set j (.slice (some ⟨g, 0, none⟩) 4096 c)).toArray 31)) (fun b => O b ∨ B ≤ b) q ob gb slots (on.set j true) (vs.set j (.slice (some ⟨g, 0, none⟩) 4096 c)) fv (updP pg j (some l)) F ∧
      Only O w (putB w2 gb (.cells (vs.set j (.slice (some ⟨g, 0, none⟩) 4096 c)).toArray 31)) := by
  have hO1 : Only (fun b => b = ob) w (putB w ob (.cells (boolsC (on.set j true)) 4)) := (Only.refl _ w).putB _ fun _ => rfl
  have hOa : Only (fun b => b = ob) w w2 := hO1.trans ((Only.of_below hO2).mono fun b _ f => f.elim)
  have hO3 : Only (fun b => b = gb) w2 (putB w2 gb (.cells (vs.set j (.slice (some ⟨g, 0, none⟩) 4096 c)).toArray 31)) := (Only.refl _ w2).putB _ fun _ => rfl
  have k1 := keep_only hOa h.n1 h.hq
  have k2 : w2.heap[ob]? = some (.cells (boolsC (on.set j true)) 4) := keep_old hO2 (putB_same _ (lt_of_block h.ho))
  have k3 := keep_only hOa h.n3.symm h.hg
  have hall : Only (fun b => b = ob ∨ b = gb) w (putB w2 gb (.cells (vs.set j (.slice (some ⟨g, 0, none⟩) 4096 c)).toArray 31)) := (hOa.mono fun b _ e => .inl e).trans (hO3.mono fun b _ e => .inr e)
  have hrp := row_parts hrow
  refine ⟨{ hq := keep_only hO3 h.n2 k1, oq := .inl h.oq, ho := keep_only hO3 h.n3 k2, oo := .inl h.oo, hg := putB_same _ (lt_of_block k3), og := .inl h.og, n1 := h.n1, n2 := h.n2, n3 := h.n3, hs := h.hs, lo := by rw [List.length_set]; exact h.lo, lv := by rw [List.length_set]; exact h.lv, hon := ?_, hin := ?_, hpg := ?_, hF := ?_ }, hall.mono fun b _ e => ?_⟩
  · intro k hk
    unfold updP
    by_cases e : k = j
    · subst e
      rw [List.getElem?_set_self (by rw [h.lo]; exact hk), if_pos rfl]; rfl
    · rw [List.getElem?_set_ne (fun e' => e e'.symm), if_neg (by omega)]
      exact h.hon k hk
  · intro k hk
    unfold updP at hk
    split at hk
    · omega
    · exact h.hin k hk
  · intro k l' hk
    unfold updP at hk
    split at hk
    · rename_i e
      obtain rfl : k = j := by omega
      obtain rfl := Option.some.inj hk
      refine ⟨_, List.getElem?_set_self (by rw [h.lv]; exact hj), g, c, rfl, hl, ?_, .inr hrp.1, by omega, by omega, by omega⟩
      exact row_only (row_zero hrow) hO3 (by omega)
    · rename_i e
      obtain ⟨v, a, b⟩ := h.hpg k l' hk
      refine ⟨v, by rw [List.getElem?_set_ne (by intro e'; exact e (by rw [e']))]; exact a, refPage_more (refPage_only b hall fun b _ _ h1 h2 e => ?_) fun b hb => .inl hb⟩
      rcases e with e | e
      · exact h1 e
      · exact h2 e
  · refine refFails_more (refFails_only h.hF hall fun b _ _ h1 h2 e => ?_) fun b hb => .inl hb
    rcases e with e | e
    · exact h1 e
    · exact h2 e
  · rcases e with rfl | rfl
    · exact h.oo
    · exact h.og

set_option maxHeartbeats 4000000 in
set_option maxRecDepth 100000 in
theorem refTake_ok (O : Nat → Prop) (q slots : Nat) (pg : Int → Option (List Nat)) (F : List Bool) (i : Nat) (w : World) (h : IsRef w O q slots pg F) (hi : i < slots) (hfree : pg i = none) (hleast : ∀ j : Nat, j < i → (pg j).isSome = true) :
    Calls Try.prog 15 #[.pointer (some ⟨q, 0, none⟩)] w (RetRef w O q slots (.tuple #[.int .i64 i, .int .i64 0]) (updP pg i (some zeros4096)) F) := by
  obtain ⟨ob, gb, on, vs, fv, h⟩ := h
  have c0 : w.cell? ⟨q, 0, none⟩ = some (.slice (some ⟨ob, 0, none⟩) slots slots) := by rw [cell_of h.hq]; rfl
  have c1 : w.cell? ⟨q, 1, none⟩ = some (.slice (some ⟨gb, 0, none⟩) slots slots) := by rw [cell_of h.hq]; rfl
  have cb : ∀ j : Nat, j < i → w.cell? ⟨ob, j, none⟩ = some (.bool true) := fun j hj => by rw [cell_of h.ho, boolsC_get, h.hon j (by omega), hleast j hj]; rfl
  have ci : w.cell? ⟨ob, i, none⟩ = some (.bool false) := by rw [cell_of h.ho, boolsC_get, h.hon i hi, hfree]; rfl
  have fi : w.frozen? ⟨ob, i, none⟩ = false := frozen_of h.ho _
  have si : w.setCell ⟨ob, i, none⟩ (.bool true) = putB w ob (.cells (boolsC (on.set i true)) 4) := by rw [set_of h.ho, boolsC_set]
  have hs := h.hs
  have hobl := lt_of_block h.ho
  have hO1 : Only (fun b => b = ob) w (putB w ob (.cells (boolsC (on.set i true)) 4)) := (Only.refl _ w).putB _ fun _ => rfl
  have d1 : (putB w ob (.cells (boolsC (on.set i true)) 4)).heap[q]? = some (.cells (refCells ob gb slots fv) 52) := keep_only hO1 h.n1 h.hq
  have d2 : (putB w ob (.cells (boolsC (on.set i true)) 4)).heap[gb]? = some (.cells vs.toArray 31) := keep_only hO1 h.n3.symm h.hg
  have hsz : (putB w ob (.cells (boolsC (on.set i true)) 4)).heap.size = w.heap.size := putB_size _ _ _
  obtain ⟨w2, hmk, hrow, hO2⟩ := make_page (putB w ob (.cells (boolsC (on.set i true)) 4)).drew
  have hO2' : Old (putB w ob (.cells (boolsC (on.set i true)) 4)) w2 := old_then (old_drew (old_refl _)) hO2
  have hrow' : Row w2 w.heap.size w.heap.size 4096 zeros4096 := by
    have hsz' : (putB w ob (.cells (boolsC (on.set i true)) 4)).drew.heap.size = w.heap.size := hsz
    rw [hsz'] at hrow; exact hrow
  have hfin := ref_take h i hi w.heap.size (Nat.le_refl _) (lt_of_block h.hq) hobl (lt_of_block h.hg) hO2' hrow' zeros4096_length
  have e2 : w2.heap[gb]? = some (.cells vs.toArray 31) := keep_old hO2' d2
  have cg : ∃ u, w2.cell? ⟨gb, i, none⟩ = some u := ⟨vs[i]'(by rw [h.lv]; exact hi), by rw [cell_of e2]; simp [h.lv, hi]⟩
  obtain ⟨u, cg⟩ := cg
  have fg : w2.frozen? ⟨gb, i, none⟩ = false := frozen_of e2 _
  have sg : w2.setCell ⟨gb, i, none⟩ (.slice (some ⟨w.heap.size, 0, none⟩) 4096 4096) = putB w2 gb (.cells (vs.set i (.slice (some ⟨w.heap.size, 0, none⟩) 4096 4096)).toArray 31) := by
    rw [set_of e2]; simp [List.setIfInBounds_toArray]
  have hmk' : (Instr.makeSlice 31 (.int .i64 4096) (.int .i64 4096)).run Try.prog (putB w ob (.cells (boolsC (on.set i true)) 4)).drew = .ok (.slice (some ⟨w.heap.size, 0, none⟩) 4096 4096) w2 := by
    have hsz' : (putB w ob (.cells (boolsC (on.set i true)) 4)).drew.heap.size = w.heap.size := hsz
    rw [hsz'] at hmk; exact hmk
  have cA : (putB w ob (.cells (boolsC (on.set i true)) 4)).drew.cell? ⟨q, 1, none⟩ = some (.slice (some ⟨gb, 0, none⟩) slots slots) := by
    rw [cell_of (show (putB w ob (.cells (boolsC (on.set i true)) 4)).drew.heap[q]? = _ from d1)]; rfl
  have cB : w2.cell? ⟨q, 1, none⟩ = some (.slice (some ⟨gb, 0, none⟩) slots slots) := by rw [cell_of (keep_old hO2' d1)]; rfl
  have HF := Lib.hid hfin
  have HB := Lib.hid cb
  generalize putB w ob (.cells (boolsC (on.set i true)) 4) = W1 at *
  generalize hW3 : putB w2 gb (.cells (vs.set i (.slice (some ⟨w.heap.size, 0, none⟩) 4096 4096)).toArray 31) = W3 at *
  clear h cb hleast hfree hO1 d1 d2 hsz hmk hrow hO2 hO2' hrow' hfin e2 hobl hW3
  go_enter Try.func15, Try.ntmps15
  go_wp2
  go_loopw [4] (fun k wr => ∃ j : Nat, k = .int .i64 j ∧ j ≤ i ∧ wr = w) (fun k _ => (4097 - intOf k).toNat)
  case atStart => exact ⟨0, rfl, by omega, rfl⟩
  case round =>
  obtain ⟨j, rfl, hj, rfl⟩ := hrel
  by_cases hji : j < i
  · have cj := HB.out j hji
    clear ci si fi hmk' cA cB cg fg sg
    go_wp2
    go_roundw
    case rel => exact ⟨j + 1, by go_num, by omega, by first | rfl | trivial⟩
    case measure => (simp [intOf]) <;> omega
  · obtain rfl : j = i := by omega
    go_wp2_with fail
    refine wp_region_staged (S := StageS 5 W1.drew w2) 6 (by kernel_rfl) (by kernel_rfl) (by kernel_rfl) (by decide) rfl ?_
    (apply walkedS_cons; (focus (intro l9 wS hz hn hS; have hS9 := stage_other 0 (by decide) hS; have c9 := stage_cell hS cA cB; clear hS; go_wp2; exact ⟨rfl, rfl, hS9⟩)); rfl; (try simp only [Act.put, List.setIfInBounds_toArray, List.set_cons_succ, List.set_cons_zero]))
    (apply walkedS_cons; (focus (intro l9 wS hz hn hS; have hS9 := stage_other 1 (by decide) hS; have c9 := stage_cell hS cA cB; clear hS; go_wp2; exact ⟨rfl, rfl, hS9⟩)); rfl; (try simp only [Act.put, List.setIfInBounds_toArray, List.set_cons_succ, List.set_cons_zero]))
    (apply walkedS_cons; (focus (intro l9 wS hz hn hS; have hS9 := stage_other 2 (by decide) hS; have c9 := stage_cell hS cA cB; clear hS; go_wp2; exact ⟨rfl, rfl, hS9⟩)); rfl; (try simp only [Act.put, List.setIfInBounds_toArray, List.set_cons_succ, List.set_cons_zero]))
    (apply walkedS_cons; (focus (intro l9 wS hz hn hS; have hS9 := stage_other 3 (by decide) hS; have c9 := stage_cell hS cA cB; clear hS; go_wp2; exact ⟨rfl, rfl, hS9⟩)); rfl; (try simp only [Act.put, List.setIfInBounds_toArray, List.set_cons_succ, List.set_cons_zero]))
    (apply walkedS_cons; (focus (intro l9 wS hz hn hS; have hS9 := stage_other 4 (by decide) hS; have c9 := stage_cell hS cA cB; clear hS; go_wp2; exact ⟨rfl, rfl, hS9⟩)); rfl; (try simp only [Act.put, List.setIfInBounds_toArray, List.set_cons_succ, List.set_cons_zero]))
    apply walkedS_cons
    · intro l9 wS hz hn hS
      obtain rfl := stage_before hn hS
      clear hS
      go_wp2
      exact ⟨rfl, rfl, stage_done hz (by decide)⟩
    · rfl
    apply walkedS_nil
    intro l9 wS hz hall hS
    obtain rfl := stage_after (hall 5 (by decide)) hS
    clear hS
    show wpList _ _ _ [_, _] _ _
    go_wp2
    go_ret2
    exact ⟨rfl, ⟨ob, gb, _, _, fv, HF.out.1⟩, HF.out.2⟩

end Go.Proofs.Ytfiofjalpaeohaa
