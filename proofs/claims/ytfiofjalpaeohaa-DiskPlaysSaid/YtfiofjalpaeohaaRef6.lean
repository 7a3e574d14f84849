/- The document's own disk (demesneref6): what a world must hold, and contracts of has, Free, Give. -/
import Derived.Test.YtfiofjalpaeohaaDiskLaw
namespace Go.Proofs.Ytfiofjalpaeohaa
set_option linter.unusedVariables false
set_option linter.unusedSimpArgs false
open Go.RowKit

/-- The cells of the document's disk. -/
def refCells (ob gb slots : Nat) (fails : Value) : Array Value := #[.slice (some ⟨ob, 0, none⟩) slots slots, .slice (some ⟨gb, 0, none⟩) slots slots, fails]
/-- A page's slice. -/
def RefPage (w : World) (O : Nat → Prop) (q ob gb : Nat) (v : Value) (l : List Nat) : Prop :=
  ∃ g c, v = .slice (some ⟨g, 0, none⟩) 4096 c ∧ l.length = 4096 ∧ Row w 0 g c l ∧ O g ∧ g ≠ q ∧ g ≠ ob ∧ g ≠ gb
/-- What is to fail. -/
def RefFails (w : World) (O : Nat → Prop) (q ob gb : Nat) (v : Value) (F : List Bool) : Prop :=
  ∃ ad c, v = .slice ad F.length c ∧ F.length ≤ c ∧ c ≤ maxLen ∧ ∀ (k : Nat) (x : Bool), F[k]? = some x → ∃ g off, ad = some ⟨g, off, none⟩ ∧ O g ∧ g ≠ q ∧ g ≠ ob ∧ g ≠ gb ∧ g < w.heap.size ∧ w.cell? ⟨g, off + k, none⟩ = some (.bool x)

structure RefAt (w : World) (O : Nat → Prop) (q ob gb slots : Nat) (on : List Bool) (vs : List Value) (fv : Value) (pg : Int → Option (List Nat)) (F : List Bool) : Prop where
  hq : w.heap[q]? = some (.cells (refCells ob gb slots fv) 52)
  oq : O q
  ho : w.heap[ob]? = some (.cells (boolsC on) 4)
  oo : O ob
  hg : w.heap[gb]? = some (.cells vs.toArray 31)
  og : O gb
  n1 : q ≠ ob
  n2 : q ≠ gb
  n3 : ob ≠ gb
  hs : slots ≤ 4096
  lo : on.length = slots
  lv : vs.length = slots
  hon : ∀ k : Nat, k < slots → on[k]? = some (pg k).isSome
  hin : ∀ k : Int, (pg k).isSome = true → 0 ≤ k ∧ k < slots
  hpg : ∀ (k : Nat) (l : List Nat), pg k = some l → ∃ v, vs[k]? = some v ∧ RefPage w O q ob gb v l
  hF : RefFails w O q ob gb fv F

/-- Block q holds the document's disk; O: its own blocks. -/
def IsRef (w : World) (O : Nat → Prop) (q slots : Nat) (pg : Int → Option (List Nat)) (F : List Bool) : Prop := ∃ ob gb on vs fv, RefAt w O q ob gb slots on vs fv pg F

section
variable {w x : World} {O O' : Nat → Prop} {q ob gb slots : Nat} {on : List Bool} {vs : List Value} {fv v : Value} {pg : Int → Option (List Nat)} {F : List Bool} {l : List Nat}

theorem refPage_only {G : Nat → Prop} (h : RefPage w O q ob gb v l) (ho : Only G w x) (hG : ∀ b, O b → b ≠ q → b ≠ ob → b ≠ gb → ¬ G b) : RefPage x O q ob gb v l := by
  obtain ⟨g, c, rfl, h1, h2, h3, h4, h5, h6⟩ := h
  exact ⟨g, c, rfl, h1, row_only h2 ho (hG g h3 h4 h5 h6), h3, h4, h5, h6⟩
theorem refFails_only {G : Nat → Prop} (h : RefFails w O q ob gb v F) (ho : Only G w x) (hG : ∀ b, O b → b ≠ q → b ≠ ob → b ≠ gb → ¬ G b) : RefFails x O q ob gb v F := by
  obtain ⟨ad, c, rfl, h1, h2, h3⟩ := h
  refine ⟨ad, c, rfl, h1, h2, fun k y hy => ?_⟩
  obtain ⟨g, off, e, a1, a2, a3, a4, a5, a6⟩ := h3 k y hy
  exact ⟨g, off, e, a1, a2, a3, a4, Nat.lt_of_lt_of_le a5 ho.size, by rw [ho.cell g _ a5 (hG g a1 a2 a3 a4)]; exact a6⟩
theorem refAt_only {G : Nat → Prop} (h : RefAt w O q ob gb slots on vs fv pg F) (ho : Only G w x) (hG : ∀ b, O b → ¬ G b) : RefAt x O q ob gb slots on vs fv pg F :=
  { h with
    hq := keep_only ho (hG q h.oq) h.hq
    ho := keep_only ho (hG ob h.oo) h.ho
    hg := keep_only ho (hG gb h.og) h.hg
    hpg := fun k l hk => by
      obtain ⟨v, a, b⟩ := h.hpg k l hk
      exact ⟨v, a, refPage_only b ho fun b hb _ _ _ => hG b hb⟩
    hF := refFails_only h.hF ho fun b hb _ _ _ => hG b hb }
theorem ref_only {G : Nat → Prop} (h : IsRef w O q slots pg F) (ho : Only G w x) (hG : ∀ b, O b → ¬ G b) : IsRef x O q slots pg F := by
  obtain ⟨ob, gb, on, vs, fv, h⟩ := h
  exact ⟨ob, gb, on, vs, fv, refAt_only h ho hG⟩
theorem ref_old (h : IsRef w O q slots pg F) (ho : Old w x) : IsRef x O q slots pg F := ref_only h (Only.of_below ho) fun _ _ f => f
theorem refPage_more (h : RefPage w O q ob gb v l) (hO : ∀ b, O b → O' b) : RefPage w O' q ob gb v l := by
  obtain ⟨g, c, rfl, h1, h2, h3, h4, h5, h6⟩ := h
  exact ⟨g, c, rfl, h1, h2, hO g h3, h4, h5, h6⟩
theorem refFails_more (h : RefFails w O q ob gb v F) (hO : ∀ b, O b → O' b) : RefFails w O' q ob gb v F := by
  obtain ⟨ad, c, rfl, h1, h2, h3⟩ := h
  refine ⟨ad, c, rfl, h1, h2, fun k y hy => ?_⟩
  obtain ⟨g, off, e, a1, a2⟩ := h3 k y hy
  exact ⟨g, off, e, hO g a1, a2⟩
theorem refAt_more (h : RefAt w O q ob gb slots on vs fv pg F) (hO : ∀ b, O b → O' b) : RefAt w O' q ob gb slots on vs fv pg F :=
  { h with
    oq := hO _ h.oq
    oo := hO _ h.oo
    og := hO _ h.og
    hpg := fun k l hk => by
      obtain ⟨v, a, b⟩ := h.hpg k l hk
      exact ⟨v, a, refPage_more b hO⟩
    hF := refFails_more h.hF hO }
theorem ref_more (h : IsRef w O q slots pg F) (hO : ∀ b, O b → O' b) : IsRef w O' q slots pg F := by
  obtain ⟨ob, gb, on, vs, fv, h⟩ := h
  exact ⟨ob, gb, on, vs, fv, refAt_more h hO⟩
theorem ref_none (h : RefAt w O q ob gb slots on vs fv pg F) {k : Int} (hk : ¬ (0 ≤ k ∧ k < slots)) : pg k = none := by
  cases e : pg k with
  | none => rfl
  | some l => exact absurd (h.hin k (by rw [e]; rfl)) hk
end

/-- What a call leaves: its answer, the disk, its own blocks turned alone; what is new is its own. -/
def RetRef (w : World) (O : Nat → Prop) (q slots : Nat) (v : Value) (pg : Int → Option (List Nat)) (F : List Bool) (e : Ending) (w' : World) : Prop :=
  e = .returned v ∧ IsRef w' (fun b => O b ∨ w.heap.size ≤ b) q slots pg F ∧ Only O w w'

set_option maxHeartbeats 1000000 in
theorem refHas_calls (O : Nat → Prop) (q slots : Nat) (pg : Int → Option (List Nat)) (F : List Bool) (k : Int) (w : World) (h : IsRef w O q slots pg F) :
    Calls Try.prog 66 #[.pointer (some ⟨q, 0, none⟩), .int .i64 k] w (RetB w (.bool (pg k).isSome)) := by
  obtain ⟨ob, gb, on, vs, fv, h⟩ := h
  have c0 : w.cell? ⟨q, 0, none⟩ = some (.slice (some ⟨ob, 0, none⟩) slots slots) := by rw [cell_of h.hq]; rfl
  by_cases h0 : 0 ≤ k
  · by_cases h1 : k < slots
    · obtain ⟨j, rfl⟩ : ∃ j : Nat, k = j := ⟨k.toNat, by omega⟩
      have hj : j < slots := by omega
      have cb : w.cell? ⟨ob, j, none⟩ = some (.bool (pg j).isSome) := by rw [cell_of h.ho, boolsC_get, h.hon j hj]; rfl
      generalize (pg j).isSome = b at *
      clear h
      go_enter Try.func66, Try.ntmps66
      go_wp2
      go_ret
      exact ⟨rfl, old_refl _⟩
    · rw [ref_none h (by omega)]
      clear h
      go_enter Try.func66, Try.ntmps66
      go_wp2
      go_ret
      exact ⟨rfl, old_refl _⟩
  · rw [ref_none h (by omega)]
    clear h
    go_enter Try.func66, Try.ntmps66
    go_wp2
    go_ret
    exact ⟨rfl, old_refl _⟩

set_option maxHeartbeats 1000000 in
theorem refFree_calls (O : Nat → Prop) (q slots : Nat) (pg : Int → Option (List Nat)) (F : List Bool) (w : World) (h : IsRef w O q slots pg F) :
    Calls Try.prog 26 #[.pointer (some ⟨q, 0, none⟩)] w (RetB w (.int .i64 (slots - cntOf pg slots : Nat))) := by
  obtain ⟨ob, gb, on, vs, fv, h⟩ := h
  have c0 : w.cell? ⟨q, 0, none⟩ = some (.slice (some ⟨ob, 0, none⟩) slots slots) := by rw [cell_of h.hq]; rfl
  have cb : ∀ j : Nat, j < slots → w.cell? ⟨ob, j, none⟩ = some (.bool (pg j).isSome) := fun j hj => by rw [cell_of h.ho, boolsC_get, h.hon j hj]; rfl
  have hs := h.hs
  have HB := Lib.hid cb
  clear h cb
  go_enter Try.func26, Try.ntmps26
  go_wp2
  go_loopw [3, 4] (fun n i wr => ∃ j : Nat, i = .int .i64 j ∧ j ≤ slots ∧ n = .int .i64 (j - cntOf pg j : Nat) ∧ wr = w) (fun _ i _ => (4097 - intOf i).toNat)
  case atStart => exact ⟨0, rfl, by omega, rfl, rfl⟩
  case round =>
  obtain ⟨j, rfl, hj, rfl, rfl⟩ := hrel
  by_cases hjs : j < slots
  · have cj := HB.out j hjs
    have hc : cntOf pg (j + 1) = cntOf pg j + if (pg j).isSome then 1 else 0 := rfl
    have hle := cnt_le pg j
    have HC := Lib.hid hc
    have HL := Lib.hid hle
    clear hc hle
    generalize hcn : cntOf pg j = c at *
    clear hcn
    cases hb : (pg j).isSome
    · rw [hb] at cj HC
      go_wp2
      go_roundw
      case rel =>
        have h1 := HC.out
        have h2 := HL.out
        exact ⟨j + 1, by go_num, by omega, by rw [h1]; simp only [Bool.false_eq_true, if_false, Nat.add_zero]; congr 1; omega, by first | rfl | trivial⟩
      case measure => (simp [intOf]) <;> omega
    · rw [hb] at cj HC
      go_wp2
      go_roundw
      case rel =>
        have h1 := HC.out
        have h2 := HL.out
        exact ⟨j + 1, by go_num, by omega, by rw [h1]; simp only [if_true]; congr 1; omega, by first | rfl | trivial⟩
      case measure => (simp [intOf]) <;> omega
  · obtain rfl : j = slots := by omega
    go_wp2
    go_ret
    exact ⟨rfl, old_refl _⟩

theorem boolsC_lt (on : List Bool) (j : Nat) (h : j < on.length) : ∃ b, (boolsC on)[j]? = some (.bool b) := by
  obtain ⟨b, hb⟩ : ∃ b, on[j]? = some b := ⟨_, List.getElem?_eq_getElem h⟩
  exact ⟨b, by rw [boolsC_get, hb]; rfl⟩

/-- Another truth of a slot, its page told. -/
theorem ref_put {w : World} {O : Nat → Prop} {q ob gb slots : Nat} {on : List Bool} {vs : List Value} {fv : Value} {pg : Int → Option (List Nat)} {F : List Bool} (h : RefAt w O q ob gb slots on vs fv pg F) (j : Nat) (hj : j < slots) :
    RefAt (putB w ob (.cells (boolsC (on.set j false)) 4)) O q ob gb slots (on.set j false) vs fv (updP pg j none) F ∧ Only O w (putB w ob (.cells (boolsC (on.set j false)) 4)) := by
  have hO : Only (fun b => b = ob) w (putB w ob (.cells (boolsC (on.set j false)) 4)) := (Only.refl _ w).putB _ fun _ => rfl
  refine ⟨{ h with hq := keep_only hO h.n1 h.hq, ho := putB_same _ (lt_of_block h.ho), hg := keep_only hO h.n3.symm h.hg, lo := by rw [List.length_set]; exact h.lo, hon := ?_, hin := ?_, hpg := ?_, hF := refFails_only h.hF hO fun b _ _ hb _ => hb }, hO.mono fun b _ e => by rw [e]; exact h.oo⟩
  · intro k hk
    unfold updP
    by_cases e : k = j
    · subst e
      rw [List.getElem?_set_self (by rw [h.lo]; exact hk), if_pos rfl]; rfl
    · rw [List.getElem?_set_ne (fun e' => e e'.symm), if_neg (by omega)]
      exact h.hon k hk
  · intro k hk
    unfold updP at hk
    split at hk
    · cases hk
    · exact h.hin k hk
  · intro k l hk
    unfold updP at hk
    split at hk
    · cases hk
    · obtain ⟨v, a, b⟩ := h.hpg k l hk
      exact ⟨v, a, refPage_only b hO fun b _ _ hb _ => hb⟩

set_option maxHeartbeats 1000000 in
theorem refGive_none (O : Nat → Prop) (q slots : Nat) (pg : Int → Option (List Nat)) (F : List Bool) (k : Int) (w : World) (h : IsRef w O q slots pg F) (hk : pg k = none) :
    Calls Try.prog 17 #[.pointer (some ⟨q, 0, none⟩), .int .i64 k] w (RetB w (.int .i64 23)) := by
  have hh := refHas_calls O q slots pg F k w h
  rw [hk] at hh
  clear h hk
  go_enter Try.func17, Try.ntmps17
  go_wp2_with fail
  (with_reducible refine hh.mono ?_)
  rintro e w1 ⟨rfl, hb1⟩
  go_wp2
  go_ret
  exact ⟨rfl, hb1⟩

set_option maxHeartbeats 1000000 in
theorem refGive_some (O : Nat → Prop) (q slots : Nat) (pg : Int → Option (List Nat)) (F : List Bool) (k : Int) (l : List Nat) (w : World) (h : IsRef w O q slots pg F) (hk : pg k = some l) :
    Calls Try.prog 17 #[.pointer (some ⟨q, 0, none⟩), .int .i64 k] w (RetRef w O q slots (.int .i64 0) (updP pg k none) F) := by
  have hh := refHas_calls O q slots pg F k w h
  rw [hk] at hh
  obtain ⟨ob, gb, on, vs, fv, h⟩ := h
  obtain ⟨h0, h1⟩ := h.hin k (by rw [hk]; rfl)
  obtain ⟨j, rfl⟩ : ∃ j : Nat, k = j := ⟨k.toNat, by omega⟩
  have hj : j < slots := by omega
  have H := Lib.hid h
  clear h hk
  go_enter Try.func17, Try.ntmps17
  go_wp2_with fail
  (with_reducible refine hh.mono ?_)
  rintro e w1 ⟨rfl, hb1⟩
  have h := refAt_only H.out (Only.of_below hb1) fun _ _ f => f
  obtain ⟨h2, h3⟩ := ref_put h j hj
  have c0 : w1.cell? ⟨q, 0, none⟩ = some (.slice (some ⟨ob, 0, none⟩) slots slots) := by rw [cell_of h.hq]; rfl
  have cb : w1.cell? ⟨ob, j, none⟩ = some (.bool (pg j).isSome) := by rw [cell_of h.ho, boolsC_get, h.hon j hj]; rfl
  have fb : w1.frozen? ⟨ob, j, none⟩ = false := frozen_of h.ho _
  have sb : w1.setCell ⟨ob, j, none⟩ (.bool false) = putB w1 ob (.cells (boolsC (on.set j false)) 4) := by rw [set_of h.ho, boolsC_set]
  have HF := Lib.hid (And.intro h2 h3)
  generalize putB w1 ob (.cells (boolsC (on.set j false)) 4) = W at *
  clear h h2 h3 hh H
  go_wp2
  go_ret
  refine ⟨rfl, ⟨ob, gb, _, vs, fv, refAt_more HF.out.1 fun b hb => .inl hb⟩, ((Only.of_below hb1).mono fun b _ f => f.elim).trans HF.out.2⟩

end Go.Proofs.Ytfiofjalpaeohaa
