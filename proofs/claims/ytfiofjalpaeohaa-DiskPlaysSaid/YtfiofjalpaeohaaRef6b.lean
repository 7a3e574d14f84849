/- Contracts of the document's disk: fails, Fail, Read. -/
import Derived.Test.YtfiofjalpaeohaaRef6
namespace Go.Proofs.Ytfiofjalpaeohaa
set_option linter.unusedVariables false
set_option linter.unusedSimpArgs false
open Go.RowKit

section
variable {w x : World} {O : Nat → Prop} {q ob gb slots : Nat} {on : List Bool} {vs : List Value} {fv fv' : Value} {pg : Int → Option (List Nat)} {F F' : List Bool}
theorem ref_fv (h : RefAt w O q ob gb slots on vs fv pg F) (hF : RefFails w O q ob gb fv' F') :
    RefAt (putB w q (.cells (refCells ob gb slots fv') 52)) O q ob gb slots on vs fv' pg F' ∧ Only (fun b => b = q) w (putB w q (.cells (refCells ob gb slots fv') 52)) := by
  have hO : Only (fun b => b = q) w (putB w q (.cells (refCells ob gb slots fv') 52)) := (Only.refl _ w).putB _ fun _ => rfl
  refine ⟨{ h with hq := putB_same _ (lt_of_block h.hq), ho := keep_only hO h.n1.symm h.ho, hg := keep_only hO h.n2.symm h.hg, hpg := ?_, hF := refFails_only hF hO fun b _ hb _ _ => hb }, hO⟩
  intro k l hk
  obtain ⟨v, a, b⟩ := h.hpg k l hk
  exact ⟨v, a, refPage_only b hO fun b _ hb _ _ => hb⟩
theorem ref_set2 (h : RefAt w O q ob gb slots on vs fv pg F) (v : Value) : w.setCell ⟨q, 2, none⟩ v = putB w q (.cells (refCells ob gb slots v) 52) := by rw [set_of h.hq]; rfl
theorem ref_own {B n : Nat} {v : Value} {l : List Bool} (h : w.ownsRow B 4 1 v n (l.map Value.bool)) (hq : q < B) (ho : ob < B) (hg : gb < B) : RefFails w (fun b => O b ∨ B ≤ b) q ob gb v l := by
  have hn : n = l.length := by have := h.1; simpa using this.symm
  subst hn
  rcases h.2 with ⟨rfl, h0⟩ | ⟨g, cap, cur, rfl, hb, hgg, hnc, hcm, _⟩
  · have hl : l = [] := List.eq_nil_of_length_eq_zero h0
    subst hl
    exact ⟨none, 0, rfl, Nat.le_refl _, Nat.zero_le _, fun k x hx => by simp at hx⟩
  · refine ⟨some ⟨g, 0, none⟩, cap, rfl, hnc, hcm, fun k x hx => ⟨g, 0, rfl, .inr hb, by omega, by omega, by omega, lt_of_block hgg, ?_⟩⟩
    have hk := (List.getElem?_eq_some_iff.1 hx).1
    rw [Nat.zero_add, h.cellAt k (by omega), List.getElem?_map, hx]; rfl
end

set_option maxHeartbeats 2000000 in
theorem refFails_calls (O : Nat → Prop) (q slots : Nat) (pg : Int → Option (List Nat)) (F : List Bool) (w : World) (h : IsRef w O q slots pg F) :
    Calls Try.prog 68 #[.pointer (some ⟨q, 0, none⟩)] w (fun e w' => e = .returned (.bool (F.headD false)) ∧ IsRef w' O q slots pg F.tail ∧ Only (fun b => b = q) w w') := by
  have H := Lib.hid h
  obtain ⟨ob, gb, on, vs, fv, h⟩ := h
  cases F with
  | nil =>
    obtain ⟨ad, c, rfl, _⟩ := h.hF
    have c2 : w.cell? ⟨q, 2, none⟩ = some (.slice ad 0 c) := by rw [cell_of h.hq]; rfl
    clear h
    go_enter Try.func68, Try.ntmps68
    go_wp2
    go_ret
    exact ⟨rfl, H.out, Only.refl _ _⟩
  | cons x F =>
    obtain ⟨ad, c, rfl, a1, a2, a3⟩ := h.hF
    have a1' : F.length + 1 ≤ c := a1
    obtain ⟨g, off, rfl, b1, b2, b3, b4, b5, b6⟩ := a3 0 x rfl
    have c2 : w.cell? ⟨q, 2, none⟩ = some (.slice (some ⟨g, off, none⟩) (F.length + 1) c) := by rw [cell_of h.hq]; rfl
    have f2 : w.frozen? ⟨q, 2, none⟩ = false := frozen_of h.hq _
    have cx : w.cell? ⟨g, off, none⟩ = some (.bool x) := b6
    have hsl := fun w => slice_tail w (some ⟨g, off, none⟩) F.length c a1'
    have hF : RefFails w O q ob gb (.slice (if c = 1 then some ⟨g, off, none⟩ else (some (⟨g, off, none⟩ : Addr)).map (·.add 1)) F.length (c - 1)) F := by
      refine ⟨_, _, rfl, by omega, by omega, fun k y hy => ?_⟩
      have hk := (List.getElem?_eq_some_iff.1 hy).1
      obtain ⟨g', off', e, d1, d2, d3, d4, d5, d6⟩ := a3 (k + 1) y (by simpa using hy)
      cases e
      refine ⟨g, off + 1, by rw [if_neg (by omega)]; simp [Addr.add], d1, d2, d3, d4, d5, ?_⟩
      rw [show off + 1 + k = off + (k + 1) by omega]
      exact d6
    generalize (if c = 1 then some (⟨g, off, none⟩ : Addr) else (some (⟨g, off, none⟩ : Addr)).map (·.add 1)) = ad' at *
    have s2 := ref_set2 h (.slice ad' F.length (c - 1))
    have hnew := Lib.hid (ref_fv h hF)
    generalize putB w q (.cells (refCells ob gb slots (.slice ad' F.length (c - 1))) 52) = W at *
    clear h hF a3 b6 H
    go_enter Try.func68, Try.ntmps68
    go_wp2
    go_ret
    exact ⟨rfl, ⟨ob, gb, on, vs, _, hnew.out.1⟩, hnew.out.2⟩

set_option maxHeartbeats 2000000 in
set_option maxRecDepth 100000 in
theorem refFail_calls (O : Nat → Prop) (q slots : Nat) (pg : Int → Option (List Nat)) (F : List Bool) (ad : Option Addr) (l : List Bool) (c : Nat) (w : World) (h : IsRef w O q slots pg F) (hB : Bools w ad c l) (hbig : l.length ≤ 1000000) :
    Calls Try.prog 24 #[.pointer (some ⟨q, 0, none⟩), .slice ad l.length c] w (RetRef w O q slots (.tuple #[]) pg l) := by
  obtain ⟨ob, gb, on, vs, fv, h⟩ := h
  obtain ⟨i0, hi, hz0, hz1, hz2⟩ := info_parts bool_info2
  have hlit : (w.alloc (.cells #[] 4)).ownsRow w.heap.size 4 1 (.slice (some ⟨w.heap.size, 0, none⟩) 0 0) 0 [] := World.ownsRow_lit w #[] 0 (Nat.le_refl _) (by decide) rfl
  have hO1 : Old w (w.alloc (.cells #[] 4)) := old_alloc (old_refl w) _
  have hbs : w.heap.size ≤ (w.alloc (.cells #[] 4)).heap.size := hO1.size
  have key : ∀ (v : Value) (w2 : World), w2.ownsRow w.heap.size 4 1 v l.length (l.map Value.bool) → Old w w2 →
      (∃ ad' c', v = .slice ad' l.length c') ∧ (∃ u, w2.cell? ⟨q, 2, none⟩ = some u) ∧ w2.frozen? ⟨q, 2, none⟩ = false ∧ w2.setCell ⟨q, 2, none⟩ v = putB w2 q (.cells (refCells ob gb slots v) 52) ∧
      IsRef (putB w2 q (.cells (refCells ob gb slots v) 52)) (fun b => O b ∨ w.heap.size ≤ b) q slots pg l ∧ Only O w (putB w2 q (.cells (refCells ob gb slots v) 52)) := by
    intro v w2 hown hO
    have h2 := refAt_more (refAt_only h (Only.of_below hO) fun _ _ f => f) (O' := fun b => O b ∨ w.heap.size ≤ b) fun b hb => .inl hb
    have hF := ref_own (O := O) hown (lt_of_block h.hq) (lt_of_block h.ho) (lt_of_block h.hg)
    obtain ⟨r1, r2⟩ := ref_fv h2 hF
    exact ⟨by obtain ⟨ad', c', e, _⟩ := hF; exact ⟨ad', c', e⟩, ⟨_, by rw [cell_of h2.hq]; rfl⟩, frozen_of h2.hq _, ref_set2 h2 v, ⟨ob, gb, on, vs, _, r1⟩, ((Only.of_below hO).mono (fun b _ f => f.elim)).trans (r2.mono fun b _ e => by rw [e]; exact h.oq)⟩
  have Key := Lib.hid key
  clear key h
  rcases ad with _ | a
  · have hl : l = [] := by
      cases l with
      | nil => rfl
      | cons x l => have := hB.1; rw [hB.2.2.1 rfl] at this; simp at this
    have hc := hB.2.2.1 rfl
    subst hl hc
    obtain ⟨-, ⟨u, cu⟩, fu, su, hd, hO⟩ := Key.out _ _ hlit hO1
    have HD := Lib.hid (And.intro hd hO)
    clear hd hO
    generalize putB (w.alloc (.cells #[] 4)) q (.cells (refCells ob gb slots (.slice (some ⟨w.heap.size, 0, none⟩) 0 0)) 52) = W at *
    go_enter Try.func24, Try.ntmps24
    go_wp2_with (at_builtin; refine wpList_append_own_none _ rfl _ _ 32 rfl w.heap.size 4 i0 1 Try.underlying32 hi _ _ _ rfl hlit rfl ?_)
    refine bodyPost_end (v := .tuple #[]) (by first | rfl | kernel_rfl) rfl ?_
    exact ⟨rfl, HD.out.1, HD.out.2⟩
  · have hB1 := bools_old hB hO1
    go_enter Try.func24, Try.ntmps24
    go_wp2_with (at_builtin; refine wpList_append_own _ rfl _ _ 32 rfl w.heap.size 4 i0 (.bool false) 1 1 Try.underlying32 hi hz0 hz1 hz2 rfl (by decide) _ _ [] rfl hlit a l.length c (l.map Value.bool) rfl (by simp) (bools_news hB1) (bools_one l) (by unfold maxLen; omega) (by omega) hbs ?_; intro v' w2 hown hgrow h9; clear h9; simp only [Nat.zero_add, List.nil_append] at hown; obtain ⟨⟨ad2, c2, rfl⟩, ⟨u, cu⟩, fu, su, hd, hO⟩ := Key.out v' w2 hown (old_grown hO1 hgrow (fun g e => by have e' : some w.heap.size = some g := e; have := Option.some.inj e'; omega)); have HD := Lib.hid (And.intro hd hO); clear hd hO hown hgrow)
    refine bodyPost_end (v := .tuple #[]) (by first | rfl | kernel_rfl) rfl ?_
    exact ⟨rfl, HD.out.1, HD.out.2⟩

end Go.Proofs.Ytfiofjalpaeohaa
