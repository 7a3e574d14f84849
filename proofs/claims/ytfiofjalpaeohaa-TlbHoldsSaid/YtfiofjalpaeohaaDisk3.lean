/- Contracts of the package disk: New, Fail, Give. -/
import Derived.Test.YtfiofjalpaeohaaDisk2
import Derived.Carry
namespace Go.Proofs.Ytfiofjalpaeohaa
set_option linter.unusedVariables false
set_option linter.unusedSimpArgs false
open Go.RowKit

theorem cnt_none (n : Nat) : cntOf (fun _ => none) n = 0 := by
  induction n with
  | zero => rfl
  | succ n ih => unfold cntOf; rw [ih]; rfl

theorem diskNew_none (n : Int) (w : World) (h : ¬ (0 ≤ n ∧ n ≤ 4096)) : Calls Try.prog 12 #[.int .i64 n] w (RetB w (.tuple #[.pointer none, .int .i64 1])) := by
  by_cases h1 : n < 0
  · clear h
    go_enter Try.func12, Try.ntmps12
    go_wp2
    go_ret2
    exact ⟨rfl, old_refl _⟩
  · have h2 : 4096 < n := by omega
    clear h
    go_enter Try.func12, Try.ntmps12
    go_wp2
    go_ret2
    exact ⟨rfl, old_refl _⟩

set_option maxHeartbeats 1000000 in
theorem diskNew_calls (n : Nat) (w : World) (hn : n ≤ 4096) : Calls Try.prog 12 #[.int .i64 n] w fun e w' =>
    e = .returned (.tuple #[.pointer (some ⟨w.heap.size + 1, 0, none⟩), .int .i64 0]) ∧ Old w w' ∧ w'.heap.size = w.heap.size + 2 ∧ ∀ X : Nat → Prop, (∀ b, X b → b < w.heap.size) → IsDisk w' X (w.heap.size + 1) n (fun _ => none) [] := by
  have hmm := @run_makeMap Try.prog
  go_enter Try.func12, Try.ntmps12
  go_wp2
  go_ret2
  have hO := old_alloc (old_alloc (old_refl w) (.map #[] 0)) (.cells #[.int .i64 n, .map (some w.heap.size), .slice none 0 0] 108)
  have hs1 : (w.alloc (.map #[] 0)).heap.size = w.heap.size + 1 := Array.size_push _
  refine ⟨rfl, hO, by simp, fun X hX => ⟨w.heap.size, fun _ => none, .slice none 0 0, ?_, fun h => ?_, ?_, fun h => ?_, by omega, hn, (fun k hk => by cases hk), fun _ _ => rfl, (fun k l hk => by cases hk), none, 0, rfl, Nat.le_refl _, Nat.zero_le _, (fun k x hx => by simp at hx)⟩⟩
  · rw [← hs1]; exact new_block _ _
  · have := hX _ h; omega
  · rw [cnt_none]
    exact isMap_old (isMap_made w) (old_alloc (old_refl _) _)
  · have := hX _ h; omega

/-- A slice of truths reads as l. -/
def Bools (w : World) (ad : Option Addr) (c : Nat) (l : List Bool) : Prop :=
  l.length ≤ c ∧ c ≤ maxLen ∧ (ad = none → c = 0) ∧ ∀ (k : Nat) (x : Bool), l[k]? = some x → ∃ bb off, ad = some ⟨bb, off, none⟩ ∧ bb < w.heap.size ∧ w.cell? ⟨bb, off + k, none⟩ = some (.bool x)
theorem bools_old {w x : World} {ad : Option Addr} {c : Nat} {l : List Bool} (h : Bools w ad c l) (ho : Old w x) : Bools x ad c l := by
  refine ⟨h.1, h.2.1, h.2.2.1, fun k y hy => ?_⟩
  obtain ⟨bb, off, rfl, hb, hc⟩ := h.2.2.2 k y hy
  exact ⟨bb, off, rfl, Nat.lt_of_lt_of_le hb ho.size, by rw [ho.cell hb]; exact hc⟩
theorem bools_news {w : World} {a : Addr} {c : Nat} {l : List Bool} (h : Bools w (some a) c l) : ∀ (j : Nat) (u : Value), (l.map Value.bool)[j]? = some u → w.cell? (a.add j) = some u := by
  intro j u hu
  rw [List.getElem?_map] at hu
  obtain ⟨x, hx, rfl⟩ := Option.map_eq_some_iff.1 hu
  obtain ⟨bb, off, e, _, hc⟩ := h.2.2.2 j x hx
  cases e
  rw [add_eq _ _ rfl]
  exact hc
theorem bools_one (l : List Bool) : ∀ u ∈ l.map Value.bool, u.oneCell' = true := by
  intro u hu
  obtain ⟨x, _, rfl⟩ := List.mem_map.1 hu
  rfl
theorem bool_info2 : (Try.prog.info? 4).map (fun i => (i.zero, i.size, i.bytes)) = some (some (.bool false), 1, 1) := by kernel_rfl

theorem fails_own {w : World} {X : Nat → Prop} {p m B n : Nat} {v : Value} {l : List Bool} (h : w.ownsRow B 4 1 v n (l.map Value.bool)) (hX : ∀ b, X b → b < B) (hp : p < B) (hm : m < B) : FailsIs w X p m v l := by
  have hn : n = l.length := by have := h.1; simpa using this.symm
  subst hn
  rcases h.2 with ⟨rfl, h0⟩ | ⟨g, cap, cur, rfl, hb, hg, hnc, hcm, _⟩
  · have hl : l = [] := List.eq_nil_of_length_eq_zero h0
    subst hl
    exact ⟨none, 0, rfl, Nat.le_refl _, Nat.zero_le _, fun k x hx => by simp at hx⟩
  · refine ⟨some ⟨g, 0, none⟩, cap, rfl, hnc, hcm, fun k x hx => ⟨g, 0, rfl, fun hXg => by have := hX g hXg; omega, by omega, by omega, lt_of_block hg, ?_⟩⟩
    have hk := (List.getElem?_eq_some_iff.1 hx).1
    rw [Nat.zero_add, h.cellAt k (by omega), List.getElem?_map, hx]; rfl

set_option maxHeartbeats 2000000 in
set_option maxRecDepth 100000 in
theorem fail_calls (X : Nat → Prop) (p slots : Nat) (pg : Int → Option (List Nat)) (F : List Bool) (ad : Option Addr) (l : List Bool) (c : Nat) (w : World) (h : IsDisk w X p slots pg F) (hX : ∀ b, X b → b < w.heap.size) (hB : Bools w ad c l) (hbig : l.length ≤ 1000000) :
    Calls Try.prog 23 #[.pointer (some ⟨p, 0, none⟩), .slice ad l.length c] w (RetDisk w X p slots (.tuple #[]) pg l) := by
  obtain ⟨m, f, fv, h1, h2, h3, h4, h5, h6, h7, h8, h9, hA⟩ := h
  obtain ⟨i0, hi, hz0, hz1, hz2⟩ := info_parts bool_info2
  have hp := lt_of_block h1
  have hm := isMap_lt h3
  have key : ∀ (v : Value) (w2 : World), w2.ownsRow w.heap.size 4 1 v l.length (l.map Value.bool) → w.grownBy w2 none →
      (∃ ad' c', v = .slice ad' l.length c') ∧ (∃ u, w2.cell? ⟨p, 2, none⟩ = some u) ∧ w2.frozen? ⟨p, 2, none⟩ = false ∧ w2.setCell ⟨p, 2, none⟩ v = putB w2 p (.cells (diskCells slots m v) 108) ∧
      IsDisk (putB w2 p (.cells (diskCells slots m v) 108)) X p slots pg l ∧ Only (fun b => ¬ X b) w (putB w2 p (.cells (diskCells slots m v) 108)) := by
    intro v w2 hown hg
    have hO := old_grown (old_refl w) hg (fun g e => by cases e)
    have k1 := keep_old hO h1
    have hF := fails_own hown hX hp hm
    have := disk_fails k1 h2 (isMap_old h3 hO) h4 h5 h6 h7 h8 (fun k l hk => by
      obtain ⟨v, a, b⟩ := h9 k l hk
      exact ⟨v, a, page_only b (Only.of_below hO) fun _ _ _ _ f => f⟩) hF
    exact ⟨by obtain ⟨ad', c', e, _⟩ := hF; exact ⟨ad', c', e⟩, ⟨_, by rw [cell_of k1]; rfl⟩, frozen_of k1 _, by rw [set_of k1, disk_set2], this.1, ((Only.of_below hO).mono (fun b _ f => f.elim)).trans this.2⟩
  have Key := Lib.hid key
  clear key h1 h2 h3 h4 h5 h6 h7 h8 h9 hA
  rcases ad with _ | a
  · have hl : l = [] := by
      cases l with
      | nil => rfl
      | cons x l => have := hB.1; rw [hB.2.2.1 rfl] at this; simp at this
    have hc := hB.2.2.1 rfl
    subst hl hc
    obtain ⟨-, ⟨u, cu⟩, fu, su, hd, hO⟩ := Key.out (.slice none 0 0) w (World.ownsRow_nil _ _ _ _) ⟨rfl, rfl, rfl, Nat.le_refl _, fun _ _ _ => rfl⟩
    have HD := Lib.hid hd
    generalize putB w p (.cells (diskCells slots m (.slice none 0 0)) 108) = W at *
    clear hd
    go_enter Try.func23, Try.ntmps23
    go_wp2_with (at_builtin; refine wpList_append_own_none _ rfl _ _ 32 rfl w.heap.size 4 i0 1 Try.underlying32 hi _ _ _ rfl (World.ownsRow_nil _ _ _ _) rfl ?_)
    refine bodyPost_end (v := .tuple #[]) (by first | rfl | kernel_rfl) rfl ?_
    exact ⟨rfl, HD.out, hO⟩
  · go_enter Try.func23, Try.ntmps23
    go_wp2_with (at_builtin; refine wpList_append_own _ rfl _ _ 32 rfl w.heap.size 4 i0 (.bool false) 1 1 Try.underlying32 hi hz0 hz1 hz2 rfl (by decide) _ _ [] rfl (World.ownsRow_nil _ _ _ _) a l.length c (l.map Value.bool) rfl (by simp) (bools_news hB) (bools_one l) (by unfold maxLen; omega) (by omega) (Nat.le_refl _) ?_; intro v' w2 hown hgrow h9; clear h9; simp only [Nat.zero_add, List.nil_append] at hown; obtain ⟨⟨ad2, c2, rfl⟩, ⟨u, cu⟩, fu, su, hd, hO⟩ := Key.out v' w2 hown hgrow; have HD := Lib.hid hd; clear hd hown hgrow)
    refine bodyPost_end (v := .tuple #[]) (by first | rfl | kernel_rfl) rfl ?_
    exact ⟨rfl, HD.out, hO⟩
end Go.Proofs.Ytfiofjalpaeohaa
