/- The package tlb: Find. -/
import Derived.Test.YtfiofjalpaeohaaTlbAt
namespace Go.Proofs.Ytfiofjalpaeohaa
set_option linter.unusedVariables false
set_option linter.unusedSimpArgs false
open Go.RowKit

theorem atP_cases (kid kas : Int) (kvp : Nat) : ∀ (t : List Pl) (i : Nat), (atP kid kas kvp t i = -1 ∧ ∀ (j : Nat) (q : Pl), t[j]? = some q → (q.on && keyB q.l kid kas kvp) = false) ∨
    ∃ (j : Nat) (q : Pl), atP kid kas kvp t i = ((i + j : Nat) : Int) ∧ t[j]? = some q ∧ (q.on && keyB q.l kid kas kvp) = true ∧ ∀ (j' : Nat) (q' : Pl), j' < j → t[j']? = some q' → (q'.on && keyB q'.l kid kas kvp) = false
  | [], i => .inl ⟨rfl, fun j q hq => by simp at hq⟩
  | p :: t, i => by
    unfold atP
    by_cases h : (p.on && keyB p.l kid kas kvp) = true
    · rw [if_pos h]
      exact .inr ⟨0, p, rfl, rfl, h, fun j' q' hj => absurd hj (Nat.not_lt_zero _)⟩
    · rw [if_neg h]
      have hf : (p.on && keyB p.l kid kas kvp) = false := by simpa using h
      rcases atP_cases kid kas kvp t (i + 1) with ⟨a, b⟩ | ⟨j, q, a, b, c, d⟩
      · refine .inl ⟨a, fun j q hq => ?_⟩
        cases j with
        | zero => simp at hq; rw [← hq]; exact hf
        | succ j => exact b j q (by simpa using hq)
      · refine .inr ⟨j + 1, q, by rw [a]; congr 1; omega, by simpa using b, c, fun j' q' hj hq' => ?_⟩
        cases j' with
        | zero => simp at hq'; rw [← hq']; exact hf
        | succ j' => exact d j' q' (by omega) (by simpa using hq')

section
variable {w : World} {p gs : Nat} {bs : List Nat} {n wy : Nat} {T : List (List Pl)} {kid kas : Int} {kvp : Nat} {i0 b : Nat} {t : List Pl}
set_option maxHeartbeats 2000000 in
set_option maxRecDepth 100000 in
theorem find_none (h : IsTlb w p gs bs n wy T) (hi : i0 = kvp % n) (hb : bs[i0]? = some b) (ht : T[i0]? = some t) (hr : atP kid kas kvp t 0 = -1) :
    Calls Try.prog 34 #[.pointer (some ⟨p, 0, none⟩), .int .i64 kid, .int .i64 kas, .int .u64 (kvp : Nat)] w (RetB w (.tuple #[.agg #[.int .i64 0, .int .i64 0, .int .u64 0, .int .u64 0, .int .i64 0, .bool false, .bool false, .bool false, .bool false, .bool false, .bool false], .bool false])) := by
  have hat := fun x (hx : Old w x) => at_calls x p gs bs n wy T kid kas kvp (tlb_old h hx) i0 b t hi hb ht
  rw [hr] at hat
  have HA := Lib.hid hat
  clear h hi hb ht hr hat
  go_enter Try.func34, Try.ntmps34
  go_upto_region 2 with (fail)
  have hH := holds_new #[.int .i64 kid, .int .i64 kas, .int .u64 (kvp : Nat)] 117 (holds_new #[.int .i64 0, .int .i64 0, .int .u64 0, .int .u64 0, .int .i64 0, .bool false, .bool false, .bool false, .bool false, .bool false, .bool false] 64 (holds_nil w))
  rw [World.size_alloc] at hH
  generalize (w.alloc (.cells #[.int .i64 0, .int .i64 0, .int .u64 0, .int .u64 0, .int .i64 0, .bool false, .bool false, .bool false, .bool false, .bool false, .bool false] 64)).alloc (.cells #[.int .i64 kid, .int .i64 kas, .int .u64 (kvp : Nat)] 117) = W at *
  generalize w.heap.size + 1 = kb at *
  obtain ⟨rb, hrbe⟩ : ∃ rb, rb = w.heap.size := ⟨_, rfl⟩
  have hrb : w.heap.size ≤ rb := by omega
  rw [← hrbe] at hH ⊢
  clear hrbe
  have hc := HA.out _ hH.1
  obtain ⟨s0, s1, s2, _⟩ := id hH
  obtain ⟨k1, f1, z1⟩ := of_block s1
  clear s0 s1 s2
  go_wp2_with fail
  (with_reducible refine hc.mono ?_)
  rintro e w2 ⟨rfl, hO2⟩
  have hH2 := holds_old hH hO2
  obtain ⟨s0, s1, s2, _⟩ := id hH2
  obtain ⟨k1, f1, z1⟩ := of_block s1
  obtain ⟨k2, f2, z2⟩ := of_block s2
  have HO := Lib.hid hH2.1
  have HB2 := Lib.hid s2
  clear hc hH hH2 hO2 s0 s1 s2 k1 f1 z1 f2 k2
  go_wp2_with (refine wpList_store_at rfl 64 _ _ rfl rb 0 [.int .i64 0, .int .i64 0, .int .u64 0, .int .u64 0, .int .i64 0, .bool false, .bool false, .bool false, .bool false, .bool false, .bool false] rfl rfl 64 _ HB2.out (by kernel_rfl) (by decide) (by decide) ?_)
  have k9 := fun i => putB_cell_same (w := w2) #[.int .i64 0, .int .i64 0, .int .u64 0, .int .u64 0, .int .i64 0, .bool false, .bool false, .bool false, .bool false, .bool false, .bool false] 64 (0, 0) i z2
  refine bodyPost_ret (by simp [results, Try.results34, go_sem, k9]; try rfl) rfl ?_
  exact ⟨rfl, old_put HO.out _ hrb⟩
set_option maxHeartbeats 2000000 in
set_option maxRecDepth 100000 in
theorem find_some (h : IsTlb w p gs bs n wy T) (hi : i0 = kvp % n) (hb : bs[i0]? = some b) (ht : T[i0]? = some t) (j : Nat) (q : Pl) (hr : atP kid kas kvp t 0 = (j : Int)) (hq : t[j]? = some q) :
    Calls Try.prog 34 #[.pointer (some ⟨p, 0, none⟩), .int .i64 kid, .int .i64 kas, .int .u64 (kvp : Nat)] w (RetB w (.tuple #[.agg q.l.cells.toArray, .bool true])) := by
  have hat := fun x (hx : Old w x) => at_calls x p gs bs n wy T kid kas kvp (tlb_old h hx) i0 b t hi hb ht
  rw [hr] at hat
  have hset := fun x (hx : Old w x) => set_calls x p gs bs n wy T kvp (tlb_old h hx) i0 b hi hb
  have hcell := fun x (hx : Old w x) => pl_cell (tlb_old h hx) hb ht hq
  have hjw : j < wy := by rw [← (h.set_ i0 b t hb ht).1]; exact (List.getElem?_eq_some_iff.1 hq).1
  have hw8 := h.h2.2
  have HA := Lib.hid hat
  have HSet := Lib.hid hset
  have HC := Lib.hid hcell
  have j1 : (j : Int) < wy := by omega
  have j2 : (wy : Int) ≤ 8 := by omega
  have j3 : (0 : Int) ≤ (j : Int) := by omega
  obtain ⟨on, lid, asid, vp, ip, fr, p0, p1, p2, s0, s1, s2⟩ := q
  change Calls _ _ _ w (RetB w (.tuple #[.agg #[.int .i64 lid, .int .i64 asid, .int .u64 (vp : Nat), .int .u64 (ip : Nat), .int .i64 fr, .bool p0, .bool p1, .bool p2, .bool s0, .bool s1, .bool s2], .bool true]))
  clear h hi hb ht hr hat hset hcell hq hjw hw8
  go_enter Try.func34, Try.ntmps34
  go_upto_region 2 with (fail)
  have hH := holds_new #[.int .i64 kid, .int .i64 kas, .int .u64 (kvp : Nat)] 117 (holds_new #[.int .i64 0, .int .i64 0, .int .u64 0, .int .u64 0, .int .i64 0, .bool false, .bool false, .bool false, .bool false, .bool false, .bool false] 64 (holds_nil w))
  rw [World.size_alloc] at hH
  generalize (w.alloc (.cells #[.int .i64 0, .int .i64 0, .int .u64 0, .int .u64 0, .int .i64 0, .bool false, .bool false, .bool false, .bool false, .bool false, .bool false] 64)).alloc (.cells #[.int .i64 kid, .int .i64 kas, .int .u64 (kvp : Nat)] 117) = W at *
  have hrb : w.heap.size ≤ w.heap.size := Nat.le_refl _
  generalize w.heap.size + 1 = kb at *
  obtain ⟨rb, hrbe⟩ : ∃ rb, rb = w.heap.size := ⟨_, rfl⟩
  have hrb : w.heap.size ≤ rb := by omega
  rw [← hrbe] at hH ⊢
  clear hrbe
  have hc := HA.out _ hH.1
  obtain ⟨g0, g1, g2, _⟩ := id hH
  obtain ⟨k1, f1, z1⟩ := of_block g1
  clear g0 g1 g2
  go_wp2_with fail
  (with_reducible refine hc.mono ?_)
  rintro e w2 ⟨rfl, hO2⟩
  have hH2 := holds_old hH hO2
  have hc := HSet.out _ hH2.1
  have HH := Lib.hid hH2
  clear hH hO2 hH2 k1 f1 z1
  go_wp2_with fail
  (with_reducible refine hc.mono ?_)
  rintro e w3 ⟨rfl, hO3⟩
  have hH3 := holds_old HH.out hO3
  obtain ⟨g0, g1, g2, _⟩ := id hH3
  obtain ⟨k2, f2, z2⟩ := of_block g2
  have hcl : ∀ (c : Nat) (v : Value), [Value.int .i64 lid, .int .i64 asid, .int .u64 (vp : Nat), .int .u64 (ip : Nat), .int .i64 fr, .bool p0, .bool p1, .bool p2, .bool s0, .bool s1, .bool s2][c]? = some v → w3.cell? ⟨b, j * 12 + 1 + c, none⟩ = some v := fun c v hv => by
    have := HC.out w3 hH3.1 (c + 1) v (by simpa [Pl.cells, Ln.cells] using hv)
    rwa [show j * 12 + (c + 1) = j * 12 + 1 + c by omega] at this
  have HCL := Lib.hid hcl
  have HO := Lib.hid hH3.1
  have HB2 := Lib.hid g2
  clear hc hH3 hO3 g0 g1 g2 f2 k2 hcl HH
  go_wp2_with (first | (refine wpList_load_at rfl 64 _ rfl b (j * 12 + 1) rfl _ _ HCL.out Try.underlying64 rfl (by kernel_rfl) ?_) | (refine wpList_store_at rfl 64 _ _ rfl rb 0 [.int .i64 lid, .int .i64 asid, .int .u64 (vp : Nat), .int .u64 (ip : Nat), .int .i64 fr, .bool p0, .bool p1, .bool p2, .bool s0, .bool s1, .bool s2] rfl rfl 64 _ HB2.out (by kernel_rfl) (Nat.le_of_eq rfl) (by intro v hv; simp only [List.mem_cons, List.not_mem_nil, or_false] at hv; rcases hv with rfl | rfl | rfl | rfl | rfl | rfl | rfl | rfl | rfl | rfl | rfl <;> rfl) ?_))
  have k9 := fun i => putB_cell_same (w := w3) #[.int .i64 lid, .int .i64 asid, .int .u64 (vp : Nat), .int .u64 (ip : Nat), .int .i64 fr, .bool p0, .bool p1, .bool p2, .bool s0, .bool s1, .bool s2] 64 (0, 0) i z2
  refine bodyPost_ret (by simp [results, Try.results34, go_sem, k9]; try rfl) rfl ?_
  exact ⟨rfl, old_put HO.out _ hrb⟩
end
end Go.Proofs.Ytfiofjalpaeohaa
