/- Texts on the way to the statement NestedThrough, several in one file: each part says what it is. -/
import Derived.Test.YtlbehhbicmmdoaaKTA
import Derived.Test.YtlbehhbicmmdoaaKTB
import Derived.Test.YtlbehhbicmmdoaaKTC
import Derived.Deep.CutBlock
namespace Go.Proofs.Ytlbehhbicmmdoaa
set_option linter.unusedVariables false
set_option linter.unusedSimpArgs false
open Go.RowKit
theorem i64_mask15 (n : Int) : bits .and .i64 n 15 = n % 16 := by
  have h0 : (BitVec.ofInt 64 15).toNat = 2 ^ 4 - 1 := by decide
  have key : (BitVec.ofInt 64 n &&& BitVec.ofInt 64 15).toNat = (n % ((2 ^ 64 : Nat) : Int)).toNat % 2 ^ 4 := by
    rw [BitVec.toNat_and, BitVec.toNat_ofInt, h0, Nat.and_two_pow_sub_one_eq_mod]
  show IntKind.i64.wrap ((BitVec.ofInt 64 n &&& BitVec.ofInt 64 15).toNat : Nat) = n % 16
  rw [key, IntKind.wrap_i64]
  omega
/-- What Near gives: the kind. -/
def nearK (lv k : Int) : Int := if (k.tmod 4 + 4).tmod 4 = 0 then 0 else if lv = 3 then 3 else if lv = 0 ∨ (k.tmod 4 + 4).tmod 4 = 3 then 1 else (k.tmod 4 + 4).tmod 4
def nearA (st lv k : Int) (a : Nat) : Nat := if nearK lv k = 0 then 0 else a % topN st - a % topN st % (if nearK lv k = 2 then spanN lv.toNat else 4096)
def nearR (lv k : Int) (r : Bool) : Bool := if nearK lv k = 0 ∨ nearK lv k = 1 then false else r
def nearW (lv k : Int) (r wr : Bool) : Bool := if nearK lv k = 0 ∨ nearK lv k = 1 then false else wr && r
def nearS (lv k s : Int) : Nat := if nearK lv k = 0 then 0 else (s % 16).toNat
abbrev nearV (st lv k : Int) (a : Nat) (r wr x : Bool) (s : Int) : Value := descV (nearK lv k) (nearA st lv k a) (nearR lv k r) (nearW lv k r wr) (nearR lv k x) (nearS lv k s : Nat)
theorem kind_four (k : Int) : 0 ≤ (k.tmod 4 + 4).tmod 4 ∧ (k.tmod 4 + 4).tmod 4 ≤ 3 := by
  have h1 := Int.tmod_lt_of_pos k (show (0 : Int) < 4 by decide)
  have h2 : -4 < k.tmod 4 := by
    by_cases h : 0 ≤ k
    · rw [Int.tmod_eq_emod_of_nonneg h]; omega
    · have e : k.tmod 4 = -((-k).tmod 4) := by rw [Int.neg_tmod, Int.neg_neg]
      rw [e, Int.tmod_eq_emod_of_nonneg (by omega)]; omega
  rw [Int.tmod_eq_emod_of_nonneg (by omega)]
  omega
theorem near_zero {st lv k : Int} {a : Nat} {r wr x : Bool} {s : Int} (h : (k.tmod 4 + 4).tmod 4 = 0) : nearV st lv k a r wr x s = zeroV := by
  have hz : nearK lv k = 0 := by unfold nearK; rw [if_pos h]
  unfold nearV nearA nearR nearW nearS
  rw [hz]
  rfl
theorem near_one {st lv k : Int} {a : Nat} {r wr x : Bool} {s : Int} (h : nearK lv k = 1) : nearV st lv k a r wr x s = .agg #[.int .i64 1, .int .u64 ((a % topN st - a % topN st % 4096 : Nat) : Int), .bool false, .bool false, .bool false, .int .i64 ((s % 16).toNat : Nat)] := by
  unfold nearV nearA nearR nearW nearS
  rw [h]
  rfl
theorem near_two {st lv k : Int} {a : Nat} {r wr x : Bool} {s : Int} (h : nearK lv k = 2) : nearV st lv k a r wr x s = .agg #[.int .i64 2, .int .u64 ((a % topN st - a % topN st % spanN lv.toNat : Nat) : Int), .bool r, .bool (wr && r), .bool x, .int .i64 ((s % 16).toNat : Nat)] := by
  unfold nearV nearA nearR nearW nearS
  rw [h]
  rfl
theorem near_three {st lv k : Int} {a : Nat} {r wr x : Bool} {s : Int} (h : nearK lv k = 3) : nearV st lv k a r wr x s = .agg #[.int .i64 3, .int .u64 ((a % topN st - a % topN st % 4096 : Nat) : Int), .bool r, .bool (wr && r), .bool x, .int .i64 ((s % 16).toNat : Nat)] := by
  unfold nearV nearA nearR nearW nearS
  rw [h]
  rfl
set_option maxHeartbeats 4000000 in
set_option maxRecDepth 100000 in
theorem near_p0 (st lv k : Int) (a : Nat) (r wr x : Bool) (s : Int) (w : World) (TI SP K0 : Int) (A0 S16 : Nat) (V : Value)
    (hT : ∀ w : World, Calls Try.prog 51 #[.int .i64 st] w (RetX w (.int .u64 TI))) (hsn : ¬ TI = 0)
    (hSp : ∀ w : World, Calls Try.prog 52 #[.int .i64 lv] w (RetB w (.int .u64 SP))) (hspn : ¬ SP = 0)
    (hkw : (wrap64 (k.tmod 4 + 4)).tmod 4 = 0) (hs16 : bits .and .i64 s 15 = ((S16 : Nat) : Int)) (hAT : (a : Int) % TI = ((A0 : Nat) : Int)) (HV : Hid (V = zeroV)) :
    Calls Try.prog 23 #[.int .i64 st, .int .i64 lv, descV k a r wr x s] w (RetB w V) := by
  go_enter Try.func23, Try.ntmps23
  go_upto_region 1 with (fail)
  have hH := holds_new #[.int .i64 0, .int .u64 0, .bool false, .bool false, .bool false, .int .i64 0] 48 (holds_new #[.int .i64 k, .int .u64 (a : Nat), .bool r, .bool wr, .bool x, .int .i64 s] 48 (holds_nil w))
  simp only [World.size_alloc] at hH
  generalize (w.alloc (.cells #[.int .i64 k, .int .u64 (a : Nat), .bool r, .bool wr, .bool x, .int .i64 s] 48)).alloc (.cells #[.int .i64 0, .int .u64 0, .bool false, .bool false, .bool false, .int .i64 0] 48) = W at *
  obtain ⟨s0, s1, s2, _⟩ := id hH
  obtain ⟨k1, f1, z1⟩ := of_block s1
  obtain ⟨k2, f2, z2⟩ := of_block s2
  have cA : ∀ i, W.drew.cell? ⟨w.heap.size, i, none⟩ = (#[.int .i64 k, .int .u64 (a : Nat), .bool r, .bool wr, .bool x, .int .i64 s] : Array Value)[i]? := k2
  have cB : ∀ i, (W.drew.alloc (.cells #[.int .i64 0, .int .u64 0, .bool false, .bool false, .bool false, .int .i64 0] 48)).cell? ⟨w.heap.size, i, none⟩ = (#[.int .i64 k, .int .u64 (a : Nat), .bool r, .bool wr, .bool x, .int .i64 s] : Array Value)[i]? := fun i =>
    cell_of (keep_old (old_alloc (old_refl _) _) (show W.drew.heap[w.heap.size]? = _ from s2)) i
  refine wp_region_staged (S := StageS 16 W.drew (W.drew.alloc (.cells #[.int .i64 0, .int .u64 0, .bool false, .bool false, .bool false, .int .i64 0] 48))) 17 (by kernel_rfl) (by kernel_rfl) (by kernel_rfl) (by decide) rfl ?_
  (apply walkedS_cons; (focus (intro l9 wS hz hn hS; have hS9 := stage_other 0 (by decide) hS; have c9 := fun i => stage_cell hS (cA i) (cB i); clear hS; go_wp2_with (fail); exact ⟨rfl, rfl, hS9⟩)); rfl; (try simp only [Act.put, List.setIfInBounds_toArray, List.set_cons_succ, List.set_cons_zero]))
  (apply walkedS_cons; (focus (intro l9 wS hz hn hS; have hS9 := stage_other 1 (by decide) hS; have c9 := fun i => stage_cell hS (cA i) (cB i); clear hS; go_wp2_with (fail); exact ⟨rfl, rfl, hS9⟩)); rfl; (try simp only [Act.put, List.setIfInBounds_toArray, List.set_cons_succ, List.set_cons_zero]))
  (apply walkedS_cons; (focus (intro l9 wS hz hn hS; have hS9 := stage_other 2 (by decide) hS; have c9 := fun i => stage_cell hS (cA i) (cB i); clear hS; go_wp2_with (fail); exact ⟨rfl, rfl, hS9⟩)); rfl; (try simp only [Act.put, List.setIfInBounds_toArray, List.set_cons_succ, List.set_cons_zero]))
  (apply walkedS_cons; (focus (intro l9 wS hz hn hS; have hS9 := stage_other 3 (by decide) hS; have c9 := fun i => stage_cell hS (cA i) (cB i); clear hS; go_wp2_with (fail); exact ⟨rfl, rfl, hS9⟩)); rfl; (try simp only [Act.put, List.setIfInBounds_toArray, List.set_cons_succ, List.set_cons_zero]))
  (apply walkedS_cons; (focus (intro l9 wS hz hn hS; have hS9 := stage_other 4 (by decide) hS; have c9 := fun i => stage_cell hS (cA i) (cB i); clear hS; go_wp2_with (fail); exact ⟨rfl, rfl, hS9⟩)); rfl; (try simp only [Act.put, List.setIfInBounds_toArray, List.set_cons_succ, List.set_cons_zero]))
  (apply walkedS_cons; (focus (intro l9 wS hz hn hS; have hS9 := stage_other 5 (by decide) hS; have c9 := fun i => stage_cell hS (cA i) (cB i); clear hS; go_wp2_with (fail); exact ⟨rfl, rfl, hS9⟩)); rfl; (try simp only [Act.put, List.setIfInBounds_toArray, List.set_cons_succ, List.set_cons_zero]))
  (apply walkedS_cons; (focus (intro l9 wS hz hn hS; have hS9 := stage_other 6 (by decide) hS; have c9 := fun i => stage_cell hS (cA i) (cB i); clear hS; go_wp2_with (fail); exact ⟨rfl, rfl, hS9⟩)); rfl; (try simp only [Act.put, List.setIfInBounds_toArray, List.set_cons_succ, List.set_cons_zero]))
  (apply walkedS_cons; (focus (intro l9 wS hz hn hS; have hS9 := stage_other 7 (by decide) hS; have c9 := fun i => stage_cell hS (cA i) (cB i); clear hS; go_wp2_with (fail); exact ⟨rfl, rfl, hS9⟩)); rfl; (try simp only [Act.put, List.setIfInBounds_toArray, List.set_cons_succ, List.set_cons_zero]))
  (apply walkedS_cons; (focus (intro l9 wS hz hn hS; have hS9 := stage_other 8 (by decide) hS; have c9 := fun i => stage_cell hS (cA i) (cB i); clear hS; go_wp2_with (((go_at_call 51); (with_reducible refine (hT _).mono ?_); rintro e w9 ⟨rfl, rfl⟩)); exact ⟨rfl, rfl, hS9⟩)); rfl; (try simp only [Act.put, List.setIfInBounds_toArray, List.set_cons_succ, List.set_cons_zero]))
  (apply walkedS_cons; (focus (intro l9 wS hz hn hS; have hS9 := stage_other 9 (by decide) hS; have c9 := fun i => stage_cell hS (cA i) (cB i); clear hS; go_wp2_with (fail); exact ⟨rfl, rfl, hS9⟩)); rfl; (try simp only [Act.put, List.setIfInBounds_toArray, List.set_cons_succ, List.set_cons_zero]))
  (apply walkedS_cons; (focus (intro l9 wS hz hn hS; have hS9 := stage_other 10 (by decide) hS; have c9 := fun i => stage_cell hS (cA i) (cB i); clear hS; go_wp2_with (fail); exact ⟨rfl, rfl, hS9⟩)); rfl; (try simp only [Act.put, List.setIfInBounds_toArray, List.set_cons_succ, List.set_cons_zero]))
  (apply walkedS_cons; (focus (intro l9 wS hz hn hS; have hS9 := stage_other 11 (by decide) hS; have c9 := fun i => stage_cell hS (cA i) (cB i); clear hS; go_wp2_with (fail); exact ⟨rfl, rfl, hS9⟩)); rfl; (try simp only [Act.put, List.setIfInBounds_toArray, List.set_cons_succ, List.set_cons_zero]))
  (apply walkedS_cons; (focus (intro l9 wS hz hn hS; have hS9 := stage_other 12 (by decide) hS; have c9 := fun i => stage_cell hS (cA i) (cB i); clear hS; go_wp2_with (fail); exact ⟨rfl, rfl, hS9⟩)); rfl; (try simp only [Act.put, List.setIfInBounds_toArray, List.set_cons_succ, List.set_cons_zero]))
  (apply walkedS_cons; (focus (intro l9 wS hz hn hS; have hS9 := stage_other 13 (by decide) hS; have c9 := fun i => stage_cell hS (cA i) (cB i); clear hS; go_wp2_with (fail); exact ⟨rfl, rfl, hS9⟩)); rfl; (try simp only [Act.put, List.setIfInBounds_toArray, List.set_cons_succ, List.set_cons_zero]))
  (apply walkedS_cons; (focus (intro l9 wS hz hn hS; have hS9 := stage_other 14 (by decide) hS; have c9 := fun i => stage_cell hS (cA i) (cB i); clear hS; go_wp2_with (fail); exact ⟨rfl, rfl, hS9⟩)); rfl; (try simp only [Act.put, List.setIfInBounds_toArray, List.set_cons_succ, List.set_cons_zero]))
  (apply walkedS_cons; (focus (intro l9 wS hz hn hS; have hS9 := stage_other 15 (by decide) hS; have c9 := fun i => stage_cell hS (cA i) (cB i); clear hS; go_wp2_with (fail); exact ⟨rfl, rfl, hS9⟩)); rfl; (try simp only [Act.put, List.setIfInBounds_toArray, List.set_cons_succ, List.set_cons_zero]))
  apply walkedS_cons
  · intro l9 wS hz hn hS
    obtain rfl := stage_before hn hS
    clear hS
    go_wp2
    exact ⟨rfl, rfl, stage_done hz (by decide)⟩
  · rfl
  apply walkedS_nil
  intro l9 wS hz hall hS
  obtain rfl := stage_after (hall 16 (by decide)) hS
  clear hS
  show wpList _ _ _ [_] _ _
  go_upto_region 2 with (fail)
  have hzp : w.heap.size + 1 < W.heap.size := z1
  have hH := holds_drew (holds_new #[.int .i64 0, .int .u64 (A0 : Nat), .bool r, .bool wr, .bool x, .int .i64 (S16 : Nat)] 48 hH)
  generalize (W.alloc (.cells #[.int .i64 0, .int .u64 (A0 : Nat), .bool r, .bool wr, .bool x, .int .i64 (S16 : Nat)] 48)).drew = W2 at *
  clear s0 s1 s2 k1 f1 z1 k2 f2 z2 cA cB hall
  generalize W.heap.size = p at *
  obtain ⟨s0, s1, s2, s3, _⟩ := id hH
  obtain ⟨k1, f1, z1⟩ := of_block s1
  obtain ⟨k2, f2, z2⟩ := of_block s2
  obtain ⟨k3, f3, z3⟩ := of_block s3
  go_wp2
  rw [six_set s2 rfl]
  have ho := old_put hH.1 (.cells #[.int .i64 0, .int .u64 0, .bool false, .bool false, .bool false, .int .i64 0] 48) (show w.heap.size ≤ w.heap.size + 1 by omega)
  have s9 := putB_same (.cells #[.int .i64 0, .int .u64 0, .bool false, .bool false, .bool false, .int .i64 0] 48) z2
  generalize putB _ (w.heap.size + 1) (.cells #[.int .i64 0, .int .u64 0, .bool false, .bool false, .bool false, .int .i64 0] 48) = W9 at *
  obtain ⟨k9, f9, z9⟩ := of_block s9
  refine bodyPost_ret (by simp [results, Try.results23, go_sem, k9]; try rfl) rfl ?_
  exact ⟨by rw [HV.out], ho⟩
set_option maxHeartbeats 4000000 in
set_option maxRecDepth 100000 in
theorem near_p3true (st k : Int) (a : Nat) (r x : Bool) (s : Int) (w : World) (TI SP K0 : Int) (A0 S16 : Nat) (V : Value)
    (hT : ∀ w : World, Calls Try.prog 51 #[.int .i64 st] w (RetX w (.int .u64 TI))) (hsn : ¬ TI = 0)
    (hSp : ∀ w : World, Calls Try.prog 52 #[.int .i64 3] w (RetB w (.int .u64 SP))) (hspn : ¬ SP = 0)
    (hkw : (wrap64 (k.tmod 4 + 4)).tmod 4 = K0) (hs16 : bits .and .i64 s 15 = ((S16 : Nat) : Int)) (hAT : (a : Int) % TI = ((A0 : Nat) : Int)) (hk0 : ¬ K0 = 0) (AF : Nat) (HAF : Hid (IntKind.u64.wrap ((A0 : Int) - (A0 : Int) % 4096) = ((AF : Nat) : Int))) (HV : Hid (V = .agg #[.int .i64 3, .int .u64 (AF : Nat), .bool r, .bool r, .bool x, .int .i64 (S16 : Nat)])) :
    Calls Try.prog 23 #[.int .i64 st, .int .i64 3, descV k a r true x s] w (RetB w V) := by
  go_enter Try.func23, Try.ntmps23
  go_upto_region 1 with (fail)
  have hH := holds_new #[.int .i64 0, .int .u64 0, .bool false, .bool false, .bool false, .int .i64 0] 48 (holds_new #[.int .i64 k, .int .u64 (a : Nat), .bool r, .bool true, .bool x, .int .i64 s] 48 (holds_nil w))
  simp only [World.size_alloc] at hH
  generalize (w.alloc (.cells #[.int .i64 k, .int .u64 (a : Nat), .bool r, .bool true, .bool x, .int .i64 s] 48)).alloc (.cells #[.int .i64 0, .int .u64 0, .bool false, .bool false, .bool false, .int .i64 0] 48) = W at *
  obtain ⟨s0, s1, s2, _⟩ := id hH
  obtain ⟨k1, f1, z1⟩ := of_block s1
  obtain ⟨k2, f2, z2⟩ := of_block s2
  have cA : ∀ i, W.drew.cell? ⟨w.heap.size, i, none⟩ = (#[.int .i64 k, .int .u64 (a : Nat), .bool r, .bool true, .bool x, .int .i64 s] : Array Value)[i]? := k2
  have cB : ∀ i, (W.drew.alloc (.cells #[.int .i64 0, .int .u64 0, .bool false, .bool false, .bool false, .int .i64 0] 48)).cell? ⟨w.heap.size, i, none⟩ = (#[.int .i64 k, .int .u64 (a : Nat), .bool r, .bool true, .bool x, .int .i64 s] : Array Value)[i]? := fun i =>
    cell_of (keep_old (old_alloc (old_refl _) _) (show W.drew.heap[w.heap.size]? = _ from s2)) i
  refine wp_region_staged (S := StageS 16 W.drew (W.drew.alloc (.cells #[.int .i64 0, .int .u64 0, .bool false, .bool false, .bool false, .int .i64 0] 48))) 17 (by kernel_rfl) (by kernel_rfl) (by kernel_rfl) (by decide) rfl ?_
  (apply walkedS_cons; (focus (intro l9 wS hz hn hS; have hS9 := stage_other 0 (by decide) hS; have c9 := fun i => stage_cell hS (cA i) (cB i); clear hS; go_wp2_with (fail); exact ⟨rfl, rfl, hS9⟩)); rfl; (try simp only [Act.put, List.setIfInBounds_toArray, List.set_cons_succ, List.set_cons_zero]))
  (apply walkedS_cons; (focus (intro l9 wS hz hn hS; have hS9 := stage_other 1 (by decide) hS; have c9 := fun i => stage_cell hS (cA i) (cB i); clear hS; go_wp2_with (fail); exact ⟨rfl, rfl, hS9⟩)); rfl; (try simp only [Act.put, List.setIfInBounds_toArray, List.set_cons_succ, List.set_cons_zero]))
  (apply walkedS_cons; (focus (intro l9 wS hz hn hS; have hS9 := stage_other 2 (by decide) hS; have c9 := fun i => stage_cell hS (cA i) (cB i); clear hS; go_wp2_with (fail); exact ⟨rfl, rfl, hS9⟩)); rfl; (try simp only [Act.put, List.setIfInBounds_toArray, List.set_cons_succ, List.set_cons_zero]))
  (apply walkedS_cons; (focus (intro l9 wS hz hn hS; have hS9 := stage_other 3 (by decide) hS; have c9 := fun i => stage_cell hS (cA i) (cB i); clear hS; go_wp2_with (fail); exact ⟨rfl, rfl, hS9⟩)); rfl; (try simp only [Act.put, List.setIfInBounds_toArray, List.set_cons_succ, List.set_cons_zero]))
  (apply walkedS_cons; (focus (intro l9 wS hz hn hS; have hS9 := stage_other 4 (by decide) hS; have c9 := fun i => stage_cell hS (cA i) (cB i); clear hS; go_wp2_with (fail); exact ⟨rfl, rfl, hS9⟩)); rfl; (try simp only [Act.put, List.setIfInBounds_toArray, List.set_cons_succ, List.set_cons_zero]))
  (apply walkedS_cons; (focus (intro l9 wS hz hn hS; have hS9 := stage_other 5 (by decide) hS; have c9 := fun i => stage_cell hS (cA i) (cB i); clear hS; go_wp2_with (fail); exact ⟨rfl, rfl, hS9⟩)); rfl; (try simp only [Act.put, List.setIfInBounds_toArray, List.set_cons_succ, List.set_cons_zero]))
  (apply walkedS_cons; (focus (intro l9 wS hz hn hS; have hS9 := stage_other 6 (by decide) hS; have c9 := fun i => stage_cell hS (cA i) (cB i); clear hS; go_wp2_with (fail); exact ⟨rfl, rfl, hS9⟩)); rfl; (try simp only [Act.put, List.setIfInBounds_toArray, List.set_cons_succ, List.set_cons_zero]))
  (apply walkedS_cons; (focus (intro l9 wS hz hn hS; have hS9 := stage_other 7 (by decide) hS; have c9 := fun i => stage_cell hS (cA i) (cB i); clear hS; go_wp2_with (fail); exact ⟨rfl, rfl, hS9⟩)); rfl; (try simp only [Act.put, List.setIfInBounds_toArray, List.set_cons_succ, List.set_cons_zero]))
  (apply walkedS_cons; (focus (intro l9 wS hz hn hS; have hS9 := stage_other 8 (by decide) hS; have c9 := fun i => stage_cell hS (cA i) (cB i); clear hS; go_wp2_with (((go_at_call 51); (with_reducible refine (hT _).mono ?_); rintro e w9 ⟨rfl, rfl⟩)); exact ⟨rfl, rfl, hS9⟩)); rfl; (try simp only [Act.put, List.setIfInBounds_toArray, List.set_cons_succ, List.set_cons_zero]))
  (apply walkedS_cons; (focus (intro l9 wS hz hn hS; have hS9 := stage_other 9 (by decide) hS; have c9 := fun i => stage_cell hS (cA i) (cB i); clear hS; go_wp2_with (fail); exact ⟨rfl, rfl, hS9⟩)); rfl; (try simp only [Act.put, List.setIfInBounds_toArray, List.set_cons_succ, List.set_cons_zero]))
  (apply walkedS_cons; (focus (intro l9 wS hz hn hS; have hS9 := stage_other 10 (by decide) hS; have c9 := fun i => stage_cell hS (cA i) (cB i); clear hS; go_wp2_with (fail); exact ⟨rfl, rfl, hS9⟩)); rfl; (try simp only [Act.put, List.setIfInBounds_toArray, List.set_cons_succ, List.set_cons_zero]))
  (apply walkedS_cons; (focus (intro l9 wS hz hn hS; have hS9 := stage_other 11 (by decide) hS; have c9 := fun i => stage_cell hS (cA i) (cB i); clear hS; go_wp2_with (fail); exact ⟨rfl, rfl, hS9⟩)); rfl; (try simp only [Act.put, List.setIfInBounds_toArray, List.set_cons_succ, List.set_cons_zero]))
  (apply walkedS_cons; (focus (intro l9 wS hz hn hS; have hS9 := stage_other 12 (by decide) hS; have c9 := fun i => stage_cell hS (cA i) (cB i); clear hS; go_wp2_with (fail); exact ⟨rfl, rfl, hS9⟩)); rfl; (try simp only [Act.put, List.setIfInBounds_toArray, List.set_cons_succ, List.set_cons_zero]))
  (apply walkedS_cons; (focus (intro l9 wS hz hn hS; have hS9 := stage_other 13 (by decide) hS; have c9 := fun i => stage_cell hS (cA i) (cB i); clear hS; go_wp2_with (fail); exact ⟨rfl, rfl, hS9⟩)); rfl; (try simp only [Act.put, List.setIfInBounds_toArray, List.set_cons_succ, List.set_cons_zero]))
  (apply walkedS_cons; (focus (intro l9 wS hz hn hS; have hS9 := stage_other 14 (by decide) hS; have c9 := fun i => stage_cell hS (cA i) (cB i); clear hS; go_wp2_with (fail); exact ⟨rfl, rfl, hS9⟩)); rfl; (try simp only [Act.put, List.setIfInBounds_toArray, List.set_cons_succ, List.set_cons_zero]))
  (apply walkedS_cons; (focus (intro l9 wS hz hn hS; have hS9 := stage_other 15 (by decide) hS; have c9 := fun i => stage_cell hS (cA i) (cB i); clear hS; go_wp2_with (fail); exact ⟨rfl, rfl, hS9⟩)); rfl; (try simp only [Act.put, List.setIfInBounds_toArray, List.set_cons_succ, List.set_cons_zero]))
  apply walkedS_cons
  · intro l9 wS hz hn hS
    obtain rfl := stage_before hn hS
    clear hS
    go_wp2
    exact ⟨rfl, rfl, stage_done hz (by decide)⟩
  · rfl
  apply walkedS_nil
  intro l9 wS hz hall hS
  obtain rfl := stage_after (hall 16 (by decide)) hS
  clear hS
  show wpList _ _ _ [_] _ _
  go_upto_region 2 with (fail)
  have hzp : w.heap.size + 1 < W.heap.size := z1
  have hH := holds_drew (holds_new #[.int .i64 K0, .int .u64 (A0 : Nat), .bool r, .bool true, .bool x, .int .i64 (S16 : Nat)] 48 hH)
  generalize (W.alloc (.cells #[.int .i64 K0, .int .u64 (A0 : Nat), .bool r, .bool true, .bool x, .int .i64 (S16 : Nat)] 48)).drew = W2 at *
  clear s0 s1 s2 k1 f1 z1 k2 f2 z2 cA cB hall
  generalize W.heap.size = p at *
  obtain ⟨s0, s1, s2, s3, _⟩ := id hH
  obtain ⟨k1, f1, z1⟩ := of_block s1
  obtain ⟨k2, f2, z2⟩ := of_block s2
  obtain ⟨k3, f3, z3⟩ := of_block s3
  go_upto_region 8 with (fail)
  rw [set_of s1]
  have hH := holds_top #[.int .i64 3, .int .u64 (A0 : Nat), .bool r, .bool true, .bool x, .int .i64 (S16 : Nat)] hH (by omega) (by intro y hy; simp only [List.mem_cons, List.not_mem_nil, or_false] at hy; rcases hy with rfl | rfl <;> simp only [ne_eq] <;> omega)
  generalize hW6 : putB _ p _ = W6
  replace hH : Holds w ((p, #[.int .i64 3, .int .u64 (A0 : Nat), .bool r, .bool true, .bool x, .int .i64 (S16 : Nat)], 48) :: [(w.heap.size + 1, #[.int .i64 0, .int .u64 0, .bool false, .bool false, .bool false, .int .i64 0], 48), (w.heap.size, #[.int .i64 k, .int .u64 (a : Nat), .bool r, .bool true, .bool x, .int .i64 s], 48)]) W6 := by rw [← hW6]; exact hH
  clear hW6
  clear s0 s1 s2 s3 k1 f1 z1 k2 f2 z2 k3 f3 z3
  obtain ⟨s0, s1, s2, s3, _⟩ := id hH
  obtain ⟨k1, f1, z1⟩ := of_block s1
  obtain ⟨k2, f2, z2⟩ := of_block s2
  obtain ⟨k3, f3, z3⟩ := of_block s3
  go_upto_region 11 with (fail)
  rw [set_of s1]
  have hH := holds_top #[.int .i64 3, .int .u64 (A0 : Nat), .bool r, .bool r, .bool x, .int .i64 (S16 : Nat)] hH (by omega) (by intro y hy; simp only [List.mem_cons, List.not_mem_nil, or_false] at hy; rcases hy with rfl | rfl <;> simp only [ne_eq] <;> omega)
  generalize hW6 : putB _ p _ = W6
  replace hH : Holds w ((p, #[.int .i64 3, .int .u64 (A0 : Nat), .bool r, .bool r, .bool x, .int .i64 (S16 : Nat)], 48) :: [(w.heap.size + 1, #[.int .i64 0, .int .u64 0, .bool false, .bool false, .bool false, .int .i64 0], 48), (w.heap.size, #[.int .i64 k, .int .u64 (a : Nat), .bool r, .bool true, .bool x, .int .i64 s], 48)]) W6 := by rw [← hW6]; exact hH
  clear hW6
  clear s0 s1 s2 s3 k1 f1 z1 k2 f2 z2 k3 f3 z3
  obtain ⟨s0, s1, s2, s3, _⟩ := id hH
  obtain ⟨k1, f1, z1⟩ := of_block s1
  obtain ⟨k2, f2, z2⟩ := of_block s2
  obtain ⟨k3, f3, z3⟩ := of_block s3
  go_upto_region 14 with (first | ((go_at_call 52); (with_reducible refine (hSp _).mono ?_); rintro e w9 ⟨rfl, hb9⟩; have hH := holds_old hH hb9; obtain ⟨s0, s1, s2, s3, _⟩ := id hH; obtain ⟨k1, f1, z1⟩ := of_block s1; obtain ⟨k2, f2, z2⟩ := of_block s2; obtain ⟨k3, f3, z3⟩ := of_block s3))
  refine wp_region_tail (S := Holds w ((p, #[.int .i64 3, .int .u64 (A0 : Nat), .bool r, .bool r, .bool x, .int .i64 (S16 : Nat)], 48) :: [(w.heap.size + 1, #[.int .i64 0, .int .u64 0, .bool false, .bool false, .bool false, .int .i64 0], 48), (w.heap.size, #[.int .i64 k, .int .u64 (a : Nat), .bool r, .bool true, .bool x, .int .i64 s], 48)])) 8 (by kernel_rfl) (by kernel_rfl) (by kernel_rfl) (by decide) (holds_drew hH) ?_
  repeat (apply walked_cons; (first | exact gives_and rfl rfl rfl rfl | exact gives_or rfl rfl rfl rfl | (focus (intro wS hS; obtain ⟨s0, s1, s2, s3, _⟩ := id hS; obtain ⟨k1, f1, z1⟩ := of_block s1; obtain ⟨k2, f2, z2⟩ := of_block s2; obtain ⟨k3, f3, z3⟩ := of_block s3; go_wp2_with (fail); (first | exact ⟨rfl, rfl, hS⟩ | exact ⟨rfl, rfl, holds_old hS hb9⟩); done)) | (focus (apply gives_guard; (focus (first | exact wanted_yes rfl rfl rfl | exact wanted_no rfl rfl rfl | exact wanted_yes2 rfl rfl rfl | exact wanted_no2 rfl rfl rfl)); (focus (intro hx9; (try simp only [Bool.not_eq_true', Bool.and_eq_true, Bool.not_not] at hx9); (try obtain ⟨hx9, hy9⟩ := hx9); (try subst hy9); (try subst hx9); (first | exact gives_and rfl rfl rfl rfl | exact gives_or rfl rfl rfl rfl | (intro wS hS; obtain ⟨s0, s1, s2, s3, _⟩ := id hS; obtain ⟨k1, f1, z1⟩ := of_block s1; obtain ⟨k2, f2, z2⟩ := of_block s2; obtain ⟨k3, f3, z3⟩ := of_block s3; go_wp2_with (fail); (first | exact ⟨rfl, rfl, hS⟩ | exact ⟨rfl, rfl, holds_old hS hb9⟩); done))))))); rfl; (try simp only [Act.put, List.setIfInBounds_toArray, List.set_cons_succ, List.set_cons_zero]))
  apply walked_nil
  intro wS hH
  obtain ⟨s0, s1, s2, s3, _⟩ := id hH
  obtain ⟨k1, f1, z1⟩ := of_block s1
  obtain ⟨k2, f2, z2⟩ := of_block s2
  obtain ⟨k3, f3, z3⟩ := of_block s3
  show wpList _ _ _ [_] _ _
  go_upto_region 15 with (fail)
  rw [HAF.out]
  rw [set_of s1]
  have hH := holds_top #[.int .i64 3, .int .u64 (AF : Nat), .bool r, .bool r, .bool x, .int .i64 (S16 : Nat)] hH (by omega) (by intro y hy; simp only [List.mem_cons, List.not_mem_nil, or_false] at hy; rcases hy with rfl | rfl <;> simp only [ne_eq] <;> omega)
  generalize hW6 : putB _ p _ = W6
  replace hH : Holds w ((p, #[.int .i64 3, .int .u64 (AF : Nat), .bool r, .bool r, .bool x, .int .i64 (S16 : Nat)], 48) :: [(w.heap.size + 1, #[.int .i64 0, .int .u64 0, .bool false, .bool false, .bool false, .int .i64 0], 48), (w.heap.size, #[.int .i64 k, .int .u64 (a : Nat), .bool r, .bool true, .bool x, .int .i64 s], 48)]) W6 := by rw [← hW6]; exact hH
  clear hW6
  clear s0 s1 s2 s3 k1 f1 z1 k2 f2 z2 k3 f3 z3
  obtain ⟨s0, s1, s2, s3, _⟩ := id hH
  obtain ⟨k1, f1, z1⟩ := of_block s1
  obtain ⟨k2, f2, z2⟩ := of_block s2
  obtain ⟨k3, f3, z3⟩ := of_block s3
  go_wp2
  rw [six_set s2 rfl]
  have ho := old_put hH.1 (.cells #[.int .i64 3, .int .u64 (AF : Nat), .bool r, .bool r, .bool x, .int .i64 (S16 : Nat)] 48) (show w.heap.size ≤ w.heap.size + 1 by omega)
  have s9 := putB_same (.cells #[.int .i64 3, .int .u64 (AF : Nat), .bool r, .bool r, .bool x, .int .i64 (S16 : Nat)] 48) z2
  generalize putB _ (w.heap.size + 1) (.cells #[.int .i64 3, .int .u64 (AF : Nat), .bool r, .bool r, .bool x, .int .i64 (S16 : Nat)] 48) = W9 at *
  obtain ⟨k9, f9, z9⟩ := of_block s9
  refine bodyPost_ret (by simp [results, Try.results23, go_sem, k9]; try rfl) rfl ?_
  exact ⟨by rw [HV.out], ho⟩
set_option maxHeartbeats 4000000 in
set_option maxRecDepth 100000 in
theorem near_p2true (st lv k : Int) (a : Nat) (r x : Bool) (s : Int) (w : World) (TI SP K0 : Int) (A0 S16 : Nat) (V : Value)
    (hT : ∀ w : World, Calls Try.prog 51 #[.int .i64 st] w (RetX w (.int .u64 TI))) (hsn : ¬ TI = 0)
    (hSp : ∀ w : World, Calls Try.prog 52 #[.int .i64 lv] w (RetB w (.int .u64 SP))) (hspn : ¬ SP = 0)
    (hkw : (wrap64 (k.tmod 4 + 4)).tmod 4 = 2) (hs16 : bits .and .i64 s 15 = ((S16 : Nat) : Int)) (hAT : (a : Int) % TI = ((A0 : Nat) : Int)) (hl0 : ¬ lv = 0) (hl3 : ¬ lv = 3) (AF : Nat) (HAF : Hid (IntKind.u64.wrap ((A0 : Int) - (A0 : Int) % SP) = ((AF : Nat) : Int))) (HV : Hid (V = .agg #[.int .i64 2, .int .u64 (AF : Nat), .bool r, .bool r, .bool x, .int .i64 (S16 : Nat)])) :
    Calls Try.prog 23 #[.int .i64 st, .int .i64 lv, descV k a r true x s] w (RetB w V) := by
  go_enter Try.func23, Try.ntmps23
  go_upto_region 1 with (fail)
  have hH := holds_new #[.int .i64 0, .int .u64 0, .bool false, .bool false, .bool false, .int .i64 0] 48 (holds_new #[.int .i64 k, .int .u64 (a : Nat), .bool r, .bool true, .bool x, .int .i64 s] 48 (holds_nil w))
  simp only [World.size_alloc] at hH
  generalize (w.alloc (.cells #[.int .i64 k, .int .u64 (a : Nat), .bool r, .bool true, .bool x, .int .i64 s] 48)).alloc (.cells #[.int .i64 0, .int .u64 0, .bool false, .bool false, .bool false, .int .i64 0] 48) = W at *
  obtain ⟨s0, s1, s2, _⟩ := id hH
  obtain ⟨k1, f1, z1⟩ := of_block s1
  obtain ⟨k2, f2, z2⟩ := of_block s2
  have cA : ∀ i, W.drew.cell? ⟨w.heap.size, i, none⟩ = (#[.int .i64 k, .int .u64 (a : Nat), .bool r, .bool true, .bool x, .int .i64 s] : Array Value)[i]? := k2
  have cB : ∀ i, (W.drew.alloc (.cells #[.int .i64 0, .int .u64 0, .bool false, .bool false, .bool false, .int .i64 0] 48)).cell? ⟨w.heap.size, i, none⟩ = (#[.int .i64 k, .int .u64 (a : Nat), .bool r, .bool true, .bool x, .int .i64 s] : Array Value)[i]? := fun i =>
    cell_of (keep_old (old_alloc (old_refl _) _) (show W.drew.heap[w.heap.size]? = _ from s2)) i
  refine wp_region_staged (S := StageS 16 W.drew (W.drew.alloc (.cells #[.int .i64 0, .int .u64 0, .bool false, .bool false, .bool false, .int .i64 0] 48))) 17 (by kernel_rfl) (by kernel_rfl) (by kernel_rfl) (by decide) rfl ?_
  (apply walkedS_cons; (focus (intro l9 wS hz hn hS; have hS9 := stage_other 0 (by decide) hS; have c9 := fun i => stage_cell hS (cA i) (cB i); clear hS; go_wp2_with (fail); exact ⟨rfl, rfl, hS9⟩)); rfl; (try simp only [Act.put, List.setIfInBounds_toArray, List.set_cons_succ, List.set_cons_zero]))
  (apply walkedS_cons; (focus (intro l9 wS hz hn hS; have hS9 := stage_other 1 (by decide) hS; have c9 := fun i => stage_cell hS (cA i) (cB i); clear hS; go_wp2_with (fail); exact ⟨rfl, rfl, hS9⟩)); rfl; (try simp only [Act.put, List.setIfInBounds_toArray, List.set_cons_succ, List.set_cons_zero]))
  (apply walkedS_cons; (focus (intro l9 wS hz hn hS; have hS9 := stage_other 2 (by decide) hS; have c9 := fun i => stage_cell hS (cA i) (cB i); clear hS; go_wp2_with (fail); exact ⟨rfl, rfl, hS9⟩)); rfl; (try simp only [Act.put, List.setIfInBounds_toArray, List.set_cons_succ, List.set_cons_zero]))
  (apply walkedS_cons; (focus (intro l9 wS hz hn hS; have hS9 := stage_other 3 (by decide) hS; have c9 := fun i => stage_cell hS (cA i) (cB i); clear hS; go_wp2_with (fail); exact ⟨rfl, rfl, hS9⟩)); rfl; (try simp only [Act.put, List.setIfInBounds_toArray, List.set_cons_succ, List.set_cons_zero]))
  (apply walkedS_cons; (focus (intro l9 wS hz hn hS; have hS9 := stage_other 4 (by decide) hS; have c9 := fun i => stage_cell hS (cA i) (cB i); clear hS; go_wp2_with (fail); exact ⟨rfl, rfl, hS9⟩)); rfl; (try simp only [Act.put, List.setIfInBounds_toArray, List.set_cons_succ, List.set_cons_zero]))
  (apply walkedS_cons; (focus (intro l9 wS hz hn hS; have hS9 := stage_other 5 (by decide) hS; have c9 := fun i => stage_cell hS (cA i) (cB i); clear hS; go_wp2_with (fail); exact ⟨rfl, rfl, hS9⟩)); rfl; (try simp only [Act.put, List.setIfInBounds_toArray, List.set_cons_succ, List.set_cons_zero]))
  (apply walkedS_cons; (focus (intro l9 wS hz hn hS; have hS9 := stage_other 6 (by decide) hS; have c9 := fun i => stage_cell hS (cA i) (cB i); clear hS; go_wp2_with (fail); exact ⟨rfl, rfl, hS9⟩)); rfl; (try simp only [Act.put, List.setIfInBounds_toArray, List.set_cons_succ, List.set_cons_zero]))
  (apply walkedS_cons; (focus (intro l9 wS hz hn hS; have hS9 := stage_other 7 (by decide) hS; have c9 := fun i => stage_cell hS (cA i) (cB i); clear hS; go_wp2_with (fail); exact ⟨rfl, rfl, hS9⟩)); rfl; (try simp only [Act.put, List.setIfInBounds_toArray, List.set_cons_succ, List.set_cons_zero]))
  (apply walkedS_cons; (focus (intro l9 wS hz hn hS; have hS9 := stage_other 8 (by decide) hS; have c9 := fun i => stage_cell hS (cA i) (cB i); clear hS; go_wp2_with (((go_at_call 51); (with_reducible refine (hT _).mono ?_); rintro e w9 ⟨rfl, rfl⟩)); exact ⟨rfl, rfl, hS9⟩)); rfl; (try simp only [Act.put, List.setIfInBounds_toArray, List.set_cons_succ, List.set_cons_zero]))
  (apply walkedS_cons; (focus (intro l9 wS hz hn hS; have hS9 := stage_other 9 (by decide) hS; have c9 := fun i => stage_cell hS (cA i) (cB i); clear hS; go_wp2_with (fail); exact ⟨rfl, rfl, hS9⟩)); rfl; (try simp only [Act.put, List.setIfInBounds_toArray, List.set_cons_succ, List.set_cons_zero]))
  (apply walkedS_cons; (focus (intro l9 wS hz hn hS; have hS9 := stage_other 10 (by decide) hS; have c9 := fun i => stage_cell hS (cA i) (cB i); clear hS; go_wp2_with (fail); exact ⟨rfl, rfl, hS9⟩)); rfl; (try simp only [Act.put, List.setIfInBounds_toArray, List.set_cons_succ, List.set_cons_zero]))
  (apply walkedS_cons; (focus (intro l9 wS hz hn hS; have hS9 := stage_other 11 (by decide) hS; have c9 := fun i => stage_cell hS (cA i) (cB i); clear hS; go_wp2_with (fail); exact ⟨rfl, rfl, hS9⟩)); rfl; (try simp only [Act.put, List.setIfInBounds_toArray, List.set_cons_succ, List.set_cons_zero]))
  (apply walkedS_cons; (focus (intro l9 wS hz hn hS; have hS9 := stage_other 12 (by decide) hS; have c9 := fun i => stage_cell hS (cA i) (cB i); clear hS; go_wp2_with (fail); exact ⟨rfl, rfl, hS9⟩)); rfl; (try simp only [Act.put, List.setIfInBounds_toArray, List.set_cons_succ, List.set_cons_zero]))
  (apply walkedS_cons; (focus (intro l9 wS hz hn hS; have hS9 := stage_other 13 (by decide) hS; have c9 := fun i => stage_cell hS (cA i) (cB i); clear hS; go_wp2_with (fail); exact ⟨rfl, rfl, hS9⟩)); rfl; (try simp only [Act.put, List.setIfInBounds_toArray, List.set_cons_succ, List.set_cons_zero]))
  (apply walkedS_cons; (focus (intro l9 wS hz hn hS; have hS9 := stage_other 14 (by decide) hS; have c9 := fun i => stage_cell hS (cA i) (cB i); clear hS; go_wp2_with (fail); exact ⟨rfl, rfl, hS9⟩)); rfl; (try simp only [Act.put, List.setIfInBounds_toArray, List.set_cons_succ, List.set_cons_zero]))
  (apply walkedS_cons; (focus (intro l9 wS hz hn hS; have hS9 := stage_other 15 (by decide) hS; have c9 := fun i => stage_cell hS (cA i) (cB i); clear hS; go_wp2_with (fail); exact ⟨rfl, rfl, hS9⟩)); rfl; (try simp only [Act.put, List.setIfInBounds_toArray, List.set_cons_succ, List.set_cons_zero]))
  apply walkedS_cons
  · intro l9 wS hz hn hS
    obtain rfl := stage_before hn hS
    clear hS
    go_wp2
    exact ⟨rfl, rfl, stage_done hz (by decide)⟩
  · rfl
  apply walkedS_nil
  intro l9 wS hz hall hS
  obtain rfl := stage_after (hall 16 (by decide)) hS
  clear hS
  show wpList _ _ _ [_] _ _
  go_upto_region 2 with (fail)
  have hzp : w.heap.size + 1 < W.heap.size := z1
  have hH := holds_drew (holds_new #[.int .i64 2, .int .u64 (A0 : Nat), .bool r, .bool true, .bool x, .int .i64 (S16 : Nat)] 48 hH)
  generalize (W.alloc (.cells #[.int .i64 2, .int .u64 (A0 : Nat), .bool r, .bool true, .bool x, .int .i64 (S16 : Nat)] 48)).drew = W2 at *
  clear s0 s1 s2 k1 f1 z1 k2 f2 z2 cA cB hall
  generalize W.heap.size = p at *
  obtain ⟨s0, s1, s2, s3, _⟩ := id hH
  obtain ⟨k1, f1, z1⟩ := of_block s1
  obtain ⟨k2, f2, z2⟩ := of_block s2
  obtain ⟨k3, f3, z3⟩ := of_block s3
  go_upto_region 8 with (fail)
  go_upto_region 11 with (fail)
  rw [set_of s1]
  have hH := holds_top #[.int .i64 2, .int .u64 (A0 : Nat), .bool r, .bool r, .bool x, .int .i64 (S16 : Nat)] hH (by omega) (by intro y hy; simp only [List.mem_cons, List.not_mem_nil, or_false] at hy; rcases hy with rfl | rfl <;> simp only [ne_eq] <;> omega)
  generalize hW6 : putB _ p _ = W6
  replace hH : Holds w ((p, #[.int .i64 2, .int .u64 (A0 : Nat), .bool r, .bool r, .bool x, .int .i64 (S16 : Nat)], 48) :: [(w.heap.size + 1, #[.int .i64 0, .int .u64 0, .bool false, .bool false, .bool false, .int .i64 0], 48), (w.heap.size, #[.int .i64 k, .int .u64 (a : Nat), .bool r, .bool true, .bool x, .int .i64 s], 48)]) W6 := by rw [← hW6]; exact hH
  clear hW6
  clear s0 s1 s2 s3 k1 f1 z1 k2 f2 z2 k3 f3 z3
  obtain ⟨s0, s1, s2, s3, _⟩ := id hH
  obtain ⟨k1, f1, z1⟩ := of_block s1
  obtain ⟨k2, f2, z2⟩ := of_block s2
  obtain ⟨k3, f3, z3⟩ := of_block s3
  go_upto_region 14 with (first | ((go_at_call 52); (with_reducible refine (hSp _).mono ?_); rintro e w9 ⟨rfl, hb9⟩; have hH := holds_old hH hb9; obtain ⟨s0, s1, s2, s3, _⟩ := id hH; obtain ⟨k1, f1, z1⟩ := of_block s1; obtain ⟨k2, f2, z2⟩ := of_block s2; obtain ⟨k3, f3, z3⟩ := of_block s3))
  refine wp_region_tail (S := Holds w ((p, #[.int .i64 2, .int .u64 (A0 : Nat), .bool r, .bool r, .bool x, .int .i64 (S16 : Nat)], 48) :: [(w.heap.size + 1, #[.int .i64 0, .int .u64 0, .bool false, .bool false, .bool false, .int .i64 0], 48), (w.heap.size, #[.int .i64 k, .int .u64 (a : Nat), .bool r, .bool true, .bool x, .int .i64 s], 48)])) 8 (by kernel_rfl) (by kernel_rfl) (by kernel_rfl) (by decide) (holds_drew hH) ?_
  repeat (apply walked_cons; (first | exact gives_and rfl rfl rfl rfl | exact gives_or rfl rfl rfl rfl | (focus (intro wS hS; obtain ⟨s0, s1, s2, s3, _⟩ := id hS; obtain ⟨k1, f1, z1⟩ := of_block s1; obtain ⟨k2, f2, z2⟩ := of_block s2; obtain ⟨k3, f3, z3⟩ := of_block s3; go_wp2_with (fail); (first | exact ⟨rfl, rfl, hS⟩ | exact ⟨rfl, rfl, holds_old hS hb9⟩); done)) | (focus (apply gives_guard; (focus (first | exact wanted_yes rfl rfl rfl | exact wanted_no rfl rfl rfl | exact wanted_yes2 rfl rfl rfl | exact wanted_no2 rfl rfl rfl)); (focus (intro hx9; (try simp only [Bool.not_eq_true', Bool.and_eq_true, Bool.not_not] at hx9); (try obtain ⟨hx9, hy9⟩ := hx9); (try subst hy9); (try subst hx9); (first | exact gives_and rfl rfl rfl rfl | exact gives_or rfl rfl rfl rfl | (intro wS hS; obtain ⟨s0, s1, s2, s3, _⟩ := id hS; obtain ⟨k1, f1, z1⟩ := of_block s1; obtain ⟨k2, f2, z2⟩ := of_block s2; obtain ⟨k3, f3, z3⟩ := of_block s3; go_wp2_with (fail); (first | exact ⟨rfl, rfl, hS⟩ | exact ⟨rfl, rfl, holds_old hS hb9⟩); done))))))); rfl; (try simp only [Act.put, List.setIfInBounds_toArray, List.set_cons_succ, List.set_cons_zero]))
  apply walked_nil
  intro wS hH
  obtain ⟨s0, s1, s2, s3, _⟩ := id hH
  obtain ⟨k1, f1, z1⟩ := of_block s1
  obtain ⟨k2, f2, z2⟩ := of_block s2
  obtain ⟨k3, f3, z3⟩ := of_block s3
  show wpList _ _ _ [_] _ _
  go_upto_region 15 with (fail)
  rw [HAF.out]
  rw [set_of s1]
  have hH := holds_top #[.int .i64 2, .int .u64 (AF : Nat), .bool r, .bool r, .bool x, .int .i64 (S16 : Nat)] hH (by omega) (by intro y hy; simp only [List.mem_cons, List.not_mem_nil, or_false] at hy; rcases hy with rfl | rfl <;> simp only [ne_eq] <;> omega)
  generalize hW6 : putB _ p _ = W6
  replace hH : Holds w ((p, #[.int .i64 2, .int .u64 (AF : Nat), .bool r, .bool r, .bool x, .int .i64 (S16 : Nat)], 48) :: [(w.heap.size + 1, #[.int .i64 0, .int .u64 0, .bool false, .bool false, .bool false, .int .i64 0], 48), (w.heap.size, #[.int .i64 k, .int .u64 (a : Nat), .bool r, .bool true, .bool x, .int .i64 s], 48)]) W6 := by rw [← hW6]; exact hH
  clear hW6
  clear s0 s1 s2 s3 k1 f1 z1 k2 f2 z2 k3 f3 z3
  obtain ⟨s0, s1, s2, s3, _⟩ := id hH
  obtain ⟨k1, f1, z1⟩ := of_block s1
  obtain ⟨k2, f2, z2⟩ := of_block s2
  obtain ⟨k3, f3, z3⟩ := of_block s3
  go_wp2
  rw [six_set s2 rfl]
  have ho := old_put hH.1 (.cells #[.int .i64 2, .int .u64 (AF : Nat), .bool r, .bool r, .bool x, .int .i64 (S16 : Nat)] 48) (show w.heap.size ≤ w.heap.size + 1 by omega)
  have s9 := putB_same (.cells #[.int .i64 2, .int .u64 (AF : Nat), .bool r, .bool r, .bool x, .int .i64 (S16 : Nat)] 48) z2
  generalize putB _ (w.heap.size + 1) (.cells #[.int .i64 2, .int .u64 (AF : Nat), .bool r, .bool r, .bool x, .int .i64 (S16 : Nat)] 48) = W9 at *
  obtain ⟨k9, f9, z9⟩ := of_block s9
  refine bodyPost_ret (by simp [results, Try.results23, go_sem, k9]; try rfl) rfl ?_
  exact ⟨by rw [HV.out], ho⟩
set_option maxHeartbeats 4000000 in
set_option maxRecDepth 100000 in
theorem near_p3false (st k : Int) (a : Nat) (r x : Bool) (s : Int) (w : World) (TI SP K0 : Int) (A0 S16 : Nat) (V : Value)
    (hT : ∀ w : World, Calls Try.prog 51 #[.int .i64 st] w (RetX w (.int .u64 TI))) (hsn : ¬ TI = 0)
    (hSp : ∀ w : World, Calls Try.prog 52 #[.int .i64 3] w (RetB w (.int .u64 SP))) (hspn : ¬ SP = 0)
    (hkw : (wrap64 (k.tmod 4 + 4)).tmod 4 = K0) (hs16 : bits .and .i64 s 15 = ((S16 : Nat) : Int)) (hAT : (a : Int) % TI = ((A0 : Nat) : Int)) (hk0 : ¬ K0 = 0) (AF : Nat) (HAF : Hid (IntKind.u64.wrap ((A0 : Int) - (A0 : Int) % 4096) = ((AF : Nat) : Int))) (HV : Hid (V = .agg #[.int .i64 3, .int .u64 (AF : Nat), .bool r, .bool false, .bool x, .int .i64 (S16 : Nat)])) :
    Calls Try.prog 23 #[.int .i64 st, .int .i64 3, descV k a r false x s] w (RetB w V) := by
  go_enter Try.func23, Try.ntmps23
  go_upto_region 1 with (fail)
  have hH := holds_new #[.int .i64 0, .int .u64 0, .bool false, .bool false, .bool false, .int .i64 0] 48 (holds_new #[.int .i64 k, .int .u64 (a : Nat), .bool r, .bool false, .bool x, .int .i64 s] 48 (holds_nil w))
  simp only [World.size_alloc] at hH
  generalize (w.alloc (.cells #[.int .i64 k, .int .u64 (a : Nat), .bool r, .bool false, .bool x, .int .i64 s] 48)).alloc (.cells #[.int .i64 0, .int .u64 0, .bool false, .bool false, .bool false, .int .i64 0] 48) = W at *
  obtain ⟨s0, s1, s2, _⟩ := id hH
  obtain ⟨k1, f1, z1⟩ := of_block s1
  obtain ⟨k2, f2, z2⟩ := of_block s2
  have cA : ∀ i, W.drew.cell? ⟨w.heap.size, i, none⟩ = (#[.int .i64 k, .int .u64 (a : Nat), .bool r, .bool false, .bool x, .int .i64 s] : Array Value)[i]? := k2
  have cB : ∀ i, (W.drew.alloc (.cells #[.int .i64 0, .int .u64 0, .bool false, .bool false, .bool false, .int .i64 0] 48)).cell? ⟨w.heap.size, i, none⟩ = (#[.int .i64 k, .int .u64 (a : Nat), .bool r, .bool false, .bool x, .int .i64 s] : Array Value)[i]? := fun i =>
    cell_of (keep_old (old_alloc (old_refl _) _) (show W.drew.heap[w.heap.size]? = _ from s2)) i
  refine wp_region_staged (S := StageS 16 W.drew (W.drew.alloc (.cells #[.int .i64 0, .int .u64 0, .bool false, .bool false, .bool false, .int .i64 0] 48))) 17 (by kernel_rfl) (by kernel_rfl) (by kernel_rfl) (by decide) rfl ?_
  (apply walkedS_cons; (focus (intro l9 wS hz hn hS; have hS9 := stage_other 0 (by decide) hS; have c9 := fun i => stage_cell hS (cA i) (cB i); clear hS; go_wp2_with (fail); exact ⟨rfl, rfl, hS9⟩)); rfl; (try simp only [Act.put, List.setIfInBounds_toArray, List.set_cons_succ, List.set_cons_zero]))
  (apply walkedS_cons; (focus (intro l9 wS hz hn hS; have hS9 := stage_other 1 (by decide) hS; have c9 := fun i => stage_cell hS (cA i) (cB i); clear hS; go_wp2_with (fail); exact ⟨rfl, rfl, hS9⟩)); rfl; (try simp only [Act.put, List.setIfInBounds_toArray, List.set_cons_succ, List.set_cons_zero]))
  (apply walkedS_cons; (focus (intro l9 wS hz hn hS; have hS9 := stage_other 2 (by decide) hS; have c9 := fun i => stage_cell hS (cA i) (cB i); clear hS; go_wp2_with (fail); exact ⟨rfl, rfl, hS9⟩)); rfl; (try simp only [Act.put, List.setIfInBounds_toArray, List.set_cons_succ, List.set_cons_zero]))
  (apply walkedS_cons; (focus (intro l9 wS hz hn hS; have hS9 := stage_other 3 (by decide) hS; have c9 := fun i => stage_cell hS (cA i) (cB i); clear hS; go_wp2_with (fail); exact ⟨rfl, rfl, hS9⟩)); rfl; (try simp only [Act.put, List.setIfInBounds_toArray, List.set_cons_succ, List.set_cons_zero]))
  (apply walkedS_cons; (focus (intro l9 wS hz hn hS; have hS9 := stage_other 4 (by decide) hS; have c9 := fun i => stage_cell hS (cA i) (cB i); clear hS; go_wp2_with (fail); exact ⟨rfl, rfl, hS9⟩)); rfl; (try simp only [Act.put, List.setIfInBounds_toArray, List.set_cons_succ, List.set_cons_zero]))
  (apply walkedS_cons; (focus (intro l9 wS hz hn hS; have hS9 := stage_other 5 (by decide) hS; have c9 := fun i => stage_cell hS (cA i) (cB i); clear hS; go_wp2_with (fail); exact ⟨rfl, rfl, hS9⟩)); rfl; (try simp only [Act.put, List.setIfInBounds_toArray, List.set_cons_succ, List.set_cons_zero]))
  (apply walkedS_cons; (focus (intro l9 wS hz hn hS; have hS9 := stage_other 6 (by decide) hS; have c9 := fun i => stage_cell hS (cA i) (cB i); clear hS; go_wp2_with (fail); exact ⟨rfl, rfl, hS9⟩)); rfl; (try simp only [Act.put, List.setIfInBounds_toArray, List.set_cons_succ, List.set_cons_zero]))
  (apply walkedS_cons; (focus (intro l9 wS hz hn hS; have hS9 := stage_other 7 (by decide) hS; have c9 := fun i => stage_cell hS (cA i) (cB i); clear hS; go_wp2_with (fail); exact ⟨rfl, rfl, hS9⟩)); rfl; (try simp only [Act.put, List.setIfInBounds_toArray, List.set_cons_succ, List.set_cons_zero]))
  (apply walkedS_cons; (focus (intro l9 wS hz hn hS; have hS9 := stage_other 8 (by decide) hS; have c9 := fun i => stage_cell hS (cA i) (cB i); clear hS; go_wp2_with (((go_at_call 51); (with_reducible refine (hT _).mono ?_); rintro e w9 ⟨rfl, rfl⟩)); exact ⟨rfl, rfl, hS9⟩)); rfl; (try simp only [Act.put, List.setIfInBounds_toArray, List.set_cons_succ, List.set_cons_zero]))
  (apply walkedS_cons; (focus (intro l9 wS hz hn hS; have hS9 := stage_other 9 (by decide) hS; have c9 := fun i => stage_cell hS (cA i) (cB i); clear hS; go_wp2_with (fail); exact ⟨rfl, rfl, hS9⟩)); rfl; (try simp only [Act.put, List.setIfInBounds_toArray, List.set_cons_succ, List.set_cons_zero]))
  (apply walkedS_cons; (focus (intro l9 wS hz hn hS; have hS9 := stage_other 10 (by decide) hS; have c9 := fun i => stage_cell hS (cA i) (cB i); clear hS; go_wp2_with (fail); exact ⟨rfl, rfl, hS9⟩)); rfl; (try simp only [Act.put, List.setIfInBounds_toArray, List.set_cons_succ, List.set_cons_zero]))
  (apply walkedS_cons; (focus (intro l9 wS hz hn hS; have hS9 := stage_other 11 (by decide) hS; have c9 := fun i => stage_cell hS (cA i) (cB i); clear hS; go_wp2_with (fail); exact ⟨rfl, rfl, hS9⟩)); rfl; (try simp only [Act.put, List.setIfInBounds_toArray, List.set_cons_succ, List.set_cons_zero]))
  (apply walkedS_cons; (focus (intro l9 wS hz hn hS; have hS9 := stage_other 12 (by decide) hS; have c9 := fun i => stage_cell hS (cA i) (cB i); clear hS; go_wp2_with (fail); exact ⟨rfl, rfl, hS9⟩)); rfl; (try simp only [Act.put, List.setIfInBounds_toArray, List.set_cons_succ, List.set_cons_zero]))
  (apply walkedS_cons; (focus (intro l9 wS hz hn hS; have hS9 := stage_other 13 (by decide) hS; have c9 := fun i => stage_cell hS (cA i) (cB i); clear hS; go_wp2_with (fail); exact ⟨rfl, rfl, hS9⟩)); rfl; (try simp only [Act.put, List.setIfInBounds_toArray, List.set_cons_succ, List.set_cons_zero]))
  (apply walkedS_cons; (focus (intro l9 wS hz hn hS; have hS9 := stage_other 14 (by decide) hS; have c9 := fun i => stage_cell hS (cA i) (cB i); clear hS; go_wp2_with (fail); exact ⟨rfl, rfl, hS9⟩)); rfl; (try simp only [Act.put, List.setIfInBounds_toArray, List.set_cons_succ, List.set_cons_zero]))
  (apply walkedS_cons; (focus (intro l9 wS hz hn hS; have hS9 := stage_other 15 (by decide) hS; have c9 := fun i => stage_cell hS (cA i) (cB i); clear hS; go_wp2_with (fail); exact ⟨rfl, rfl, hS9⟩)); rfl; (try simp only [Act.put, List.setIfInBounds_toArray, List.set_cons_succ, List.set_cons_zero]))
  apply walkedS_cons
  · intro l9 wS hz hn hS
    obtain rfl := stage_before hn hS
    clear hS
    go_wp2
    exact ⟨rfl, rfl, stage_done hz (by decide)⟩
  · rfl
  apply walkedS_nil
  intro l9 wS hz hall hS
  obtain rfl := stage_after (hall 16 (by decide)) hS
  clear hS
  show wpList _ _ _ [_] _ _
  go_upto_region 2 with (fail)
  have hzp : w.heap.size + 1 < W.heap.size := z1
  have hH := holds_drew (holds_new #[.int .i64 K0, .int .u64 (A0 : Nat), .bool r, .bool false, .bool x, .int .i64 (S16 : Nat)] 48 hH)
  generalize (W.alloc (.cells #[.int .i64 K0, .int .u64 (A0 : Nat), .bool r, .bool false, .bool x, .int .i64 (S16 : Nat)] 48)).drew = W2 at *
  clear s0 s1 s2 k1 f1 z1 k2 f2 z2 cA cB hall
  generalize W.heap.size = p at *
  obtain ⟨s0, s1, s2, s3, _⟩ := id hH
  obtain ⟨k1, f1, z1⟩ := of_block s1
  obtain ⟨k2, f2, z2⟩ := of_block s2
  obtain ⟨k3, f3, z3⟩ := of_block s3
  go_upto_region 8 with (fail)
  rw [set_of s1]
  have hH := holds_top #[.int .i64 3, .int .u64 (A0 : Nat), .bool r, .bool false, .bool x, .int .i64 (S16 : Nat)] hH (by omega) (by intro y hy; simp only [List.mem_cons, List.not_mem_nil, or_false] at hy; rcases hy with rfl | rfl <;> simp only [ne_eq] <;> omega)
  generalize hW6 : putB _ p _ = W6
  replace hH : Holds w ((p, #[.int .i64 3, .int .u64 (A0 : Nat), .bool r, .bool false, .bool x, .int .i64 (S16 : Nat)], 48) :: [(w.heap.size + 1, #[.int .i64 0, .int .u64 0, .bool false, .bool false, .bool false, .int .i64 0], 48), (w.heap.size, #[.int .i64 k, .int .u64 (a : Nat), .bool r, .bool false, .bool x, .int .i64 s], 48)]) W6 := by rw [← hW6]; exact hH
  clear hW6
  clear s0 s1 s2 s3 k1 f1 z1 k2 f2 z2 k3 f3 z3
  obtain ⟨s0, s1, s2, s3, _⟩ := id hH
  obtain ⟨k1, f1, z1⟩ := of_block s1
  obtain ⟨k2, f2, z2⟩ := of_block s2
  obtain ⟨k3, f3, z3⟩ := of_block s3
  go_upto_region 11 with (fail)
  rw [set_of s1]
  have hH := holds_top #[.int .i64 3, .int .u64 (A0 : Nat), .bool r, .bool false, .bool x, .int .i64 (S16 : Nat)] hH (by omega) (by intro y hy; simp only [List.mem_cons, List.not_mem_nil, or_false] at hy; rcases hy with rfl | rfl <;> simp only [ne_eq] <;> omega)
  generalize hW6 : putB _ p _ = W6
  replace hH : Holds w ((p, #[.int .i64 3, .int .u64 (A0 : Nat), .bool r, .bool false, .bool x, .int .i64 (S16 : Nat)], 48) :: [(w.heap.size + 1, #[.int .i64 0, .int .u64 0, .bool false, .bool false, .bool false, .int .i64 0], 48), (w.heap.size, #[.int .i64 k, .int .u64 (a : Nat), .bool r, .bool false, .bool x, .int .i64 s], 48)]) W6 := by rw [← hW6]; exact hH
  clear hW6
  clear s0 s1 s2 s3 k1 f1 z1 k2 f2 z2 k3 f3 z3
  obtain ⟨s0, s1, s2, s3, _⟩ := id hH
  obtain ⟨k1, f1, z1⟩ := of_block s1
  obtain ⟨k2, f2, z2⟩ := of_block s2
  obtain ⟨k3, f3, z3⟩ := of_block s3
  go_upto_region 14 with (first | ((go_at_call 52); (with_reducible refine (hSp _).mono ?_); rintro e w9 ⟨rfl, hb9⟩; have hH := holds_old hH hb9; obtain ⟨s0, s1, s2, s3, _⟩ := id hH; obtain ⟨k1, f1, z1⟩ := of_block s1; obtain ⟨k2, f2, z2⟩ := of_block s2; obtain ⟨k3, f3, z3⟩ := of_block s3))
  refine wp_region_tail (S := Holds w ((p, #[.int .i64 3, .int .u64 (A0 : Nat), .bool r, .bool false, .bool x, .int .i64 (S16 : Nat)], 48) :: [(w.heap.size + 1, #[.int .i64 0, .int .u64 0, .bool false, .bool false, .bool false, .int .i64 0], 48), (w.heap.size, #[.int .i64 k, .int .u64 (a : Nat), .bool r, .bool false, .bool x, .int .i64 s], 48)])) 8 (by kernel_rfl) (by kernel_rfl) (by kernel_rfl) (by decide) (holds_drew hH) ?_
  repeat (apply walked_cons; (first | exact gives_and rfl rfl rfl rfl | exact gives_or rfl rfl rfl rfl | (focus (intro wS hS; obtain ⟨s0, s1, s2, s3, _⟩ := id hS; obtain ⟨k1, f1, z1⟩ := of_block s1; obtain ⟨k2, f2, z2⟩ := of_block s2; obtain ⟨k3, f3, z3⟩ := of_block s3; go_wp2_with (fail); (first | exact ⟨rfl, rfl, hS⟩ | exact ⟨rfl, rfl, holds_old hS hb9⟩); done)) | (focus (apply gives_guard; (focus (first | exact wanted_yes rfl rfl rfl | exact wanted_no rfl rfl rfl | exact wanted_yes2 rfl rfl rfl | exact wanted_no2 rfl rfl rfl)); (focus (intro hx9; (try simp only [Bool.not_eq_true', Bool.and_eq_true, Bool.not_not] at hx9); (try obtain ⟨hx9, hy9⟩ := hx9); (try subst hy9); (try subst hx9); (first | exact gives_and rfl rfl rfl rfl | exact gives_or rfl rfl rfl rfl | (intro wS hS; obtain ⟨s0, s1, s2, s3, _⟩ := id hS; obtain ⟨k1, f1, z1⟩ := of_block s1; obtain ⟨k2, f2, z2⟩ := of_block s2; obtain ⟨k3, f3, z3⟩ := of_block s3; go_wp2_with (fail); (first | exact ⟨rfl, rfl, hS⟩ | exact ⟨rfl, rfl, holds_old hS hb9⟩); done))))))); rfl; (try simp only [Act.put, List.setIfInBounds_toArray, List.set_cons_succ, List.set_cons_zero]))
  apply walked_nil
  intro wS hH
  obtain ⟨s0, s1, s2, s3, _⟩ := id hH
  obtain ⟨k1, f1, z1⟩ := of_block s1
  obtain ⟨k2, f2, z2⟩ := of_block s2
  obtain ⟨k3, f3, z3⟩ := of_block s3
  show wpList _ _ _ [_] _ _
  go_upto_region 15 with (fail)
  rw [HAF.out]
  rw [set_of s1]
  have hH := holds_top #[.int .i64 3, .int .u64 (AF : Nat), .bool r, .bool false, .bool x, .int .i64 (S16 : Nat)] hH (by omega) (by intro y hy; simp only [List.mem_cons, List.not_mem_nil, or_false] at hy; rcases hy with rfl | rfl <;> simp only [ne_eq] <;> omega)
  generalize hW6 : putB _ p _ = W6
  replace hH : Holds w ((p, #[.int .i64 3, .int .u64 (AF : Nat), .bool r, .bool false, .bool x, .int .i64 (S16 : Nat)], 48) :: [(w.heap.size + 1, #[.int .i64 0, .int .u64 0, .bool false, .bool false, .bool false, .int .i64 0], 48), (w.heap.size, #[.int .i64 k, .int .u64 (a : Nat), .bool r, .bool false, .bool x, .int .i64 s], 48)]) W6 := by rw [← hW6]; exact hH
  clear hW6
  clear s0 s1 s2 s3 k1 f1 z1 k2 f2 z2 k3 f3 z3
  obtain ⟨s0, s1, s2, s3, _⟩ := id hH
  obtain ⟨k1, f1, z1⟩ := of_block s1
  obtain ⟨k2, f2, z2⟩ := of_block s2
  obtain ⟨k3, f3, z3⟩ := of_block s3
  go_wp2
  rw [six_set s2 rfl]
  have ho := old_put hH.1 (.cells #[.int .i64 3, .int .u64 (AF : Nat), .bool r, .bool false, .bool x, .int .i64 (S16 : Nat)] 48) (show w.heap.size ≤ w.heap.size + 1 by omega)
  have s9 := putB_same (.cells #[.int .i64 3, .int .u64 (AF : Nat), .bool r, .bool false, .bool x, .int .i64 (S16 : Nat)] 48) z2
  generalize putB _ (w.heap.size + 1) (.cells #[.int .i64 3, .int .u64 (AF : Nat), .bool r, .bool false, .bool x, .int .i64 (S16 : Nat)] 48) = W9 at *
  obtain ⟨k9, f9, z9⟩ := of_block s9
  refine bodyPost_ret (by simp [results, Try.results23, go_sem, k9]; try rfl) rfl ?_
  exact ⟨by rw [HV.out], ho⟩
set_option maxHeartbeats 4000000 in
set_option maxRecDepth 100000 in
theorem near_p2false (st lv k : Int) (a : Nat) (r x : Bool) (s : Int) (w : World) (TI SP K0 : Int) (A0 S16 : Nat) (V : Value)
    (hT : ∀ w : World, Calls Try.prog 51 #[.int .i64 st] w (RetX w (.int .u64 TI))) (hsn : ¬ TI = 0)
    (hSp : ∀ w : World, Calls Try.prog 52 #[.int .i64 lv] w (RetB w (.int .u64 SP))) (hspn : ¬ SP = 0)
    (hkw : (wrap64 (k.tmod 4 + 4)).tmod 4 = 2) (hs16 : bits .and .i64 s 15 = ((S16 : Nat) : Int)) (hAT : (a : Int) % TI = ((A0 : Nat) : Int)) (hl0 : ¬ lv = 0) (hl3 : ¬ lv = 3) (AF : Nat) (HAF : Hid (IntKind.u64.wrap ((A0 : Int) - (A0 : Int) % SP) = ((AF : Nat) : Int))) (HV : Hid (V = .agg #[.int .i64 2, .int .u64 (AF : Nat), .bool r, .bool false, .bool x, .int .i64 (S16 : Nat)])) :
    Calls Try.prog 23 #[.int .i64 st, .int .i64 lv, descV k a r false x s] w (RetB w V) := by
  go_enter Try.func23, Try.ntmps23
  go_upto_region 1 with (fail)
  have hH := holds_new #[.int .i64 0, .int .u64 0, .bool false, .bool false, .bool false, .int .i64 0] 48 (holds_new #[.int .i64 k, .int .u64 (a : Nat), .bool r, .bool false, .bool x, .int .i64 s] 48 (holds_nil w))
  simp only [World.size_alloc] at hH
  generalize (w.alloc (.cells #[.int .i64 k, .int .u64 (a : Nat), .bool r, .bool false, .bool x, .int .i64 s] 48)).alloc (.cells #[.int .i64 0, .int .u64 0, .bool false, .bool false, .bool false, .int .i64 0] 48) = W at *
  obtain ⟨s0, s1, s2, _⟩ := id hH
  obtain ⟨k1, f1, z1⟩ := of_block s1
  obtain ⟨k2, f2, z2⟩ := of_block s2
  have cA : ∀ i, W.drew.cell? ⟨w.heap.size, i, none⟩ = (#[.int .i64 k, .int .u64 (a : Nat), .bool r, .bool false, .bool x, .int .i64 s] : Array Value)[i]? := k2
  have cB : ∀ i, (W.drew.alloc (.cells #[.int .i64 0, .int .u64 0, .bool false, .bool false, .bool false, .int .i64 0] 48)).cell? ⟨w.heap.size, i, none⟩ = (#[.int .i64 k, .int .u64 (a : Nat), .bool r, .bool false, .bool x, .int .i64 s] : Array Value)[i]? := fun i =>
    cell_of (keep_old (old_alloc (old_refl _) _) (show W.drew.heap[w.heap.size]? = _ from s2)) i
  refine wp_region_staged (S := StageS 16 W.drew (W.drew.alloc (.cells #[.int .i64 0, .int .u64 0, .bool false, .bool false, .bool false, .int .i64 0] 48))) 17 (by kernel_rfl) (by kernel_rfl) (by kernel_rfl) (by decide) rfl ?_
  (apply walkedS_cons; (focus (intro l9 wS hz hn hS; have hS9 := stage_other 0 (by decide) hS; have c9 := fun i => stage_cell hS (cA i) (cB i); clear hS; go_wp2_with (fail); exact ⟨rfl, rfl, hS9⟩)); rfl; (try simp only [Act.put, List.setIfInBounds_toArray, List.set_cons_succ, List.set_cons_zero]))
  (apply walkedS_cons; (focus (intro l9 wS hz hn hS; have hS9 := stage_other 1 (by decide) hS; have c9 := fun i => stage_cell hS (cA i) (cB i); clear hS; go_wp2_with (fail); exact ⟨rfl, rfl, hS9⟩)); rfl; (try simp only [Act.put, List.setIfInBounds_toArray, List.set_cons_succ, List.set_cons_zero]))
  (apply walkedS_cons; (focus (intro l9 wS hz hn hS; have hS9 := stage_other 2 (by decide) hS; have c9 := fun i => stage_cell hS (cA i) (cB i); clear hS; go_wp2_with (fail); exact ⟨rfl, rfl, hS9⟩)); rfl; (try simp only [Act.put, List.setIfInBounds_toArray, List.set_cons_succ, List.set_cons_zero]))
  (apply walkedS_cons; (focus (intro l9 wS hz hn hS; have hS9 := stage_other 3 (by decide) hS; have c9 := fun i => stage_cell hS (cA i) (cB i); clear hS; go_wp2_with (fail); exact ⟨rfl, rfl, hS9⟩)); rfl; (try simp only [Act.put, List.setIfInBounds_toArray, List.set_cons_succ, List.set_cons_zero]))
  (apply walkedS_cons; (focus (intro l9 wS hz hn hS; have hS9 := stage_other 4 (by decide) hS; have c9 := fun i => stage_cell hS (cA i) (cB i); clear hS; go_wp2_with (fail); exact ⟨rfl, rfl, hS9⟩)); rfl; (try simp only [Act.put, List.setIfInBounds_toArray, List.set_cons_succ, List.set_cons_zero]))
  (apply walkedS_cons; (focus (intro l9 wS hz hn hS; have hS9 := stage_other 5 (by decide) hS; have c9 := fun i => stage_cell hS (cA i) (cB i); clear hS; go_wp2_with (fail); exact ⟨rfl, rfl, hS9⟩)); rfl; (try simp only [Act.put, List.setIfInBounds_toArray, List.set_cons_succ, List.set_cons_zero]))
  (apply walkedS_cons; (focus (intro l9 wS hz hn hS; have hS9 := stage_other 6 (by decide) hS; have c9 := fun i => stage_cell hS (cA i) (cB i); clear hS; go_wp2_with (fail); exact ⟨rfl, rfl, hS9⟩)); rfl; (try simp only [Act.put, List.setIfInBounds_toArray, List.set_cons_succ, List.set_cons_zero]))
  (apply walkedS_cons; (focus (intro l9 wS hz hn hS; have hS9 := stage_other 7 (by decide) hS; have c9 := fun i => stage_cell hS (cA i) (cB i); clear hS; go_wp2_with (fail); exact ⟨rfl, rfl, hS9⟩)); rfl; (try simp only [Act.put, List.setIfInBounds_toArray, List.set_cons_succ, List.set_cons_zero]))
  (apply walkedS_cons; (focus (intro l9 wS hz hn hS; have hS9 := stage_other 8 (by decide) hS; have c9 := fun i => stage_cell hS (cA i) (cB i); clear hS; go_wp2_with (((go_at_call 51); (with_reducible refine (hT _).mono ?_); rintro e w9 ⟨rfl, rfl⟩)); exact ⟨rfl, rfl, hS9⟩)); rfl; (try simp only [Act.put, List.setIfInBounds_toArray, List.set_cons_succ, List.set_cons_zero]))
  (apply walkedS_cons; (focus (intro l9 wS hz hn hS; have hS9 := stage_other 9 (by decide) hS; have c9 := fun i => stage_cell hS (cA i) (cB i); clear hS; go_wp2_with (fail); exact ⟨rfl, rfl, hS9⟩)); rfl; (try simp only [Act.put, List.setIfInBounds_toArray, List.set_cons_succ, List.set_cons_zero]))
  (apply walkedS_cons; (focus (intro l9 wS hz hn hS; have hS9 := stage_other 10 (by decide) hS; have c9 := fun i => stage_cell hS (cA i) (cB i); clear hS; go_wp2_with (fail); exact ⟨rfl, rfl, hS9⟩)); rfl; (try simp only [Act.put, List.setIfInBounds_toArray, List.set_cons_succ, List.set_cons_zero]))
  (apply walkedS_cons; (focus (intro l9 wS hz hn hS; have hS9 := stage_other 11 (by decide) hS; have c9 := fun i => stage_cell hS (cA i) (cB i); clear hS; go_wp2_with (fail); exact ⟨rfl, rfl, hS9⟩)); rfl; (try simp only [Act.put, List.setIfInBounds_toArray, List.set_cons_succ, List.set_cons_zero]))
  (apply walkedS_cons; (focus (intro l9 wS hz hn hS; have hS9 := stage_other 12 (by decide) hS; have c9 := fun i => stage_cell hS (cA i) (cB i); clear hS; go_wp2_with (fail); exact ⟨rfl, rfl, hS9⟩)); rfl; (try simp only [Act.put, List.setIfInBounds_toArray, List.set_cons_succ, List.set_cons_zero]))
  (apply walkedS_cons; (focus (intro l9 wS hz hn hS; have hS9 := stage_other 13 (by decide) hS; have c9 := fun i => stage_cell hS (cA i) (cB i); clear hS; go_wp2_with (fail); exact ⟨rfl, rfl, hS9⟩)); rfl; (try simp only [Act.put, List.setIfInBounds_toArray, List.set_cons_succ, List.set_cons_zero]))
  (apply walkedS_cons; (focus (intro l9 wS hz hn hS; have hS9 := stage_other 14 (by decide) hS; have c9 := fun i => stage_cell hS (cA i) (cB i); clear hS; go_wp2_with (fail); exact ⟨rfl, rfl, hS9⟩)); rfl; (try simp only [Act.put, List.setIfInBounds_toArray, List.set_cons_succ, List.set_cons_zero]))
  (apply walkedS_cons; (focus (intro l9 wS hz hn hS; have hS9 := stage_other 15 (by decide) hS; have c9 := fun i => stage_cell hS (cA i) (cB i); clear hS; go_wp2_with (fail); exact ⟨rfl, rfl, hS9⟩)); rfl; (try simp only [Act.put, List.setIfInBounds_toArray, List.set_cons_succ, List.set_cons_zero]))
  apply walkedS_cons
  · intro l9 wS hz hn hS
    obtain rfl := stage_before hn hS
    clear hS
    go_wp2
    exact ⟨rfl, rfl, stage_done hz (by decide)⟩
  · rfl
  apply walkedS_nil
  intro l9 wS hz hall hS
  obtain rfl := stage_after (hall 16 (by decide)) hS
  clear hS
  show wpList _ _ _ [_] _ _
  go_upto_region 2 with (fail)
  have hzp : w.heap.size + 1 < W.heap.size := z1
  have hH := holds_drew (holds_new #[.int .i64 2, .int .u64 (A0 : Nat), .bool r, .bool false, .bool x, .int .i64 (S16 : Nat)] 48 hH)
  generalize (W.alloc (.cells #[.int .i64 2, .int .u64 (A0 : Nat), .bool r, .bool false, .bool x, .int .i64 (S16 : Nat)] 48)).drew = W2 at *
  clear s0 s1 s2 k1 f1 z1 k2 f2 z2 cA cB hall
  generalize W.heap.size = p at *
  obtain ⟨s0, s1, s2, s3, _⟩ := id hH
  obtain ⟨k1, f1, z1⟩ := of_block s1
  obtain ⟨k2, f2, z2⟩ := of_block s2
  obtain ⟨k3, f3, z3⟩ := of_block s3
  go_upto_region 8 with (fail)
  go_upto_region 11 with (fail)
  rw [set_of s1]
  have hH := holds_top #[.int .i64 2, .int .u64 (A0 : Nat), .bool r, .bool false, .bool x, .int .i64 (S16 : Nat)] hH (by omega) (by intro y hy; simp only [List.mem_cons, List.not_mem_nil, or_false] at hy; rcases hy with rfl | rfl <;> simp only [ne_eq] <;> omega)
  generalize hW6 : putB _ p _ = W6
  replace hH : Holds w ((p, #[.int .i64 2, .int .u64 (A0 : Nat), .bool r, .bool false, .bool x, .int .i64 (S16 : Nat)], 48) :: [(w.heap.size + 1, #[.int .i64 0, .int .u64 0, .bool false, .bool false, .bool false, .int .i64 0], 48), (w.heap.size, #[.int .i64 k, .int .u64 (a : Nat), .bool r, .bool false, .bool x, .int .i64 s], 48)]) W6 := by rw [← hW6]; exact hH
  clear hW6
  clear s0 s1 s2 s3 k1 f1 z1 k2 f2 z2 k3 f3 z3
  obtain ⟨s0, s1, s2, s3, _⟩ := id hH
  obtain ⟨k1, f1, z1⟩ := of_block s1
  obtain ⟨k2, f2, z2⟩ := of_block s2
  obtain ⟨k3, f3, z3⟩ := of_block s3
  go_upto_region 14 with (first | ((go_at_call 52); (with_reducible refine (hSp _).mono ?_); rintro e w9 ⟨rfl, hb9⟩; have hH := holds_old hH hb9; obtain ⟨s0, s1, s2, s3, _⟩ := id hH; obtain ⟨k1, f1, z1⟩ := of_block s1; obtain ⟨k2, f2, z2⟩ := of_block s2; obtain ⟨k3, f3, z3⟩ := of_block s3))
  refine wp_region_tail (S := Holds w ((p, #[.int .i64 2, .int .u64 (A0 : Nat), .bool r, .bool false, .bool x, .int .i64 (S16 : Nat)], 48) :: [(w.heap.size + 1, #[.int .i64 0, .int .u64 0, .bool false, .bool false, .bool false, .int .i64 0], 48), (w.heap.size, #[.int .i64 k, .int .u64 (a : Nat), .bool r, .bool false, .bool x, .int .i64 s], 48)])) 8 (by kernel_rfl) (by kernel_rfl) (by kernel_rfl) (by decide) (holds_drew hH) ?_
  repeat (apply walked_cons; (first | exact gives_and rfl rfl rfl rfl | exact gives_or rfl rfl rfl rfl | (focus (intro wS hS; obtain ⟨s0, s1, s2, s3, _⟩ := id hS; obtain ⟨k1, f1, z1⟩ := of_block s1; obtain ⟨k2, f2, z2⟩ := of_block s2; obtain ⟨k3, f3, z3⟩ := of_block s3; go_wp2_with (fail); (first | exact ⟨rfl, rfl, hS⟩ | exact ⟨rfl, rfl, holds_old hS hb9⟩); done)) | (focus (apply gives_guard; (focus (first | exact wanted_yes rfl rfl rfl | exact wanted_no rfl rfl rfl | exact wanted_yes2 rfl rfl rfl | exact wanted_no2 rfl rfl rfl)); (focus (intro hx9; (try simp only [Bool.not_eq_true', Bool.and_eq_true, Bool.not_not] at hx9); (try obtain ⟨hx9, hy9⟩ := hx9); (try subst hy9); (try subst hx9); (first | exact gives_and rfl rfl rfl rfl | exact gives_or rfl rfl rfl rfl | (intro wS hS; obtain ⟨s0, s1, s2, s3, _⟩ := id hS; obtain ⟨k1, f1, z1⟩ := of_block s1; obtain ⟨k2, f2, z2⟩ := of_block s2; obtain ⟨k3, f3, z3⟩ := of_block s3; go_wp2_with (fail); (first | exact ⟨rfl, rfl, hS⟩ | exact ⟨rfl, rfl, holds_old hS hb9⟩); done))))))); rfl; (try simp only [Act.put, List.setIfInBounds_toArray, List.set_cons_succ, List.set_cons_zero]))
  apply walked_nil
  intro wS hH
  obtain ⟨s0, s1, s2, s3, _⟩ := id hH
  obtain ⟨k1, f1, z1⟩ := of_block s1
  obtain ⟨k2, f2, z2⟩ := of_block s2
  obtain ⟨k3, f3, z3⟩ := of_block s3
  show wpList _ _ _ [_] _ _
  go_upto_region 15 with (fail)
  rw [HAF.out]
  rw [set_of s1]
  have hH := holds_top #[.int .i64 2, .int .u64 (AF : Nat), .bool r, .bool false, .bool x, .int .i64 (S16 : Nat)] hH (by omega) (by intro y hy; simp only [List.mem_cons, List.not_mem_nil, or_false] at hy; rcases hy with rfl | rfl <;> simp only [ne_eq] <;> omega)
  generalize hW6 : putB _ p _ = W6
  replace hH : Holds w ((p, #[.int .i64 2, .int .u64 (AF : Nat), .bool r, .bool false, .bool x, .int .i64 (S16 : Nat)], 48) :: [(w.heap.size + 1, #[.int .i64 0, .int .u64 0, .bool false, .bool false, .bool false, .int .i64 0], 48), (w.heap.size, #[.int .i64 k, .int .u64 (a : Nat), .bool r, .bool false, .bool x, .int .i64 s], 48)]) W6 := by rw [← hW6]; exact hH
  clear hW6
  clear s0 s1 s2 s3 k1 f1 z1 k2 f2 z2 k3 f3 z3
  obtain ⟨s0, s1, s2, s3, _⟩ := id hH
  obtain ⟨k1, f1, z1⟩ := of_block s1
  obtain ⟨k2, f2, z2⟩ := of_block s2
  obtain ⟨k3, f3, z3⟩ := of_block s3
  go_wp2
  rw [six_set s2 rfl]
  have ho := old_put hH.1 (.cells #[.int .i64 2, .int .u64 (AF : Nat), .bool r, .bool false, .bool x, .int .i64 (S16 : Nat)] 48) (show w.heap.size ≤ w.heap.size + 1 by omega)
  have s9 := putB_same (.cells #[.int .i64 2, .int .u64 (AF : Nat), .bool r, .bool false, .bool x, .int .i64 (S16 : Nat)] 48) z2
  generalize putB _ (w.heap.size + 1) (.cells #[.int .i64 2, .int .u64 (AF : Nat), .bool r, .bool false, .bool x, .int .i64 (S16 : Nat)] 48) = W9 at *
  obtain ⟨k9, f9, z9⟩ := of_block s9
  refine bodyPost_ret (by simp [results, Try.results23, go_sem, k9]; try rfl) rfl ?_
  exact ⟨by rw [HV.out], ho⟩
set_option maxHeartbeats 4000000 in
set_option maxRecDepth 100000 in
theorem near_p1a (st k : Int) (a : Nat) (r wr x : Bool) (s : Int) (w : World) (TI SP K0 : Int) (A0 S16 : Nat) (V : Value)
    (hT : ∀ w : World, Calls Try.prog 51 #[.int .i64 st] w (RetX w (.int .u64 TI))) (hsn : ¬ TI = 0)
    (hSp : ∀ w : World, Calls Try.prog 52 #[.int .i64 0] w (RetB w (.int .u64 SP))) (hspn : ¬ SP = 0)
    (hkw : (wrap64 (k.tmod 4 + 4)).tmod 4 = K0) (hs16 : bits .and .i64 s 15 = ((S16 : Nat) : Int)) (hAT : (a : Int) % TI = ((A0 : Nat) : Int)) (hk0 : ¬ K0 = 0) (AF : Nat) (HAF : Hid (IntKind.u64.wrap ((A0 : Int) - (A0 : Int) % 4096) = ((AF : Nat) : Int))) (HV : Hid (V = .agg #[.int .i64 1, .int .u64 (AF : Nat), .bool false, .bool false, .bool false, .int .i64 (S16 : Nat)])) :
    Calls Try.prog 23 #[.int .i64 st, .int .i64 0, descV k a r wr x s] w (RetB w V) := by
  go_enter Try.func23, Try.ntmps23
  go_upto_region 1 with (fail)
  have hH := holds_new #[.int .i64 0, .int .u64 0, .bool false, .bool false, .bool false, .int .i64 0] 48 (holds_new #[.int .i64 k, .int .u64 (a : Nat), .bool r, .bool wr, .bool x, .int .i64 s] 48 (holds_nil w))
  simp only [World.size_alloc] at hH
  generalize (w.alloc (.cells #[.int .i64 k, .int .u64 (a : Nat), .bool r, .bool wr, .bool x, .int .i64 s] 48)).alloc (.cells #[.int .i64 0, .int .u64 0, .bool false, .bool false, .bool false, .int .i64 0] 48) = W at *
  obtain ⟨s0, s1, s2, _⟩ := id hH
  obtain ⟨k1, f1, z1⟩ := of_block s1
  obtain ⟨k2, f2, z2⟩ := of_block s2
  have cA : ∀ i, W.drew.cell? ⟨w.heap.size, i, none⟩ = (#[.int .i64 k, .int .u64 (a : Nat), .bool r, .bool wr, .bool x, .int .i64 s] : Array Value)[i]? := k2
  have cB : ∀ i, (W.drew.alloc (.cells #[.int .i64 0, .int .u64 0, .bool false, .bool false, .bool false, .int .i64 0] 48)).cell? ⟨w.heap.size, i, none⟩ = (#[.int .i64 k, .int .u64 (a : Nat), .bool r, .bool wr, .bool x, .int .i64 s] : Array Value)[i]? := fun i =>
    cell_of (keep_old (old_alloc (old_refl _) _) (show W.drew.heap[w.heap.size]? = _ from s2)) i
  refine wp_region_staged (S := StageS 16 W.drew (W.drew.alloc (.cells #[.int .i64 0, .int .u64 0, .bool false, .bool false, .bool false, .int .i64 0] 48))) 17 (by kernel_rfl) (by kernel_rfl) (by kernel_rfl) (by decide) rfl ?_
  (apply walkedS_cons; (focus (intro l9 wS hz hn hS; have hS9 := stage_other 0 (by decide) hS; have c9 := fun i => stage_cell hS (cA i) (cB i); clear hS; go_wp2_with (fail); exact ⟨rfl, rfl, hS9⟩)); rfl; (try simp only [Act.put, List.setIfInBounds_toArray, List.set_cons_succ, List.set_cons_zero]))
  (apply walkedS_cons; (focus (intro l9 wS hz hn hS; have hS9 := stage_other 1 (by decide) hS; have c9 := fun i => stage_cell hS (cA i) (cB i); clear hS; go_wp2_with (fail); exact ⟨rfl, rfl, hS9⟩)); rfl; (try simp only [Act.put, List.setIfInBounds_toArray, List.set_cons_succ, List.set_cons_zero]))
  (apply walkedS_cons; (focus (intro l9 wS hz hn hS; have hS9 := stage_other 2 (by decide) hS; have c9 := fun i => stage_cell hS (cA i) (cB i); clear hS; go_wp2_with (fail); exact ⟨rfl, rfl, hS9⟩)); rfl; (try simp only [Act.put, List.setIfInBounds_toArray, List.set_cons_succ, List.set_cons_zero]))
  (apply walkedS_cons; (focus (intro l9 wS hz hn hS; have hS9 := stage_other 3 (by decide) hS; have c9 := fun i => stage_cell hS (cA i) (cB i); clear hS; go_wp2_with (fail); exact ⟨rfl, rfl, hS9⟩)); rfl; (try simp only [Act.put, List.setIfInBounds_toArray, List.set_cons_succ, List.set_cons_zero]))
  (apply walkedS_cons; (focus (intro l9 wS hz hn hS; have hS9 := stage_other 4 (by decide) hS; have c9 := fun i => stage_cell hS (cA i) (cB i); clear hS; go_wp2_with (fail); exact ⟨rfl, rfl, hS9⟩)); rfl; (try simp only [Act.put, List.setIfInBounds_toArray, List.set_cons_succ, List.set_cons_zero]))
  (apply walkedS_cons; (focus (intro l9 wS hz hn hS; have hS9 := stage_other 5 (by decide) hS; have c9 := fun i => stage_cell hS (cA i) (cB i); clear hS; go_wp2_with (fail); exact ⟨rfl, rfl, hS9⟩)); rfl; (try simp only [Act.put, List.setIfInBounds_toArray, List.set_cons_succ, List.set_cons_zero]))
  (apply walkedS_cons; (focus (intro l9 wS hz hn hS; have hS9 := stage_other 6 (by decide) hS; have c9 := fun i => stage_cell hS (cA i) (cB i); clear hS; go_wp2_with (fail); exact ⟨rfl, rfl, hS9⟩)); rfl; (try simp only [Act.put, List.setIfInBounds_toArray, List.set_cons_succ, List.set_cons_zero]))
  (apply walkedS_cons; (focus (intro l9 wS hz hn hS; have hS9 := stage_other 7 (by decide) hS; have c9 := fun i => stage_cell hS (cA i) (cB i); clear hS; go_wp2_with (fail); exact ⟨rfl, rfl, hS9⟩)); rfl; (try simp only [Act.put, List.setIfInBounds_toArray, List.set_cons_succ, List.set_cons_zero]))
  (apply walkedS_cons; (focus (intro l9 wS hz hn hS; have hS9 := stage_other 8 (by decide) hS; have c9 := fun i => stage_cell hS (cA i) (cB i); clear hS; go_wp2_with (((go_at_call 51); (with_reducible refine (hT _).mono ?_); rintro e w9 ⟨rfl, rfl⟩)); exact ⟨rfl, rfl, hS9⟩)); rfl; (try simp only [Act.put, List.setIfInBounds_toArray, List.set_cons_succ, List.set_cons_zero]))
  (apply walkedS_cons; (focus (intro l9 wS hz hn hS; have hS9 := stage_other 9 (by decide) hS; have c9 := fun i => stage_cell hS (cA i) (cB i); clear hS; go_wp2_with (fail); exact ⟨rfl, rfl, hS9⟩)); rfl; (try simp only [Act.put, List.setIfInBounds_toArray, List.set_cons_succ, List.set_cons_zero]))
  (apply walkedS_cons; (focus (intro l9 wS hz hn hS; have hS9 := stage_other 10 (by decide) hS; have c9 := fun i => stage_cell hS (cA i) (cB i); clear hS; go_wp2_with (fail); exact ⟨rfl, rfl, hS9⟩)); rfl; (try simp only [Act.put, List.setIfInBounds_toArray, List.set_cons_succ, List.set_cons_zero]))
  (apply walkedS_cons; (focus (intro l9 wS hz hn hS; have hS9 := stage_other 11 (by decide) hS; have c9 := fun i => stage_cell hS (cA i) (cB i); clear hS; go_wp2_with (fail); exact ⟨rfl, rfl, hS9⟩)); rfl; (try simp only [Act.put, List.setIfInBounds_toArray, List.set_cons_succ, List.set_cons_zero]))
  (apply walkedS_cons; (focus (intro l9 wS hz hn hS; have hS9 := stage_other 12 (by decide) hS; have c9 := fun i => stage_cell hS (cA i) (cB i); clear hS; go_wp2_with (fail); exact ⟨rfl, rfl, hS9⟩)); rfl; (try simp only [Act.put, List.setIfInBounds_toArray, List.set_cons_succ, List.set_cons_zero]))
  (apply walkedS_cons; (focus (intro l9 wS hz hn hS; have hS9 := stage_other 13 (by decide) hS; have c9 := fun i => stage_cell hS (cA i) (cB i); clear hS; go_wp2_with (fail); exact ⟨rfl, rfl, hS9⟩)); rfl; (try simp only [Act.put, List.setIfInBounds_toArray, List.set_cons_succ, List.set_cons_zero]))
  (apply walkedS_cons; (focus (intro l9 wS hz hn hS; have hS9 := stage_other 14 (by decide) hS; have c9 := fun i => stage_cell hS (cA i) (cB i); clear hS; go_wp2_with (fail); exact ⟨rfl, rfl, hS9⟩)); rfl; (try simp only [Act.put, List.setIfInBounds_toArray, List.set_cons_succ, List.set_cons_zero]))
  (apply walkedS_cons; (focus (intro l9 wS hz hn hS; have hS9 := stage_other 15 (by decide) hS; have c9 := fun i => stage_cell hS (cA i) (cB i); clear hS; go_wp2_with (fail); exact ⟨rfl, rfl, hS9⟩)); rfl; (try simp only [Act.put, List.setIfInBounds_toArray, List.set_cons_succ, List.set_cons_zero]))
  apply walkedS_cons
  · intro l9 wS hz hn hS
    obtain rfl := stage_before hn hS
    clear hS
    go_wp2
    exact ⟨rfl, rfl, stage_done hz (by decide)⟩
  · rfl
  apply walkedS_nil
  intro l9 wS hz hall hS
  obtain rfl := stage_after (hall 16 (by decide)) hS
  clear hS
  show wpList _ _ _ [_] _ _
  go_upto_region 2 with (fail)
  have hzp : w.heap.size + 1 < W.heap.size := z1
  have hH := holds_drew (holds_new #[.int .i64 K0, .int .u64 (A0 : Nat), .bool r, .bool wr, .bool x, .int .i64 (S16 : Nat)] 48 hH)
  generalize (W.alloc (.cells #[.int .i64 K0, .int .u64 (A0 : Nat), .bool r, .bool wr, .bool x, .int .i64 (S16 : Nat)] 48)).drew = W2 at *
  clear s0 s1 s2 k1 f1 z1 k2 f2 z2 cA cB hall
  generalize W.heap.size = p at *
  obtain ⟨s0, s1, s2, s3, _⟩ := id hH
  obtain ⟨k1, f1, z1⟩ := of_block s1
  obtain ⟨k2, f2, z2⟩ := of_block s2
  obtain ⟨k3, f3, z3⟩ := of_block s3
  go_upto_region 8 with (fail)
  rw [set_of s1]
  have hH := holds_top #[.int .i64 1, .int .u64 (A0 : Nat), .bool r, .bool wr, .bool x, .int .i64 (S16 : Nat)] hH (by omega) (by intro y hy; simp only [List.mem_cons, List.not_mem_nil, or_false] at hy; rcases hy with rfl | rfl <;> simp only [ne_eq] <;> omega)
  generalize hW6 : putB _ p _ = W6
  replace hH : Holds w ((p, #[.int .i64 1, .int .u64 (A0 : Nat), .bool r, .bool wr, .bool x, .int .i64 (S16 : Nat)], 48) :: [(w.heap.size + 1, #[.int .i64 0, .int .u64 0, .bool false, .bool false, .bool false, .int .i64 0], 48), (w.heap.size, #[.int .i64 k, .int .u64 (a : Nat), .bool r, .bool wr, .bool x, .int .i64 s], 48)]) W6 := by rw [← hW6]; exact hH
  clear hW6
  clear s0 s1 s2 s3 k1 f1 z1 k2 f2 z2 k3 f3 z3
  obtain ⟨s0, s1, s2, s3, _⟩ := id hH
  obtain ⟨k1, f1, z1⟩ := of_block s1
  obtain ⟨k2, f2, z2⟩ := of_block s2
  obtain ⟨k3, f3, z3⟩ := of_block s3
  go_upto_region 10 with (fail)
  rw [set_of s1, putB_set_same _ _ _ _ _ z1, putB_set_same _ _ _ _ _ z1]
  have hH := holds_top #[.int .i64 1, .int .u64 (A0 : Nat), .bool false, .bool false, .bool false, .int .i64 (S16 : Nat)] hH (by omega) (by intro y hy; simp only [List.mem_cons, List.not_mem_nil, or_false] at hy; rcases hy with rfl | rfl <;> simp only [ne_eq] <;> omega)
  generalize hW6 : putB _ p _ = W6
  replace hH : Holds w ((p, #[.int .i64 1, .int .u64 (A0 : Nat), .bool false, .bool false, .bool false, .int .i64 (S16 : Nat)], 48) :: [(w.heap.size + 1, #[.int .i64 0, .int .u64 0, .bool false, .bool false, .bool false, .int .i64 0], 48), (w.heap.size, #[.int .i64 k, .int .u64 (a : Nat), .bool r, .bool wr, .bool x, .int .i64 s], 48)]) W6 := by rw [← hW6]; exact hH
  clear hW6
  clear s0 s1 s2 s3 k1 f1 z1 k2 f2 z2 k3 f3 z3
  obtain ⟨s0, s1, s2, s3, _⟩ := id hH
  obtain ⟨k1, f1, z1⟩ := of_block s1
  obtain ⟨k2, f2, z2⟩ := of_block s2
  obtain ⟨k3, f3, z3⟩ := of_block s3
  go_upto_region 11 with (fail)
  rw [set_of s1]
  have hH := holds_top #[.int .i64 1, .int .u64 (A0 : Nat), .bool false, .bool false, .bool false, .int .i64 (S16 : Nat)] hH (by omega) (by intro y hy; simp only [List.mem_cons, List.not_mem_nil, or_false] at hy; rcases hy with rfl | rfl <;> simp only [ne_eq] <;> omega)
  generalize hW6 : putB _ p _ = W6
  replace hH : Holds w ((p, #[.int .i64 1, .int .u64 (A0 : Nat), .bool false, .bool false, .bool false, .int .i64 (S16 : Nat)], 48) :: [(w.heap.size + 1, #[.int .i64 0, .int .u64 0, .bool false, .bool false, .bool false, .int .i64 0], 48), (w.heap.size, #[.int .i64 k, .int .u64 (a : Nat), .bool r, .bool wr, .bool x, .int .i64 s], 48)]) W6 := by rw [← hW6]; exact hH
  clear hW6
  clear s0 s1 s2 s3 k1 f1 z1 k2 f2 z2 k3 f3 z3
  obtain ⟨s0, s1, s2, s3, _⟩ := id hH
  obtain ⟨k1, f1, z1⟩ := of_block s1
  obtain ⟨k2, f2, z2⟩ := of_block s2
  obtain ⟨k3, f3, z3⟩ := of_block s3
  go_upto_region 14 with (first | ((go_at_call 52); (with_reducible refine (hSp _).mono ?_); rintro e w9 ⟨rfl, hb9⟩; have hH := holds_old hH hb9; obtain ⟨s0, s1, s2, s3, _⟩ := id hH; obtain ⟨k1, f1, z1⟩ := of_block s1; obtain ⟨k2, f2, z2⟩ := of_block s2; obtain ⟨k3, f3, z3⟩ := of_block s3))
  refine wp_region_tail (S := Holds w ((p, #[.int .i64 1, .int .u64 (A0 : Nat), .bool false, .bool false, .bool false, .int .i64 (S16 : Nat)], 48) :: [(w.heap.size + 1, #[.int .i64 0, .int .u64 0, .bool false, .bool false, .bool false, .int .i64 0], 48), (w.heap.size, #[.int .i64 k, .int .u64 (a : Nat), .bool r, .bool wr, .bool x, .int .i64 s], 48)])) 8 (by kernel_rfl) (by kernel_rfl) (by kernel_rfl) (by decide) (holds_drew hH) ?_
  repeat (apply walked_cons; (first | exact gives_and rfl rfl rfl rfl | exact gives_or rfl rfl rfl rfl | (focus (intro wS hS; obtain ⟨s0, s1, s2, s3, _⟩ := id hS; obtain ⟨k1, f1, z1⟩ := of_block s1; obtain ⟨k2, f2, z2⟩ := of_block s2; obtain ⟨k3, f3, z3⟩ := of_block s3; go_wp2_with (fail); (first | exact ⟨rfl, rfl, hS⟩ | exact ⟨rfl, rfl, holds_old hS hb9⟩); done)) | (focus (apply gives_guard; (focus (first | exact wanted_yes rfl rfl rfl | exact wanted_no rfl rfl rfl | exact wanted_yes2 rfl rfl rfl | exact wanted_no2 rfl rfl rfl)); (focus (intro hx9; (try simp only [Bool.not_eq_true', Bool.and_eq_true, Bool.not_not] at hx9); (try obtain ⟨hx9, hy9⟩ := hx9); (try subst hy9); (try subst hx9); (first | exact gives_and rfl rfl rfl rfl | exact gives_or rfl rfl rfl rfl | (intro wS hS; obtain ⟨s0, s1, s2, s3, _⟩ := id hS; obtain ⟨k1, f1, z1⟩ := of_block s1; obtain ⟨k2, f2, z2⟩ := of_block s2; obtain ⟨k3, f3, z3⟩ := of_block s3; go_wp2_with (fail); (first | exact ⟨rfl, rfl, hS⟩ | exact ⟨rfl, rfl, holds_old hS hb9⟩); done))))))); rfl; (try simp only [Act.put, List.setIfInBounds_toArray, List.set_cons_succ, List.set_cons_zero]))
  apply walked_nil
  intro wS hH
  obtain ⟨s0, s1, s2, s3, _⟩ := id hH
  obtain ⟨k1, f1, z1⟩ := of_block s1
  obtain ⟨k2, f2, z2⟩ := of_block s2
  obtain ⟨k3, f3, z3⟩ := of_block s3
  show wpList _ _ _ [_] _ _
  go_upto_region 15 with (fail)
  rw [HAF.out]
  rw [set_of s1]
  have hH := holds_top #[.int .i64 1, .int .u64 (AF : Nat), .bool false, .bool false, .bool false, .int .i64 (S16 : Nat)] hH (by omega) (by intro y hy; simp only [List.mem_cons, List.not_mem_nil, or_false] at hy; rcases hy with rfl | rfl <;> simp only [ne_eq] <;> omega)
  generalize hW6 : putB _ p _ = W6
  replace hH : Holds w ((p, #[.int .i64 1, .int .u64 (AF : Nat), .bool false, .bool false, .bool false, .int .i64 (S16 : Nat)], 48) :: [(w.heap.size + 1, #[.int .i64 0, .int .u64 0, .bool false, .bool false, .bool false, .int .i64 0], 48), (w.heap.size, #[.int .i64 k, .int .u64 (a : Nat), .bool r, .bool wr, .bool x, .int .i64 s], 48)]) W6 := by rw [← hW6]; exact hH
  clear hW6
  clear s0 s1 s2 s3 k1 f1 z1 k2 f2 z2 k3 f3 z3
  obtain ⟨s0, s1, s2, s3, _⟩ := id hH
  obtain ⟨k1, f1, z1⟩ := of_block s1
  obtain ⟨k2, f2, z2⟩ := of_block s2
  obtain ⟨k3, f3, z3⟩ := of_block s3
  go_wp2
  rw [six_set s2 rfl]
  have ho := old_put hH.1 (.cells #[.int .i64 1, .int .u64 (AF : Nat), .bool false, .bool false, .bool false, .int .i64 (S16 : Nat)] 48) (show w.heap.size ≤ w.heap.size + 1 by omega)
  have s9 := putB_same (.cells #[.int .i64 1, .int .u64 (AF : Nat), .bool false, .bool false, .bool false, .int .i64 (S16 : Nat)] 48) z2
  generalize putB _ (w.heap.size + 1) (.cells #[.int .i64 1, .int .u64 (AF : Nat), .bool false, .bool false, .bool false, .int .i64 (S16 : Nat)] 48) = W9 at *
  obtain ⟨k9, f9, z9⟩ := of_block s9
  refine bodyPost_ret (by simp [results, Try.results23, go_sem, k9]; try rfl) rfl ?_
  exact ⟨by rw [HV.out], ho⟩
set_option maxHeartbeats 4000000 in
set_option maxRecDepth 100000 in
theorem near_p1b (st lv k : Int) (a : Nat) (r wr x : Bool) (s : Int) (w : World) (TI SP K0 : Int) (A0 S16 : Nat) (V : Value)
    (hT : ∀ w : World, Calls Try.prog 51 #[.int .i64 st] w (RetX w (.int .u64 TI))) (hsn : ¬ TI = 0)
    (hSp : ∀ w : World, Calls Try.prog 52 #[.int .i64 lv] w (RetB w (.int .u64 SP))) (hspn : ¬ SP = 0)
    (hkw : (wrap64 (k.tmod 4 + 4)).tmod 4 = 3) (hs16 : bits .and .i64 s 15 = ((S16 : Nat) : Int)) (hAT : (a : Int) % TI = ((A0 : Nat) : Int)) (hl0 : ¬ lv = 0) (hl3 : ¬ lv = 3) (AF : Nat) (HAF : Hid (IntKind.u64.wrap ((A0 : Int) - (A0 : Int) % 4096) = ((AF : Nat) : Int))) (HV : Hid (V = .agg #[.int .i64 1, .int .u64 (AF : Nat), .bool false, .bool false, .bool false, .int .i64 (S16 : Nat)])) :
    Calls Try.prog 23 #[.int .i64 st, .int .i64 lv, descV k a r wr x s] w (RetB w V) := by
  go_enter Try.func23, Try.ntmps23
  go_upto_region 1 with (fail)
  have hH := holds_new #[.int .i64 0, .int .u64 0, .bool false, .bool false, .bool false, .int .i64 0] 48 (holds_new #[.int .i64 k, .int .u64 (a : Nat), .bool r, .bool wr, .bool x, .int .i64 s] 48 (holds_nil w))
  simp only [World.size_alloc] at hH
  generalize (w.alloc (.cells #[.int .i64 k, .int .u64 (a : Nat), .bool r, .bool wr, .bool x, .int .i64 s] 48)).alloc (.cells #[.int .i64 0, .int .u64 0, .bool false, .bool false, .bool false, .int .i64 0] 48) = W at *
  obtain ⟨s0, s1, s2, _⟩ := id hH
  obtain ⟨k1, f1, z1⟩ := of_block s1
  obtain ⟨k2, f2, z2⟩ := of_block s2
  have cA : ∀ i, W.drew.cell? ⟨w.heap.size, i, none⟩ = (#[.int .i64 k, .int .u64 (a : Nat), .bool r, .bool wr, .bool x, .int .i64 s] : Array Value)[i]? := k2
  have cB : ∀ i, (W.drew.alloc (.cells #[.int .i64 0, .int .u64 0, .bool false, .bool false, .bool false, .int .i64 0] 48)).cell? ⟨w.heap.size, i, none⟩ = (#[.int .i64 k, .int .u64 (a : Nat), .bool r, .bool wr, .bool x, .int .i64 s] : Array Value)[i]? := fun i =>
    cell_of (keep_old (old_alloc (old_refl _) _) (show W.drew.heap[w.heap.size]? = _ from s2)) i
  refine wp_region_staged (S := StageS 16 W.drew (W.drew.alloc (.cells #[.int .i64 0, .int .u64 0, .bool false, .bool false, .bool false, .int .i64 0] 48))) 17 (by kernel_rfl) (by kernel_rfl) (by kernel_rfl) (by decide) rfl ?_
  (apply walkedS_cons; (focus (intro l9 wS hz hn hS; have hS9 := stage_other 0 (by decide) hS; have c9 := fun i => stage_cell hS (cA i) (cB i); clear hS; go_wp2_with (fail); exact ⟨rfl, rfl, hS9⟩)); rfl; (try simp only [Act.put, List.setIfInBounds_toArray, List.set_cons_succ, List.set_cons_zero]))
  (apply walkedS_cons; (focus (intro l9 wS hz hn hS; have hS9 := stage_other 1 (by decide) hS; have c9 := fun i => stage_cell hS (cA i) (cB i); clear hS; go_wp2_with (fail); exact ⟨rfl, rfl, hS9⟩)); rfl; (try simp only [Act.put, List.setIfInBounds_toArray, List.set_cons_succ, List.set_cons_zero]))
  (apply walkedS_cons; (focus (intro l9 wS hz hn hS; have hS9 := stage_other 2 (by decide) hS; have c9 := fun i => stage_cell hS (cA i) (cB i); clear hS; go_wp2_with (fail); exact ⟨rfl, rfl, hS9⟩)); rfl; (try simp only [Act.put, List.setIfInBounds_toArray, List.set_cons_succ, List.set_cons_zero]))
  (apply walkedS_cons; (focus (intro l9 wS hz hn hS; have hS9 := stage_other 3 (by decide) hS; have c9 := fun i => stage_cell hS (cA i) (cB i); clear hS; go_wp2_with (fail); exact ⟨rfl, rfl, hS9⟩)); rfl; (try simp only [Act.put, List.setIfInBounds_toArray, List.set_cons_succ, List.set_cons_zero]))
  (apply walkedS_cons; (focus (intro l9 wS hz hn hS; have hS9 := stage_other 4 (by decide) hS; have c9 := fun i => stage_cell hS (cA i) (cB i); clear hS; go_wp2_with (fail); exact ⟨rfl, rfl, hS9⟩)); rfl; (try simp only [Act.put, List.setIfInBounds_toArray, List.set_cons_succ, List.set_cons_zero]))
  (apply walkedS_cons; (focus (intro l9 wS hz hn hS; have hS9 := stage_other 5 (by decide) hS; have c9 := fun i => stage_cell hS (cA i) (cB i); clear hS; go_wp2_with (fail); exact ⟨rfl, rfl, hS9⟩)); rfl; (try simp only [Act.put, List.setIfInBounds_toArray, List.set_cons_succ, List.set_cons_zero]))
  (apply walkedS_cons; (focus (intro l9 wS hz hn hS; have hS9 := stage_other 6 (by decide) hS; have c9 := fun i => stage_cell hS (cA i) (cB i); clear hS; go_wp2_with (fail); exact ⟨rfl, rfl, hS9⟩)); rfl; (try simp only [Act.put, List.setIfInBounds_toArray, List.set_cons_succ, List.set_cons_zero]))
  (apply walkedS_cons; (focus (intro l9 wS hz hn hS; have hS9 := stage_other 7 (by decide) hS; have c9 := fun i => stage_cell hS (cA i) (cB i); clear hS; go_wp2_with (fail); exact ⟨rfl, rfl, hS9⟩)); rfl; (try simp only [Act.put, List.setIfInBounds_toArray, List.set_cons_succ, List.set_cons_zero]))
  (apply walkedS_cons; (focus (intro l9 wS hz hn hS; have hS9 := stage_other 8 (by decide) hS; have c9 := fun i => stage_cell hS (cA i) (cB i); clear hS; go_wp2_with (((go_at_call 51); (with_reducible refine (hT _).mono ?_); rintro e w9 ⟨rfl, rfl⟩)); exact ⟨rfl, rfl, hS9⟩)); rfl; (try simp only [Act.put, List.setIfInBounds_toArray, List.set_cons_succ, List.set_cons_zero]))
  (apply walkedS_cons; (focus (intro l9 wS hz hn hS; have hS9 := stage_other 9 (by decide) hS; have c9 := fun i => stage_cell hS (cA i) (cB i); clear hS; go_wp2_with (fail); exact ⟨rfl, rfl, hS9⟩)); rfl; (try simp only [Act.put, List.setIfInBounds_toArray, List.set_cons_succ, List.set_cons_zero]))
  (apply walkedS_cons; (focus (intro l9 wS hz hn hS; have hS9 := stage_other 10 (by decide) hS; have c9 := fun i => stage_cell hS (cA i) (cB i); clear hS; go_wp2_with (fail); exact ⟨rfl, rfl, hS9⟩)); rfl; (try simp only [Act.put, List.setIfInBounds_toArray, List.set_cons_succ, List.set_cons_zero]))
  (apply walkedS_cons; (focus (intro l9 wS hz hn hS; have hS9 := stage_other 11 (by decide) hS; have c9 := fun i => stage_cell hS (cA i) (cB i); clear hS; go_wp2_with (fail); exact ⟨rfl, rfl, hS9⟩)); rfl; (try simp only [Act.put, List.setIfInBounds_toArray, List.set_cons_succ, List.set_cons_zero]))
  (apply walkedS_cons; (focus (intro l9 wS hz hn hS; have hS9 := stage_other 12 (by decide) hS; have c9 := fun i => stage_cell hS (cA i) (cB i); clear hS; go_wp2_with (fail); exact ⟨rfl, rfl, hS9⟩)); rfl; (try simp only [Act.put, List.setIfInBounds_toArray, List.set_cons_succ, List.set_cons_zero]))
  (apply walkedS_cons; (focus (intro l9 wS hz hn hS; have hS9 := stage_other 13 (by decide) hS; have c9 := fun i => stage_cell hS (cA i) (cB i); clear hS; go_wp2_with (fail); exact ⟨rfl, rfl, hS9⟩)); rfl; (try simp only [Act.put, List.setIfInBounds_toArray, List.set_cons_succ, List.set_cons_zero]))
  (apply walkedS_cons; (focus (intro l9 wS hz hn hS; have hS9 := stage_other 14 (by decide) hS; have c9 := fun i => stage_cell hS (cA i) (cB i); clear hS; go_wp2_with (fail); exact ⟨rfl, rfl, hS9⟩)); rfl; (try simp only [Act.put, List.setIfInBounds_toArray, List.set_cons_succ, List.set_cons_zero]))
  (apply walkedS_cons; (focus (intro l9 wS hz hn hS; have hS9 := stage_other 15 (by decide) hS; have c9 := fun i => stage_cell hS (cA i) (cB i); clear hS; go_wp2_with (fail); exact ⟨rfl, rfl, hS9⟩)); rfl; (try simp only [Act.put, List.setIfInBounds_toArray, List.set_cons_succ, List.set_cons_zero]))
  apply walkedS_cons
  · intro l9 wS hz hn hS
    obtain rfl := stage_before hn hS
    clear hS
    go_wp2
    exact ⟨rfl, rfl, stage_done hz (by decide)⟩
  · rfl
  apply walkedS_nil
  intro l9 wS hz hall hS
  obtain rfl := stage_after (hall 16 (by decide)) hS
  clear hS
  show wpList _ _ _ [_] _ _
  go_upto_region 2 with (fail)
  have hzp : w.heap.size + 1 < W.heap.size := z1
  have hH := holds_drew (holds_new #[.int .i64 3, .int .u64 (A0 : Nat), .bool r, .bool wr, .bool x, .int .i64 (S16 : Nat)] 48 hH)
  generalize (W.alloc (.cells #[.int .i64 3, .int .u64 (A0 : Nat), .bool r, .bool wr, .bool x, .int .i64 (S16 : Nat)] 48)).drew = W2 at *
  clear s0 s1 s2 k1 f1 z1 k2 f2 z2 cA cB hall
  generalize W.heap.size = p at *
  obtain ⟨s0, s1, s2, s3, _⟩ := id hH
  obtain ⟨k1, f1, z1⟩ := of_block s1
  obtain ⟨k2, f2, z2⟩ := of_block s2
  obtain ⟨k3, f3, z3⟩ := of_block s3
  go_upto_region 8 with (fail)
  rw [set_of s1]
  have hH := holds_top #[.int .i64 1, .int .u64 (A0 : Nat), .bool r, .bool wr, .bool x, .int .i64 (S16 : Nat)] hH (by omega) (by intro y hy; simp only [List.mem_cons, List.not_mem_nil, or_false] at hy; rcases hy with rfl | rfl <;> simp only [ne_eq] <;> omega)
  generalize hW6 : putB _ p _ = W6
  replace hH : Holds w ((p, #[.int .i64 1, .int .u64 (A0 : Nat), .bool r, .bool wr, .bool x, .int .i64 (S16 : Nat)], 48) :: [(w.heap.size + 1, #[.int .i64 0, .int .u64 0, .bool false, .bool false, .bool false, .int .i64 0], 48), (w.heap.size, #[.int .i64 k, .int .u64 (a : Nat), .bool r, .bool wr, .bool x, .int .i64 s], 48)]) W6 := by rw [← hW6]; exact hH
  clear hW6
  clear s0 s1 s2 s3 k1 f1 z1 k2 f2 z2 k3 f3 z3
  obtain ⟨s0, s1, s2, s3, _⟩ := id hH
  obtain ⟨k1, f1, z1⟩ := of_block s1
  obtain ⟨k2, f2, z2⟩ := of_block s2
  obtain ⟨k3, f3, z3⟩ := of_block s3
  go_upto_region 10 with (fail)
  rw [set_of s1, putB_set_same _ _ _ _ _ z1, putB_set_same _ _ _ _ _ z1]
  have hH := holds_top #[.int .i64 1, .int .u64 (A0 : Nat), .bool false, .bool false, .bool false, .int .i64 (S16 : Nat)] hH (by omega) (by intro y hy; simp only [List.mem_cons, List.not_mem_nil, or_false] at hy; rcases hy with rfl | rfl <;> simp only [ne_eq] <;> omega)
  generalize hW6 : putB _ p _ = W6
  replace hH : Holds w ((p, #[.int .i64 1, .int .u64 (A0 : Nat), .bool false, .bool false, .bool false, .int .i64 (S16 : Nat)], 48) :: [(w.heap.size + 1, #[.int .i64 0, .int .u64 0, .bool false, .bool false, .bool false, .int .i64 0], 48), (w.heap.size, #[.int .i64 k, .int .u64 (a : Nat), .bool r, .bool wr, .bool x, .int .i64 s], 48)]) W6 := by rw [← hW6]; exact hH
  clear hW6
  clear s0 s1 s2 s3 k1 f1 z1 k2 f2 z2 k3 f3 z3
  obtain ⟨s0, s1, s2, s3, _⟩ := id hH
  obtain ⟨k1, f1, z1⟩ := of_block s1
  obtain ⟨k2, f2, z2⟩ := of_block s2
  obtain ⟨k3, f3, z3⟩ := of_block s3
  go_upto_region 11 with (fail)
  rw [set_of s1]
  have hH := holds_top #[.int .i64 1, .int .u64 (A0 : Nat), .bool false, .bool false, .bool false, .int .i64 (S16 : Nat)] hH (by omega) (by intro y hy; simp only [List.mem_cons, List.not_mem_nil, or_false] at hy; rcases hy with rfl | rfl <;> simp only [ne_eq] <;> omega)
  generalize hW6 : putB _ p _ = W6
  replace hH : Holds w ((p, #[.int .i64 1, .int .u64 (A0 : Nat), .bool false, .bool false, .bool false, .int .i64 (S16 : Nat)], 48) :: [(w.heap.size + 1, #[.int .i64 0, .int .u64 0, .bool false, .bool false, .bool false, .int .i64 0], 48), (w.heap.size, #[.int .i64 k, .int .u64 (a : Nat), .bool r, .bool wr, .bool x, .int .i64 s], 48)]) W6 := by rw [← hW6]; exact hH
  clear hW6
  clear s0 s1 s2 s3 k1 f1 z1 k2 f2 z2 k3 f3 z3
  obtain ⟨s0, s1, s2, s3, _⟩ := id hH
  obtain ⟨k1, f1, z1⟩ := of_block s1
  obtain ⟨k2, f2, z2⟩ := of_block s2
  obtain ⟨k3, f3, z3⟩ := of_block s3
  go_upto_region 14 with (first | ((go_at_call 52); (with_reducible refine (hSp _).mono ?_); rintro e w9 ⟨rfl, hb9⟩; have hH := holds_old hH hb9; obtain ⟨s0, s1, s2, s3, _⟩ := id hH; obtain ⟨k1, f1, z1⟩ := of_block s1; obtain ⟨k2, f2, z2⟩ := of_block s2; obtain ⟨k3, f3, z3⟩ := of_block s3))
  refine wp_region_tail (S := Holds w ((p, #[.int .i64 1, .int .u64 (A0 : Nat), .bool false, .bool false, .bool false, .int .i64 (S16 : Nat)], 48) :: [(w.heap.size + 1, #[.int .i64 0, .int .u64 0, .bool false, .bool false, .bool false, .int .i64 0], 48), (w.heap.size, #[.int .i64 k, .int .u64 (a : Nat), .bool r, .bool wr, .bool x, .int .i64 s], 48)])) 8 (by kernel_rfl) (by kernel_rfl) (by kernel_rfl) (by decide) (holds_drew hH) ?_
  repeat (apply walked_cons; (first | exact gives_and rfl rfl rfl rfl | exact gives_or rfl rfl rfl rfl | (focus (intro wS hS; obtain ⟨s0, s1, s2, s3, _⟩ := id hS; obtain ⟨k1, f1, z1⟩ := of_block s1; obtain ⟨k2, f2, z2⟩ := of_block s2; obtain ⟨k3, f3, z3⟩ := of_block s3; go_wp2_with (fail); (first | exact ⟨rfl, rfl, hS⟩ | exact ⟨rfl, rfl, holds_old hS hb9⟩); done)) | (focus (apply gives_guard; (focus (first | exact wanted_yes rfl rfl rfl | exact wanted_no rfl rfl rfl | exact wanted_yes2 rfl rfl rfl | exact wanted_no2 rfl rfl rfl)); (focus (intro hx9; (try simp only [Bool.not_eq_true', Bool.and_eq_true, Bool.not_not] at hx9); (try obtain ⟨hx9, hy9⟩ := hx9); (try subst hy9); (try subst hx9); (first | exact gives_and rfl rfl rfl rfl | exact gives_or rfl rfl rfl rfl | (intro wS hS; obtain ⟨s0, s1, s2, s3, _⟩ := id hS; obtain ⟨k1, f1, z1⟩ := of_block s1; obtain ⟨k2, f2, z2⟩ := of_block s2; obtain ⟨k3, f3, z3⟩ := of_block s3; go_wp2_with (fail); (first | exact ⟨rfl, rfl, hS⟩ | exact ⟨rfl, rfl, holds_old hS hb9⟩); done))))))); rfl; (try simp only [Act.put, List.setIfInBounds_toArray, List.set_cons_succ, List.set_cons_zero]))
  apply walked_nil
  intro wS hH
  obtain ⟨s0, s1, s2, s3, _⟩ := id hH
  obtain ⟨k1, f1, z1⟩ := of_block s1
  obtain ⟨k2, f2, z2⟩ := of_block s2
  obtain ⟨k3, f3, z3⟩ := of_block s3
  show wpList _ _ _ [_] _ _
  go_upto_region 15 with (fail)
  rw [HAF.out]
  rw [set_of s1]
  have hH := holds_top #[.int .i64 1, .int .u64 (AF : Nat), .bool false, .bool false, .bool false, .int .i64 (S16 : Nat)] hH (by omega) (by intro y hy; simp only [List.mem_cons, List.not_mem_nil, or_false] at hy; rcases hy with rfl | rfl <;> simp only [ne_eq] <;> omega)
  generalize hW6 : putB _ p _ = W6
  replace hH : Holds w ((p, #[.int .i64 1, .int .u64 (AF : Nat), .bool false, .bool false, .bool false, .int .i64 (S16 : Nat)], 48) :: [(w.heap.size + 1, #[.int .i64 0, .int .u64 0, .bool false, .bool false, .bool false, .int .i64 0], 48), (w.heap.size, #[.int .i64 k, .int .u64 (a : Nat), .bool r, .bool wr, .bool x, .int .i64 s], 48)]) W6 := by rw [← hW6]; exact hH
  clear hW6
  clear s0 s1 s2 s3 k1 f1 z1 k2 f2 z2 k3 f3 z3
  obtain ⟨s0, s1, s2, s3, _⟩ := id hH
  obtain ⟨k1, f1, z1⟩ := of_block s1
  obtain ⟨k2, f2, z2⟩ := of_block s2
  obtain ⟨k3, f3, z3⟩ := of_block s3
  go_wp2
  rw [six_set s2 rfl]
  have ho := old_put hH.1 (.cells #[.int .i64 1, .int .u64 (AF : Nat), .bool false, .bool false, .bool false, .int .i64 (S16 : Nat)] 48) (show w.heap.size ≤ w.heap.size + 1 by omega)
  have s9 := putB_same (.cells #[.int .i64 1, .int .u64 (AF : Nat), .bool false, .bool false, .bool false, .int .i64 (S16 : Nat)] 48) z2
  generalize putB _ (w.heap.size + 1) (.cells #[.int .i64 1, .int .u64 (AF : Nat), .bool false, .bool false, .bool false, .int .i64 (S16 : Nat)] 48) = W9 at *
  obtain ⟨k9, f9, z9⟩ := of_block s9
  refine bodyPost_ret (by simp [results, Try.results23, go_sem, k9]; try rfl) rfl ?_
  exact ⟨by rw [HV.out], ho⟩
set_option maxHeartbeats 4000000 in
set_option maxRecDepth 100000 in
theorem near_p1c (st lv k : Int) (a : Nat) (r wr x : Bool) (s : Int) (w : World) (TI SP K0 : Int) (A0 S16 : Nat) (V : Value)
    (hT : ∀ w : World, Calls Try.prog 51 #[.int .i64 st] w (RetX w (.int .u64 TI))) (hsn : ¬ TI = 0)
    (hSp : ∀ w : World, Calls Try.prog 52 #[.int .i64 lv] w (RetB w (.int .u64 SP))) (hspn : ¬ SP = 0)
    (hkw : (wrap64 (k.tmod 4 + 4)).tmod 4 = 1) (hs16 : bits .and .i64 s 15 = ((S16 : Nat) : Int)) (hAT : (a : Int) % TI = ((A0 : Nat) : Int)) (hl0 : ¬ lv = 0) (hl3 : ¬ lv = 3) (AF : Nat) (HAF : Hid (IntKind.u64.wrap ((A0 : Int) - (A0 : Int) % 4096) = ((AF : Nat) : Int))) (HV : Hid (V = .agg #[.int .i64 1, .int .u64 (AF : Nat), .bool false, .bool false, .bool false, .int .i64 (S16 : Nat)])) :
    Calls Try.prog 23 #[.int .i64 st, .int .i64 lv, descV k a r wr x s] w (RetB w V) := by
  go_enter Try.func23, Try.ntmps23
  go_upto_region 1 with (fail)
  have hH := holds_new #[.int .i64 0, .int .u64 0, .bool false, .bool false, .bool false, .int .i64 0] 48 (holds_new #[.int .i64 k, .int .u64 (a : Nat), .bool r, .bool wr, .bool x, .int .i64 s] 48 (holds_nil w))
  simp only [World.size_alloc] at hH
  generalize (w.alloc (.cells #[.int .i64 k, .int .u64 (a : Nat), .bool r, .bool wr, .bool x, .int .i64 s] 48)).alloc (.cells #[.int .i64 0, .int .u64 0, .bool false, .bool false, .bool false, .int .i64 0] 48) = W at *
  obtain ⟨s0, s1, s2, _⟩ := id hH
  obtain ⟨k1, f1, z1⟩ := of_block s1
  obtain ⟨k2, f2, z2⟩ := of_block s2
  have cA : ∀ i, W.drew.cell? ⟨w.heap.size, i, none⟩ = (#[.int .i64 k, .int .u64 (a : Nat), .bool r, .bool wr, .bool x, .int .i64 s] : Array Value)[i]? := k2
  have cB : ∀ i, (W.drew.alloc (.cells #[.int .i64 0, .int .u64 0, .bool false, .bool false, .bool false, .int .i64 0] 48)).cell? ⟨w.heap.size, i, none⟩ = (#[.int .i64 k, .int .u64 (a : Nat), .bool r, .bool wr, .bool x, .int .i64 s] : Array Value)[i]? := fun i =>
    cell_of (keep_old (old_alloc (old_refl _) _) (show W.drew.heap[w.heap.size]? = _ from s2)) i
  refine wp_region_staged (S := StageS 16 W.drew (W.drew.alloc (.cells #[.int .i64 0, .int .u64 0, .bool false, .bool false, .bool false, .int .i64 0] 48))) 17 (by kernel_rfl) (by kernel_rfl) (by kernel_rfl) (by decide) rfl ?_
  (apply walkedS_cons; (focus (intro l9 wS hz hn hS; have hS9 := stage_other 0 (by decide) hS; have c9 := fun i => stage_cell hS (cA i) (cB i); clear hS; go_wp2_with (fail); exact ⟨rfl, rfl, hS9⟩)); rfl; (try simp only [Act.put, List.setIfInBounds_toArray, List.set_cons_succ, List.set_cons_zero]))
  (apply walkedS_cons; (focus (intro l9 wS hz hn hS; have hS9 := stage_other 1 (by decide) hS; have c9 := fun i => stage_cell hS (cA i) (cB i); clear hS; go_wp2_with (fail); exact ⟨rfl, rfl, hS9⟩)); rfl; (try simp only [Act.put, List.setIfInBounds_toArray, List.set_cons_succ, List.set_cons_zero]))
  (apply walkedS_cons; (focus (intro l9 wS hz hn hS; have hS9 := stage_other 2 (by decide) hS; have c9 := fun i => stage_cell hS (cA i) (cB i); clear hS; go_wp2_with (fail); exact ⟨rfl, rfl, hS9⟩)); rfl; (try simp only [Act.put, List.setIfInBounds_toArray, List.set_cons_succ, List.set_cons_zero]))
  (apply walkedS_cons; (focus (intro l9 wS hz hn hS; have hS9 := stage_other 3 (by decide) hS; have c9 := fun i => stage_cell hS (cA i) (cB i); clear hS; go_wp2_with (fail); exact ⟨rfl, rfl, hS9⟩)); rfl; (try simp only [Act.put, List.setIfInBounds_toArray, List.set_cons_succ, List.set_cons_zero]))
  (apply walkedS_cons; (focus (intro l9 wS hz hn hS; have hS9 := stage_other 4 (by decide) hS; have c9 := fun i => stage_cell hS (cA i) (cB i); clear hS; go_wp2_with (fail); exact ⟨rfl, rfl, hS9⟩)); rfl; (try simp only [Act.put, List.setIfInBounds_toArray, List.set_cons_succ, List.set_cons_zero]))
  (apply walkedS_cons; (focus (intro l9 wS hz hn hS; have hS9 := stage_other 5 (by decide) hS; have c9 := fun i => stage_cell hS (cA i) (cB i); clear hS; go_wp2_with (fail); exact ⟨rfl, rfl, hS9⟩)); rfl; (try simp only [Act.put, List.setIfInBounds_toArray, List.set_cons_succ, List.set_cons_zero]))
  (apply walkedS_cons; (focus (intro l9 wS hz hn hS; have hS9 := stage_other 6 (by decide) hS; have c9 := fun i => stage_cell hS (cA i) (cB i); clear hS; go_wp2_with (fail); exact ⟨rfl, rfl, hS9⟩)); rfl; (try simp only [Act.put, List.setIfInBounds_toArray, List.set_cons_succ, List.set_cons_zero]))
  (apply walkedS_cons; (focus (intro l9 wS hz hn hS; have hS9 := stage_other 7 (by decide) hS; have c9 := fun i => stage_cell hS (cA i) (cB i); clear hS; go_wp2_with (fail); exact ⟨rfl, rfl, hS9⟩)); rfl; (try simp only [Act.put, List.setIfInBounds_toArray, List.set_cons_succ, List.set_cons_zero]))
  (apply walkedS_cons; (focus (intro l9 wS hz hn hS; have hS9 := stage_other 8 (by decide) hS; have c9 := fun i => stage_cell hS (cA i) (cB i); clear hS; go_wp2_with (((go_at_call 51); (with_reducible refine (hT _).mono ?_); rintro e w9 ⟨rfl, rfl⟩)); exact ⟨rfl, rfl, hS9⟩)); rfl; (try simp only [Act.put, List.setIfInBounds_toArray, List.set_cons_succ, List.set_cons_zero]))
  (apply walkedS_cons; (focus (intro l9 wS hz hn hS; have hS9 := stage_other 9 (by decide) hS; have c9 := fun i => stage_cell hS (cA i) (cB i); clear hS; go_wp2_with (fail); exact ⟨rfl, rfl, hS9⟩)); rfl; (try simp only [Act.put, List.setIfInBounds_toArray, List.set_cons_succ, List.set_cons_zero]))
  (apply walkedS_cons; (focus (intro l9 wS hz hn hS; have hS9 := stage_other 10 (by decide) hS; have c9 := fun i => stage_cell hS (cA i) (cB i); clear hS; go_wp2_with (fail); exact ⟨rfl, rfl, hS9⟩)); rfl; (try simp only [Act.put, List.setIfInBounds_toArray, List.set_cons_succ, List.set_cons_zero]))
  (apply walkedS_cons; (focus (intro l9 wS hz hn hS; have hS9 := stage_other 11 (by decide) hS; have c9 := fun i => stage_cell hS (cA i) (cB i); clear hS; go_wp2_with (fail); exact ⟨rfl, rfl, hS9⟩)); rfl; (try simp only [Act.put, List.setIfInBounds_toArray, List.set_cons_succ, List.set_cons_zero]))
  (apply walkedS_cons; (focus (intro l9 wS hz hn hS; have hS9 := stage_other 12 (by decide) hS; have c9 := fun i => stage_cell hS (cA i) (cB i); clear hS; go_wp2_with (fail); exact ⟨rfl, rfl, hS9⟩)); rfl; (try simp only [Act.put, List.setIfInBounds_toArray, List.set_cons_succ, List.set_cons_zero]))
  (apply walkedS_cons; (focus (intro l9 wS hz hn hS; have hS9 := stage_other 13 (by decide) hS; have c9 := fun i => stage_cell hS (cA i) (cB i); clear hS; go_wp2_with (fail); exact ⟨rfl, rfl, hS9⟩)); rfl; (try simp only [Act.put, List.setIfInBounds_toArray, List.set_cons_succ, List.set_cons_zero]))
  (apply walkedS_cons; (focus (intro l9 wS hz hn hS; have hS9 := stage_other 14 (by decide) hS; have c9 := fun i => stage_cell hS (cA i) (cB i); clear hS; go_wp2_with (fail); exact ⟨rfl, rfl, hS9⟩)); rfl; (try simp only [Act.put, List.setIfInBounds_toArray, List.set_cons_succ, List.set_cons_zero]))
  (apply walkedS_cons; (focus (intro l9 wS hz hn hS; have hS9 := stage_other 15 (by decide) hS; have c9 := fun i => stage_cell hS (cA i) (cB i); clear hS; go_wp2_with (fail); exact ⟨rfl, rfl, hS9⟩)); rfl; (try simp only [Act.put, List.setIfInBounds_toArray, List.set_cons_succ, List.set_cons_zero]))
  apply walkedS_cons
  · intro l9 wS hz hn hS
    obtain rfl := stage_before hn hS
    clear hS
    go_wp2
    exact ⟨rfl, rfl, stage_done hz (by decide)⟩
  · rfl
  apply walkedS_nil
  intro l9 wS hz hall hS
  obtain rfl := stage_after (hall 16 (by decide)) hS
  clear hS
  show wpList _ _ _ [_] _ _
  go_upto_region 2 with (fail)
  have hzp : w.heap.size + 1 < W.heap.size := z1
  have hH := holds_drew (holds_new #[.int .i64 1, .int .u64 (A0 : Nat), .bool r, .bool wr, .bool x, .int .i64 (S16 : Nat)] 48 hH)
  generalize (W.alloc (.cells #[.int .i64 1, .int .u64 (A0 : Nat), .bool r, .bool wr, .bool x, .int .i64 (S16 : Nat)] 48)).drew = W2 at *
  clear s0 s1 s2 k1 f1 z1 k2 f2 z2 cA cB hall
  generalize W.heap.size = p at *
  obtain ⟨s0, s1, s2, s3, _⟩ := id hH
  obtain ⟨k1, f1, z1⟩ := of_block s1
  obtain ⟨k2, f2, z2⟩ := of_block s2
  obtain ⟨k3, f3, z3⟩ := of_block s3
  go_upto_region 8 with (fail)
  go_upto_region 10 with (fail)
  rw [set_of s1, putB_set_same _ _ _ _ _ z1, putB_set_same _ _ _ _ _ z1]
  have hH := holds_top #[.int .i64 1, .int .u64 (A0 : Nat), .bool false, .bool false, .bool false, .int .i64 (S16 : Nat)] hH (by omega) (by intro y hy; simp only [List.mem_cons, List.not_mem_nil, or_false] at hy; rcases hy with rfl | rfl <;> simp only [ne_eq] <;> omega)
  generalize hW6 : putB _ p _ = W6
  replace hH : Holds w ((p, #[.int .i64 1, .int .u64 (A0 : Nat), .bool false, .bool false, .bool false, .int .i64 (S16 : Nat)], 48) :: [(w.heap.size + 1, #[.int .i64 0, .int .u64 0, .bool false, .bool false, .bool false, .int .i64 0], 48), (w.heap.size, #[.int .i64 k, .int .u64 (a : Nat), .bool r, .bool wr, .bool x, .int .i64 s], 48)]) W6 := by rw [← hW6]; exact hH
  clear hW6
  clear s0 s1 s2 s3 k1 f1 z1 k2 f2 z2 k3 f3 z3
  obtain ⟨s0, s1, s2, s3, _⟩ := id hH
  obtain ⟨k1, f1, z1⟩ := of_block s1
  obtain ⟨k2, f2, z2⟩ := of_block s2
  obtain ⟨k3, f3, z3⟩ := of_block s3
  go_upto_region 11 with (fail)
  rw [set_of s1]
  have hH := holds_top #[.int .i64 1, .int .u64 (A0 : Nat), .bool false, .bool false, .bool false, .int .i64 (S16 : Nat)] hH (by omega) (by intro y hy; simp only [List.mem_cons, List.not_mem_nil, or_false] at hy; rcases hy with rfl | rfl <;> simp only [ne_eq] <;> omega)
  generalize hW6 : putB _ p _ = W6
  replace hH : Holds w ((p, #[.int .i64 1, .int .u64 (A0 : Nat), .bool false, .bool false, .bool false, .int .i64 (S16 : Nat)], 48) :: [(w.heap.size + 1, #[.int .i64 0, .int .u64 0, .bool false, .bool false, .bool false, .int .i64 0], 48), (w.heap.size, #[.int .i64 k, .int .u64 (a : Nat), .bool r, .bool wr, .bool x, .int .i64 s], 48)]) W6 := by rw [← hW6]; exact hH
  clear hW6
  clear s0 s1 s2 s3 k1 f1 z1 k2 f2 z2 k3 f3 z3
  obtain ⟨s0, s1, s2, s3, _⟩ := id hH
  obtain ⟨k1, f1, z1⟩ := of_block s1
  obtain ⟨k2, f2, z2⟩ := of_block s2
  obtain ⟨k3, f3, z3⟩ := of_block s3
  go_upto_region 14 with (first | ((go_at_call 52); (with_reducible refine (hSp _).mono ?_); rintro e w9 ⟨rfl, hb9⟩; have hH := holds_old hH hb9; obtain ⟨s0, s1, s2, s3, _⟩ := id hH; obtain ⟨k1, f1, z1⟩ := of_block s1; obtain ⟨k2, f2, z2⟩ := of_block s2; obtain ⟨k3, f3, z3⟩ := of_block s3))
  refine wp_region_tail (S := Holds w ((p, #[.int .i64 1, .int .u64 (A0 : Nat), .bool false, .bool false, .bool false, .int .i64 (S16 : Nat)], 48) :: [(w.heap.size + 1, #[.int .i64 0, .int .u64 0, .bool false, .bool false, .bool false, .int .i64 0], 48), (w.heap.size, #[.int .i64 k, .int .u64 (a : Nat), .bool r, .bool wr, .bool x, .int .i64 s], 48)])) 8 (by kernel_rfl) (by kernel_rfl) (by kernel_rfl) (by decide) (holds_drew hH) ?_
  repeat (apply walked_cons; (first | exact gives_and rfl rfl rfl rfl | exact gives_or rfl rfl rfl rfl | (focus (intro wS hS; obtain ⟨s0, s1, s2, s3, _⟩ := id hS; obtain ⟨k1, f1, z1⟩ := of_block s1; obtain ⟨k2, f2, z2⟩ := of_block s2; obtain ⟨k3, f3, z3⟩ := of_block s3; go_wp2_with (fail); (first | exact ⟨rfl, rfl, hS⟩ | exact ⟨rfl, rfl, holds_old hS hb9⟩); done)) | (focus (apply gives_guard; (focus (first | exact wanted_yes rfl rfl rfl | exact wanted_no rfl rfl rfl | exact wanted_yes2 rfl rfl rfl | exact wanted_no2 rfl rfl rfl)); (focus (intro hx9; (try simp only [Bool.not_eq_true', Bool.and_eq_true, Bool.not_not] at hx9); (try obtain ⟨hx9, hy9⟩ := hx9); (try subst hy9); (try subst hx9); (first | exact gives_and rfl rfl rfl rfl | exact gives_or rfl rfl rfl rfl | (intro wS hS; obtain ⟨s0, s1, s2, s3, _⟩ := id hS; obtain ⟨k1, f1, z1⟩ := of_block s1; obtain ⟨k2, f2, z2⟩ := of_block s2; obtain ⟨k3, f3, z3⟩ := of_block s3; go_wp2_with (fail); (first | exact ⟨rfl, rfl, hS⟩ | exact ⟨rfl, rfl, holds_old hS hb9⟩); done))))))); rfl; (try simp only [Act.put, List.setIfInBounds_toArray, List.set_cons_succ, List.set_cons_zero]))
  apply walked_nil
  intro wS hH
  obtain ⟨s0, s1, s2, s3, _⟩ := id hH
  obtain ⟨k1, f1, z1⟩ := of_block s1
  obtain ⟨k2, f2, z2⟩ := of_block s2
  obtain ⟨k3, f3, z3⟩ := of_block s3
  show wpList _ _ _ [_] _ _
  go_upto_region 15 with (fail)
  rw [HAF.out]
  rw [set_of s1]
  have hH := holds_top #[.int .i64 1, .int .u64 (AF : Nat), .bool false, .bool false, .bool false, .int .i64 (S16 : Nat)] hH (by omega) (by intro y hy; simp only [List.mem_cons, List.not_mem_nil, or_false] at hy; rcases hy with rfl | rfl <;> simp only [ne_eq] <;> omega)
  generalize hW6 : putB _ p _ = W6
  replace hH : Holds w ((p, #[.int .i64 1, .int .u64 (AF : Nat), .bool false, .bool false, .bool false, .int .i64 (S16 : Nat)], 48) :: [(w.heap.size + 1, #[.int .i64 0, .int .u64 0, .bool false, .bool false, .bool false, .int .i64 0], 48), (w.heap.size, #[.int .i64 k, .int .u64 (a : Nat), .bool r, .bool wr, .bool x, .int .i64 s], 48)]) W6 := by rw [← hW6]; exact hH
  clear hW6
  clear s0 s1 s2 s3 k1 f1 z1 k2 f2 z2 k3 f3 z3
  obtain ⟨s0, s1, s2, s3, _⟩ := id hH
  obtain ⟨k1, f1, z1⟩ := of_block s1
  obtain ⟨k2, f2, z2⟩ := of_block s2
  obtain ⟨k3, f3, z3⟩ := of_block s3
  go_wp2
  rw [six_set s2 rfl]
  have ho := old_put hH.1 (.cells #[.int .i64 1, .int .u64 (AF : Nat), .bool false, .bool false, .bool false, .int .i64 (S16 : Nat)] 48) (show w.heap.size ≤ w.heap.size + 1 by omega)
  have s9 := putB_same (.cells #[.int .i64 1, .int .u64 (AF : Nat), .bool false, .bool false, .bool false, .int .i64 (S16 : Nat)] 48) z2
  generalize putB _ (w.heap.size + 1) (.cells #[.int .i64 1, .int .u64 (AF : Nat), .bool false, .bool false, .bool false, .int .i64 (S16 : Nat)] 48) = W9 at *
  obtain ⟨k9, f9, z9⟩ := of_block s9
  refine bodyPost_ret (by simp [results, Try.results23, go_sem, k9]; try rfl) rfl ?_
  exact ⟨by rw [HV.out], ho⟩
end Go.Proofs.Ytlbehhbicmmdoaa
namespace Go.Proofs.Ytlbehhbicmmdoaa
set_option linter.unusedVariables false
set_option linter.unusedSimpArgs false
open Go.RowKit
theorem aligned_down (A m : Nat) (hA : A < 18446744073709551616) : IntKind.u64.wrap ((A : Int) - (A : Int) % (m : Int)) = ((A - A % m : Nat) : Int) := by
  have h := Nat.mod_le A m
  rw [← Int.natCast_emod, IntKind.wrap_u64]
  omega
theorem near_calls (st lv k : Int) (a : Nat) (r wr x : Bool) (s : Int) (w : World) (hp : Place st lv) :
    Calls Try.prog 23 #[.int .i64 st, .int .i64 lv, descV k a r wr x s] w (RetB w (nearV st lv k a r wr x s)) := by
  have hT := refTop_x st
  have htop : 0 < topN st := by
    unfold topN
    obtain ⟨rfl | rfl, _⟩ := hp <;> decide
  have htl := topN_le st
  have hsn : ¬ ((topN st : Nat) : Int) = 0 := by omega
  have h3 : lv.toNat ≤ 3 := by have := hp.2; omega
  have hl : lv = (lv.toNat : Nat) := by have := hp.2; omega
  have hSp := fun w => refSpan_yes lv lv.toNat hl w h3
  have hspn : ¬ ((spanN lv.toNat : Nat) : Int) = 0 := by
    have : 0 < spanN lv.toNat := by rw [spanN_pow _ h3]; exact Nat.two_pow_pos _
    omega
  have hk4 := kind_four k
  have hw0 : wrap64 (k.tmod 4 + 4) = k.tmod 4 + 4 := by
    have h1 := Int.tmod_lt_of_pos k (show (0 : Int) < 4 by decide)
    have h2 : -4 < k.tmod 4 := by
      by_cases h : 0 ≤ k
      · rw [Int.tmod_eq_emod_of_nonneg h]; omega
      · have e : k.tmod 4 = -((-k).tmod 4) := by rw [Int.neg_tmod, Int.neg_neg]
        rw [e, Int.tmod_eq_emod_of_nonneg (by omega)]; omega
    exact IntWalk.wrap64_in _ (by omega)
  have hkw : (wrap64 (k.tmod 4 + 4)).tmod 4 = (k.tmod 4 + 4).tmod 4 := by rw [hw0]
  have hs16 : bits .and .i64 s 15 = (((s % 16).toNat : Nat) : Int) := by rw [i64_mask15]; omega
  have hAT : (a : Int) % ((topN st : Nat) : Int) = ((a % topN st : Nat) : Int) := (Int.natCast_emod a (topN st)).symm
  have hA0 : a % topN st < 18446744073709551616 := by have := Nat.mod_lt a htop; omega
  have hF1 : Hid (IntKind.u64.wrap (((a % topN st : Nat) : Int) - ((a % topN st : Nat) : Int) % 4096) = ((a % topN st - a % topN st % 4096 : Nat) : Int)) := aligned_down _ 4096 hA0
  have hF2 : Hid (IntKind.u64.wrap (((a % topN st : Nat) : Int) - ((a % topN st : Nat) : Int) % ((spanN lv.toNat : Nat) : Int)) = ((a % topN st - a % topN st % spanN lv.toNat : Nat) : Int)) := aligned_down _ (spanN lv.toNat) hA0
  by_cases k0 : (k.tmod 4 + 4).tmod 4 = 0
  · exact near_p0 st lv k a r wr x s w _ _ 0 _ _ _ hT hsn hSp hspn (by rw [hkw, k0]) hs16 hAT (near_zero k0)
  by_cases l3 : lv = 3
  · have hK : nearK lv k = 3 := by unfold nearK; rw [if_neg k0, if_pos l3]
    have hV := @near_three st lv k a r wr x s hK
    subst l3
    cases wr
    · exact near_p3false st k a r x s w _ _ _ _ _ _ hT hsn hSp hspn hkw hs16 hAT k0 _ hF1 hV
    · rw [Bool.true_and] at hV
      exact near_p3true st k a r x s w _ _ _ _ _ _ hT hsn hSp hspn hkw hs16 hAT k0 _ hF1 hV
  by_cases l0 : lv = 0
  · have hK : nearK lv k = 1 := by unfold nearK; rw [if_neg k0, if_neg l3, if_pos (show lv = 0 ∨ (k.tmod 4 + 4).tmod 4 = 3 from .inl l0)]
    have hV := @near_one st lv k a r wr x s hK
    subst l0
    exact near_p1a st k a r wr x s w _ _ _ _ _ _ hT hsn hSp hspn hkw hs16 hAT k0 _ hF1 hV
  by_cases k3 : (k.tmod 4 + 4).tmod 4 = 3
  · have hK : nearK lv k = 1 := by unfold nearK; rw [if_neg k0, if_neg l3, if_pos (show lv = 0 ∨ (k.tmod 4 + 4).tmod 4 = 3 from .inr k3)]
    exact near_p1b st lv k a r wr x s w _ _ 0 _ _ _ hT hsn hSp hspn (by rw [hkw, k3]) hs16 hAT l0 l3 _ hF1 (near_one hK)
  have hn : ¬ (lv = 0 ∨ (k.tmod 4 + 4).tmod 4 = 3) := by omega
  by_cases k1 : (k.tmod 4 + 4).tmod 4 = 1
  · have hK : nearK lv k = 1 := by unfold nearK; rw [if_neg k0, if_neg l3, if_neg hn, k1]
    exact near_p1c st lv k a r wr x s w _ _ 0 _ _ _ hT hsn hSp hspn (by rw [hkw, k1]) hs16 hAT l0 l3 _ hF1 (near_one hK)
  have k2 : (k.tmod 4 + 4).tmod 4 = 2 := by omega
  have hK : nearK lv k = 2 := by unfold nearK; rw [if_neg k0, if_neg l3, if_neg hn, k2]
  have hV := @near_two st lv k a r wr x s hK
  cases wr
  · exact near_p2false st lv k a r x s w _ _ 0 _ _ _ hT hsn hSp hspn (by rw [hkw, k2]) hs16 hAT l0 l3 _ hF2 hV
  · rw [Bool.true_and] at hV
    exact near_p2true st lv k a r x s w _ _ 0 _ _ _ hT hsn hSp hspn (by rw [hkw, k2]) hs16 hAT l0 l3 _ hF2 hV
end Go.Proofs.Ytlbehhbicmmdoaa
namespace Go.Proofs.Ytlbehhbicmmdoaa
set_option linter.unusedVariables false
set_option linter.unusedSimpArgs false
open Go.RowKit
theorem enc_ltT {st lv k : Int} {a : Nat} {r wr x : Bool} {s : Nat} (h : checkC st lv k a r wr x (s : Nat) = 0) : encW st lv k a r wr x (s : Nat) < 18446744073709551616 := by
  unfold encW
  split
  · rename_i h2
    exact (dec_word h2.2 h).2.1
  · decide
theorem enc_lt64 (st lv k : Int) (a : Nat) (r wr x : Bool) (s : Int) : encW st lv k a r wr x s < 18446744073709551616 := by
  by_cases h : checkC st lv k a r wr x s = 0
  · by_cases hs : s < 0
    · unfold encW
      rw [if_neg (by rintro ⟨h1, _⟩; unfold checkC at h1; rw [if_pos (by omega)] at h1; cases h1)]
      decide
    · obtain ⟨n, rfl⟩ : ∃ n : Nat, s = n := ⟨s.toNat, by omega⟩
      exact enc_ltT h
  · unfold encW; rw [if_neg (by simp [h])]; decide
end Go.Proofs.Ytlbehhbicmmdoaa
