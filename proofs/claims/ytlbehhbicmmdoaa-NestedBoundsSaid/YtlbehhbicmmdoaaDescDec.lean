/- The contract of desc.Decode. -/
import Derived.Test.YtlbehhbicmmdoaaDescEnc
import Derived.Test.YtlbehhbicmmdoaaDescX
import Derived.Test.YtlbehhbicmmdoaaStageW
import Derived.Test.YtlbehhbicmmdoaaDescArg
namespace Go.Proofs.Ytlbehhbicmmdoaa
set_option linter.unusedVariables false
set_option linter.unusedSimpArgs false
open Go.RowKit

abbrev zeroV : Value := .agg #[.int .i64 0, .int .u64 0, .bool false, .bool false, .bool false, .int .i64 0]
def decV (st lv : Int) (x : Nat) : Value := if Place st lv ∧ x % 2 ≠ 0 ∧ decE st lv x = 0 then descV (decK lv x) (decA x) (bitB x 6) (bitB x 7) (bitB x 8) (decS x : Nat) else zeroV

theorem dec_arg {st lv : Int} {x : Nat} (h : ¬ Place st lv) : decV st lv x = zeroV ∧ decE st lv x = 1 := by
  refine ⟨if_neg (by simp [h]), ?_⟩
  unfold decE; rw [if_pos h]
theorem dec_zero {st lv : Int} {x : Nat} (h : Place st lv) (h2 : x % 2 = 0) : decV st lv x = zeroV ∧ decE st lv x = 0 := by
  refine ⟨if_neg (by simp [h2]), ?_⟩
  unfold decE; rw [if_neg (by simpa using h), if_pos h2]
theorem dec_bad {st lv : Int} {x : Nat} (e : Int) (h : decE st lv x = e) (he : e ≠ 0) : decV st lv x = zeroV ∧ decE st lv x = e := by
  refine ⟨if_neg (by rw [h]; simp [he]), h⟩
theorem dec_yes {st lv : Int} {x : Nat} (h : Place st lv) (h2 : x % 2 ≠ 0) (h3 : decE st lv x = 0) : decV st lv x = descV (decK lv x) (decA x) (bitB x 6) (bitB x 7) (bitB x 8) (decS x : Nat) ∧ decE st lv x = 0 :=
  ⟨if_pos ⟨h, h2, h3⟩, h3⟩

abbrev DecL (n : Nat) (x : Nat) : List (Nat × Array Value × TypeId) := [(n + 1, #[.int .i64 0, .int .u64 0, .bool false, .bool false, .bool false, .int .i64 0], 48), (n, #[.int .u64 (x : Nat)], 22)]

theorem has_put {w : World} {b : Nat} (o : Obj) : ∀ {L : List (Nat × Array Value × TypeId)}, (∀ y ∈ L, y.1 ≠ b) → Has w L → Has (putB w b o) L
  | [], _, _ => trivial
  | y :: L, h, hl => ⟨by rw [putB_other _ (fun e => h y (by simp) e.symm)]; exact hl.1, has_put o (fun z hz => h z (by simp [hz])) hl.2⟩
theorem holds_top {w0 w : World} {b : Nat} {C : Array Value} {t : TypeId} {L : List (Nat × Array Value × TypeId)} (C' : Array Value) (h : Holds w0 ((b, C, t) :: L) w) (hb : w0.heap.size ≤ b) (hL : ∀ y ∈ L, y.1 ≠ b) :
    Holds w0 ((b, C', t) :: L) (putB w b (.cells C' t)) := ⟨old_put h.1 _ hb, putB_same _ (lt_of_block h.2.1), has_put _ hL h.2.2⟩
theorem word_join {K : Int} {r wr x : Bool} {s A : Nat} (hs : s ≤ 15) (hA : A % 4096 = 0) (hl : A ≤ 281474976706560) : bits .or .u64 ((wordN K 0 r wr x s : Nat) : Int) (A : Int) = ((wordN K 0 r wr x s + A : Nat) : Int) := by
  have hF := flags_lt (decide (K ≠ 2)) r wr x
  unfold wordN
  generalize 1 + flagN (decide (K ≠ 2)) 1 + flagN r 6 + flagN wr 7 + flagN x 8 = F at *
  rw [bits_or_u64_nat _ _ (by omega) (by omega)]
  have e1 := or_low (i := 55) s (F + A) (by omega)
  have e2 := or_low (i := 12) (A / 4096) F hF
  have e3 := or_low (i := 55) s F (by omega)
  rw [show 2 ^ 12 * (A / 4096) = A by omega] at e2
  rw [← e2, Nat.or_assoc, Nat.or_comm A, ← Nat.or_assoc, e3, e2] at e1
  have h0 : F + 0 + s * 36028797018963968 = F + 2 ^ 55 * s := by omega
  have h2 : F + 0 + s * 36028797018963968 + A = F + A + 2 ^ 55 * s := by omega
  exact congrArg Nat.cast ((congrArg (· ||| A) h0).trans (e1.trans h2.symm))

theorem six_set {w : World} {b : Nat} {C : Array Value} {t : TypeId} (h : w.heap[b]? = some (.cells C t)) (hC : C.size = 6) (v0 v1 v2 v3 v4 v5 : Value) :
    (((((w.setCell ⟨b, 0, none⟩ v0).setCell ⟨b, 1, none⟩ v1).setCell ⟨b, 2, none⟩ v2).setCell ⟨b, 3, none⟩ v3).setCell ⟨b, 4, none⟩ v4).setCell ⟨b, 5, none⟩ v5 = putB w b (.cells #[v0, v1, v2, v3, v4, v5] t) := by
  have hb := lt_of_block h
  obtain ⟨c0, c1, c2, c3, c4, c5, rfl⟩ := array6 hC
  rw [set_of h, putB_set_same _ _ _ _ _ hb, putB_set_same _ _ _ _ _ hb, putB_set_same _ _ _ _ _ hb, putB_set_same _ _ _ _ _ hb, putB_set_same _ _ _ _ _ hb]
  rfl

set_option maxHeartbeats 8000000 in
set_option maxRecDepth 100000 in
theorem decode_calls (st lv : Int) (x : Nat) (w : World) (hx : x < 18446744073709551616) :
    Calls Try.prog 47 #[.int .i64 st, .int .i64 lv, .int .u64 (x : Nat)] w (RetB w (.tuple #[decV st lv x, .int .i64 (decE st lv x)])) := by
  have hon := fun (b i : Nat) (ii : Int) (hii : ii = i) (hi : i ≤ 63) (W : World) (hc : W.cell? ⟨b, 0, none⟩ = some (.int .u64 (x : Nat))) => on_x x b i ii hii hi W hx hc
  obtain ⟨P, hP⟩ : ∃ P, decide (Place st lv) = P := ⟨_, rfl⟩
  have hpl := place_calls st lv P hP
  cases P
  case false =>
    obtain ⟨h1, h2⟩ := dec_arg (x := x) (of_decide_eq_false hP)
    rw [h1, h2]
    clear h1 h2 hP hon
    go_enter Try.func47, Try.ntmps47
    go_upto_region 1 with (fail)
    have hH := holds_new #[.int .i64 0, .int .u64 0, .bool false, .bool false, .bool false, .int .i64 0] 48 (holds_new #[.int .u64 (x : Nat)] 22 (holds_nil w))
    simp only [World.size_alloc] at hH
    generalize (w.alloc (.cells #[.int .u64 (x : Nat)] 22)).alloc (.cells #[.int .i64 0, .int .u64 0, .bool false, .bool false, .bool false, .int .i64 0] 48) = W at *
    go_wp2_with ((go_at_call 71; (with_reducible refine (hpl _).mono ?_); rintro e w9 ⟨rfl, hb9⟩; have hH := holds_old hH hb9; obtain ⟨_, s1, s2, _⟩ := id hH; obtain ⟨k1, f1, z1⟩ := of_block s1; obtain ⟨k2, f2, z2⟩ := of_block s2))
    rw [six_set s1 rfl]
    have s9 := putB_same (.cells #[.int .i64 0, .int .u64 0, .bool false, .bool false, .bool false, .int .i64 0] 48) z1
    have ho : Old w (putB w9 (w.heap.size + 1) (.cells #[.int .i64 0, .int .u64 0, .bool false, .bool false, .bool false, .int .i64 0] 48)) := old_put hH.1 _ (by omega)
    generalize putB w9 (w.heap.size + 1) (.cells #[.int .i64 0, .int .u64 0, .bool false, .bool false, .bool false, .int .i64 0] 48) = W9 at *
    obtain ⟨k9, f9, z9⟩ := of_block s9
    refine bodyPost_ret (by simp [results, Try.results47, go_sem, k9]; try rfl) rfl ?_
    exact ⟨rfl, ho⟩
  case true =>
    have hp := of_decide_eq_true hP
    have hpx := place_yes st lv hp
    clear hP hpl
    by_cases h2 : x % 2 = 0
    · obtain ⟨h1, h3⟩ := dec_zero hp h2
      rw [h1, h3]
      have hb0 : bitB x 0 = false := decide_eq_false (by simp only [Nat.pow_zero, Nat.div_one]; omega)
      have hon0 := fun (b : Nat) (W : World) (hc : W.cell? ⟨b, 0, none⟩ = some (.int .u64 (x : Nat))) => hon b 0 0 rfl (by decide) W hc
      rw [hb0] at hon0
      clear h1 h2 h3 hp hb0 hon
      go_enter Try.func47, Try.ntmps47
      go_upto_region 1 with (fail)
      have hH := holds_new #[.int .i64 0, .int .u64 0, .bool false, .bool false, .bool false, .int .i64 0] 48 (holds_new #[.int .u64 (x : Nat)] 22 (holds_nil w))
      simp only [World.size_alloc] at hH
      generalize (w.alloc (.cells #[.int .u64 (x : Nat)] 22)).alloc (.cells #[.int .i64 0, .int .u64 0, .bool false, .bool false, .bool false, .int .i64 0] 48) = W at *
      obtain ⟨s0, s1, s2, _⟩ := id hH
      obtain ⟨k1, f1, z1⟩ := of_block s1
      obtain ⟨k2, f2, z2⟩ := of_block s2
      have c2 : W.cell? ⟨w.heap.size, 0, none⟩ = some (.int .u64 (x : Nat)) := k2 0
      go_wp2_with (first | ((go_at_call 71); (with_reducible refine (hpx _).mono ?_); rintro e w9 ⟨rfl, rfl⟩) | ((go_at_call 72); (with_reducible refine (hon0 _ _ c2).mono ?_); rintro e w9 ⟨rfl, rfl⟩))
      rw [six_set s1 rfl]
      have s9 := putB_same (.cells #[.int .i64 0, .int .u64 0, .bool false, .bool false, .bool false, .int .i64 0] 48) z1
      have ho : Old w (putB W (w.heap.size + 1) (.cells #[.int .i64 0, .int .u64 0, .bool false, .bool false, .bool false, .int .i64 0] 48)) := old_put hH.1 _ (by omega)
      generalize putB W (w.heap.size + 1) (.cells #[.int .i64 0, .int .u64 0, .bool false, .bool false, .bool false, .int .i64 0] 48) = W9 at *
      obtain ⟨k9, f9, z9⟩ := of_block s9
      refine bodyPost_ret (by simp [results, Try.results47, go_sem, k9]; try rfl) rfl ?_
      exact ⟨rfl, ho⟩
    · generalize hV : decV st lv x = V
      generalize hE : decE st lv x = E
      have HV := Lib.hid (And.intro hV hE)
      have H2 := Lib.hid h2
      have HP := Lib.hid hp
      have hb0 : bitB x 0 = true := decide_eq_true (by simp only [Nat.pow_zero, Nat.div_one]; omega)
      have hon0 := fun (b : Nat) (W : World) (hc : W.cell? ⟨b, 0, none⟩ = some (.int .u64 (x : Nat))) => hon b 0 0 rfl (by decide) W hc
      rw [hb0] at hon0
      have hf55 := fun W => field_x x 55 4 x 55 4 rfl rfl rfl W hx (by decide) (by decide)
      have hf12 := fun W => field_x x 12 36 x 12 36 rfl rfl rfl W hx (by decide) (by decide)
      have e55 : ((fieldN x 55 4 : Nat) : Int) = ((decS x : Nat) : Int) := rfl
      rw [e55] at hf55
      clear e55 h2 hp hb0 hV hE
      have hqs15 := decS_le x
      generalize hqs : decS x = qs at *
      have HQ := Lib.hid (And.intro hqs hqs15)
      have hw : IntKind.i64.wrap (qs : Int) = qs := by rw [IntKind.wrap_i64]; omega
      clear hqs hqs15
      go_enter Try.func47, Try.ntmps47
      go_upto_region 1 with (fail)
      have hH := holds_new #[.int .i64 0, .int .u64 0, .bool false, .bool false, .bool false, .int .i64 0] 48 (holds_new #[.int .u64 (x : Nat)] 22 (holds_nil w))
      simp only [World.size_alloc] at hH
      generalize (w.alloc (.cells #[.int .u64 (x : Nat)] 22)).alloc (.cells #[.int .i64 0, .int .u64 0, .bool false, .bool false, .bool false, .int .i64 0] 48) = W at *
      obtain ⟨s0, s1, s2, _⟩ := id hH
      obtain ⟨k1, f1, z1⟩ := of_block s1
      obtain ⟨k2, f2, z2⟩ := of_block s2
      have c2 : W.cell? ⟨w.heap.size, 0, none⟩ = some (.int .u64 (x : Nat)) := k2 0
      go_wp2_with (first | ((go_at_call 71); (with_reducible refine (hpx _).mono ?_); rintro e w9 ⟨rfl, rfl⟩) | ((go_at_call 72); (with_reducible refine (hon0 _ _ c2).mono ?_); rintro e w9 ⟨rfl, rfl⟩))
      have hH9 := hH
      have cA : W.drew.cell? ⟨w.heap.size, 0, none⟩ = some (.int .u64 (x : Nat)) := c2
      have cB : (W.drew.alloc (.cells #[.int .i64 0, .int .u64 0, .bool false, .bool false, .bool false, .int .i64 0] 48)).cell? ⟨w.heap.size, 0, none⟩ = some (.int .u64 (x : Nat)) := by
        rw [cell_of (keep_old (old_alloc (old_refl _) _) (show W.drew.heap[w.heap.size]? = _ from s2))]; rfl
      refine wp_region_staged (S := StageS 11 W.drew (W.drew.alloc (.cells #[.int .i64 0, .int .u64 0, .bool false, .bool false, .bool false, .int .i64 0] 48))) 12 (by kernel_rfl) (by kernel_rfl) (by kernel_rfl) (by decide) rfl ?_
      (apply walkedS_cons; (focus (intro l9 wS hz hn hS; have hS9 := stage_other 0 (by decide) hS; have c9 := stage_cell hS cA cB; clear hS; go_wp2_with (fail); exact ⟨rfl, rfl, hS9⟩)); rfl; (try simp only [Act.put, List.setIfInBounds_toArray, List.set_cons_succ, List.set_cons_zero]))
      (apply walkedS_cons; (focus (intro l9 wS hz hn hS; have hS9 := stage_other 1 (by decide) hS; have c9 := stage_cell hS cA cB; clear hS; go_wp2_with (((go_at_call 72); (first | (with_reducible refine (hon _ 6 6 rfl (by decide) _ c9).mono ?_) | (with_reducible refine (hon _ 7 7 rfl (by decide) _ c9).mono ?_) | (with_reducible refine (hon _ 8 8 rfl (by decide) _ c9).mono ?_)); rintro e w9 ⟨rfl, rfl⟩)); exact ⟨rfl, rfl, hS9⟩)); rfl; (try simp only [Act.put, List.setIfInBounds_toArray, List.set_cons_succ, List.set_cons_zero]))
      (apply walkedS_cons; (focus (intro l9 wS hz hn hS; have hS9 := stage_other 2 (by decide) hS; have c9 := stage_cell hS cA cB; clear hS; go_wp2_with (fail); exact ⟨rfl, rfl, hS9⟩)); rfl; (try simp only [Act.put, List.setIfInBounds_toArray, List.set_cons_succ, List.set_cons_zero]))
      (apply walkedS_cons; (focus (intro l9 wS hz hn hS; have hS9 := stage_other 3 (by decide) hS; have c9 := stage_cell hS cA cB; clear hS; go_wp2_with (((go_at_call 72); (first | (with_reducible refine (hon _ 6 6 rfl (by decide) _ c9).mono ?_) | (with_reducible refine (hon _ 7 7 rfl (by decide) _ c9).mono ?_) | (with_reducible refine (hon _ 8 8 rfl (by decide) _ c9).mono ?_)); rintro e w9 ⟨rfl, rfl⟩)); exact ⟨rfl, rfl, hS9⟩)); rfl; (try simp only [Act.put, List.setIfInBounds_toArray, List.set_cons_succ, List.set_cons_zero]))
      (apply walkedS_cons; (focus (intro l9 wS hz hn hS; have hS9 := stage_other 4 (by decide) hS; have c9 := stage_cell hS cA cB; clear hS; go_wp2_with (fail); exact ⟨rfl, rfl, hS9⟩)); rfl; (try simp only [Act.put, List.setIfInBounds_toArray, List.set_cons_succ, List.set_cons_zero]))
      (apply walkedS_cons; (focus (intro l9 wS hz hn hS; have hS9 := stage_other 5 (by decide) hS; have c9 := stage_cell hS cA cB; clear hS; go_wp2_with (((go_at_call 72); (first | (with_reducible refine (hon _ 6 6 rfl (by decide) _ c9).mono ?_) | (with_reducible refine (hon _ 7 7 rfl (by decide) _ c9).mono ?_) | (with_reducible refine (hon _ 8 8 rfl (by decide) _ c9).mono ?_)); rintro e w9 ⟨rfl, rfl⟩)); exact ⟨rfl, rfl, hS9⟩)); rfl; (try simp only [Act.put, List.setIfInBounds_toArray, List.set_cons_succ, List.set_cons_zero]))
      (apply walkedS_cons; (focus (intro l9 wS hz hn hS; have hS9 := stage_other 6 (by decide) hS; have c9 := stage_cell hS cA cB; clear hS; go_wp2_with (fail); exact ⟨rfl, rfl, hS9⟩)); rfl; (try simp only [Act.put, List.setIfInBounds_toArray, List.set_cons_succ, List.set_cons_zero]))
      (apply walkedS_cons; (focus (intro l9 wS hz hn hS; have hS9 := stage_other 7 (by decide) hS; have c9 := stage_cell hS cA cB; clear hS; go_wp2_with (fail); exact ⟨rfl, rfl, hS9⟩)); rfl; (try simp only [Act.put, List.setIfInBounds_toArray, List.set_cons_succ, List.set_cons_zero]))
      (apply walkedS_cons; (focus (intro l9 wS hz hn hS; have hS9 := stage_other 8 (by decide) hS; have c9 := stage_cell hS cA cB; clear hS; go_wp2_with (((go_at_call 70); (with_reducible refine (hf55 _).mono ?_); rintro e w9 ⟨rfl, rfl⟩)); exact ⟨rfl, rfl, hS9⟩)); rfl; (try simp only [Act.put, List.setIfInBounds_toArray, List.set_cons_succ, List.set_cons_zero]))
      (apply walkedS_cons; (focus (intro l9 wS hz hn hS; have hS9 := stage_other 9 (by decide) hS; have c9 := stage_cell hS cA cB; clear hS; go_wp2_with (fail); exact ⟨rfl, rfl, hS9⟩)); rfl; (try simp only [Act.put, List.setIfInBounds_toArray, List.set_cons_succ, List.set_cons_zero]))
      (apply walkedS_cons; (focus (intro l9 wS hz hn hS; have hS9 := stage_other 10 (by decide) hS; have c9 := stage_cell hS cA cB; clear hS; go_wp2_with (fail); exact ⟨rfl, rfl, hS9⟩)); rfl; (try simp only [Act.put, List.setIfInBounds_toArray, List.set_cons_succ, List.set_cons_zero]))
      apply walkedS_cons
      · intro l9 wS hz hn hS
        obtain rfl := stage_before hn hS
        clear hS
        go_wp2
        exact ⟨rfl, rfl, stage_done hz (by decide)⟩
      · rfl
      apply walkedS_nil
      intro l9 wS hz hall hS
      obtain rfl := stage_after (hall 11 (by decide)) hS
      clear hS
      show wpList _ _ _ [_] _ _
      go_upto_region 7 with (fail)
      clear hH s0 s1 s2 k1 f1 z2 k2 f2 c2 cA cB hall
      have hH := holds_drew (holds_new #[.int .i64 2, .int .u64 0, .bool (bitB x 6), .bool (bitB x 7), .bool (bitB x 8), .int .i64 (qs : Nat)] 48 hH9)
      generalize (W.alloc (.cells #[.int .i64 2, .int .u64 0, .bool (bitB x 6), .bool (bitB x 7), .bool (bitB x 8), .int .i64 (qs : Nat)] 48)).drew = W2 at *
      have hzp : w.heap.size + 1 < W.heap.size := z1
      generalize W.heap.size = p at *
      have hon1 := fun (b : Nat) (W : World) (hc : W.cell? ⟨b, 0, none⟩ = some (.int .u64 (x : Nat))) => hon b 1 1 rfl (by decide) W hc
      obtain ⟨s0, s1, s2, s3, _⟩ := id hH
      obtain ⟨k1, f1, z1⟩ := of_block s1
      obtain ⟨k2, f2, z2⟩ := of_block s2
      obtain ⟨k3, f3, z3⟩ := of_block s3
      have c2 : W2.cell? ⟨w.heap.size, 0, none⟩ = some (.int .u64 (x : Nat)) := k3 0
      obtain ⟨K, hK⟩ : ∃ K, decK lv x = K := ⟨_, rfl⟩
      have hKd : decK lv x = bif bitB x 1 then (if lv = 3 then 3 else 1) else 2 := rfl
      rw [hK] at hKd
      have HK := Lib.hid hK
      clear hK
      cases hb1 : bitB x 1
      case false =>
        rw [hb1] at hKd hon1
        obtain rfl : K = 2 := hKd
        clear hb1 hon
        go_upto_region 11 with (first | ((go_at_call 72); (with_reducible refine (hon1 _ _ c2).mono ?_); rintro e w9 ⟨rfl, rfl⟩))
        clear hon1 c2
        obtain ⟨s0, s1, s2, s3, _⟩ := id hH
        obtain ⟨k1, f1, z1⟩ := of_block s1
        obtain ⟨k2, f2, z2⟩ := of_block s2
        obtain ⟨k3, f3, z3⟩ := of_block s3
        have hTop := top_x st
        have hA1 := decA_le x
        have hA2 := decA_mod x
        have hAw : IntKind.u64.wrap (((fieldN x 12 36 : Nat) : Int) * 4096) = ((decA x : Nat) : Int) := by
          rw [IntKind.wrap_u64]
          have : decA x = fieldN x 12 36 * 4096 := rfl
          omega
        have hAd := HV.out.2
        unfold decE at hAd
        rw [if_neg (show ¬ ¬ Place st lv from not_not_intro HP.out), if_neg H2.out, HK.out, HQ.out.1] at hAd
        have henc : ∀ w : World, Calls Try.prog 73 #[.int .i64 st, .int .i64 lv, .agg #[.int .i64 2, .int .u64 0, .bool (bitB x 6), .bool (bitB x 7), .bool (bitB x 8), .int .i64 (qs : Nat)]] w _ := encode_calls st lv 2 0 (bitB x 6) (bitB x 7) (bitB x 8) (qs : Nat)
        have hck := descCheck_calls st lv 2 (decA x) (bitB x 6) (bitB x 7) (bitB x 8) (qs : Nat)
        have hvd := @dec_yes st lv x HP.out H2.out
        rw [HK.out, HQ.out.1] at hvd
        have hwj := @word_join 2 (bitB x 6) (bitB x 7) (bitB x 8) qs (decA x) HQ.out.2 hA2 hA1
        generalize decA x = A at *
        by_cases c1 : checkC st lv 2 0 (bitB x 6) (bitB x 7) (bitB x 8) (qs : Nat) = 0
        case neg =>
          rw [if_pos (fun e => c1 e.1)] at hAd
          obtain rfl : 4 = E := hAd; obtain rfl : V = zeroV := HV.out.1.symm.trans (dec_bad 4 HV.out.2 (by decide)).1
          have hew : encW st lv 2 0 (bitB x 6) (bitB x 7) (bitB x 8) (qs : Nat) = 0 := if_neg (fun e => c1 e.1)
          rw [hew] at henc
          generalize checkC st lv 2 0 (bitB x 6) (bitB x 7) (bitB x 8) (qs : Nat) = e1 at *
          have hne : (e1 != 0) = true := bne_iff_ne.2 c1
          clear c1 hew hck hvd hwj
          go_wp2_with (first | ((go_at_call 70); (with_reducible refine (hf12 _).mono ?_); rintro e w9 ⟨rfl, rfl⟩) | ((go_at_call 73); (with_reducible refine (henc _).mono ?_); rintro e w9 ⟨rfl, hb9⟩; have hH := holds_old hH hb9; obtain ⟨s0, s1, s2, s3, _⟩ := id hH; obtain ⟨k1, f1, z1⟩ := of_block s1; obtain ⟨k2, f2, z2⟩ := of_block s2; obtain ⟨k3, f3, z3⟩ := of_block s3))
          rw [six_set s2 rfl]
          have ho := old_put hH.1 (.cells #[.int .i64 0, .int .u64 0, .bool false, .bool false, .bool false, .int .i64 0] 48) (show w.heap.size ≤ w.heap.size + 1 by omega)
          have s9 := putB_same (.cells #[.int .i64 0, .int .u64 0, .bool false, .bool false, .bool false, .int .i64 0] 48) z2
          generalize putB _ (w.heap.size + 1) (.cells #[.int .i64 0, .int .u64 0, .bool false, .bool false, .bool false, .int .i64 0] 48) = W9 at *
          obtain ⟨k9, f9, z9⟩ := of_block s9
          refine bodyPost_ret (by simp [results, Try.results47, go_sem, k9]; try rfl) rfl ?_
          exact ⟨rfl, ho⟩
        case pos =>
        have hew : encW st lv 2 0 (bitB x 6) (bitB x 7) (bitB x 8) (qs : Nat) = wordN 2 0 (bitB x 6) (bitB x 7) (bitB x 8) qs := if_pos ⟨c1, by decide⟩
        rw [hew, c1] at henc
        rw [c1] at hAd
        clear hew c1
        generalize wordN 2 0 (bitB x 6) (bitB x 7) (bitB x 8) qs = V0 at *
        by_cases c2 : V0 + A = x
        case neg =>
          rw [if_pos (fun e => c2 e.2)] at hAd
          obtain rfl : 4 = E := hAd; obtain rfl : V = zeroV := HV.out.1.symm.trans (dec_bad 4 HV.out.2 (by decide)).1
          generalize V0 + A = Y at *
          have hne : ((Y : Int) != (x : Int)) = true := bne_iff_ne.2 (by omega)
          clear c2 hck hvd
          go_wp2_with (first | ((go_at_call 70); (with_reducible refine (hf12 _).mono ?_); rintro e w9 ⟨rfl, rfl⟩) | ((go_at_call 73); (with_reducible refine (henc _).mono ?_); rintro e w9 ⟨rfl, hb9⟩; have hH := holds_old hH hb9; obtain ⟨s0, s1, s2, s3, _⟩ := id hH; obtain ⟨k1, f1, z1⟩ := of_block s1; obtain ⟨k2, f2, z2⟩ := of_block s2; obtain ⟨k3, f3, z3⟩ := of_block s3))
          rw [six_set s2 rfl]
          have ho := old_put hH.1 (.cells #[.int .i64 0, .int .u64 0, .bool false, .bool false, .bool false, .int .i64 0] 48) (show w.heap.size ≤ w.heap.size + 1 by omega)
          have s9 := putB_same (.cells #[.int .i64 0, .int .u64 0, .bool false, .bool false, .bool false, .int .i64 0] 48) z2
          generalize putB _ (w.heap.size + 1) (.cells #[.int .i64 0, .int .u64 0, .bool false, .bool false, .bool false, .int .i64 0] 48) = W9 at *
          obtain ⟨k9, f9, z9⟩ := of_block s9
          refine bodyPost_ret (by simp [results, Try.results47, go_sem, k9]; try rfl) rfl ?_
          exact ⟨rfl, ho⟩
        case pos =>
        rw [if_neg (not_not_intro ⟨rfl, c2⟩)] at hAd
        rw [c2] at hwj
        have hxx : ((x : Int) != (x : Int)) = false := by simp
        clear c2
        go_upto_region 15 with (first | ((go_at_call 70); (with_reducible refine (hf12 _).mono ?_); rintro e w9 ⟨rfl, rfl⟩) | ((go_at_call 73); (with_reducible refine (henc _).mono ?_); rintro e w9 ⟨rfl, hb9⟩; have hH := holds_old hH hb9; obtain ⟨s0, s1, s2, s3, _⟩ := id hH; obtain ⟨k1, f1, z1⟩ := of_block s1; obtain ⟨k2, f2, z2⟩ := of_block s2; obtain ⟨k3, f3, z3⟩ := of_block s3))
        by_cases c3 : topN st ≤ A
        case pos =>
          rw [if_pos c3] at hAd
          obtain rfl : 2 = E := hAd; obtain rfl : V = zeroV := HV.out.1.symm.trans (dec_bad 2 HV.out.2 (by decide)).1
          clear hck hvd
          go_wp2_with (first | ((go_at_call 45); (with_reducible refine (hTop _).mono ?_); rintro e w9 ⟨rfl, rfl⟩))
          rw [six_set s2 rfl]
          have ho := old_put hH.1 (.cells #[.int .i64 0, .int .u64 0, .bool false, .bool false, .bool false, .int .i64 0] 48) (show w.heap.size ≤ w.heap.size + 1 by omega)
          have s9 := putB_same (.cells #[.int .i64 0, .int .u64 0, .bool false, .bool false, .bool false, .int .i64 0] 48) z2
          generalize putB _ (w.heap.size + 1) (.cells #[.int .i64 0, .int .u64 0, .bool false, .bool false, .bool false, .int .i64 0] 48) = W9 at *
          obtain ⟨k9, f9, z9⟩ := of_block s9
          refine bodyPost_ret (by simp [results, Try.results47, go_sem, k9]; try rfl) rfl ?_
          exact ⟨rfl, ho⟩
        case neg =>
        rw [if_neg c3] at hAd
        go_upto_region 18 with (first | ((go_at_call 45); (with_reducible refine (hTop _).mono ?_); rintro e w9 ⟨rfl, rfl⟩))
        clear c3
        rw [set_of s1]
        have hH := holds_top #[.int .i64 2, .int .u64 (A : Nat), .bool (bitB x 6), .bool (bitB x 7), .bool (bitB x 8), .int .i64 (qs : Nat)] hH (by omega) (by intro y hy; simp only [List.mem_cons, List.not_mem_nil, or_false] at hy; rcases hy with rfl | rfl <;> simp only [ne_eq] <;> omega)
        generalize hW6 : putB _ p (.cells (Array.setIfInBounds _ 1 _) _) = W6
        replace hH : Holds w ((p, #[.int .i64 2, .int .u64 (A : Nat), .bool (bitB x 6), .bool (bitB x 7), .bool (bitB x 8), .int .i64 (qs : Nat)], 48) :: [(w.heap.size + 1, #[.int .i64 0, .int .u64 0, .bool false, .bool false, .bool false, .int .i64 0], 48), (w.heap.size, #[.int .u64 (x : Nat)], 22)]) W6 := by rw [← hW6]; exact hH
        clear hW6
        obtain ⟨s0, s1, s2, s3, _⟩ := id hH
        obtain ⟨k1, f1, z1⟩ := of_block s1
        obtain ⟨k2, f2, z2⟩ := of_block s2
        obtain ⟨k3, f3, z3⟩ := of_block s3
        by_cases c4 : checkC st lv 2 A (bitB x 6) (bitB x 7) (bitB x 8) (qs : Nat) = 0
        case neg =>
          rw [if_pos c4] at hAd
          obtain rfl : 4 = E := hAd; obtain rfl : V = zeroV := HV.out.1.symm.trans (dec_bad 4 HV.out.2 (by decide)).1
          generalize checkC st lv 2 A (bitB x 6) (bitB x 7) (bitB x 8) (qs : Nat) = e1 at *
          have hne : (e1 != 0) = true := bne_iff_ne.2 c4
          clear c4 hvd
          go_wp2_with (first | ((go_at_call 74); (with_reducible refine (hck _).mono ?_); rintro e w9 ⟨rfl, hb9⟩; have hH := holds_old hH hb9; obtain ⟨s0, s1, s2, s3, _⟩ := id hH; obtain ⟨k1, f1, z1⟩ := of_block s1; obtain ⟨k2, f2, z2⟩ := of_block s2; obtain ⟨k3, f3, z3⟩ := of_block s3))
          rw [six_set s2 rfl]
          have ho := old_put hH.1 (.cells #[.int .i64 0, .int .u64 0, .bool false, .bool false, .bool false, .int .i64 0] 48) (show w.heap.size ≤ w.heap.size + 1 by omega)
          have s9 := putB_same (.cells #[.int .i64 0, .int .u64 0, .bool false, .bool false, .bool false, .int .i64 0] 48) z2
          generalize putB _ (w.heap.size + 1) (.cells #[.int .i64 0, .int .u64 0, .bool false, .bool false, .bool false, .int .i64 0] 48) = W9 at *
          obtain ⟨k9, f9, z9⟩ := of_block s9
          refine bodyPost_ret (by simp [results, Try.results47, go_sem, k9]; try rfl) rfl ?_
          exact ⟨rfl, ho⟩
        case pos =>
        rw [if_neg (not_not_intro c4)] at hAd
        rw [c4] at hck
        obtain rfl : 0 = E := hAd; obtain rfl : V = descV 2 A (bitB x 6) (bitB x 7) (bitB x 8) (qs : Nat) := HV.out.1.symm.trans (hvd HV.out.2).1
        clear c4 hvd
        go_wp2_with (first | ((go_at_call 74); (with_reducible refine (hck _).mono ?_); rintro e w9 ⟨rfl, hb9⟩; have hH := holds_old hH hb9; obtain ⟨s0, s1, s2, s3, _⟩ := id hH; obtain ⟨k1, f1, z1⟩ := of_block s1; obtain ⟨k2, f2, z2⟩ := of_block s2; obtain ⟨k3, f3, z3⟩ := of_block s3))
        rw [six_set s2 rfl]
        have ho := old_put hH.1 (.cells #[.int .i64 2, .int .u64 (A : Nat), .bool (bitB x 6), .bool (bitB x 7), .bool (bitB x 8), .int .i64 (qs : Nat)] 48) (show w.heap.size ≤ w.heap.size + 1 by omega)
        have s9 := putB_same (.cells #[.int .i64 2, .int .u64 (A : Nat), .bool (bitB x 6), .bool (bitB x 7), .bool (bitB x 8), .int .i64 (qs : Nat)] 48) z2
        generalize putB _ (w.heap.size + 1) (.cells #[.int .i64 2, .int .u64 (A : Nat), .bool (bitB x 6), .bool (bitB x 7), .bool (bitB x 8), .int .i64 (qs : Nat)] 48) = W9 at *
        obtain ⟨k9, f9, z9⟩ := of_block s9
        refine bodyPost_ret (by simp [results, Try.results47, go_sem, k9]; try rfl) rfl ?_
        exact ⟨rfl, ho⟩
      case true =>
        rw [hb1] at hKd hon1
        by_cases hl : lv = 3
        · subst hl
          obtain rfl : K = 3 := hKd
          clear hb1 hon
          go_upto_region 11 with (first | ((go_at_call 72); (with_reducible refine (hon1 _ _ c2).mono ?_); rintro e w9 ⟨rfl, rfl⟩))
          rw [set_of s1]
          have hH := holds_top #[.int .i64 3, .int .u64 0, .bool (bitB x 6), .bool (bitB x 7), .bool (bitB x 8), .int .i64 (qs : Nat)] hH (by omega) (by intro y hy; simp only [List.mem_cons, List.not_mem_nil, or_false] at hy; rcases hy with rfl | rfl <;> simp only [ne_eq] <;> omega)
          generalize hW6 : putB W2 p (.cells (Array.setIfInBounds _ 0 _) _) = W3
          replace hH : Holds w ((p, #[.int .i64 3, .int .u64 0, .bool (bitB x 6), .bool (bitB x 7), .bool (bitB x 8), .int .i64 (qs : Nat)], 48) :: [(w.heap.size + 1, #[.int .i64 0, .int .u64 0, .bool false, .bool false, .bool false, .int .i64 0], 48), (w.heap.size, #[.int .u64 (x : Nat)], 22)]) W3 := by rw [← hW6]; exact hH
          clear hW6
          clear hon1 c2
          obtain ⟨s0, s1, s2, s3, _⟩ := id hH
          obtain ⟨k1, f1, z1⟩ := of_block s1
          obtain ⟨k2, f2, z2⟩ := of_block s2
          obtain ⟨k3, f3, z3⟩ := of_block s3
          have hTop := top_x st
          have hA1 := decA_le x
          have hA2 := decA_mod x
          have hAw : IntKind.u64.wrap (((fieldN x 12 36 : Nat) : Int) * 4096) = ((decA x : Nat) : Int) := by
            rw [IntKind.wrap_u64]
            have : decA x = fieldN x 12 36 * 4096 := rfl
            omega
          have hAd := HV.out.2
          unfold decE at hAd
          rw [if_neg (show ¬ ¬ Place st 3 from not_not_intro HP.out), if_neg H2.out, HK.out, HQ.out.1] at hAd
          have henc : ∀ w : World, Calls Try.prog 73 #[.int .i64 st, .int .i64 3, .agg #[.int .i64 3, .int .u64 0, .bool (bitB x 6), .bool (bitB x 7), .bool (bitB x 8), .int .i64 (qs : Nat)]] w _ := encode_calls st 3 3 0 (bitB x 6) (bitB x 7) (bitB x 8) (qs : Nat)
          have hck := descCheck_calls st 3 3 (decA x) (bitB x 6) (bitB x 7) (bitB x 8) (qs : Nat)
          have hvd := @dec_yes st 3 x HP.out H2.out
          rw [HK.out, HQ.out.1] at hvd
          have hwj := @word_join 3 (bitB x 6) (bitB x 7) (bitB x 8) qs (decA x) HQ.out.2 hA2 hA1
          generalize decA x = A at *
          by_cases c1 : checkC st 3 3 0 (bitB x 6) (bitB x 7) (bitB x 8) (qs : Nat) = 0
          case neg =>
            rw [if_pos (fun e => c1 e.1)] at hAd
            obtain rfl : 4 = E := hAd; obtain rfl : V = zeroV := HV.out.1.symm.trans (dec_bad 4 HV.out.2 (by decide)).1
            have hew : encW st 3 3 0 (bitB x 6) (bitB x 7) (bitB x 8) (qs : Nat) = 0 := if_neg (fun e => c1 e.1)
            rw [hew] at henc
            generalize checkC st 3 3 0 (bitB x 6) (bitB x 7) (bitB x 8) (qs : Nat) = e1 at *
            have hne : (e1 != 0) = true := bne_iff_ne.2 c1
            clear c1 hew hck hvd hwj
            go_wp2_with (first | ((go_at_call 70); (with_reducible refine (hf12 _).mono ?_); rintro e w9 ⟨rfl, rfl⟩) | ((go_at_call 73); (with_reducible refine (henc _).mono ?_); rintro e w9 ⟨rfl, hb9⟩; have hH := holds_old hH hb9; obtain ⟨s0, s1, s2, s3, _⟩ := id hH; obtain ⟨k1, f1, z1⟩ := of_block s1; obtain ⟨k2, f2, z2⟩ := of_block s2; obtain ⟨k3, f3, z3⟩ := of_block s3))
            rw [six_set s2 rfl]
            have ho := old_put hH.1 (.cells #[.int .i64 0, .int .u64 0, .bool false, .bool false, .bool false, .int .i64 0] 48) (show w.heap.size ≤ w.heap.size + 1 by omega)
            have s9 := putB_same (.cells #[.int .i64 0, .int .u64 0, .bool false, .bool false, .bool false, .int .i64 0] 48) z2
            generalize putB _ (w.heap.size + 1) (.cells #[.int .i64 0, .int .u64 0, .bool false, .bool false, .bool false, .int .i64 0] 48) = W9 at *
            obtain ⟨k9, f9, z9⟩ := of_block s9
            refine bodyPost_ret (by simp [results, Try.results47, go_sem, k9]; try rfl) rfl ?_
            exact ⟨rfl, ho⟩
          case pos =>
          have hew : encW st 3 3 0 (bitB x 6) (bitB x 7) (bitB x 8) (qs : Nat) = wordN 3 0 (bitB x 6) (bitB x 7) (bitB x 8) qs := if_pos ⟨c1, by decide⟩
          rw [hew, c1] at henc
          rw [c1] at hAd
          clear hew c1
          generalize wordN 3 0 (bitB x 6) (bitB x 7) (bitB x 8) qs = V0 at *
          by_cases c2 : V0 + A = x
          case neg =>
            rw [if_pos (fun e => c2 e.2)] at hAd
            obtain rfl : 4 = E := hAd; obtain rfl : V = zeroV := HV.out.1.symm.trans (dec_bad 4 HV.out.2 (by decide)).1
            generalize V0 + A = Y at *
            have hne : ((Y : Int) != (x : Int)) = true := bne_iff_ne.2 (by omega)
            clear c2 hck hvd
            go_wp2_with (first | ((go_at_call 70); (with_reducible refine (hf12 _).mono ?_); rintro e w9 ⟨rfl, rfl⟩) | ((go_at_call 73); (with_reducible refine (henc _).mono ?_); rintro e w9 ⟨rfl, hb9⟩; have hH := holds_old hH hb9; obtain ⟨s0, s1, s2, s3, _⟩ := id hH; obtain ⟨k1, f1, z1⟩ := of_block s1; obtain ⟨k2, f2, z2⟩ := of_block s2; obtain ⟨k3, f3, z3⟩ := of_block s3))
            rw [six_set s2 rfl]
            have ho := old_put hH.1 (.cells #[.int .i64 0, .int .u64 0, .bool false, .bool false, .bool false, .int .i64 0] 48) (show w.heap.size ≤ w.heap.size + 1 by omega)
            have s9 := putB_same (.cells #[.int .i64 0, .int .u64 0, .bool false, .bool false, .bool false, .int .i64 0] 48) z2
            generalize putB _ (w.heap.size + 1) (.cells #[.int .i64 0, .int .u64 0, .bool false, .bool false, .bool false, .int .i64 0] 48) = W9 at *
            obtain ⟨k9, f9, z9⟩ := of_block s9
            refine bodyPost_ret (by simp [results, Try.results47, go_sem, k9]; try rfl) rfl ?_
            exact ⟨rfl, ho⟩
          case pos =>
          rw [if_neg (not_not_intro ⟨rfl, c2⟩)] at hAd
          rw [c2] at hwj
          have hxx : ((x : Int) != (x : Int)) = false := by simp
          clear c2
          go_upto_region 15 with (first | ((go_at_call 70); (with_reducible refine (hf12 _).mono ?_); rintro e w9 ⟨rfl, rfl⟩) | ((go_at_call 73); (with_reducible refine (henc _).mono ?_); rintro e w9 ⟨rfl, hb9⟩; have hH := holds_old hH hb9; obtain ⟨s0, s1, s2, s3, _⟩ := id hH; obtain ⟨k1, f1, z1⟩ := of_block s1; obtain ⟨k2, f2, z2⟩ := of_block s2; obtain ⟨k3, f3, z3⟩ := of_block s3))
          by_cases c3 : topN st ≤ A
          case pos =>
            rw [if_pos c3] at hAd
            obtain rfl : 2 = E := hAd; obtain rfl : V = zeroV := HV.out.1.symm.trans (dec_bad 2 HV.out.2 (by decide)).1
            clear hck hvd
            go_wp2_with (first | ((go_at_call 45); (with_reducible refine (hTop _).mono ?_); rintro e w9 ⟨rfl, rfl⟩))
            rw [six_set s2 rfl]
            have ho := old_put hH.1 (.cells #[.int .i64 0, .int .u64 0, .bool false, .bool false, .bool false, .int .i64 0] 48) (show w.heap.size ≤ w.heap.size + 1 by omega)
            have s9 := putB_same (.cells #[.int .i64 0, .int .u64 0, .bool false, .bool false, .bool false, .int .i64 0] 48) z2
            generalize putB _ (w.heap.size + 1) (.cells #[.int .i64 0, .int .u64 0, .bool false, .bool false, .bool false, .int .i64 0] 48) = W9 at *
            obtain ⟨k9, f9, z9⟩ := of_block s9
            refine bodyPost_ret (by simp [results, Try.results47, go_sem, k9]; try rfl) rfl ?_
            exact ⟨rfl, ho⟩
          case neg =>
          rw [if_neg c3] at hAd
          go_upto_region 18 with (first | ((go_at_call 45); (with_reducible refine (hTop _).mono ?_); rintro e w9 ⟨rfl, rfl⟩))
          clear c3
          rw [set_of s1]
          have hH := holds_top #[.int .i64 3, .int .u64 (A : Nat), .bool (bitB x 6), .bool (bitB x 7), .bool (bitB x 8), .int .i64 (qs : Nat)] hH (by omega) (by intro y hy; simp only [List.mem_cons, List.not_mem_nil, or_false] at hy; rcases hy with rfl | rfl <;> simp only [ne_eq] <;> omega)
          generalize hW6 : putB _ p (.cells (Array.setIfInBounds _ 1 _) _) = W6
          replace hH : Holds w ((p, #[.int .i64 3, .int .u64 (A : Nat), .bool (bitB x 6), .bool (bitB x 7), .bool (bitB x 8), .int .i64 (qs : Nat)], 48) :: [(w.heap.size + 1, #[.int .i64 0, .int .u64 0, .bool false, .bool false, .bool false, .int .i64 0], 48), (w.heap.size, #[.int .u64 (x : Nat)], 22)]) W6 := by rw [← hW6]; exact hH
          clear hW6
          obtain ⟨s0, s1, s2, s3, _⟩ := id hH
          obtain ⟨k1, f1, z1⟩ := of_block s1
          obtain ⟨k2, f2, z2⟩ := of_block s2
          obtain ⟨k3, f3, z3⟩ := of_block s3
          by_cases c4 : checkC st 3 3 A (bitB x 6) (bitB x 7) (bitB x 8) (qs : Nat) = 0
          case neg =>
            rw [if_pos c4] at hAd
            obtain rfl : 4 = E := hAd; obtain rfl : V = zeroV := HV.out.1.symm.trans (dec_bad 4 HV.out.2 (by decide)).1
            generalize checkC st 3 3 A (bitB x 6) (bitB x 7) (bitB x 8) (qs : Nat) = e1 at *
            have hne : (e1 != 0) = true := bne_iff_ne.2 c4
            clear c4 hvd
            go_wp2_with (first | ((go_at_call 74); (with_reducible refine (hck _).mono ?_); rintro e w9 ⟨rfl, hb9⟩; have hH := holds_old hH hb9; obtain ⟨s0, s1, s2, s3, _⟩ := id hH; obtain ⟨k1, f1, z1⟩ := of_block s1; obtain ⟨k2, f2, z2⟩ := of_block s2; obtain ⟨k3, f3, z3⟩ := of_block s3))
            rw [six_set s2 rfl]
            have ho := old_put hH.1 (.cells #[.int .i64 0, .int .u64 0, .bool false, .bool false, .bool false, .int .i64 0] 48) (show w.heap.size ≤ w.heap.size + 1 by omega)
            have s9 := putB_same (.cells #[.int .i64 0, .int .u64 0, .bool false, .bool false, .bool false, .int .i64 0] 48) z2
            generalize putB _ (w.heap.size + 1) (.cells #[.int .i64 0, .int .u64 0, .bool false, .bool false, .bool false, .int .i64 0] 48) = W9 at *
            obtain ⟨k9, f9, z9⟩ := of_block s9
            refine bodyPost_ret (by simp [results, Try.results47, go_sem, k9]; try rfl) rfl ?_
            exact ⟨rfl, ho⟩
          case pos =>
          rw [if_neg (not_not_intro c4)] at hAd
          rw [c4] at hck
          obtain rfl : 0 = E := hAd; obtain rfl : V = descV 3 A (bitB x 6) (bitB x 7) (bitB x 8) (qs : Nat) := HV.out.1.symm.trans (hvd HV.out.2).1
          clear c4 hvd
          go_wp2_with (first | ((go_at_call 74); (with_reducible refine (hck _).mono ?_); rintro e w9 ⟨rfl, hb9⟩; have hH := holds_old hH hb9; obtain ⟨s0, s1, s2, s3, _⟩ := id hH; obtain ⟨k1, f1, z1⟩ := of_block s1; obtain ⟨k2, f2, z2⟩ := of_block s2; obtain ⟨k3, f3, z3⟩ := of_block s3))
          rw [six_set s2 rfl]
          have ho := old_put hH.1 (.cells #[.int .i64 3, .int .u64 (A : Nat), .bool (bitB x 6), .bool (bitB x 7), .bool (bitB x 8), .int .i64 (qs : Nat)] 48) (show w.heap.size ≤ w.heap.size + 1 by omega)
          have s9 := putB_same (.cells #[.int .i64 3, .int .u64 (A : Nat), .bool (bitB x 6), .bool (bitB x 7), .bool (bitB x 8), .int .i64 (qs : Nat)] 48) z2
          generalize putB _ (w.heap.size + 1) (.cells #[.int .i64 3, .int .u64 (A : Nat), .bool (bitB x 6), .bool (bitB x 7), .bool (bitB x 8), .int .i64 (qs : Nat)] 48) = W9 at *
          obtain ⟨k9, f9, z9⟩ := of_block s9
          refine bodyPost_ret (by simp [results, Try.results47, go_sem, k9]; try rfl) rfl ?_
          exact ⟨rfl, ho⟩
        · obtain rfl : K = 1 := by rw [hKd, cond_true, if_neg hl]
          clear hKd hb1 hon
          go_upto_region 11 with (first | ((go_at_call 72); (with_reducible refine (hon1 _ _ c2).mono ?_); rintro e w9 ⟨rfl, rfl⟩))
          rw [set_of s1]
          have hH := holds_top #[.int .i64 1, .int .u64 0, .bool (bitB x 6), .bool (bitB x 7), .bool (bitB x 8), .int .i64 (qs : Nat)] hH (by omega) (by intro y hy; simp only [List.mem_cons, List.not_mem_nil, or_false] at hy; rcases hy with rfl | rfl <;> simp only [ne_eq] <;> omega)
          generalize hW6 : putB W2 p (.cells (Array.setIfInBounds _ 0 _) _) = W3
          replace hH : Holds w ((p, #[.int .i64 1, .int .u64 0, .bool (bitB x 6), .bool (bitB x 7), .bool (bitB x 8), .int .i64 (qs : Nat)], 48) :: [(w.heap.size + 1, #[.int .i64 0, .int .u64 0, .bool false, .bool false, .bool false, .int .i64 0], 48), (w.heap.size, #[.int .u64 (x : Nat)], 22)]) W3 := by rw [← hW6]; exact hH
          clear hW6
          clear hon1 c2
          obtain ⟨s0, s1, s2, s3, _⟩ := id hH
          obtain ⟨k1, f1, z1⟩ := of_block s1
          obtain ⟨k2, f2, z2⟩ := of_block s2
          obtain ⟨k3, f3, z3⟩ := of_block s3
          have hTop := top_x st
          have hA1 := decA_le x
          have hA2 := decA_mod x
          have hAw : IntKind.u64.wrap (((fieldN x 12 36 : Nat) : Int) * 4096) = ((decA x : Nat) : Int) := by
            rw [IntKind.wrap_u64]
            have : decA x = fieldN x 12 36 * 4096 := rfl
            omega
          have hAd := HV.out.2
          unfold decE at hAd
          rw [if_neg (show ¬ ¬ Place st lv from not_not_intro HP.out), if_neg H2.out, HK.out, HQ.out.1] at hAd
          have henc : ∀ w : World, Calls Try.prog 73 #[.int .i64 st, .int .i64 lv, .agg #[.int .i64 1, .int .u64 0, .bool (bitB x 6), .bool (bitB x 7), .bool (bitB x 8), .int .i64 (qs : Nat)]] w _ := encode_calls st lv 1 0 (bitB x 6) (bitB x 7) (bitB x 8) (qs : Nat)
          have hck := descCheck_calls st lv 1 (decA x) (bitB x 6) (bitB x 7) (bitB x 8) (qs : Nat)
          have hvd := @dec_yes st lv x HP.out H2.out
          rw [HK.out, HQ.out.1] at hvd
          have hwj := @word_join 1 (bitB x 6) (bitB x 7) (bitB x 8) qs (decA x) HQ.out.2 hA2 hA1
          generalize decA x = A at *
          by_cases c1 : checkC st lv 1 0 (bitB x 6) (bitB x 7) (bitB x 8) (qs : Nat) = 0
          case neg =>
            rw [if_pos (fun e => c1 e.1)] at hAd
            obtain rfl : 4 = E := hAd; obtain rfl : V = zeroV := HV.out.1.symm.trans (dec_bad 4 HV.out.2 (by decide)).1
            have hew : encW st lv 1 0 (bitB x 6) (bitB x 7) (bitB x 8) (qs : Nat) = 0 := if_neg (fun e => c1 e.1)
            rw [hew] at henc
            generalize checkC st lv 1 0 (bitB x 6) (bitB x 7) (bitB x 8) (qs : Nat) = e1 at *
            have hne : (e1 != 0) = true := bne_iff_ne.2 c1
            clear c1 hew hck hvd hwj
            go_wp2_with (first | ((go_at_call 70); (with_reducible refine (hf12 _).mono ?_); rintro e w9 ⟨rfl, rfl⟩) | ((go_at_call 73); (with_reducible refine (henc _).mono ?_); rintro e w9 ⟨rfl, hb9⟩; have hH := holds_old hH hb9; obtain ⟨s0, s1, s2, s3, _⟩ := id hH; obtain ⟨k1, f1, z1⟩ := of_block s1; obtain ⟨k2, f2, z2⟩ := of_block s2; obtain ⟨k3, f3, z3⟩ := of_block s3))
            rw [six_set s2 rfl]
            have ho := old_put hH.1 (.cells #[.int .i64 0, .int .u64 0, .bool false, .bool false, .bool false, .int .i64 0] 48) (show w.heap.size ≤ w.heap.size + 1 by omega)
            have s9 := putB_same (.cells #[.int .i64 0, .int .u64 0, .bool false, .bool false, .bool false, .int .i64 0] 48) z2
            generalize putB _ (w.heap.size + 1) (.cells #[.int .i64 0, .int .u64 0, .bool false, .bool false, .bool false, .int .i64 0] 48) = W9 at *
            obtain ⟨k9, f9, z9⟩ := of_block s9
            refine bodyPost_ret (by simp [results, Try.results47, go_sem, k9]; try rfl) rfl ?_
            exact ⟨rfl, ho⟩
          case pos =>
          have hew : encW st lv 1 0 (bitB x 6) (bitB x 7) (bitB x 8) (qs : Nat) = wordN 1 0 (bitB x 6) (bitB x 7) (bitB x 8) qs := if_pos ⟨c1, by decide⟩
          rw [hew, c1] at henc
          rw [c1] at hAd
          clear hew c1
          generalize wordN 1 0 (bitB x 6) (bitB x 7) (bitB x 8) qs = V0 at *
          by_cases c2 : V0 + A = x
          case neg =>
            rw [if_pos (fun e => c2 e.2)] at hAd
            obtain rfl : 4 = E := hAd; obtain rfl : V = zeroV := HV.out.1.symm.trans (dec_bad 4 HV.out.2 (by decide)).1
            generalize V0 + A = Y at *
            have hne : ((Y : Int) != (x : Int)) = true := bne_iff_ne.2 (by omega)
            clear c2 hck hvd
            go_wp2_with (first | ((go_at_call 70); (with_reducible refine (hf12 _).mono ?_); rintro e w9 ⟨rfl, rfl⟩) | ((go_at_call 73); (with_reducible refine (henc _).mono ?_); rintro e w9 ⟨rfl, hb9⟩; have hH := holds_old hH hb9; obtain ⟨s0, s1, s2, s3, _⟩ := id hH; obtain ⟨k1, f1, z1⟩ := of_block s1; obtain ⟨k2, f2, z2⟩ := of_block s2; obtain ⟨k3, f3, z3⟩ := of_block s3))
            rw [six_set s2 rfl]
            have ho := old_put hH.1 (.cells #[.int .i64 0, .int .u64 0, .bool false, .bool false, .bool false, .int .i64 0] 48) (show w.heap.size ≤ w.heap.size + 1 by omega)
            have s9 := putB_same (.cells #[.int .i64 0, .int .u64 0, .bool false, .bool false, .bool false, .int .i64 0] 48) z2
            generalize putB _ (w.heap.size + 1) (.cells #[.int .i64 0, .int .u64 0, .bool false, .bool false, .bool false, .int .i64 0] 48) = W9 at *
            obtain ⟨k9, f9, z9⟩ := of_block s9
            refine bodyPost_ret (by simp [results, Try.results47, go_sem, k9]; try rfl) rfl ?_
            exact ⟨rfl, ho⟩
          case pos =>
          rw [if_neg (not_not_intro ⟨rfl, c2⟩)] at hAd
          rw [c2] at hwj
          have hxx : ((x : Int) != (x : Int)) = false := by simp
          clear c2
          go_upto_region 15 with (first | ((go_at_call 70); (with_reducible refine (hf12 _).mono ?_); rintro e w9 ⟨rfl, rfl⟩) | ((go_at_call 73); (with_reducible refine (henc _).mono ?_); rintro e w9 ⟨rfl, hb9⟩; have hH := holds_old hH hb9; obtain ⟨s0, s1, s2, s3, _⟩ := id hH; obtain ⟨k1, f1, z1⟩ := of_block s1; obtain ⟨k2, f2, z2⟩ := of_block s2; obtain ⟨k3, f3, z3⟩ := of_block s3))
          by_cases c3 : topN st ≤ A
          case pos =>
            rw [if_pos c3] at hAd
            obtain rfl : 2 = E := hAd; obtain rfl : V = zeroV := HV.out.1.symm.trans (dec_bad 2 HV.out.2 (by decide)).1
            clear hck hvd
            go_wp2_with (first | ((go_at_call 45); (with_reducible refine (hTop _).mono ?_); rintro e w9 ⟨rfl, rfl⟩))
            rw [six_set s2 rfl]
            have ho := old_put hH.1 (.cells #[.int .i64 0, .int .u64 0, .bool false, .bool false, .bool false, .int .i64 0] 48) (show w.heap.size ≤ w.heap.size + 1 by omega)
            have s9 := putB_same (.cells #[.int .i64 0, .int .u64 0, .bool false, .bool false, .bool false, .int .i64 0] 48) z2
            generalize putB _ (w.heap.size + 1) (.cells #[.int .i64 0, .int .u64 0, .bool false, .bool false, .bool false, .int .i64 0] 48) = W9 at *
            obtain ⟨k9, f9, z9⟩ := of_block s9
            refine bodyPost_ret (by simp [results, Try.results47, go_sem, k9]; try rfl) rfl ?_
            exact ⟨rfl, ho⟩
          case neg =>
          rw [if_neg c3] at hAd
          go_upto_region 18 with (first | ((go_at_call 45); (with_reducible refine (hTop _).mono ?_); rintro e w9 ⟨rfl, rfl⟩))
          clear c3
          rw [set_of s1]
          have hH := holds_top #[.int .i64 1, .int .u64 (A : Nat), .bool (bitB x 6), .bool (bitB x 7), .bool (bitB x 8), .int .i64 (qs : Nat)] hH (by omega) (by intro y hy; simp only [List.mem_cons, List.not_mem_nil, or_false] at hy; rcases hy with rfl | rfl <;> simp only [ne_eq] <;> omega)
          generalize hW6 : putB _ p (.cells (Array.setIfInBounds _ 1 _) _) = W6
          replace hH : Holds w ((p, #[.int .i64 1, .int .u64 (A : Nat), .bool (bitB x 6), .bool (bitB x 7), .bool (bitB x 8), .int .i64 (qs : Nat)], 48) :: [(w.heap.size + 1, #[.int .i64 0, .int .u64 0, .bool false, .bool false, .bool false, .int .i64 0], 48), (w.heap.size, #[.int .u64 (x : Nat)], 22)]) W6 := by rw [← hW6]; exact hH
          clear hW6
          obtain ⟨s0, s1, s2, s3, _⟩ := id hH
          obtain ⟨k1, f1, z1⟩ := of_block s1
          obtain ⟨k2, f2, z2⟩ := of_block s2
          obtain ⟨k3, f3, z3⟩ := of_block s3
          by_cases c4 : checkC st lv 1 A (bitB x 6) (bitB x 7) (bitB x 8) (qs : Nat) = 0
          case neg =>
            rw [if_pos c4] at hAd
            obtain rfl : 4 = E := hAd; obtain rfl : V = zeroV := HV.out.1.symm.trans (dec_bad 4 HV.out.2 (by decide)).1
            generalize checkC st lv 1 A (bitB x 6) (bitB x 7) (bitB x 8) (qs : Nat) = e1 at *
            have hne : (e1 != 0) = true := bne_iff_ne.2 c4
            clear c4 hvd
            go_wp2_with (first | ((go_at_call 74); (with_reducible refine (hck _).mono ?_); rintro e w9 ⟨rfl, hb9⟩; have hH := holds_old hH hb9; obtain ⟨s0, s1, s2, s3, _⟩ := id hH; obtain ⟨k1, f1, z1⟩ := of_block s1; obtain ⟨k2, f2, z2⟩ := of_block s2; obtain ⟨k3, f3, z3⟩ := of_block s3))
            rw [six_set s2 rfl]
            have ho := old_put hH.1 (.cells #[.int .i64 0, .int .u64 0, .bool false, .bool false, .bool false, .int .i64 0] 48) (show w.heap.size ≤ w.heap.size + 1 by omega)
            have s9 := putB_same (.cells #[.int .i64 0, .int .u64 0, .bool false, .bool false, .bool false, .int .i64 0] 48) z2
            generalize putB _ (w.heap.size + 1) (.cells #[.int .i64 0, .int .u64 0, .bool false, .bool false, .bool false, .int .i64 0] 48) = W9 at *
            obtain ⟨k9, f9, z9⟩ := of_block s9
            refine bodyPost_ret (by simp [results, Try.results47, go_sem, k9]; try rfl) rfl ?_
            exact ⟨rfl, ho⟩
          case pos =>
          rw [if_neg (not_not_intro c4)] at hAd
          rw [c4] at hck
          obtain rfl : 0 = E := hAd; obtain rfl : V = descV 1 A (bitB x 6) (bitB x 7) (bitB x 8) (qs : Nat) := HV.out.1.symm.trans (hvd HV.out.2).1
          clear c4 hvd
          go_wp2_with (first | ((go_at_call 74); (with_reducible refine (hck _).mono ?_); rintro e w9 ⟨rfl, hb9⟩; have hH := holds_old hH hb9; obtain ⟨s0, s1, s2, s3, _⟩ := id hH; obtain ⟨k1, f1, z1⟩ := of_block s1; obtain ⟨k2, f2, z2⟩ := of_block s2; obtain ⟨k3, f3, z3⟩ := of_block s3))
          rw [six_set s2 rfl]
          have ho := old_put hH.1 (.cells #[.int .i64 1, .int .u64 (A : Nat), .bool (bitB x 6), .bool (bitB x 7), .bool (bitB x 8), .int .i64 (qs : Nat)] 48) (show w.heap.size ≤ w.heap.size + 1 by omega)
          have s9 := putB_same (.cells #[.int .i64 1, .int .u64 (A : Nat), .bool (bitB x 6), .bool (bitB x 7), .bool (bitB x 8), .int .i64 (qs : Nat)] 48) z2
          generalize putB _ (w.heap.size + 1) (.cells #[.int .i64 1, .int .u64 (A : Nat), .bool (bitB x 6), .bool (bitB x 7), .bool (bitB x 8), .int .i64 (qs : Nat)] 48) = W9 at *
          obtain ⟨k9, f9, z9⟩ := of_block s9
          refine bodyPost_ret (by simp [results, Try.results47, go_sem, k9]; try rfl) rfl ?_
          exact ⟨rfl, ho⟩

end Go.Proofs.Ytlbehhbicmmdoaa
