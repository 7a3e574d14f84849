/- Texts on the way to the statement NestedWalks, several in one file: each part says what it is. -/
import Derived.Test.YtlbehhbicmmdoaaKWA
import Derived.Test.YtlbehhbicmmdoaaKWB
import Derived.MapKept
import Derived.WideLaws
import Derived.Carry
import Derived.Deep.CutBlock
namespace Go.Proofs.Ytlbehhbicmmdoaa
set_option linter.unusedVariables false
set_option linter.unusedSimpArgs false
open Go.RowKit
abbrev zeroV : Value := .agg #[.int .i64 0, .int .u64 0, .bool false, .bool false, .bool false, .int .i64 0]
def decV (st lv : Int) (x : Nat) : Value := if Place st lv ∧ x % 2 ≠ 0 ∧ decE st lv x = 0 then descV (decK lv x) (decA x) (bitB x 6) (bitB x 7) (bitB x 8) (decS x : Nat) else zeroV
theorem dec_arg {st lv : Int} {x : Nat} (h : ¬ Place st lv) : decV st lv x = zeroV ∧ decE st lv x = 1 := by
  refine ⟨if_neg (by simp [h]), ?_⟩
  unfold decE; rw [if_pos h]
theorem dec_zero {st lv : Int} {x : Nat} (h : Place st lv) (h2 : x % 2 = 0) : decV st lv x = zeroV ∧ decE st lv x = 0 := by
  refine ⟨if_neg (by simp [h2]), ?_⟩
  unfold decE; rw [if_neg (by simpa using h), if_pos h2]
theorem dec_bad {st lv : Int} {x : Nat} (e : Int) (h : decE st lv x = e) (he : e ≠ 0) : decV st lv x = zeroV ∧ decE st lv x = e := by
  refine ⟨if_neg (by rw [h]; simp [he]), h⟩
theorem dec_yes {st lv : Int} {x : Nat} (h : Place st lv) (h2 : x % 2 ≠ 0) (h3 : decE st lv x = 0) : decV st lv x = descV (decK lv x) (decA x) (bitB x 6) (bitB x 7) (bitB x 8) (decS x : Nat) ∧ decE st lv x = 0 :=
  ⟨if_pos ⟨h, h2, h3⟩, h3⟩
theorem has_put {w : World} {b : Nat} (o : Obj) : ∀ {L : List (Nat × Array Value × TypeId)}, (∀ y ∈ L, y.1 ≠ b) → Has w L → Has (putB w b o) L
  | [], _, _ => trivial
  | y :: L, h, hl => ⟨by rw [putB_other _ (fun e => h y (by simp) e.symm)]; exact hl.1, has_put o (fun z hz => h z (by simp [hz])) hl.2⟩
theorem holds_top {w0 w : World} {b : Nat} {C : Array Value} {t : TypeId} {L : List (Nat × Array Value × TypeId)} (C' : Array Value) (h : Holds w0 ((b, C, t) :: L) w) (hb : w0.heap.size ≤ b) (hL : ∀ y ∈ L, y.1 ≠ b) :
    Holds w0 ((b, C', t) :: L) (putB w b (.cells C' t)) := ⟨old_put h.1 _ hb, putB_same _ (lt_of_block h.2.1), has_put _ hL h.2.2⟩
theorem word_join {K : Int} {r wr x : Bool} {s A : Nat} (hs : s ≤ 15) (hA : A % 4096 = 0) (hl : A ≤ 281474976706560) : bits .or .u64 ((wordN K 0 r wr x s : Nat) : Int) (A : Int) = ((wordN K 0 r wr x s + A : Nat) : Int) := by
  have hF := flags_lt (decide (K ≠ 2)) r wr x
  unfold wordN
  generalize 1 + flagN (decide (K ≠ 2)) 1 + flagN r 6 + flagN wr 7 + flagN x 8 = F at *
  rw [bits_or_u64_nat _ _ (by omega) (by omega)]
  have e1 := or_low (i := 55) s (F + A) (by omega)
  have e2 := or_low (i := 12) (A / 4096) F hF
  have e3 := or_low (i := 55) s F (by omega)
  rw [show 2 ^ 12 * (A / 4096) = A by omega] at e2
  rw [← e2, Nat.or_assoc, Nat.or_comm A, ← Nat.or_assoc, e3, e2] at e1
  have h0 : F + 0 + s * 36028797018963968 = F + 2 ^ 55 * s := by omega
  have h2 : F + 0 + s * 36028797018963968 + A = F + A + 2 ^ 55 * s := by omega
  exact congrArg Nat.cast ((congrArg (· ||| A) h0).trans (e1.trans h2.symm))
theorem six_set {w : World} {b : Nat} {C : Array Value} {t : TypeId} (h : w.heap[b]? = some (.cells C t)) (hC : C.size = 6) (v0 v1 v2 v3 v4 v5 : Value) :
    (((((w.setCell ⟨b, 0, none⟩ v0).setCell ⟨b, 1, none⟩ v1).setCell ⟨b, 2, none⟩ v2).setCell ⟨b, 3, none⟩ v3).setCell ⟨b, 4, none⟩ v4).setCell ⟨b, 5, none⟩ v5 = putB w b (.cells #[v0, v1, v2, v3, v4, v5] t) := by
  have hb := lt_of_block h
  obtain ⟨c0, c1, c2, c3, c4, c5, rfl⟩ := array6 hC
  rw [set_of h, putB_set_same _ _ _ _ _ hb, putB_set_same _ _ _ _ _ hb, putB_set_same _ _ _ _ _ hb, putB_set_same _ _ _ _ _ hb, putB_set_same _ _ _ _ _ hb]
  rfl
set_option maxHeartbeats 8000000 in
set_option maxRecDepth 100000 in
theorem decode_calls (st lv : Int) (x : Nat) (w : World) (hx : x < 18446744073709551616) :
    Calls Try.prog 47 #[.int .i64 st, .int .i64 lv, .int .u64 (x : Nat)] w (RetB w (.tuple #[decV st lv x, .int .i64 (decE st lv x)])) := by
  have hon := fun (b i : Nat) (ii : Int) (hii : ii = i) (hi : i ≤ 63) (W : World) (hc : W.cell? ⟨b, 0, none⟩ = some (.int .u64 (x : Nat))) => on_x x b i ii hii hi W hx hc
  obtain ⟨P, hP⟩ : ∃ P, decide (Place st lv) = P := ⟨_, rfl⟩
  have hpl := place_calls st lv P hP
  cases P
  case false =>
    obtain ⟨h1, h2⟩ := dec_arg (x := x) (of_decide_eq_false hP)
    rw [h1, h2]
    clear h1 h2 hP hon
    go_enter Try.func47, Try.ntmps47
    go_upto_region 1 with (fail)
    have hH := holds_new #[.int .i64 0, .int .u64 0, .bool false, .bool false, .bool false, .int .i64 0] 48 (holds_new #[.int .u64 (x : Nat)] 22 (holds_nil w))
    simp only [World.size_alloc] at hH
    generalize (w.alloc (.cells #[.int .u64 (x : Nat)] 22)).alloc (.cells #[.int .i64 0, .int .u64 0, .bool false, .bool false, .bool false, .int .i64 0] 48) = W at *
    go_wp2_with ((go_at_call 71; (with_reducible refine (hpl _).mono ?_); rintro e w9 ⟨rfl, hb9⟩; have hH := holds_old hH hb9; obtain ⟨_, s1, s2, _⟩ := id hH; obtain ⟨k1, f1, z1⟩ := of_block s1; obtain ⟨k2, f2, z2⟩ := of_block s2))
    rw [six_set s1 rfl]
    have s9 := putB_same (.cells #[.int .i64 0, .int .u64 0, .bool false, .bool false, .bool false, .int .i64 0] 48) z1
    have ho : Old w (putB w9 (w.heap.size + 1) (.cells #[.int .i64 0, .int .u64 0, .bool false, .bool false, .bool false, .int .i64 0] 48)) := old_put hH.1 _ (by omega)
    generalize putB w9 (w.heap.size + 1) (.cells #[.int .i64 0, .int .u64 0, .bool false, .bool false, .bool false, .int .i64 0] 48) = W9 at *
    obtain ⟨k9, f9, z9⟩ := of_block s9
    refine bodyPost_ret (by simp [results, Try.results47, go_sem, k9]; try rfl) rfl ?_
    exact ⟨rfl, ho⟩
  case true =>
    have hp := of_decide_eq_true hP
    have hpx := place_yes st lv hp
    clear hP hpl
    by_cases h2 : x % 2 = 0
    · obtain ⟨h1, h3⟩ := dec_zero hp h2
      rw [h1, h3]
      have hb0 : bitB x 0 = false := decide_eq_false (by simp only [Nat.pow_zero, Nat.div_one]; omega)
      have hon0 := fun (b : Nat) (W : World) (hc : W.cell? ⟨b, 0, none⟩ = some (.int .u64 (x : Nat))) => hon b 0 0 rfl (by decide) W hc
      rw [hb0] at hon0
      clear h1 h2 h3 hp hb0 hon
      go_enter Try.func47, Try.ntmps47
      go_upto_region 1 with (fail)
      have hH := holds_new #[.int .i64 0, .int .u64 0, .bool false, .bool false, .bool false, .int .i64 0] 48 (holds_new #[.int .u64 (x : Nat)] 22 (holds_nil w))
      simp only [World.size_alloc] at hH
      generalize (w.alloc (.cells #[.int .u64 (x : Nat)] 22)).alloc (.cells #[.int .i64 0, .int .u64 0, .bool false, .bool false, .bool false, .int .i64 0] 48) = W at *
      obtain ⟨s0, s1, s2, _⟩ := id hH
      obtain ⟨k1, f1, z1⟩ := of_block s1
      obtain ⟨k2, f2, z2⟩ := of_block s2
      have c2 : W.cell? ⟨w.heap.size, 0, none⟩ = some (.int .u64 (x : Nat)) := k2 0
      go_wp2_with (first | ((go_at_call 71); (with_reducible refine (hpx _).mono ?_); rintro e w9 ⟨rfl, rfl⟩) | ((go_at_call 72); (with_reducible refine (hon0 _ _ c2).mono ?_); rintro e w9 ⟨rfl, rfl⟩))
      rw [six_set s1 rfl]
      have s9 := putB_same (.cells #[.int .i64 0, .int .u64 0, .bool false, .bool false, .bool false, .int .i64 0] 48) z1
      have ho : Old w (putB W (w.heap.size + 1) (.cells #[.int .i64 0, .int .u64 0, .bool false, .bool false, .bool false, .int .i64 0] 48)) := old_put hH.1 _ (by omega)
      generalize putB W (w.heap.size + 1) (.cells #[.int .i64 0, .int .u64 0, .bool false, .bool false, .bool false, .int .i64 0] 48) = W9 at *
      obtain ⟨k9, f9, z9⟩ := of_block s9
      refine bodyPost_ret (by simp [results, Try.results47, go_sem, k9]; try rfl) rfl ?_
      exact ⟨rfl, ho⟩
    · generalize hV : decV st lv x = V
      generalize hE : decE st lv x = E
      have HV := Lib.hid (And.intro hV hE)
      have H2 := Lib.hid h2
      have HP := Lib.hid hp
      have hb0 : bitB x 0 = true := decide_eq_true (by simp only [Nat.pow_zero, Nat.div_one]; omega)
      have hon0 := fun (b : Nat) (W : World) (hc : W.cell? ⟨b, 0, none⟩ = some (.int .u64 (x : Nat))) => hon b 0 0 rfl (by decide) W hc
      rw [hb0] at hon0
      have hf55 := fun W => field_x x 55 4 x 55 4 rfl rfl rfl W hx (by decide) (by decide)
      have hf12 := fun W => field_x x 12 36 x 12 36 rfl rfl rfl W hx (by decide) (by decide)
      have e55 : ((fieldN x 55 4 : Nat) : Int) = ((decS x : Nat) : Int) := rfl
      rw [e55] at hf55
      clear e55 h2 hp hb0 hV hE
      have hqs15 := decS_le x
      generalize hqs : decS x = qs at *
      have HQ := Lib.hid (And.intro hqs hqs15)
      have hw : IntKind.i64.wrap (qs : Int) = qs := by rw [IntKind.wrap_i64]; omega
      clear hqs hqs15
      go_enter Try.func47, Try.ntmps47
      go_upto_region 1 with (fail)
      have hH := holds_new #[.int .i64 0, .int .u64 0, .bool false, .bool false, .bool false, .int .i64 0] 48 (holds_new #[.int .u64 (x : Nat)] 22 (holds_nil w))
      simp only [World.size_alloc] at hH
      generalize (w.alloc (.cells #[.int .u64 (x : Nat)] 22)).alloc (.cells #[.int .i64 0, .int .u64 0, .bool false, .bool false, .bool false, .int .i64 0] 48) = W at *
      obtain ⟨s0, s1, s2, _⟩ := id hH
      obtain ⟨k1, f1, z1⟩ := of_block s1
      obtain ⟨k2, f2, z2⟩ := of_block s2
      have c2 : W.cell? ⟨w.heap.size, 0, none⟩ = some (.int .u64 (x : Nat)) := k2 0
      go_wp2_with (first | ((go_at_call 71); (with_reducible refine (hpx _).mono ?_); rintro e w9 ⟨rfl, rfl⟩) | ((go_at_call 72); (with_reducible refine (hon0 _ _ c2).mono ?_); rintro e w9 ⟨rfl, rfl⟩))
      have hH9 := hH
      have cA : W.drew.cell? ⟨w.heap.size, 0, none⟩ = some (.int .u64 (x : Nat)) := c2
      have cB : (W.drew.alloc (.cells #[.int .i64 0, .int .u64 0, .bool false, .bool false, .bool false, .int .i64 0] 48)).cell? ⟨w.heap.size, 0, none⟩ = some (.int .u64 (x : Nat)) := by
        rw [cell_of (keep_old (old_alloc (old_refl _) _) (show W.drew.heap[w.heap.size]? = _ from s2))]; rfl
      refine wp_region_staged (S := StageS 11 W.drew (W.drew.alloc (.cells #[.int .i64 0, .int .u64 0, .bool false, .bool false, .bool false, .int .i64 0] 48))) 12 (by kernel_rfl) (by kernel_rfl) (by kernel_rfl) (by decide) rfl ?_
      (apply walkedS_cons; (focus (intro l9 wS hz hn hS; have hS9 := stage_other 0 (by decide) hS; have c9 := stage_cell hS cA cB; clear hS; go_wp2_with (fail); exact ⟨rfl, rfl, hS9⟩)); rfl; (try simp only [Act.put, List.setIfInBounds_toArray, List.set_cons_succ, List.set_cons_zero]))
      (apply walkedS_cons; (focus (intro l9 wS hz hn hS; have hS9 := stage_other 1 (by decide) hS; have c9 := stage_cell hS cA cB; clear hS; go_wp2_with (((go_at_call 72); (first | (with_reducible refine (hon _ 6 6 rfl (by decide) _ c9).mono ?_) | (with_reducible refine (hon _ 7 7 rfl (by decide) _ c9).mono ?_) | (with_reducible refine (hon _ 8 8 rfl (by decide) _ c9).mono ?_)); rintro e w9 ⟨rfl, rfl⟩)); exact ⟨rfl, rfl, hS9⟩)); rfl; (try simp only [Act.put, List.setIfInBounds_toArray, List.set_cons_succ, List.set_cons_zero]))
      (apply walkedS_cons; (focus (intro l9 wS hz hn hS; have hS9 := stage_other 2 (by decide) hS; have c9 := stage_cell hS cA cB; clear hS; go_wp2_with (fail); exact ⟨rfl, rfl, hS9⟩)); rfl; (try simp only [Act.put, List.setIfInBounds_toArray, List.set_cons_succ, List.set_cons_zero]))
      (apply walkedS_cons; (focus (intro l9 wS hz hn hS; have hS9 := stage_other 3 (by decide) hS; have c9 := stage_cell hS cA cB; clear hS; go_wp2_with (((go_at_call 72); (first | (with_reducible refine (hon _ 6 6 rfl (by decide) _ c9).mono ?_) | (with_reducible refine (hon _ 7 7 rfl (by decide) _ c9).mono ?_) | (with_reducible refine (hon _ 8 8 rfl (by decide) _ c9).mono ?_)); rintro e w9 ⟨rfl, rfl⟩)); exact ⟨rfl, rfl, hS9⟩)); rfl; (try simp only [Act.put, List.setIfInBounds_toArray, List.set_cons_succ, List.set_cons_zero]))
      (apply walkedS_cons; (focus (intro l9 wS hz hn hS; have hS9 := stage_other 4 (by decide) hS; have c9 := stage_cell hS cA cB; clear hS; go_wp2_with (fail); exact ⟨rfl, rfl, hS9⟩)); rfl; (try simp only [Act.put, List.setIfInBounds_toArray, List.set_cons_succ, List.set_cons_zero]))
      (apply walkedS_cons; (focus (intro l9 wS hz hn hS; have hS9 := stage_other 5 (by decide) hS; have c9 := stage_cell hS cA cB; clear hS; go_wp2_with (((go_at_call 72); (first | (with_reducible refine (hon _ 6 6 rfl (by decide) _ c9).mono ?_) | (with_reducible refine (hon _ 7 7 rfl (by decide) _ c9).mono ?_) | (with_reducible refine (hon _ 8 8 rfl (by decide) _ c9).mono ?_)); rintro e w9 ⟨rfl, rfl⟩)); exact ⟨rfl, rfl, hS9⟩)); rfl; (try simp only [Act.put, List.setIfInBounds_toArray, List.set_cons_succ, List.set_cons_zero]))
      (apply walkedS_cons; (focus (intro l9 wS hz hn hS; have hS9 := stage_other 6 (by decide) hS; have c9 := stage_cell hS cA cB; clear hS; go_wp2_with (fail); exact ⟨rfl, rfl, hS9⟩)); rfl; (try simp only [Act.put, List.setIfInBounds_toArray, List.set_cons_succ, List.set_cons_zero]))
      (apply walkedS_cons; (focus (intro l9 wS hz hn hS; have hS9 := stage_other 7 (by decide) hS; have c9 := stage_cell hS cA cB; clear hS; go_wp2_with (fail); exact ⟨rfl, rfl, hS9⟩)); rfl; (try simp only [Act.put, List.setIfInBounds_toArray, List.set_cons_succ, List.set_cons_zero]))
      (apply walkedS_cons; (focus (intro l9 wS hz hn hS; have hS9 := stage_other 8 (by decide) hS; have c9 := stage_cell hS cA cB; clear hS; go_wp2_with (((go_at_call 70); (with_reducible refine (hf55 _).mono ?_); rintro e w9 ⟨rfl, rfl⟩)); exact ⟨rfl, rfl, hS9⟩)); rfl; (try simp only [Act.put, List.setIfInBounds_toArray, List.set_cons_succ, List.set_cons_zero]))
      (apply walkedS_cons; (focus (intro l9 wS hz hn hS; have hS9 := stage_other 9 (by decide) hS; have c9 := stage_cell hS cA cB; clear hS; go_wp2_with (fail); exact ⟨rfl, rfl, hS9⟩)); rfl; (try simp only [Act.put, List.setIfInBounds_toArray, List.set_cons_succ, List.set_cons_zero]))
      (apply walkedS_cons; (focus (intro l9 wS hz hn hS; have hS9 := stage_other 10 (by decide) hS; have c9 := stage_cell hS cA cB; clear hS; go_wp2_with (fail); exact ⟨rfl, rfl, hS9⟩)); rfl; (try simp only [Act.put, List.setIfInBounds_toArray, List.set_cons_succ, List.set_cons_zero]))
      apply walkedS_cons
      · intro l9 wS hz hn hS
        obtain rfl := stage_before hn hS
        clear hS
        go_wp2
        exact ⟨rfl, rfl, stage_done hz (by decide)⟩
      · rfl
      apply walkedS_nil
      intro l9 wS hz hall hS
      obtain rfl := stage_after (hall 11 (by decide)) hS
      clear hS
      show wpList _ _ _ [_] _ _
      go_upto_region 7 with (fail)
      clear hH s0 s1 s2 k1 f1 z2 k2 f2 c2 cA cB hall
      have hH := holds_drew (holds_new #[.int .i64 2, .int .u64 0, .bool (bitB x 6), .bool (bitB x 7), .bool (bitB x 8), .int .i64 (qs : Nat)] 48 hH9)
      generalize (W.alloc (.cells #[.int .i64 2, .int .u64 0, .bool (bitB x 6), .bool (bitB x 7), .bool (bitB x 8), .int .i64 (qs : Nat)] 48)).drew = W2 at *
      have hzp : w.heap.size + 1 < W.heap.size := z1
      generalize W.heap.size = p at *
      have hon1 := fun (b : Nat) (W : World) (hc : W.cell? ⟨b, 0, none⟩ = some (.int .u64 (x : Nat))) => hon b 1 1 rfl (by decide) W hc
      obtain ⟨s0, s1, s2, s3, _⟩ := id hH
      obtain ⟨k1, f1, z1⟩ := of_block s1
      obtain ⟨k2, f2, z2⟩ := of_block s2
      obtain ⟨k3, f3, z3⟩ := of_block s3
      have c2 : W2.cell? ⟨w.heap.size, 0, none⟩ = some (.int .u64 (x : Nat)) := k3 0
      obtain ⟨K, hK⟩ : ∃ K, decK lv x = K := ⟨_, rfl⟩
      have hKd : decK lv x = bif bitB x 1 then (if lv = 3 then 3 else 1) else 2 := rfl
      rw [hK] at hKd
      have HK := Lib.hid hK
      clear hK
      cases hb1 : bitB x 1
      case false =>
        rw [hb1] at hKd hon1
        obtain rfl : K = 2 := hKd
        clear hb1 hon
        go_upto_region 11 with (first | ((go_at_call 72); (with_reducible refine (hon1 _ _ c2).mono ?_); rintro e w9 ⟨rfl, rfl⟩))
        clear hon1 c2
        obtain ⟨s0, s1, s2, s3, _⟩ := id hH
        obtain ⟨k1, f1, z1⟩ := of_block s1
        obtain ⟨k2, f2, z2⟩ := of_block s2
        obtain ⟨k3, f3, z3⟩ := of_block s3
        have hTop := top_x st
        have hA1 := decA_le x
        have hA2 := decA_mod x
        have hAw : IntKind.u64.wrap (((fieldN x 12 36 : Nat) : Int) * 4096) = ((decA x : Nat) : Int) := by
          rw [IntKind.wrap_u64]
          have : decA x = fieldN x 12 36 * 4096 := rfl
          omega
        have hAd := HV.out.2
        unfold decE at hAd
        rw [if_neg (show ¬ ¬ Place st lv from not_not_intro HP.out), if_neg H2.out, HK.out, HQ.out.1] at hAd
        have henc : ∀ w : World, Calls Try.prog 73 #[.int .i64 st, .int .i64 lv, .agg #[.int .i64 2, .int .u64 0, .bool (bitB x 6), .bool (bitB x 7), .bool (bitB x 8), .int .i64 (qs : Nat)]] w _ := encode_calls st lv 2 0 (bitB x 6) (bitB x 7) (bitB x 8) (qs : Nat)
        have hck := descCheck_calls st lv 2 (decA x) (bitB x 6) (bitB x 7) (bitB x 8) (qs : Nat)
        have hvd := @dec_yes st lv x HP.out H2.out
        rw [HK.out, HQ.out.1] at hvd
        have hwj := @word_join 2 (bitB x 6) (bitB x 7) (bitB x 8) qs (decA x) HQ.out.2 hA2 hA1
        generalize decA x = A at *
        by_cases c1 : checkC st lv 2 0 (bitB x 6) (bitB x 7) (bitB x 8) (qs : Nat) = 0
        case neg =>
          rw [if_pos (fun e => c1 e.1)] at hAd
          obtain rfl : 4 = E := hAd; obtain rfl : V = zeroV := HV.out.1.symm.trans (dec_bad 4 HV.out.2 (by decide)).1
          have hew : encW st lv 2 0 (bitB x 6) (bitB x 7) (bitB x 8) (qs : Nat) = 0 := if_neg (fun e => c1 e.1)
          rw [hew] at henc
          generalize checkC st lv 2 0 (bitB x 6) (bitB x 7) (bitB x 8) (qs : Nat) = e1 at *
          have hne : (e1 != 0) = true := bne_iff_ne.2 c1
          clear c1 hew hck hvd hwj
          go_wp2_with (first | ((go_at_call 70); (with_reducible refine (hf12 _).mono ?_); rintro e w9 ⟨rfl, rfl⟩) | ((go_at_call 73); (with_reducible refine (henc _).mono ?_); rintro e w9 ⟨rfl, hb9⟩; have hH := holds_old hH hb9; obtain ⟨s0, s1, s2, s3, _⟩ := id hH; obtain ⟨k1, f1, z1⟩ := of_block s1; obtain ⟨k2, f2, z2⟩ := of_block s2; obtain ⟨k3, f3, z3⟩ := of_block s3))
          rw [six_set s2 rfl]
          have ho := old_put hH.1 (.cells #[.int .i64 0, .int .u64 0, .bool false, .bool false, .bool false, .int .i64 0] 48) (show w.heap.size ≤ w.heap.size + 1 by omega)
          have s9 := putB_same (.cells #[.int .i64 0, .int .u64 0, .bool false, .bool false, .bool false, .int .i64 0] 48) z2
          generalize putB _ (w.heap.size + 1) (.cells #[.int .i64 0, .int .u64 0, .bool false, .bool false, .bool false, .int .i64 0] 48) = W9 at *
          obtain ⟨k9, f9, z9⟩ := of_block s9
          refine bodyPost_ret (by simp [results, Try.results47, go_sem, k9]; try rfl) rfl ?_
          exact ⟨rfl, ho⟩
        case pos =>
        have hew : encW st lv 2 0 (bitB x 6) (bitB x 7) (bitB x 8) (qs : Nat) = wordN 2 0 (bitB x 6) (bitB x 7) (bitB x 8) qs := if_pos ⟨c1, by decide⟩
        rw [hew, c1] at henc
        rw [c1] at hAd
        clear hew c1
        generalize wordN 2 0 (bitB x 6) (bitB x 7) (bitB x 8) qs = V0 at *
        by_cases c2 : V0 + A = x
        case neg =>
          rw [if_pos (fun e => c2 e.2)] at hAd
          obtain rfl : 4 = E := hAd; obtain rfl : V = zeroV := HV.out.1.symm.trans (dec_bad 4 HV.out.2 (by decide)).1
          generalize V0 + A = Y at *
          have hne : ((Y : Int) != (x : Int)) = true := bne_iff_ne.2 (by omega)
          clear c2 hck hvd
          go_wp2_with (first | ((go_at_call 70); (with_reducible refine (hf12 _).mono ?_); rintro e w9 ⟨rfl, rfl⟩) | ((go_at_call 73); (with_reducible refine (henc _).mono ?_); rintro e w9 ⟨rfl, hb9⟩; have hH := holds_old hH hb9; obtain ⟨s0, s1, s2, s3, _⟩ := id hH; obtain ⟨k1, f1, z1⟩ := of_block s1; obtain ⟨k2, f2, z2⟩ := of_block s2; obtain ⟨k3, f3, z3⟩ := of_block s3))
          rw [six_set s2 rfl]
          have ho := old_put hH.1 (.cells #[.int .i64 0, .int .u64 0, .bool false, .bool false, .bool false, .int .i64 0] 48) (show w.heap.size ≤ w.heap.size + 1 by omega)
          have s9 := putB_same (.cells #[.int .i64 0, .int .u64 0, .bool false, .bool false, .bool false, .int .i64 0] 48) z2
          generalize putB _ (w.heap.size + 1) (.cells #[.int .i64 0, .int .u64 0, .bool false, .bool false, .bool false, .int .i64 0] 48) = W9 at *
          obtain ⟨k9, f9, z9⟩ := of_block s9
          refine bodyPost_ret (by simp [results, Try.results47, go_sem, k9]; try rfl) rfl ?_
          exact ⟨rfl, ho⟩
        case pos =>
        rw [if_neg (not_not_intro ⟨rfl, c2⟩)] at hAd
        rw [c2] at hwj
        have hxx : ((x : Int) != (x : Int)) = false := by simp
        clear c2
        go_upto_region 15 with (first | ((go_at_call 70); (with_reducible refine (hf12 _).mono ?_); rintro e w9 ⟨rfl, rfl⟩) | ((go_at_call 73); (with_reducible refine (henc _).mono ?_); rintro e w9 ⟨rfl, hb9⟩; have hH := holds_old hH hb9; obtain ⟨s0, s1, s2, s3, _⟩ := id hH; obtain ⟨k1, f1, z1⟩ := of_block s1; obtain ⟨k2, f2, z2⟩ := of_block s2; obtain ⟨k3, f3, z3⟩ := of_block s3))
        by_cases c3 : topN st ≤ A
        case pos =>
          rw [if_pos c3] at hAd
          obtain rfl : 2 = E := hAd; obtain rfl : V = zeroV := HV.out.1.symm.trans (dec_bad 2 HV.out.2 (by decide)).1
          clear hck hvd
          go_wp2_with (first | ((go_at_call 45); (with_reducible refine (hTop _).mono ?_); rintro e w9 ⟨rfl, rfl⟩))
          rw [six_set s2 rfl]
          have ho := old_put hH.1 (.cells #[.int .i64 0, .int .u64 0, .bool false, .bool false, .bool false, .int .i64 0] 48) (show w.heap.size ≤ w.heap.size + 1 by omega)
          have s9 := putB_same (.cells #[.int .i64 0, .int .u64 0, .bool false, .bool false, .bool false, .int .i64 0] 48) z2
          generalize putB _ (w.heap.size + 1) (.cells #[.int .i64 0, .int .u64 0, .bool false, .bool false, .bool false, .int .i64 0] 48) = W9 at *
          obtain ⟨k9, f9, z9⟩ := of_block s9
          refine bodyPost_ret (by simp [results, Try.results47, go_sem, k9]; try rfl) rfl ?_
          exact ⟨rfl, ho⟩
        case neg =>
        rw [if_neg c3] at hAd
        go_upto_region 18 with (first | ((go_at_call 45); (with_reducible refine (hTop _).mono ?_); rintro e w9 ⟨rfl, rfl⟩))
        clear c3
        rw [set_of s1]
        have hH := holds_top #[.int .i64 2, .int .u64 (A : Nat), .bool (bitB x 6), .bool (bitB x 7), .bool (bitB x 8), .int .i64 (qs : Nat)] hH (by omega) (by intro y hy; simp only [List.mem_cons, List.not_mem_nil, or_false] at hy; rcases hy with rfl | rfl <;> simp only [ne_eq] <;> omega)
        generalize hW6 : putB _ p (.cells (Array.setIfInBounds _ 1 _) _) = W6
        replace hH : Holds w ((p, #[.int .i64 2, .int .u64 (A : Nat), .bool (bitB x 6), .bool (bitB x 7), .bool (bitB x 8), .int .i64 (qs : Nat)], 48) :: [(w.heap.size + 1, #[.int .i64 0, .int .u64 0, .bool false, .bool false, .bool false, .int .i64 0], 48), (w.heap.size, #[.int .u64 (x : Nat)], 22)]) W6 := by rw [← hW6]; exact hH
        clear hW6
        obtain ⟨s0, s1, s2, s3, _⟩ := id hH
        obtain ⟨k1, f1, z1⟩ := of_block s1
        obtain ⟨k2, f2, z2⟩ := of_block s2
        obtain ⟨k3, f3, z3⟩ := of_block s3
        by_cases c4 : checkC st lv 2 A (bitB x 6) (bitB x 7) (bitB x 8) (qs : Nat) = 0
        case neg =>
          rw [if_pos c4] at hAd
          obtain rfl : 4 = E := hAd; obtain rfl : V = zeroV := HV.out.1.symm.trans (dec_bad 4 HV.out.2 (by decide)).1
          generalize checkC st lv 2 A (bitB x 6) (bitB x 7) (bitB x 8) (qs : Nat) = e1 at *
          have hne : (e1 != 0) = true := bne_iff_ne.2 c4
          clear c4 hvd
          go_wp2_with (first | ((go_at_call 74); (with_reducible refine (hck _).mono ?_); rintro e w9 ⟨rfl, hb9⟩; have hH := holds_old hH hb9; obtain ⟨s0, s1, s2, s3, _⟩ := id hH; obtain ⟨k1, f1, z1⟩ := of_block s1; obtain ⟨k2, f2, z2⟩ := of_block s2; obtain ⟨k3, f3, z3⟩ := of_block s3))
          rw [six_set s2 rfl]
          have ho := old_put hH.1 (.cells #[.int .i64 0, .int .u64 0, .bool false, .bool false, .bool false, .int .i64 0] 48) (show w.heap.size ≤ w.heap.size + 1 by omega)
          have s9 := putB_same (.cells #[.int .i64 0, .int .u64 0, .bool false, .bool false, .bool false, .int .i64 0] 48) z2
          generalize putB _ (w.heap.size + 1) (.cells #[.int .i64 0, .int .u64 0, .bool false, .bool false, .bool false, .int .i64 0] 48) = W9 at *
          obtain ⟨k9, f9, z9⟩ := of_block s9
          refine bodyPost_ret (by simp [results, Try.results47, go_sem, k9]; try rfl) rfl ?_
          exact ⟨rfl, ho⟩
        case pos =>
        rw [if_neg (not_not_intro c4)] at hAd
        rw [c4] at hck
        obtain rfl : 0 = E := hAd; obtain rfl : V = descV 2 A (bitB x 6) (bitB x 7) (bitB x 8) (qs : Nat) := HV.out.1.symm.trans (hvd HV.out.2).1
        clear c4 hvd
        go_wp2_with (first | ((go_at_call 74); (with_reducible refine (hck _).mono ?_); rintro e w9 ⟨rfl, hb9⟩; have hH := holds_old hH hb9; obtain ⟨s0, s1, s2, s3, _⟩ := id hH; obtain ⟨k1, f1, z1⟩ := of_block s1; obtain ⟨k2, f2, z2⟩ := of_block s2; obtain ⟨k3, f3, z3⟩ := of_block s3))
        rw [six_set s2 rfl]
        have ho := old_put hH.1 (.cells #[.int .i64 2, .int .u64 (A : Nat), .bool (bitB x 6), .bool (bitB x 7), .bool (bitB x 8), .int .i64 (qs : Nat)] 48) (show w.heap.size ≤ w.heap.size + 1 by omega)
        have s9 := putB_same (.cells #[.int .i64 2, .int .u64 (A : Nat), .bool (bitB x 6), .bool (bitB x 7), .bool (bitB x 8), .int .i64 (qs : Nat)] 48) z2
        generalize putB _ (w.heap.size + 1) (.cells #[.int .i64 2, .int .u64 (A : Nat), .bool (bitB x 6), .bool (bitB x 7), .bool (bitB x 8), .int .i64 (qs : Nat)] 48) = W9 at *
        obtain ⟨k9, f9, z9⟩ := of_block s9
        refine bodyPost_ret (by simp [results, Try.results47, go_sem, k9]; try rfl) rfl ?_
        exact ⟨rfl, ho⟩
      case true =>
        rw [hb1] at hKd hon1
        by_cases hl : lv = 3
        · subst hl
          obtain rfl : K = 3 := hKd
          clear hb1 hon
          go_upto_region 11 with (first | ((go_at_call 72); (with_reducible refine (hon1 _ _ c2).mono ?_); rintro e w9 ⟨rfl, rfl⟩))
          rw [set_of s1]
          have hH := holds_top #[.int .i64 3, .int .u64 0, .bool (bitB x 6), .bool (bitB x 7), .bool (bitB x 8), .int .i64 (qs : Nat)] hH (by omega) (by intro y hy; simp only [List.mem_cons, List.not_mem_nil, or_false] at hy; rcases hy with rfl | rfl <;> simp only [ne_eq] <;> omega)
          generalize hW6 : putB W2 p (.cells (Array.setIfInBounds _ 0 _) _) = W3
          replace hH : Holds w ((p, #[.int .i64 3, .int .u64 0, .bool (bitB x 6), .bool (bitB x 7), .bool (bitB x 8), .int .i64 (qs : Nat)], 48) :: [(w.heap.size + 1, #[.int .i64 0, .int .u64 0, .bool false, .bool false, .bool false, .int .i64 0], 48), (w.heap.size, #[.int .u64 (x : Nat)], 22)]) W3 := by rw [← hW6]; exact hH
          clear hW6
          clear hon1 c2
          obtain ⟨s0, s1, s2, s3, _⟩ := id hH
          obtain ⟨k1, f1, z1⟩ := of_block s1
          obtain ⟨k2, f2, z2⟩ := of_block s2
          obtain ⟨k3, f3, z3⟩ := of_block s3
          have hTop := top_x st
          have hA1 := decA_le x
          have hA2 := decA_mod x
          have hAw : IntKind.u64.wrap (((fieldN x 12 36 : Nat) : Int) * 4096) = ((decA x : Nat) : Int) := by
            rw [IntKind.wrap_u64]
            have : decA x = fieldN x 12 36 * 4096 := rfl
            omega
          have hAd := HV.out.2
          unfold decE at hAd
          rw [if_neg (show ¬ ¬ Place st 3 from not_not_intro HP.out), if_neg H2.out, HK.out, HQ.out.1] at hAd
          have henc : ∀ w : World, Calls Try.prog 73 #[.int .i64 st, .int .i64 3, .agg #[.int .i64 3, .int .u64 0, .bool (bitB x 6), .bool (bitB x 7), .bool (bitB x 8), .int .i64 (qs : Nat)]] w _ := encode_calls st 3 3 0 (bitB x 6) (bitB x 7) (bitB x 8) (qs : Nat)
          have hck := descCheck_calls st 3 3 (decA x) (bitB x 6) (bitB x 7) (bitB x 8) (qs : Nat)
          have hvd := @dec_yes st 3 x HP.out H2.out
          rw [HK.out, HQ.out.1] at hvd
          have hwj := @word_join 3 (bitB x 6) (bitB x 7) (bitB x 8) qs (decA x) HQ.out.2 hA2 hA1
          generalize decA x = A at *
          by_cases c1 : checkC st 3 3 0 (bitB x 6) (bitB x 7) (bitB x 8) (qs : Nat) = 0
          case neg =>
            rw [if_pos (fun e => c1 e.1)] at hAd
            obtain rfl : 4 = E := hAd; obtain rfl : V = zeroV := HV.out.1.symm.trans (dec_bad 4 HV.out.2 (by decide)).1
            have hew : encW st 3 3 0 (bitB x 6) (bitB x 7) (bitB x 8) (qs : Nat) = 0 := if_neg (fun e => c1 e.1)
            rw [hew] at henc
            generalize checkC st 3 3 0 (bitB x 6) (bitB x 7) (bitB x 8) (qs : Nat) = e1 at *
            have hne : (e1 != 0) = true := bne_iff_ne.2 c1
            clear c1 hew hck hvd hwj
            go_wp2_with (first | ((go_at_call 70); (with_reducible refine (hf12 _).mono ?_); rintro e w9 ⟨rfl, rfl⟩) | ((go_at_call 73); (with_reducible refine (henc _).mono ?_); rintro e w9 ⟨rfl, hb9⟩; have hH := holds_old hH hb9; obtain ⟨s0, s1, s2, s3, _⟩ := id hH; obtain ⟨k1, f1, z1⟩ := of_block s1; obtain ⟨k2, f2, z2⟩ := of_block s2; obtain ⟨k3, f3, z3⟩ := of_block s3))
            rw [six_set s2 rfl]
            have ho := old_put hH.1 (.cells #[.int .i64 0, .int .u64 0, .bool false, .bool false, .bool false, .int .i64 0] 48) (show w.heap.size ≤ w.heap.size + 1 by omega)
            have s9 := putB_same (.cells #[.int .i64 0, .int .u64 0, .bool false, .bool false, .bool false, .int .i64 0] 48) z2
            generalize putB _ (w.heap.size + 1) (.cells #[.int .i64 0, .int .u64 0, .bool false, .bool false, .bool false, .int .i64 0] 48) = W9 at *
            obtain ⟨k9, f9, z9⟩ := of_block s9
            refine bodyPost_ret (by simp [results, Try.results47, go_sem, k9]; try rfl) rfl ?_
            exact ⟨rfl, ho⟩
          case pos =>
          have hew : encW st 3 3 0 (bitB x 6) (bitB x 7) (bitB x 8) (qs : Nat) = wordN 3 0 (bitB x 6) (bitB x 7) (bitB x 8) qs := if_pos ⟨c1, by decide⟩
          rw [hew, c1] at henc
          rw [c1] at hAd
          clear hew c1
          generalize wordN 3 0 (bitB x 6) (bitB x 7) (bitB x 8) qs = V0 at *
          by_cases c2 : V0 + A = x
          case neg =>
            rw [if_pos (fun e => c2 e.2)] at hAd
            obtain rfl : 4 = E := hAd; obtain rfl : V = zeroV := HV.out.1.symm.trans (dec_bad 4 HV.out.2 (by decide)).1
            generalize V0 + A = Y at *
            have hne : ((Y : Int) != (x : Int)) = true := bne_iff_ne.2 (by omega)
            clear c2 hck hvd
            go_wp2_with (first | ((go_at_call 70); (with_reducible refine (hf12 _).mono ?_); rintro e w9 ⟨rfl, rfl⟩) | ((go_at_call 73); (with_reducible refine (henc _).mono ?_); rintro e w9 ⟨rfl, hb9⟩; have hH := holds_old hH hb9; obtain ⟨s0, s1, s2, s3, _⟩ := id hH; obtain ⟨k1, f1, z1⟩ := of_block s1; obtain ⟨k2, f2, z2⟩ := of_block s2; obtain ⟨k3, f3, z3⟩ := of_block s3))
            rw [six_set s2 rfl]
            have ho := old_put hH.1 (.cells #[.int .i64 0, .int .u64 0, .bool false, .bool false, .bool false, .int .i64 0] 48) (show w.heap.size ≤ w.heap.size + 1 by omega)
            have s9 := putB_same (.cells #[.int .i64 0, .int .u64 0, .bool false, .bool false, .bool false, .int .i64 0] 48) z2
            generalize putB _ (w.heap.size + 1) (.cells #[.int .i64 0, .int .u64 0, .bool false, .bool false, .bool false, .int .i64 0] 48) = W9 at *
            obtain ⟨k9, f9, z9⟩ := of_block s9
            refine bodyPost_ret (by simp [results, Try.results47, go_sem, k9]; try rfl) rfl ?_
            exact ⟨rfl, ho⟩
          case pos =>
          rw [if_neg (not_not_intro ⟨rfl, c2⟩)] at hAd
          rw [c2] at hwj
          have hxx : ((x : Int) != (x : Int)) = false := by simp
          clear c2
          go_upto_region 15 with (first | ((go_at_call 70); (with_reducible refine (hf12 _).mono ?_); rintro e w9 ⟨rfl, rfl⟩) | ((go_at_call 73); (with_reducible refine (henc _).mono ?_); rintro e w9 ⟨rfl, hb9⟩; have hH := holds_old hH hb9; obtain ⟨s0, s1, s2, s3, _⟩ := id hH; obtain ⟨k1, f1, z1⟩ := of_block s1; obtain ⟨k2, f2, z2⟩ := of_block s2; obtain ⟨k3, f3, z3⟩ := of_block s3))
          by_cases c3 : topN st ≤ A
          case pos =>
            rw [if_pos c3] at hAd
            obtain rfl : 2 = E := hAd; obtain rfl : V = zeroV := HV.out.1.symm.trans (dec_bad 2 HV.out.2 (by decide)).1
            clear hck hvd
            go_wp2_with (first | ((go_at_call 45); (with_reducible refine (hTop _).mono ?_); rintro e w9 ⟨rfl, rfl⟩))
            rw [six_set s2 rfl]
            have ho := old_put hH.1 (.cells #[.int .i64 0, .int .u64 0, .bool false, .bool false, .bool false, .int .i64 0] 48) (show w.heap.size ≤ w.heap.size + 1 by omega)
            have s9 := putB_same (.cells #[.int .i64 0, .int .u64 0, .bool false, .bool false, .bool false, .int .i64 0] 48) z2
            generalize putB _ (w.heap.size + 1) (.cells #[.int .i64 0, .int .u64 0, .bool false, .bool false, .bool false, .int .i64 0] 48) = W9 at *
            obtain ⟨k9, f9, z9⟩ := of_block s9
            refine bodyPost_ret (by simp [results, Try.results47, go_sem, k9]; try rfl) rfl ?_
            exact ⟨rfl, ho⟩
          case neg =>
          rw [if_neg c3] at hAd
          go_upto_region 18 with (first | ((go_at_call 45); (with_reducible refine (hTop _).mono ?_); rintro e w9 ⟨rfl, rfl⟩))
          clear c3
          rw [set_of s1]
          have hH := holds_top #[.int .i64 3, .int .u64 (A : Nat), .bool (bitB x 6), .bool (bitB x 7), .bool (bitB x 8), .int .i64 (qs : Nat)] hH (by omega) (by intro y hy; simp only [List.mem_cons, List.not_mem_nil, or_false] at hy; rcases hy with rfl | rfl <;> simp only [ne_eq] <;> omega)
          generalize hW6 : putB _ p (.cells (Array.setIfInBounds _ 1 _) _) = W6
          replace hH : Holds w ((p, #[.int .i64 3, .int .u64 (A : Nat), .bool (bitB x 6), .bool (bitB x 7), .bool (bitB x 8), .int .i64 (qs : Nat)], 48) :: [(w.heap.size + 1, #[.int .i64 0, .int .u64 0, .bool false, .bool false, .bool false, .int .i64 0], 48), (w.heap.size, #[.int .u64 (x : Nat)], 22)]) W6 := by rw [← hW6]; exact hH
          clear hW6
          obtain ⟨s0, s1, s2, s3, _⟩ := id hH
          obtain ⟨k1, f1, z1⟩ := of_block s1
          obtain ⟨k2, f2, z2⟩ := of_block s2
          obtain ⟨k3, f3, z3⟩ := of_block s3
          by_cases c4 : checkC st 3 3 A (bitB x 6) (bitB x 7) (bitB x 8) (qs : Nat) = 0
          case neg =>
            rw [if_pos c4] at hAd
            obtain rfl : 4 = E := hAd; obtain rfl : V = zeroV := HV.out.1.symm.trans (dec_bad 4 HV.out.2 (by decide)).1
            generalize checkC st 3 3 A (bitB x 6) (bitB x 7) (bitB x 8) (qs : Nat) = e1 at *
            have hne : (e1 != 0) = true := bne_iff_ne.2 c4
            clear c4 hvd
            go_wp2_with (first | ((go_at_call 74); (with_reducible refine (hck _).mono ?_); rintro e w9 ⟨rfl, hb9⟩; have hH := holds_old hH hb9; obtain ⟨s0, s1, s2, s3, _⟩ := id hH; obtain ⟨k1, f1, z1⟩ := of_block s1; obtain ⟨k2, f2, z2⟩ := of_block s2; obtain ⟨k3, f3, z3⟩ := of_block s3))
            rw [six_set s2 rfl]
            have ho := old_put hH.1 (.cells #[.int .i64 0, .int .u64 0, .bool false, .bool false, .bool false, .int .i64 0] 48) (show w.heap.size ≤ w.heap.size + 1 by omega)
            have s9 := putB_same (.cells #[.int .i64 0, .int .u64 0, .bool false, .bool false, .bool false, .int .i64 0] 48) z2
            generalize putB _ (w.heap.size + 1) (.cells #[.int .i64 0, .int .u64 0, .bool false, .bool false, .bool false, .int .i64 0] 48) = W9 at *
            obtain ⟨k9, f9, z9⟩ := of_block s9
            refine bodyPost_ret (by simp [results, Try.results47, go_sem, k9]; try rfl) rfl ?_
            exact ⟨rfl, ho⟩
          case pos =>
          rw [if_neg (not_not_intro c4)] at hAd
          rw [c4] at hck
          obtain rfl : 0 = E := hAd; obtain rfl : V = descV 3 A (bitB x 6) (bitB x 7) (bitB x 8) (qs : Nat) := HV.out.1.symm.trans (hvd HV.out.2).1
          clear c4 hvd
          go_wp2_with (first | ((go_at_call 74); (with_reducible refine (hck _).mono ?_); rintro e w9 ⟨rfl, hb9⟩; have hH := holds_old hH hb9; obtain ⟨s0, s1, s2, s3, _⟩ := id hH; obtain ⟨k1, f1, z1⟩ := of_block s1; obtain ⟨k2, f2, z2⟩ := of_block s2; obtain ⟨k3, f3, z3⟩ := of_block s3))
          rw [six_set s2 rfl]
          have ho := old_put hH.1 (.cells #[.int .i64 3, .int .u64 (A : Nat), .bool (bitB x 6), .bool (bitB x 7), .bool (bitB x 8), .int .i64 (qs : Nat)] 48) (show w.heap.size ≤ w.heap.size + 1 by omega)
          have s9 := putB_same (.cells #[.int .i64 3, .int .u64 (A : Nat), .bool (bitB x 6), .bool (bitB x 7), .bool (bitB x 8), .int .i64 (qs : Nat)] 48) z2
          generalize putB _ (w.heap.size + 1) (.cells #[.int .i64 3, .int .u64 (A : Nat), .bool (bitB x 6), .bool (bitB x 7), .bool (bitB x 8), .int .i64 (qs : Nat)] 48) = W9 at *
          obtain ⟨k9, f9, z9⟩ := of_block s9
          refine bodyPost_ret (by simp [results, Try.results47, go_sem, k9]; try rfl) rfl ?_
          exact ⟨rfl, ho⟩
        · obtain rfl : K = 1 := by rw [hKd, cond_true, if_neg hl]
          clear hKd hb1 hon
          go_upto_region 11 with (first | ((go_at_call 72); (with_reducible refine (hon1 _ _ c2).mono ?_); rintro e w9 ⟨rfl, rfl⟩))
          rw [set_of s1]
          have hH := holds_top #[.int .i64 1, .int .u64 0, .bool (bitB x 6), .bool (bitB x 7), .bool (bitB x 8), .int .i64 (qs : Nat)] hH (by omega) (by intro y hy; simp only [List.mem_cons, List.not_mem_nil, or_false] at hy; rcases hy with rfl | rfl <;> simp only [ne_eq] <;> omega)
          generalize hW6 : putB W2 p (.cells (Array.setIfInBounds _ 0 _) _) = W3
          replace hH : Holds w ((p, #[.int .i64 1, .int .u64 0, .bool (bitB x 6), .bool (bitB x 7), .bool (bitB x 8), .int .i64 (qs : Nat)], 48) :: [(w.heap.size + 1, #[.int .i64 0, .int .u64 0, .bool false, .bool false, .bool false, .int .i64 0], 48), (w.heap.size, #[.int .u64 (x : Nat)], 22)]) W3 := by rw [← hW6]; exact hH
          clear hW6
          clear hon1 c2
          obtain ⟨s0, s1, s2, s3, _⟩ := id hH
          obtain ⟨k1, f1, z1⟩ := of_block s1
          obtain ⟨k2, f2, z2⟩ := of_block s2
          obtain ⟨k3, f3, z3⟩ := of_block s3
          have hTop := top_x st
          have hA1 := decA_le x
          have hA2 := decA_mod x
          have hAw : IntKind.u64.wrap (((fieldN x 12 36 : Nat) : Int) * 4096) = ((decA x : Nat) : Int) := by
            rw [IntKind.wrap_u64]
            have : decA x = fieldN x 12 36 * 4096 := rfl
            omega
          have hAd := HV.out.2
          unfold decE at hAd
          rw [if_neg (show ¬ ¬ Place st lv from not_not_intro HP.out), if_neg H2.out, HK.out, HQ.out.1] at hAd
          have henc : ∀ w : World, Calls Try.prog 73 #[.int .i64 st, .int .i64 lv, .agg #[.int .i64 1, .int .u64 0, .bool (bitB x 6), .bool (bitB x 7), .bool (bitB x 8), .int .i64 (qs : Nat)]] w _ := encode_calls st lv 1 0 (bitB x 6) (bitB x 7) (bitB x 8) (qs : Nat)
          have hck := descCheck_calls st lv 1 (decA x) (bitB x 6) (bitB x 7) (bitB x 8) (qs : Nat)
          have hvd := @dec_yes st lv x HP.out H2.out
          rw [HK.out, HQ.out.1] at hvd
          have hwj := @word_join 1 (bitB x 6) (bitB x 7) (bitB x 8) qs (decA x) HQ.out.2 hA2 hA1
          generalize decA x = A at *
          by_cases c1 : checkC st lv 1 0 (bitB x 6) (bitB x 7) (bitB x 8) (qs : Nat) = 0
          case neg =>
            rw [if_pos (fun e => c1 e.1)] at hAd
            obtain rfl : 4 = E := hAd; obtain rfl : V = zeroV := HV.out.1.symm.trans (dec_bad 4 HV.out.2 (by decide)).1
            have hew : encW st lv 1 0 (bitB x 6) (bitB x 7) (bitB x 8) (qs : Nat) = 0 := if_neg (fun e => c1 e.1)
            rw [hew] at henc
            generalize checkC st lv 1 0 (bitB x 6) (bitB x 7) (bitB x 8) (qs : Nat) = e1 at *
            have hne : (e1 != 0) = true := bne_iff_ne.2 c1
            clear c1 hew hck hvd hwj
            go_wp2_with (first | ((go_at_call 70); (with_reducible refine (hf12 _).mono ?_); rintro e w9 ⟨rfl, rfl⟩) | ((go_at_call 73); (with_reducible refine (henc _).mono ?_); rintro e w9 ⟨rfl, hb9⟩; have hH := holds_old hH hb9; obtain ⟨s0, s1, s2, s3, _⟩ := id hH; obtain ⟨k1, f1, z1⟩ := of_block s1; obtain ⟨k2, f2, z2⟩ := of_block s2; obtain ⟨k3, f3, z3⟩ := of_block s3))
            rw [six_set s2 rfl]
            have ho := old_put hH.1 (.cells #[.int .i64 0, .int .u64 0, .bool false, .bool false, .bool false, .int .i64 0] 48) (show w.heap.size ≤ w.heap.size + 1 by omega)
            have s9 := putB_same (.cells #[.int .i64 0, .int .u64 0, .bool false, .bool false, .bool false, .int .i64 0] 48) z2
            generalize putB _ (w.heap.size + 1) (.cells #[.int .i64 0, .int .u64 0, .bool false, .bool false, .bool false, .int .i64 0] 48) = W9 at *
            obtain ⟨k9, f9, z9⟩ := of_block s9
            refine bodyPost_ret (by simp [results, Try.results47, go_sem, k9]; try rfl) rfl ?_
            exact ⟨rfl, ho⟩
          case pos =>
          have hew : encW st lv 1 0 (bitB x 6) (bitB x 7) (bitB x 8) (qs : Nat) = wordN 1 0 (bitB x 6) (bitB x 7) (bitB x 8) qs := if_pos ⟨c1, by decide⟩
          rw [hew, c1] at henc
          rw [c1] at hAd
          clear hew c1
          generalize wordN 1 0 (bitB x 6) (bitB x 7) (bitB x 8) qs = V0 at *
          by_cases c2 : V0 + A = x
          case neg =>
            rw [if_pos (fun e => c2 e.2)] at hAd
            obtain rfl : 4 = E := hAd; obtain rfl : V = zeroV := HV.out.1.symm.trans (dec_bad 4 HV.out.2 (by decide)).1
            generalize V0 + A = Y at *
            have hne : ((Y : Int) != (x : Int)) = true := bne_iff_ne.2 (by omega)
            clear c2 hck hvd
            go_wp2_with (first | ((go_at_call 70); (with_reducible refine (hf12 _).mono ?_); rintro e w9 ⟨rfl, rfl⟩) | ((go_at_call 73); (with_reducible refine (henc _).mono ?_); rintro e w9 ⟨rfl, hb9⟩; have hH := holds_old hH hb9; obtain ⟨s0, s1, s2, s3, _⟩ := id hH; obtain ⟨k1, f1, z1⟩ := of_block s1; obtain ⟨k2, f2, z2⟩ := of_block s2; obtain ⟨k3, f3, z3⟩ := of_block s3))
            rw [six_set s2 rfl]
            have ho := old_put hH.1 (.cells #[.int .i64 0, .int .u64 0, .bool false, .bool false, .bool false, .int .i64 0] 48) (show w.heap.size ≤ w.heap.size + 1 by omega)
            have s9 := putB_same (.cells #[.int .i64 0, .int .u64 0, .bool false, .bool false, .bool false, .int .i64 0] 48) z2
            generalize putB _ (w.heap.size + 1) (.cells #[.int .i64 0, .int .u64 0, .bool false, .bool false, .bool false, .int .i64 0] 48) = W9 at *
            obtain ⟨k9, f9, z9⟩ := of_block s9
            refine bodyPost_ret (by simp [results, Try.results47, go_sem, k9]; try rfl) rfl ?_
            exact ⟨rfl, ho⟩
          case pos =>
          rw [if_neg (not_not_intro ⟨rfl, c2⟩)] at hAd
          rw [c2] at hwj
          have hxx : ((x : Int) != (x : Int)) = false := by simp
          clear c2
          go_upto_region 15 with (first | ((go_at_call 70); (with_reducible refine (hf12 _).mono ?_); rintro e w9 ⟨rfl, rfl⟩) | ((go_at_call 73); (with_reducible refine (henc _).mono ?_); rintro e w9 ⟨rfl, hb9⟩; have hH := holds_old hH hb9; obtain ⟨s0, s1, s2, s3, _⟩ := id hH; obtain ⟨k1, f1, z1⟩ := of_block s1; obtain ⟨k2, f2, z2⟩ := of_block s2; obtain ⟨k3, f3, z3⟩ := of_block s3))
          by_cases c3 : topN st ≤ A
          case pos =>
            rw [if_pos c3] at hAd
            obtain rfl : 2 = E := hAd; obtain rfl : V = zeroV := HV.out.1.symm.trans (dec_bad 2 HV.out.2 (by decide)).1
            clear hck hvd
            go_wp2_with (first | ((go_at_call 45); (with_reducible refine (hTop _).mono ?_); rintro e w9 ⟨rfl, rfl⟩))
            rw [six_set s2 rfl]
            have ho := old_put hH.1 (.cells #[.int .i64 0, .int .u64 0, .bool false, .bool false, .bool false, .int .i64 0] 48) (show w.heap.size ≤ w.heap.size + 1 by omega)
            have s9 := putB_same (.cells #[.int .i64 0, .int .u64 0, .bool false, .bool false, .bool false, .int .i64 0] 48) z2
            generalize putB _ (w.heap.size + 1) (.cells #[.int .i64 0, .int .u64 0, .bool false, .bool false, .bool false, .int .i64 0] 48) = W9 at *
            obtain ⟨k9, f9, z9⟩ := of_block s9
            refine bodyPost_ret (by simp [results, Try.results47, go_sem, k9]; try rfl) rfl ?_
            exact ⟨rfl, ho⟩
          case neg =>
          rw [if_neg c3] at hAd
          go_upto_region 18 with (first | ((go_at_call 45); (with_reducible refine (hTop _).mono ?_); rintro e w9 ⟨rfl, rfl⟩))
          clear c3
          rw [set_of s1]
          have hH := holds_top #[.int .i64 1, .int .u64 (A : Nat), .bool (bitB x 6), .bool (bitB x 7), .bool (bitB x 8), .int .i64 (qs : Nat)] hH (by omega) (by intro y hy; simp only [List.mem_cons, List.not_mem_nil, or_false] at hy; rcases hy with rfl | rfl <;> simp only [ne_eq] <;> omega)
          generalize hW6 : putB _ p (.cells (Array.setIfInBounds _ 1 _) _) = W6
          replace hH : Holds w ((p, #[.int .i64 1, .int .u64 (A : Nat), .bool (bitB x 6), .bool (bitB x 7), .bool (bitB x 8), .int .i64 (qs : Nat)], 48) :: [(w.heap.size + 1, #[.int .i64 0, .int .u64 0, .bool false, .bool false, .bool false, .int .i64 0], 48), (w.heap.size, #[.int .u64 (x : Nat)], 22)]) W6 := by rw [← hW6]; exact hH
          clear hW6
          obtain ⟨s0, s1, s2, s3, _⟩ := id hH
          obtain ⟨k1, f1, z1⟩ := of_block s1
          obtain ⟨k2, f2, z2⟩ := of_block s2
          obtain ⟨k3, f3, z3⟩ := of_block s3
          by_cases c4 : checkC st lv 1 A (bitB x 6) (bitB x 7) (bitB x 8) (qs : Nat) = 0
          case neg =>
            rw [if_pos c4] at hAd
            obtain rfl : 4 = E := hAd; obtain rfl : V = zeroV := HV.out.1.symm.trans (dec_bad 4 HV.out.2 (by decide)).1
            generalize checkC st lv 1 A (bitB x 6) (bitB x 7) (bitB x 8) (qs : Nat) = e1 at *
            have hne : (e1 != 0) = true := bne_iff_ne.2 c4
            clear c4 hvd
            go_wp2_with (first | ((go_at_call 74); (with_reducible refine (hck _).mono ?_); rintro e w9 ⟨rfl, hb9⟩; have hH := holds_old hH hb9; obtain ⟨s0, s1, s2, s3, _⟩ := id hH; obtain ⟨k1, f1, z1⟩ := of_block s1; obtain ⟨k2, f2, z2⟩ := of_block s2; obtain ⟨k3, f3, z3⟩ := of_block s3))
            rw [six_set s2 rfl]
            have ho := old_put hH.1 (.cells #[.int .i64 0, .int .u64 0, .bool false, .bool false, .bool false, .int .i64 0] 48) (show w.heap.size ≤ w.heap.size + 1 by omega)
            have s9 := putB_same (.cells #[.int .i64 0, .int .u64 0, .bool false, .bool false, .bool false, .int .i64 0] 48) z2
            generalize putB _ (w.heap.size + 1) (.cells #[.int .i64 0, .int .u64 0, .bool false, .bool false, .bool false, .int .i64 0] 48) = W9 at *
            obtain ⟨k9, f9, z9⟩ := of_block s9
            refine bodyPost_ret (by simp [results, Try.results47, go_sem, k9]; try rfl) rfl ?_
            exact ⟨rfl, ho⟩
          case pos =>
          rw [if_neg (not_not_intro c4)] at hAd
          rw [c4] at hck
          obtain rfl : 0 = E := hAd; obtain rfl : V = descV 1 A (bitB x 6) (bitB x 7) (bitB x 8) (qs : Nat) := HV.out.1.symm.trans (hvd HV.out.2).1
          clear c4 hvd
          go_wp2_with (first | ((go_at_call 74); (with_reducible refine (hck _).mono ?_); rintro e w9 ⟨rfl, hb9⟩; have hH := holds_old hH hb9; obtain ⟨s0, s1, s2, s3, _⟩ := id hH; obtain ⟨k1, f1, z1⟩ := of_block s1; obtain ⟨k2, f2, z2⟩ := of_block s2; obtain ⟨k3, f3, z3⟩ := of_block s3))
          rw [six_set s2 rfl]
          have ho := old_put hH.1 (.cells #[.int .i64 1, .int .u64 (A : Nat), .bool (bitB x 6), .bool (bitB x 7), .bool (bitB x 8), .int .i64 (qs : Nat)] 48) (show w.heap.size ≤ w.heap.size + 1 by omega)
          have s9 := putB_same (.cells #[.int .i64 1, .int .u64 (A : Nat), .bool (bitB x 6), .bool (bitB x 7), .bool (bitB x 8), .int .i64 (qs : Nat)] 48) z2
          generalize putB _ (w.heap.size + 1) (.cells #[.int .i64 1, .int .u64 (A : Nat), .bool (bitB x 6), .bool (bitB x 7), .bool (bitB x 8), .int .i64 (qs : Nat)] 48) = W9 at *
          obtain ⟨k9, f9, z9⟩ := of_block s9
          refine bodyPost_ret (by simp [results, Try.results47, go_sem, k9]; try rfl) rfl ?_
          exact ⟨rfl, ho⟩
end Go.Proofs.Ytlbehhbicmmdoaa
namespace Go.Proofs.Ytlbehhbicmmdoaa
set_option linter.unusedVariables false
set_option linter.unusedSimpArgs false
open Go.RowKit
/-- A descriptor, plain. -/
structure D6 where
  k : Int
  a : Nat
  r : Bool
  w : Bool
  x : Bool
  s : Int
abbrev D6.v (d : D6) : Value := descV d.k d.a d.r d.w d.x d.s
/-- What a word is decoded to. -/
def decD (st lv : Int) (x : Nat) : D6 := if Place st lv ∧ x % 2 ≠ 0 ∧ decE st lv x = 0 then ⟨decK lv x, decA x, bitB x 6, bitB x 7, bitB x 8, (decS x : Nat)⟩ else ⟨0, 0, false, false, false, 0⟩
theorem decD_v (st lv : Int) (x : Nat) : decV st lv x = (decD st lv x).v := by unfold decV decD; split <;> rfl
theorem decD_a (st lv : Int) (x : Nat) : (decD st lv x).a < 18446744073709551616 := by
  unfold decD; split
  · have := decA_le x; show decA x < _; omega
  · decide
theorem decD_last (st : Int) (x : Nat) : (decD st 3 x).k ≠ 1 := by
  unfold decD; split
  · show decK 3 x ≠ 1
    unfold decK
    cases bitB x 1 <;> simp
  · decide
theorem decD_kind (st lv : Int) (x : Nat) : (decD st lv x).k = 0 ∨ (decD st lv x).k = 1 ∨ (decD st lv x).k = 2 ∨ (decD st lv x).k = 3 := by
  unfold decD; split
  · show decK lv x = 0 ∨ decK lv x = 1 ∨ decK lv x = 2 ∨ decK lv x = 3
    unfold decK
    cases bitB x 1
    · simp
    · by_cases h : lv = 3 <;> simp [h]
  · exact .inl rfl
/-- A step of a walk. -/
structure St where
  lv : Nat
  at_ : Nat
  raw : Nat
  d : D6
def St.cells (s : St) : List Value := [.int .i64 s.lv, .int .u64 (s.at_ : Nat), .int .u64 (s.raw : Nat), .int .i64 s.d.k, .int .u64 (s.d.a : Nat), .bool s.d.r, .bool s.d.w, .bool s.d.x, .int .i64 s.d.s]
def stCells : List St → List Value
  | [] => []
  | s :: l => s.cells ++ stCells l
theorem stCells_append (l m : List St) : stCells (l ++ m) = stCells l ++ stCells m := by
  induction l with
  | nil => rfl
  | cons s l ih => simp only [List.cons_append, stCells, ih, List.append_assoc]
theorem stCells_get : ∀ (l : List St) (i : Nat) (s : St) (c : Nat) (v : Value), l[i]? = some s → s.cells[c]? = some v → (stCells l)[i * 9 + c]? = some v
  | [], i, s, c, v, h, _ => by simp at h
  | t :: l, 0, s, c, v, h, hc => by
    simp at h; subst h
    have hl := (List.getElem?_eq_some_iff.1 hc).1
    simp only [stCells, Nat.zero_mul, Nat.zero_add]
    rw [List.getElem?_append_left hl]; exact hc
  | t :: l, i + 1, s, c, v, h, hc => by
    have := stCells_get l i s c v (by simpa using h) hc
    have e : (i + 1) * 9 + c = t.cells.length + (i * 9 + c) := by simp only [St.cells, List.length_cons, List.length_nil]; omega
    rw [stCells, e, List.getElem?_append_right (Nat.le_add_right _ _), Nat.add_sub_cancel_left]; exact this
/-- Where the next word stands. -/
def atN (root addr lv : Nat) : Nat := (root + 8 * indexN addr lv) % 18446744073709551616
theorem atN_lt (root addr lv : Nat) : atN root addr lv < 18446744073709551616 := Nat.mod_lt _ (by decide)
theorem atN_wrap (root addr lv : Nat) : IntKind.u64.wrap ((root : Int) + 8 * ((indexN addr lv : Nat) : Int)) = ((atN root addr lv : Nat) : Int) := by
  unfold atN
  rw [IntKind.wrap_u64]; omega
/-- A walk from a table of level lv on, at most n more words: the steps, and what it comes to. -/
def walkN (raw : Nat → Nat) (ok : Nat → Bool) (st : Int) (addr : Nat) : Nat → Nat → Nat → List St × Int
  | 0, _, _ => ([], 0)
  | n + 1, lv, root =>
    let at_ := atN root addr lv
    if ok at_ = false then ([], -1) else
    let d := decD st lv (raw at_)
    let e := decE st lv (raw at_)
    let s : St := ⟨lv, at_, raw at_, d⟩
    if e = 2 then ([s], 3) else if e ≠ 0 then ([s], 4) else if d.k = 0 then ([s], 1) else if d.k = 1 then
      (s :: (walkN raw ok st addr n (lv + 1) d.a).1, (walkN raw ok st addr n (lv + 1) d.a).2) else ([s], 0)
section
variable {raw : Nat → Nat} {ok : Nat → Bool} {st : Int} {addr n lv root : Nat}
theorem walkN_no (h : ok (atN root addr lv) = false) : walkN raw ok st addr (n + 1) lv root = ([], -1) := by unfold walkN; simp [h]
theorem walkN_range (h : ok (atN root addr lv) = true) (he : decE st lv (raw (atN root addr lv)) = 2) : walkN raw ok st addr (n + 1) lv root = ([⟨lv, atN root addr lv, raw (atN root addr lv), decD st lv (raw (atN root addr lv))⟩], 3) := by
  unfold walkN; simp [h, he]
theorem walkN_form (h : ok (atN root addr lv) = true) (he : decE st lv (raw (atN root addr lv)) ≠ 2) (h0 : decE st lv (raw (atN root addr lv)) ≠ 0) : walkN raw ok st addr (n + 1) lv root = ([⟨lv, atN root addr lv, raw (atN root addr lv), decD st lv (raw (atN root addr lv))⟩], 4) := by
  unfold walkN; simp [h, he, h0]
theorem walkN_none (h : ok (atN root addr lv) = true) (h0 : decE st lv (raw (atN root addr lv)) = 0) (hk : (decD st lv (raw (atN root addr lv))).k = 0) : walkN raw ok st addr (n + 1) lv root = ([⟨lv, atN root addr lv, raw (atN root addr lv), decD st lv (raw (atN root addr lv))⟩], 1) := by
  unfold walkN; simp [h, h0, hk]
theorem walkN_table (h : ok (atN root addr lv) = true) (h0 : decE st lv (raw (atN root addr lv)) = 0) (hk : (decD st lv (raw (atN root addr lv))).k = 1) : walkN raw ok st addr (n + 1) lv root =
    (⟨lv, atN root addr lv, raw (atN root addr lv), decD st lv (raw (atN root addr lv))⟩ :: (walkN raw ok st addr n (lv + 1) (decD st lv (raw (atN root addr lv))).a).1, (walkN raw ok st addr n (lv + 1) (decD st lv (raw (atN root addr lv))).a).2) := by
  conv => lhs; unfold walkN
  simp [h, h0, hk]
theorem walkN_leaf (h : ok (atN root addr lv) = true) (h0 : decE st lv (raw (atN root addr lv)) = 0) (hk : (decD st lv (raw (atN root addr lv))).k ≠ 0) (hk1 : (decD st lv (raw (atN root addr lv))).k ≠ 1) : walkN raw ok st addr (n + 1) lv root = ([⟨lv, atN root addr lv, raw (atN root addr lv), decD st lv (raw (atN root addr lv))⟩], 0) := by
  unfold walkN; simp [h, h0, hk, hk1]
end
end Go.Proofs.Ytlbehhbicmmdoaa
namespace Go.Proofs.Ytlbehhbicmmdoaa
set_option linter.unusedVariables false
set_option linter.unusedSimpArgs false
open Go.RowKit
/-- An append whose run is known. -/
theorem wpList_append_run {P : Program} {w : World} {ops : Array Oper} {rest : List Oper} {o : Oper} {a : Act} {Q : Exit → Act → World → Prop} (hgd : o.guard = none) (s x : Operand) (t : TypeId)
    (ho : o.op = .call { callee := .builtin .append, args := #[s, x], argTypes := #[t, t] }) (u v : Value) (hs : a.eval s = u) (hx : a.eval x = v) (v' : Value) (w' : World)
    (hrun : (Builtin.append_ #[t, t] o.type #[u, v]).run P w = .ok v' w') (h : wpList P ops Q rest (a.put o.dst v') w') : wpList P ops Q (o :: rest) a w := by
  refine wpList_plain hgd fun K hK => ?_
  unfold Oper.wp
  simp [execOp, ho, resolve, invoke, builtin, hs, hx, hrun, Result.andThen]
  exact hK _ _ h
set_option maxRecDepth 100000 in
/-- append([]byte{}, page...). -/
theorem copy_run (ty : TypeId) (w : World) (ad : Option Addr) (c : Nat) (L : List Nat) (hB : Bytes w ad c L) (hL : L.length ≤ 1000000) :
    ∃ v w2, (Builtin.append_ #[87, 87] ty #[.slice (some ⟨w.heap.size, 0, none⟩) 0 0, .slice ad L.length c]).run Try.prog (w.alloc (.cells #[] 5)) = .ok v w2 ∧
      w2.ownsRow w.heap.size 5 1 v L.length (L.map vb) ∧ Old w w2 ∧ w.heap.size < w2.heap.size := by
  obtain ⟨i0, hi, hz0, hz1, hz2⟩ := info_parts u8_info
  have hlit : (w.alloc (.cells #[] 5)).ownsRow w.heap.size 5 1 (.slice (some ⟨w.heap.size, 0, none⟩) 0 0) 0 [] := World.ownsRow_lit w #[] 0 (Nat.le_refl _) (by decide) rfl
  have hO1 : Old w (w.alloc (.cells #[] 5)) := old_alloc (old_refl w) _
  have hs1 : w.heap.size < (w.alloc (.cells #[] 5)).heap.size := by simp
  have hBL := bytes_old hB hO1
  cases ad with
  | none =>
    have h0 := hB.2.2.1 rfl
    obtain rfl : L = [] := by
      cases L with
      | nil => rfl
      | cons x l => have := hB.1; simp at this; omega
    subst h0
    exact ⟨_, _, run_append_owned_none (P := Try.prog) _ w.heap.size 87 ty 5 i0 1 Try.underlying87 hi _ 0 [] hlit, hlit, hO1, hs1⟩
  | some a =>
    obtain ⟨v, w2, hrun, hown, hgrow, -⟩ := run_append_own (P := Try.prog) (w.alloc (.cells #[] 5)) w.heap.size 87 ty 5 i0 (.int .u8 0) 1 1 Try.underlying87 hi hz0 hz1 hz2 rfl (by decide) _ 0 [] hlit a L.length c (L.map vb) (by simp) (bytes_news2 hBL) (vb_one L) (by unfold maxLen; omega) (by omega) hO1.size
    simp only [Nat.zero_add, List.nil_append] at hown
    refine ⟨v, w2, hrun, hown, old_grown hO1 hgrow (fun g e => ?_), Nat.lt_of_lt_of_le hs1 hgrow.size⟩
    have e' : some w.heap.size = some g := e
    have := Option.some.inj e'
    omega
end Go.Proofs.Ytlbehhbicmmdoaa
namespace Go.Proofs.Ytlbehhbicmmdoaa
set_option linter.unusedVariables false
set_option linter.unusedSimpArgs false
open Go.RowKit
theorem own_only {F : Nat → Prop} {w w' : World} {B : Nat} {e : TypeId} {s n : Nat} {v : Value} {xs : List Value} (h : w.ownsRow B e s v n xs) (ho : Only F w w') (hF : ∀ b, B ≤ b → ¬ F b) : w'.ownsRow B e s v n xs := by
  refine ⟨h.1, ?_⟩
  rcases h.2 with h' | ⟨g, cap, cur, h', hb, hg, rest⟩
  · exact .inl h'
  · exact .inr ⟨g, cap, cur, h', hb, keep_only ho (hF g hb) hg, rest⟩
theorem own_old {w w' : World} {B : Nat} {e : TypeId} {s n : Nat} {v : Value} {xs : List Value} (h : w.ownsRow B e s v n xs) (ho : Old w w') : w'.ownsRow B e s v n xs :=
  own_only h (Only.of_below ho) (fun _ _ f => f)
theorem news_block (w : World) (l : List Value) (t : TypeId) (b : Nat) (hb : b = w.heap.size) : ∀ (j : Nat) (u : Value), l[j]? = some u → (w.alloc (.cells l.toArray t)).cell? ((⟨b, 0, none⟩ : Addr).add j) = some u := by
  subst hb
  intro j u hu
  rw [add_eq _ _ rfl, cell_of (new_block _ _)]
  simpa using hu
/-- What an append leaves, told by blocks. -/
theorem grown_only {w w' : World} {row : Option Nat} (h : w.grownBy w' row) : Only (fun b => some b = row) w w' :=
  ⟨h.os, h.tape, h.output, h.size, fun k hk hF => h.block k hk (fun e => hF e)⟩
theorem own_nil {w : World} {B : Nat} {e : TypeId} {s : Nat} : w.ownsRow B e s (.slice none 0 0) 0 [] := World.ownsRow_nil _ _ _ _
/-- A row's value. -/
theorem own_value {w : World} {B : Nat} {e : TypeId} {s n : Nat} {v : Value} {xs : List Value} (h : w.ownsRow B e s v n xs) : ∃ ad c, v = .slice ad n c ∧ n ≤ c ∧ c ≤ maxLen ∧ (∀ bb off, ad = some ⟨bb, off, none⟩ → off = 0 ∧ B ≤ bb ∧ bb < w.heap.size) ∧ (0 < n → ∃ g, ad = some ⟨g, 0, none⟩) := by
  rcases h.2 with ⟨rfl, rfl⟩ | ⟨g, cap, cur, rfl, hb, hg, hnc, hcm, _⟩
  · exact ⟨none, 0, rfl, Nat.le_refl _, Nat.zero_le _, (fun _ _ e => by cases e), fun f => absurd f (Nat.lt_irrefl _)⟩
  · exact ⟨some ⟨g, 0, none⟩, cap, rfl, hnc, hcm, (fun _ _ e => by cases e; exact ⟨rfl, hb, lt_of_block hg⟩), fun _ => ⟨g, rfl⟩⟩
/-- A row's cell. -/
theorem own_cell {w : World} {B : Nat} {e : TypeId} {s n c : Nat} {ad : Option Addr} {xs : List Value} (h : w.ownsRow B e s (.slice ad n c) n xs) {g off : Nat} (ha : ad = some ⟨g, off, none⟩) (j : Nat) {u : Value} (hu : xs[j]? = some u) : w.cell? ⟨g, j, none⟩ = some u := by
  rcases h.2 with ⟨e', h0⟩ | ⟨g', cap, cur, e', hb, hg, hnc, hcm, hcs, ht⟩
  · subst ha; cases e'
  · subst ha
    simp only [Value.slice.injEq, Option.some.injEq, Addr.mk.injEq, and_true, true_and] at e'
    obtain ⟨⟨rfl, rfl⟩, rfl⟩ := e'
    have hj : j < n * s := by rw [← h.1]; exact (List.getElem?_eq_some_iff.1 hu).1
    rw [← hu, ← ht, List.getElem?_take, if_pos hj]
    show _ = _
    rw [World.cell?, hg]
    simp
end Go.Proofs.Ytlbehhbicmmdoaa
namespace Go.Proofs.Ytlbehhbicmmdoaa
set_option linter.unusedVariables false
set_option linter.unusedSimpArgs false
open Go.RowKit
theorem step_info : (Try.prog.info? 52).map (fun i => (i.zero, i.size, i.bytes)) = some (some (.agg #[.int .i64 0, .int .u64 0, .int .u64 0, .int .i64 0, .int .u64 0, .bool false, .bool false, .bool false, .int .i64 0]), 9, 56) := by kernel_rfl
theorem func_nil (f : FuncId) (caps : Array Value) (w : World) : (binOp .eql 34 (.func (.func f) #[] caps) .nilFunc).run Try.prog w = .ok (.bool false) w := by kernel_rfl
/-- The frame at the label. -/
def WalkFrame (st : Int) (root addr : Nat) (f : FuncId) (caps : Array Value) (v : Value) (lv : Nat) (a : Act) : Prop := ∀ Q : Act → Prop, (∀ u4 u5 u6 u7 u9 u11 u12 u13 u14 u15 u16 u17 u18 u19 u20 u21 u22 u23 u24 u25 u26 u27 u28 u29 u30 u31 u32 u33 u34 u35 u36 u37 u38 u39 u40 u41 u42 u43 u44 u45 u46 u47 u48 u49 u50 u51 u52 u53 u54 u55 u56 u57 u58 u59 u60 u61 u62 u63 u64 u65 u66 u67 u68 u69 u70 u71 u72 u73 : Value, Q { tmps := #[.int .i64 st, .int .u64 (root : Nat), .int .u64 (addr : Nat), .func (.func f) #[] caps, u4, u5, u6, u7, v, u9, .int .i64 (lv : Nat), u11, u12, u13, u14, u15, u16, u17, u18, u19, u20, u21, u22, u23, u24, u25, u26, u27, u28, u29, u30, u31, u32, u33, u34, u35, u36, u37, u38, u39, u40, u41, u42, u43, u44, u45, u46, u47, u48, u49, u50, u51, u52, u53, u54, u55, u56, u57, u58, u59, u60, u61, u62, u63, u64, u65, u66, u67, u68, u69, u70, u71, u72, u73], defers := [] }) → Q a
/-- A step was laid behind the others. -/
theorem walk_append (w0 w3 W4 : World) (G : Nat → Prop) (S : Nat → World → Prop) (v : Value) (lv n : Nat) (l : List St) (s : St) (bd : Nat) (o : Obj) (hlv : lv ≤ 3) (hl : l.length = lv) (hkeep : ∀ k x y, S k x → Only (fun b => w0.heap.size ≤ b) x y → S k y)
    (hown : w3.ownsRow w0.heap.size 52 9 v lv (stCells l)) (hS : S n w3) (hO : Only G w0 w3) (hG : ∀ b, G b → b < w0.heap.size) (hW : W4 = w3.alloc o) (hbd : bd = w3.heap.size) :
    ∃ v' w5, (Builtin.append_ #[29, 29] 29 #[v, .slice (some ⟨W4.heap.size, 0, none⟩) 1 1]).run Try.prog (W4.alloc (.cells #[.int .i64 s.lv, .int .u64 (s.at_ : Nat), .int .u64 (s.raw : Nat), .int .i64 s.d.k, .int .u64 (s.d.a : Nat), .bool s.d.r, .bool s.d.w, .bool s.d.x, .int .i64 s.d.s] 52)) = .ok v' w5 ∧
      w5.ownsRow w0.heap.size 52 9 v' (lv + 1) (stCells (l ++ [s])) ∧ S n w5 ∧ Only G w0 w5 ∧ w5.heap[bd]? = some o := by
  subst hW hbd
  obtain ⟨i0, hi, hz0, hz1, hz2⟩ := info_parts step_info
  have hsz := hO.size
  have hown4 := (hown.alloc o).alloc (.cells #[.int .i64 s.lv, .int .u64 (s.at_ : Nat), .int .u64 (s.raw : Nat), .int .i64 s.d.k, .int .u64 (s.d.a : Nat), .bool s.d.r, .bool s.d.w, .bool s.d.x, .int .i64 s.d.s] 52)
  have hnew := news_block (w3.alloc o) s.cells 52 (w3.alloc o).heap.size rfl
  obtain ⟨v', w5, hrun, ho5, hgr, -⟩ := run_append_own (P := Try.prog) _ w0.heap.size 29 29 52 i0 _ 9 56 Try.underlying29 hi hz0 hz1 hz2 rfl (by decide) v lv (stCells l) hown4 ⟨(w3.alloc o).heap.size, 0, none⟩ 1 1 s.cells rfl hnew (by intro u hu; simp only [St.cells, List.mem_cons, List.not_mem_nil, or_false] at hu; rcases hu with rfl | rfl | rfl | rfl | rfl | rfl | rfl | rfl | rfl <;> rfl) (by unfold maxLen; omega) (by omega) (by simp; omega)
  have hrow : ∀ b, some b = v.ownBlock → w0.heap.size ≤ b ∧ b < w3.heap.size := fun b e => hown.lt b e.symm
  have hOn : Only (fun b => some b = v.ownBlock) w3 w5 := Only.trans (((Only.refl _ w3).alloc o).alloc _) (grown_only hgr)
  refine ⟨v', w5, hrun, ?_, hkeep _ _ _ hS (hOn.mono fun b _ e => (hrow b e).1), ?_, ?_⟩
  · rw [stCells_append]
    have e : stCells [s] = s.cells := by simp [stCells]
    rw [e]; exact ho5
  · exact hO.step hOn (fun b hb e => by have := (hrow b e).1; omega)
  · rw [hgr.block _ (by simp; omega) (fun e => by have := (hrow _ e).2; omega)]
    rw [alloc_heap_old _ _ _ (by simp), alloc_heap_new _ _ _ rfl]
end Go.Proofs.Ytlbehhbicmmdoaa
/- A map from whole numbers: a block that reads as a function and a count. No function of the program stands here. -/
namespace Go.Proofs.Ytlbehhbicmmdoaa
set_option linter.unusedVariables false
set_option linter.unusedSimpArgs false
open Go.RowKit Go.MapKept
/-- The first with a key, and its place. -/
def seekL : List (Int × Value) → Int → Nat → Option (Nat × Value)
  | [], _, _ => none
  | x :: l, k, i => if k = x.1 then some (i, x.2) else seekL l k (i + 1)
def assocL (l : List (Int × Value)) (k : Int) : Option Value := (seekL l k 0).map (·.2)
theorem seekL_shift : ∀ (l : List (Int × Value)) (k : Int) (i : Nat), seekL l k (i + 1) = (seekL l k i).map fun x => (x.1 + 1, x.2)
  | [], k, i => rfl
  | x :: l, k, i => by
    unfold seekL
    split
    · rfl
    · exact seekL_shift l k (i + 1)
theorem assocL_cons (x : Int × Value) (l : List (Int × Value)) (k : Int) : assocL (x :: l) k = if k = x.1 then some x.2 else assocL l k := by
  unfold assocL
  rw [seekL]
  split
  · rfl
  · rw [seekL_shift]
    cases seekL l k 0 <;> rfl
/-- The entries of an array, as pairs. -/
def Entries (es : List MapEntry) (l : List (Int × Value)) : Prop := es.map (fun e => (e.key, e.val)) = l.map (fun x => (Value.int .i64 x.1, x.2))
theorem find_now : ∀ (es : List MapEntry) (l : List (Int × Value)) (k : Int) (i : Nat), Entries es l → Instr.findNow (.int .i64) (.int .i64 k) es i = some (seekL l k i)
  | [], [], k, i, _ => rfl
  | [], x :: l, k, i, h => by simp [Entries] at h
  | e :: es, [], k, i, h => by simp [Entries] at h
  | e :: es, x :: l, k, i, h => by
    obtain ⟨h1, h2⟩ : ((e.key, e.val) = (Value.int .i64 x.1, x.2)) ∧ Entries es l := by
      unfold Entries at h
      simp only [List.map_cons, List.cons.injEq] at h
      exact h
    have hk : e.key = .int .i64 x.1 := (Prod.mk.inj h1).1
    have hv : e.val = x.2 := (Prod.mk.inj h1).2
    unfold Instr.findNow seekL
    rw [hk]
    by_cases hkx : k = x.1
    · have hb : (k == x.1) = true := beq_iff_eq.2 hkx
      simp [Instr.sameNow, hkx, hv]
    · have hb : (k == x.1) = false := beq_eq_false_iff_ne.2 hkx
      simp only [Instr.sameNow, if_true, hb, if_neg hkx]
      exact find_now es l k (i + 1) h2
/-- Block m is a map that reads as f, of n keys. -/
def IsMap (w : World) (m : Nat) (f : Int → Option Value) (n : Nat) : Prop :=
  ∃ es clock l, w.heap[m]? = some (.map es clock) ∧ Entries es.toList l ∧ (l.map Prod.fst).Nodup ∧ l.length = n ∧ ∀ k, f k = assocL l k
theorem isMap_old {w x : World} {m n : Nat} {f : Int → Option Value} (h : IsMap w m f n) (ho : Old w x) : IsMap x m f n := by
  obtain ⟨es, clock, l, hb, r⟩ := h
  exact ⟨es, clock, l, keep_old ho hb, r⟩
theorem isMap_only {F : Nat → Prop} {w x : World} {m n : Nat} {f : Int → Option Value} (h : IsMap w m f n) (ho : Only F w x) (hF : ¬ F m) : IsMap x m f n := by
  obtain ⟨es, clock, l, hb, r⟩ := h
  exact ⟨es, clock, l, keep_only ho hF hb, r⟩
theorem isMap_lt {w : World} {m n : Nat} {f : Int → Option Value} (h : IsMap w m f n) : m < w.heap.size := by
  obtain ⟨es, clock, l, hb, r⟩ := h
  exact lt_of_block hb
theorem isMap_made (w : World) : IsMap (w.alloc (.map #[] 0)) w.heap.size (fun _ => none) 0 := ⟨#[], 0, [], new_block w _, rfl, List.nodup_nil, rfl, fun _ => rfl⟩
section
variable {P : Program} {t k e : TypeId} {w : World} {m n : Nat} {f : Int → Option Value}
theorem map_seek (hk : P.underlying k = some (.int .i64)) {es : Array MapEntry} {l : List (Int × Value)} (he : Entries es.toList l) (x : Int) :
    (Instr.findKey k (.int .i64 x) es.toList).run P w = .ok (seekL l x 0) w := run_findKey hk (find_now _ _ _ _ he)
theorem map_lookup (ht : P.underlying t = some (.map k e)) (hk : P.underlying k = some (.int .i64)) (h : IsMap w m f n) {x : Int} {v : Value} (hx : f x = some v) :
    (Instr.lookup t (.map (some m)) (.int .i64 x) true).run P w = .ok (.tuple #[v, .bool true]) w := by
  obtain ⟨es, clock, l, hb, he, _, _, hf⟩ := h
  rw [hf, assocL] at hx
  obtain ⟨y, hy, rfl⟩ := Option.map_eq_some_iff.1 hx
  have h1 := Go.MapKept.run_getObj_map (P := P) hb
  have h2 := run_checkKey (P := P) (w := w) (k := .int .i64 x) hk (by first | trivial | exact ⟨_, rfl⟩ | simp [IsKey]) es.isEmpty 9999
  have h3 := map_seek (w := w) hk he x
  rw [hy] at h3
  simp [Instr.lookup, Sem.run_bind, run_underlying ht, Result.andThen, h1, h2, h3]
theorem map_miss (ht : P.underlying t = some (.map k e)) (hk : P.underlying k = some (.int .i64)) {z : Value} (hz : (zeroValue e).run P w = .ok z w) (h : IsMap w m f n) {x : Int} (hx : f x = none) :
    (Instr.lookup t (.map (some m)) (.int .i64 x) true).run P w = .ok (.tuple #[z, .bool false]) w := by
  obtain ⟨es, clock, l, hb, he, _, _, hf⟩ := h
  rw [hf, assocL] at hx
  have hy : seekL l x 0 = none := Option.map_eq_none_iff.1 hx
  have h1 := Go.MapKept.run_getObj_map (P := P) hb
  have h2 := run_checkKey (P := P) (w := w) (k := .int .i64 x) hk (by first | trivial | exact ⟨_, rfl⟩ | simp [IsKey]) es.isEmpty 9999
  have h3 := map_seek (w := w) hk he x
  rw [hy] at h3
  simp [Instr.lookup, Sem.run_bind, run_underlying ht, Result.andThen, h1, h2, h3, hz]
/-- Another value at a key. -/
def updF (f : Int → Option Value) (x : Int) (v : Option Value) : Int → Option Value := fun y => if y = x then v else f y
theorem seek_some : ∀ {l : List (Int × Value)} {x : Int} {i : Nat} {y : Nat × Value}, seekL l x i = some y → ∃ a b, l = a ++ (x, y.2) :: b ∧ y.1 = i + a.length ∧ x ∉ a.map Prod.fst
  | [], x, i, y, h => by cases h
  | z :: l, x, i, y, h => by
    unfold seekL at h
    split at h
    · rename_i hx
      obtain rfl := Option.some.inj h
      exact ⟨[], l, by rw [hx]; rfl, by simp, by simp⟩
    · rename_i hx
      obtain ⟨a, b, rfl, h2, h3⟩ := seek_some h
      refine ⟨z :: a, b, rfl, by simp; omega, ?_⟩
      simp only [List.map_cons, List.mem_cons, not_or]
      exact ⟨hx, h3⟩
theorem assocL_append : ∀ (a b : List (Int × Value)) (k : Int), assocL (a ++ b) k = (assocL a k).or (assocL b k)
  | [], b, k => rfl
  | z :: a, b, k => by
    rw [List.cons_append, assocL_cons, assocL_cons, assocL_append a b k]
    split <;> rfl
theorem assocL_none : ∀ {a : List (Int × Value)} {k : Int}, k ∉ a.map Prod.fst → assocL a k = none
  | [], k, _ => rfl
  | z :: a, k, h => by
    simp only [List.map_cons, List.mem_cons, not_or] at h
    rw [assocL_cons, if_neg h.1, assocL_none h.2]
theorem assocL_mem : ∀ {a : List (Int × Value)} {k : Int}, assocL a k = none → k ∉ a.map Prod.fst
  | [], k, _ => by simp
  | z :: a, k, h => by
    rw [assocL_cons] at h
    split at h
    · cases h
    · rename_i hk
      simp only [List.map_cons, List.mem_cons, not_or]
      exact ⟨hk, assocL_mem h⟩
theorem entries_split {es : List MapEntry} {a b : List (Int × Value)} {y : Int × Value} (h : Entries es (a ++ y :: b)) :
    ∃ ea ee eb, es = ea ++ ee :: eb ∧ Entries ea a ∧ ee.key = .int .i64 y.1 ∧ ee.val = y.2 ∧ Entries eb b := by
  unfold Entries at h
  rw [List.map_append, List.map_cons] at h
  obtain ⟨ea, er, rfl, h1, h2⟩ := List.map_eq_append_iff.1 h
  obtain ⟨ee, eb, rfl, h3, h4⟩ := List.map_eq_cons_iff.1 h2
  exact ⟨ea, ee, eb, rfl, h1, (Prod.mk.inj h3).1, (Prod.mk.inj h3).2, h4⟩
theorem entries_join {ea eb : List MapEntry} {ee : MapEntry} {a b : List (Int × Value)} {y : Int × Value} (h1 : Entries ea a) (h2 : ee.key = .int .i64 y.1) (h3 : ee.val = y.2) (h4 : Entries eb b) : Entries (ea ++ ee :: eb) (a ++ y :: b) := by
  unfold Entries at *
  rw [List.map_append, List.map_cons, List.map_append, List.map_cons, h1, h4, h2, h3]
theorem entries_length {es : List MapEntry} {l : List (Int × Value)} (h : Entries es l) : es.length = l.length := by
  have := congrArg List.length h
  simpa using this
theorem modify_at {α : Type} (f : α → α) (x : α) (b : List α) : ∀ a : List α, (a ++ x :: b).modify a.length f = a ++ f x :: b
  | [] => by simp
  | z :: a => by
    have := modify_at f x b a
    simp [this]
/-- What a store or a delete leaves: block m is another map, all else is as it was. -/
theorem map_put (ht : P.underlying t = some (.map k e)) (hk : P.underlying k = some (.int .i64)) (h : IsMap w m f n) (x : Int) (v : Value) :
    ∃ w', (Instr.mapUpdate t (.map (some m)) (.int .i64 x) v).run P w = .ok () w' ∧ IsMap w' m (updF f x (some v)) (if (f x).isSome then n else n + 1) ∧ Only (fun j => j = m) w w' := by
  obtain ⟨es, clock, l, hb, he, hnd, hn, hf⟩ := h
  have h1 := Go.MapKept.run_getObj_map (P := P) hb
  have h2 := run_checkKey (P := P) (w := w) (k := .int .i64 x) hk (by first | trivial | exact ⟨_, rfl⟩ | simp [IsKey]) false 9999
  have h3 := map_seek (w := w) hk he x
  cases hs : seekL l x 0 with
  | none =>
    rw [hs] at h3
    have hfx : assocL l x = none := by rw [assocL, hs]; rfl
    refine ⟨putB w m (.map (es.push { key := .int .i64 x, val := v, born := clock }) (clock + 1)), ?_, ⟨_, _, l ++ [(x, v)], putB_same _ (lt_of_block hb), ?_, ?_, ?_, fun y => ?_⟩, (Only.refl _ w).putB _ fun _ => rfl⟩
    · have h4 := Go.MapKept.run_setObj_map (P := P) (.map (es.push { key := .int .i64 x, val := v, born := clock }) (clock + 1)) hb
      simp [Instr.mapUpdate, Sem.run_bind, run_underlying ht, Result.andThen, h1, h2, h3, h4]
      rfl
    · rw [Array.toList_push]
      exact entries_join (b := []) (eb := []) he rfl rfl rfl
    · rw [List.map_append, List.nodup_append]
      refine ⟨hnd, by simp, fun a ha b hb' => ?_⟩
      simp at hb'
      subst hb'
      intro hab
      subst hab
      exact assocL_mem hfx ha
    · rw [hf, hfx, List.length_append, hn]
      rfl
    · unfold updF
      rw [assocL_append, ← hf y, assocL_cons]
      by_cases hy : y = x
      · subst hy
        rw [if_pos rfl, hf, hfx, if_pos rfl]; rfl
      · rw [if_neg hy, if_neg hy]
        cases f y <;> rfl
  | some q =>
    rw [hs] at h3
    obtain ⟨a, b, rfl, hq, hna⟩ := seek_some hs
    obtain ⟨ea, ee, eb, hes, e1, e2, e3, e4⟩ := entries_split he
    have hfx : assocL (a ++ (x, q.2) :: b) x = some q.2 := by rw [assocL_append, assocL_none hna, assocL_cons, if_pos rfl]; rfl
    have hql : q.1 = ea.length := by rw [hq, entries_length e1]; omega
    have hget : es[q.1]? = some ee := by
      rw [← Array.getElem?_toList, hes, hql, List.getElem?_append_right (Nat.le_refl _)]
      simp
    have hmod : (es.modify q.1 fun z => { z with key := .int .i64 x, val := v }).toList = ea ++ { ee with key := .int .i64 x, val := v } :: eb := by
      rw [Array.toList_modify, hes, hql]
      exact modify_at _ _ _ _
    have hstay : (Instr.keyThatStays (.int .i64 x) (.int .i64 x)).run P w = .ok (.int .i64 x) w := by
      unfold Instr.keyThatStays
      rw [if_pos (by simp [Instr.sameBits])]
      rfl
    refine ⟨putB w m (.map (es.modify q.1 fun z => { z with key := .int .i64 x, val := v }) clock), ?_, ⟨_, _, a ++ (x, v) :: b, putB_same _ (lt_of_block hb), ?_, ?_, ?_, fun y => ?_⟩, (Only.refl _ w).putB _ fun _ => rfl⟩
    · have h4 := Go.MapKept.run_setObj_map (P := P) (.map (es.modify q.1 fun z => { z with key := .int .i64 x, val := v }) clock) hb
      simp [Instr.mapUpdate, Sem.run_bind, run_underlying ht, Result.andThen, h1, h2, h3, hget, e2, hstay, h4]
      rfl
    · rw [hmod]
      exact entries_join e1 rfl rfl e4
    · simpa using hnd
    · rw [hf, hfx]
      simpa using hn
    · unfold updF
      rw [hf y, assocL_append, assocL_append, assocL_cons, assocL_cons]
      by_cases hy : y = x
      · subst hy
        rw [if_pos rfl, if_pos rfl, assocL_none hna]; rfl
      · rw [if_neg hy, if_neg hy, if_neg hy]
end
end Go.Proofs.Ytlbehhbicmmdoaa
/- Contracts of the package disk. -/
namespace Go.Proofs.Ytlbehhbicmmdoaa
set_option linter.unusedVariables false
set_option linter.unusedSimpArgs false
open Go.RowKit
/-- Another page at a slot. -/
def updP (pg : Int → Option (List Nat)) (k : Int) (v : Option (List Nat)) : Int → Option (List Nat) := fun y => if y = k then v else pg y
/-- A page's slice. -/
def PageIs (w : World) (X : Nat → Prop) (p m : Nat) (v : Value) (l : List Nat) : Prop :=
  ∃ g c, v = .slice (some ⟨g, 0, none⟩) 4096 c ∧ l.length = 4096 ∧ Row w 0 g c l ∧ ¬ X g ∧ g ≠ p ∧ g ≠ m
section
variable {w x : World} {X Y : Nat → Prop} {p m slots : Nat} {pg : Int → Option (List Nat)} {F : List Bool} {v : Value} {l : List Nat}
theorem page_only {G : Nat → Prop} (h : PageIs w X p m v l) (ho : Only G w x) (hG : ∀ b, ¬ X b → b ≠ p → b ≠ m → ¬ G b) : PageIs x X p m v l := by
  obtain ⟨g, c, rfl, h1, h2, h3, h4, h5⟩ := h
  exact ⟨g, c, rfl, h1, row_only h2 ho (hG g h3 h4 h5), h3, h4, h5⟩
end
end Go.Proofs.Ytlbehhbicmmdoaa
/- Contracts of the package disk: what turns it. -/
namespace Go.Proofs.Ytlbehhbicmmdoaa
set_option linter.unusedVariables false
set_option linter.unusedSimpArgs false
open Go.RowKit
section
variable {w : World} {X : Nat → Prop} {p m slots : Nat} {pg : Int → Option (List Nat)} {F F' : List Bool} {f : Int → Option Value} {fv fv' : Value}
end
end Go.Proofs.Ytlbehhbicmmdoaa
/- Contracts of the package disk: New, Fail, Give. -/
namespace Go.Proofs.Ytlbehhbicmmdoaa
set_option linter.unusedVariables false
set_option linter.unusedSimpArgs false
open Go.RowKit
end Go.Proofs.Ytlbehhbicmmdoaa
/- Contracts of the package disk: Give, Read, Write. -/
namespace Go.Proofs.Ytlbehhbicmmdoaa
set_option linter.unusedVariables false
set_option linter.unusedSimpArgs false
open Go.RowKit
theorem zero_bytes (w : World) : (zeroValue 87).run Try.prog w = .ok (.slice none 0 0) w := by kernel_rfl
section
variable {w w' : World} {X : Nat → Prop} {p m slots : Nat} {pg pg' : Int → Option (List Nat)} {F F' : List Bool} {f f' : Int → Option Value} {fv fv' : Value}
end
end Go.Proofs.Ytlbehhbicmmdoaa
/- Contracts of the package disk: Read, Write. -/
namespace Go.Proofs.Ytlbehhbicmmdoaa
set_option linter.unusedVariables false
set_option linter.unusedSimpArgs false
open Go.RowKit
end Go.Proofs.Ytlbehhbicmmdoaa
/- Contracts of the package disk: Write. -/
namespace Go.Proofs.Ytlbehhbicmmdoaa
set_option linter.unusedVariables false
set_option linter.unusedSimpArgs false
open Go.RowKit
end Go.Proofs.Ytlbehhbicmmdoaa
/- Contracts of the package disk: Take. -/
namespace Go.Proofs.Ytlbehhbicmmdoaa
set_option linter.unusedVariables false
set_option linter.unusedSimpArgs false
open Go.RowKit
def zeros4096 : List Nat := List.replicate 4096 0
theorem zeros4096_length : zeros4096.length = 4096 := List.length_replicate
/-- A new page, all 0. -/
theorem make_page (w : World) : ∃ w', (Instr.makeSlice 87 (.int .i64 4096) (.int .i64 4096)).run Try.prog w = .ok (.slice (some ⟨w.heap.size, 0, none⟩) 4096 4096) w' ∧ Row w' w.heap.size w.heap.size 4096 zeros4096 ∧ Old w w' := by
  obtain ⟨i0, hi, hz0, hz1, hz2⟩ := info_parts u8_info
  obtain ⟨w', hrun, hown, hg⟩ := run_make_full (P := Try.prog) w w.heap.size 87 5 i0 (.int .u8 0) 1 Try.underlying87 hi hz0 hz1 .i64 .i64 4096 (by omega) (by unfold maxLen; omega) (Nat.le_refl _)
  refine ⟨w', hrun, ⟨?_, ?_⟩, old_grown (old_refl w) hg (fun g e => by cases e)⟩
  · have e : (madeCells (Value.int .u8 0).cells (4096 * 1)).toList = zeros4096.map vb := by
      rw [show (Value.int .u8 0).cells = #[.int .u8 0] from rfl, toList_madeCells_one]
      unfold zeros4096
      rw [List.map_replicate]
      rfl
    rw [zeros4096_length, ← e]
    exact hown
  · intro x hx
    have := List.eq_of_mem_replicate hx
    omega
end Go.Proofs.Ytlbehhbicmmdoaa
/- Contracts of the package phys: the memory, what it holds, has, Frames, Ops, page, place, New. -/
namespace Go.Proofs.Ytlbehhbicmmdoaa
set_option linter.unusedVariables false
set_option linter.unusedSimpArgs false
open Go.RowKit Go.MapKept
section
variable {P : Program} {t k e : TypeId} {w : World} {m n : Nat} {f : Int → Option Value}
end
/-- The cells of a memory. -/
def memCells (frames m ops : Nat) : Array Value := #[.int .i64 frames, .map (some m), .int .i64 ops]
/-- Block p holds a memory; X: blocks that are not its own. -/
def IsMem (w : World) (X : Nat → Prop) (p frames : Nat) (pg : Int → Option (List Nat)) (ops : Nat) : Prop :=
  ∃ m f n, w.heap[p]? = some (.cells (memCells frames m ops) 122) ∧ ¬ X p ∧ IsMap w m f n ∧ ¬ X m ∧ m ≠ p ∧ (1 ≤ frames ∧ frames ≤ 1048576) ∧
    (∀ k, pg k = none → f k = none) ∧ (∀ k l, pg k = some l → ∃ v, f k = some v ∧ PageIs w X p m v l)
/-- A frame's bytes. -/
def pageOf (pg : Int → Option (List Nat)) (k : Int) : List Nat := (pg k).getD zeros4096
section
variable {w x : World} {X Y : Nat → Prop} {p frames ops : Nat} {pg : Int → Option (List Nat)}
/-- Others' blocks were turned. -/
theorem mem_only {G : Nat → Prop} (h : IsMem w X p frames pg ops) (ho : Only G w x) (hG : ∀ b, ¬ X b → ¬ G b) : IsMem x X p frames pg ops := by
  obtain ⟨m, f, n, h1, h2, h3, h4, h5, h6, h7, h8⟩ := h
  refine ⟨m, f, n, keep_only ho (hG p h2) h1, h2, isMap_only h3 ho (hG m h4), h4, h5, h6, h7, fun k l hk => ?_⟩
  obtain ⟨v, a, b⟩ := h8 k l hk
  exact ⟨v, a, page_only b ho fun b hb _ _ => hG b hb⟩
theorem mem_old (h : IsMem w X p frames pg ops) (ho : Old w x) : IsMem x X p frames pg ops := mem_only h (Only.of_below ho) fun _ _ f => f
/-- More blocks that are not the memory's own. -/
theorem mem_more (h : IsMem w X p frames pg ops) (hY : ∀ b, Y b → X b ∨ w.heap.size ≤ b) : IsMem w Y p frames pg ops := by
  obtain ⟨m, f, n, h1, h2, h3, h4, h5, h6, h7, h8⟩ := h
  have key : ∀ b, ¬ X b → b < w.heap.size → ¬ Y b := fun b hb hl hy => (hY b hy).elim hb (by omega)
  refine ⟨m, f, n, h1, key p h2 (lt_of_block h1), h3, key m h4 (isMap_lt h3), h5, h6, h7, fun k l hk => ?_⟩
  obtain ⟨v, a, g, c, rfl, b1, b2, b3, b4, b5⟩ := h8 k l hk
  exact ⟨_, a, g, c, rfl, b1, b2, key g b3 (row_parts b2).2.1, b4, b5⟩
theorem pageOf_length (h : IsMem w X p frames pg ops) (k : Int) : (pageOf pg k).length = 4096 := by
  unfold pageOf
  cases hk : pg k with
  | none => exact zeros4096_length
  | some l =>
    obtain ⟨m, f, n, h1, h2, h3, h4, h5, h6, h7, h8⟩ := h
    obtain ⟨v, _, g, c, _, hl, _⟩ := h8 k l hk
    exact hl
/-- Another count of reads and writes. -/
theorem mem_ops (h : IsMem w X p frames pg ops) (o2 : Nat) : ∃ C, w.heap[p]? = some (.cells C 122) ∧ C[2]? = some (.int .i64 ops) ∧ IsMem (putB w p (.cells (C.setIfInBounds 2 (.int .i64 o2)) 122)) X p frames pg o2 ∧ Only (fun b => ¬ X b) w (putB w p (.cells (C.setIfInBounds 2 (.int .i64 o2)) 122)) := by
  obtain ⟨m, f, n, h1, h2, h3, h4, h5, h6, h7, h8⟩ := h
  have hp := lt_of_block h1
  have ho : Only (fun b => b = p) w (putB w p (.cells (memCells frames m o2) 122)) := (Only.refl _ _).putB _ (fun _ => rfl)
  refine ⟨_, h1, rfl, ⟨m, f, n, putB_same _ hp, h2, isMap_only h3 ho (fun e => h5 e), h4, h5, h6, h7, fun k l hk => ?_⟩, ho.mono fun b _ e => by rw [e]; exact h2⟩
  obtain ⟨v, a, b⟩ := h8 k l hk
  exact ⟨v, a, page_only b ho fun b _ hp _ e => hp e⟩
/-- A page laid. -/
theorem mem_page (h : IsMem w X p frames pg ops) (k : Int) (l : List Nat) (B g c : Nat) (hr : Row w B g c l) (hl : l.length = 4096) (hg : ¬ X g) (hgp : g ≠ p) (hgm : ∀ m, w.cell? ⟨p, 1, none⟩ = some (.map (some m)) → g ≠ m) :
    ∃ m, w.cell? ⟨p, 1, none⟩ = some (.map (some m)) ∧ ∃ w', (Instr.mapUpdate 120 (.map (some m)) (.int .i64 k) (.slice (some ⟨g, 0, none⟩) 4096 c)).run Try.prog w = .ok () w' ∧ IsMem w' X p frames (updP pg k (some l)) ops ∧ Only (fun b => ¬ X b) w w' := by
  obtain ⟨m, f, n, h1, h2, h3, h4, h5, h6, h7, h8⟩ := h
  have c1 : w.cell? ⟨p, 1, none⟩ = some (.map (some m)) := by rw [cell_of h1]; rfl
  obtain ⟨w', hput, hmap, ho⟩ := map_put (P := Try.prog) (t := 120) Try.underlying120 Try.underlying3 h3 k (.slice (some ⟨g, 0, none⟩) 4096 c)
  refine ⟨m, c1, w', hput, ⟨m, _, _, keep_only ho (fun e => h5 e.symm) h1, h2, hmap, h4, h5, h6, fun j hj => ?_, fun j lj hj => ?_⟩, ho.mono fun b _ e => by rw [e]; exact h4⟩
  · unfold updP at hj
    unfold updF
    by_cases e : j = k
    · rw [if_pos e] at hj; cases hj
    · rw [if_neg e] at hj ⊢; exact h7 j hj
  · unfold updP at hj
    unfold updF
    by_cases e : j = k
    · rw [if_pos e] at hj ⊢
      obtain rfl := Option.some.inj hj
      have hr0 : Row w 0 g c l := by
        refine ⟨⟨hr.1.1, ?_⟩, hr.2⟩
        rcases hr.1.2 with h' | ⟨g', cap', cur, h', hb, rest⟩
        · exact .inl h'
        · exact .inr ⟨g', cap', cur, h', Nat.zero_le _, rest⟩
      exact ⟨_, rfl, g, c, rfl, hl, row_only hr0 ho (fun e => hgm m c1 e), hg, hgp, hgm m c1⟩
    · rw [if_neg e] at hj ⊢
      obtain ⟨v, a, b⟩ := h8 j lj hj
      exact ⟨v, a, page_only b ho fun b _ _ hm e => hm e⟩
end
/-- What a method of the memory leaves. -/
def RetMem (w : World) (X : Nat → Prop) (p frames : Nat) (v : Value) (pg : Int → Option (List Nat)) (ops : Nat) (e : Ending) (w' : World) : Prop :=
  e = .returned v ∧ IsMem w' X p frames pg ops ∧ Only (fun b => ¬ X b) w w'
theorem physNew_calls (n : Nat) (w : World) (h1 : 1 ≤ n) (h2 : n ≤ 1048576) : Calls Try.prog 54 #[.int .i64 n] w (fun e w' =>
    e = .returned (.tuple #[.pointer (some ⟨w.heap.size + 1, 0, none⟩), .int .i64 0]) ∧ Old w w' ∧ w'.heap.size = w.heap.size + 2 ∧ ∀ X : Nat → Prop, (∀ b, X b → b < w.heap.size) → IsMem w' X (w.heap.size + 1) n (fun _ => none) 0) := by
  have i1 : (1 : Int) ≤ n := by omega
  have i2 : (n : Int) ≤ 1048576 := by omega
  have hmm := @run_makeMap Try.prog
  go_enter Try.func54, Try.ntmps54
  go_wp2
  go_ret2
  refine ⟨?_, old_alloc (old_alloc (old_refl w) _) _, by simp, fun X hX => ⟨w.heap.size, fun _ => none, 0, ?_, fun f => by have := hX _ f; omega, isMap_old (isMap_made w) (old_alloc (old_refl _) _), fun f => by have := hX _ f; omega, by omega, ⟨h1, h2⟩, fun _ _ => rfl, fun k l hk => by cases hk⟩⟩
  · first | rfl | simp
  · exact alloc_heap_new _ _ _ (by simp)
section
variable {X : Nat → Prop} {p frames ops : Nat} {pg : Int → Option (List Nat)} {w : World}
theorem frames_calls (h : IsMem w X p frames pg ops) : Calls Try.prog 62 #[.pointer (some ⟨p, 0, none⟩)] w (RetB w (.int .i64 frames)) := by
  obtain ⟨m, f, n, h1, h2, h3, h4, h5, h6, h7, h8⟩ := h
  have c0 : w.cell? ⟨p, 0, none⟩ = some (.int .i64 frames) := by rw [cell_of h1]; rfl
  clear h1 h2 h3 h4 h5 h6 h7 h8
  go_enter Try.func62, Try.ntmps62
  go_wp2
  go_ret
  exact ⟨rfl, old_refl _⟩
def hasB (frames : Nat) (k : Int) : Bool := decide (0 ≤ k) && decide (k < frames)
theorem has_calls (h : IsMem w X p frames pg ops) (k : Int) : Calls Try.prog 66 #[.pointer (some ⟨p, 0, none⟩), .int .i64 k] w (RetB w (.bool (hasB frames k))) := by
  obtain ⟨m, f, n, h1, h2, h3, h4, h5, h6, h7, h8⟩ := h
  have c0 : w.cell? ⟨p, 0, none⟩ = some (.int .i64 frames) := by rw [cell_of h1]; rfl
  clear h1 h2 h3 h4 h5 h6 h7 h8
  by_cases k0 : 0 ≤ k
  · by_cases k1 : k < frames
    · have e : hasB frames k = true := by unfold hasB; simp [k0, k1]
      rw [e]
      clear e
      go_enter Try.func66, Try.ntmps66
      go_wp2
      go_ret
      exact ⟨rfl, old_refl _⟩
    · have e : hasB frames k = false := by unfold hasB; simp [k1]
      rw [e]
      clear e
      go_enter Try.func66, Try.ntmps66
      go_wp2
      go_ret
      exact ⟨rfl, old_refl _⟩
  · have e : hasB frames k = false := by unfold hasB; simp [k0]
    rw [e]
    clear e
    go_enter Try.func66, Try.ntmps66
    go_wp2
    go_ret
    exact ⟨rfl, old_refl _⟩
/-- page tells a frame's bytes: its own block, or a new one. -/
theorem page_calls (h : IsMem w X p frames pg ops) (k : Int) : Calls Try.prog 65 #[.pointer (some ⟨p, 0, none⟩), .int .i64 k] w (fun e w' => ∃ g c, e = .returned (.slice (some ⟨g, 0, none⟩) 4096 c) ∧ Row w' 0 g c (pageOf pg k) ∧ Old w w') := by
  have hl := pageOf_length h k
  obtain ⟨m, f, n, h1, h2, h3, h4, h5, h6, h7, h8⟩ := h
  have c1 : w.cell? ⟨p, 1, none⟩ = some (.map (some m)) := by rw [cell_of h1]; rfl
  cases hk : pg k with
  | none =>
    have hlk := map_miss (P := Try.prog) (t := 120) Try.underlying120 Try.underlying3 (zero_bytes w) h3 (h7 k hk)
    obtain ⟨w2, hmk, hrow, hO⟩ := make_page w
    have hp0 : pageOf pg k = zeros4096 := by unfold pageOf; rw [hk]; rfl
    rw [hp0]
    have hr0 : Row w2 0 w.heap.size 4096 zeros4096 := by
      refine ⟨⟨hrow.1.1, ?_⟩, hrow.2⟩
      rcases hrow.1.2 with h' | ⟨g', cap', cur, h', hb, rest⟩
      · exact .inl h'
      · exact .inr ⟨g', cap', cur, h', Nat.zero_le _, rest⟩
    have HR := Lib.hid (And.intro hr0 hO)
    clear h1 h2 h3 h4 h5 h6 h7 h8 hl hk hrow hO hr0 hp0
    go_enter Try.func65, Try.ntmps65
    go_wp2
    go_ret
    exact ⟨_, _, rfl, HR.out.1, HR.out.2⟩
  | some l =>
    obtain ⟨v, hv, g, c, rfl, b1, b2, b3, b4, b5⟩ := h8 k l hk
    have hlk := map_lookup (P := Try.prog) (t := 120) Try.underlying120 Try.underlying3 h3 hv
    have hp0 : pageOf pg k = l := by unfold pageOf; rw [hk]; rfl
    rw [hp0]
    have HR := Lib.hid b2
    clear h1 h2 h3 h4 h5 h6 h7 h8 hl hk hv b1 b2 b3 b4 b5 hp0
    go_enter Try.func65, Try.ntmps65
    go_wp2
    go_ret
    exact ⟨_, _, rfl, HR.out, old_refl _⟩
end
end Go.Proofs.Ytlbehhbicmmdoaa
/- Contracts of the package phys: place, Read, Write. -/
namespace Go.Proofs.Ytlbehhbicmmdoaa
set_option linter.unusedVariables false
set_option linter.unusedSimpArgs false
open Go.RowKit
/-- Why a word may not be. -/
def placeE (frames : Nat) (addr : Nat) (s : Int) : Int := if checkN 4096 ((addr % 4096 : Nat) : Int) s ≠ 0 then checkN 4096 ((addr % 4096 : Nat) : Int) s else if frames ≤ addr / 4096 then 2 else 0
section
variable {X : Nat → Prop} {p frames ops : Nat} {pg : Int → Option (List Nat)} {w : World}
theorem mplace_calls (h : IsMem w X p frames pg ops) (addr : Nat) (ha : addr < 18446744073709551616) (s : Int) :
    Calls Try.prog 63 #[.pointer (some ⟨p, 0, none⟩), .int .u64 (addr : Nat), .int .i64 s] w
      (RetB w (.tuple (if placeE frames addr s = 0 then #[.int .i64 (addr / 4096 : Nat), .int .i64 (addr % 4096 : Nat), .int .i64 0] else #[.int .i64 0, .int .i64 0, .int .i64 (placeE frames addr s)]))) := by
  obtain ⟨w1, hmk, hrow, hO⟩ := make_page w
  obtain ⟨m, f, n, h1, h2, h3, h4, h5, h6, h7, h8⟩ := h
  have c0 : w.cell? ⟨p, 0, none⟩ = some (.int .i64 frames) := by rw [cell_of h1]; rfl
  have hB := row_bytes hrow
  have hp := lt_of_block h1
  have e1 : ((addr : Int) % 4096) = ((addr % 4096 : Nat) : Int) := by omega
  have e2 : ((addr : Int) / 4096) = ((addr / 4096 : Nat) : Int) := by omega
  have hfr : IntKind.u64.wrap (frames : Int) = frames := IntWalk.u64_in _ (by omega)
  have hlo : addr % 4096 < 4096 := Nat.mod_lt _ (by decide)
  have hhi : addr / 4096 ≤ 9007199254740992 := by omega
  generalize hA : addr % 4096 = at_ at *
  generalize hF : addr / 4096 = fr at *
  have HA := Lib.hid (And.intro hA hF)
  have hPE : placeE frames addr s = if checkN 4096 (at_ : Int) s ≠ 0 then checkN 4096 (at_ : Int) s else if frames ≤ fr then 2 else 0 := by unfold placeE; rw [hA, hF]
  rw [hPE]
  clear hPE
  by_cases hc : checkN 4096 (at_ : Int) s = 0
  case neg =>
    have e : (if checkN 4096 (at_ : Int) s ≠ 0 then checkN 4096 (at_ : Int) s else if frames ≤ fr then 2 else 0) = checkN 4096 (at_ : Int) s := if_pos hc
    rw [e, if_neg hc]
    clear e
    have hget := fun x => get_fail (some ⟨w.heap.size, 0, none⟩) 4096 4096 (at_ : Int) s x (by decide) _ rfl hc
    generalize checkN 4096 (at_ : Int) s = E at *
    have hb : (E != 0) = true := by simp [hc]
    have HO := Lib.hid hO
    clear h1 h2 h3 h4 h5 h6 h7 h8 hA hF hB hrow hO hc c0
    go_enter Try.func63, Try.ntmps63
    go_wp2_with fail
    (with_reducible refine (hget _).mono ?_)
    rintro e w2 ⟨rfl, hb2⟩
    go_wp2
    go_ret3
    exact ⟨rfl, old_then HO.out hb2⟩
  case pos =>
  have e : (if checkN 4096 (at_ : Int) s ≠ 0 then checkN 4096 (at_ : Int) s else if frames ≤ fr then (2 : Int) else 0) = if frames ≤ fr then 2 else 0 := if_neg (by simp [hc])
  rw [e]
  clear e
  have hs : 1 ≤ s ∧ s ≤ 8 ∧ (at_ : Int) + s ≤ 4096 := by
    unfold checkN at hc
    split at hc
    · cases hc
    split at hc
    · cases hc
    split at hc
    · cases hc
    rename_i g1 g2 g3
    have g1' := Classical.not_not.1 g1
    omega
  obtain ⟨sn, rfl⟩ : ∃ sn : Nat, s = sn := ⟨s.toNat, by omega⟩
  have hz := zeros4096_length
  have hget := fun x (hBx : Bytes x (some ⟨w.heap.size, 0, none⟩) 4096 zeros4096) => get_ok (some ⟨w.heap.size, 0, none⟩) zeros4096 4096 (at_ : Int) (sn : Int) at_ sn rfl rfl x hBx (by rw [hz]; exact hc) (by omega) (by omega) (by omega)
  rw [hz] at hget
  have hg1 := hget w1 hB
  generalize getN zeros4096 at_ sn = gv at *
  have HO := Lib.hid hO
  have H1 := Lib.hid h1
  have hold : ∀ y, Old w1 y → y.cell? ⟨p, 0, none⟩ = some (.int .i64 frames) := fun y hy => by rw [cell_of (keep_old hy (keep_old hO h1))]; rfl
  have HC := Lib.hid hold
  have hcast : IntKind.i64.wrap (fr : Int) = fr := IntWalk.i64_in _ (by omega)
  by_cases hr : frames ≤ fr
  · have e : (if frames ≤ fr then (2 : Int) else 0) = 2 := if_pos hr
    rw [e, if_neg (by decide)]
    clear e
    clear h1 h2 h3 h4 h5 h6 h7 h8 hA hF hB hrow hO hc c0 hz hget hold
    go_enter Try.func63, Try.ntmps63
    go_wp2_with fail
    (with_reducible refine hg1.mono ?_)
    rintro e w2 ⟨rfl, hb2⟩
    have c0 := HC.out _ hb2
    go_wp2
    go_ret3
    exact ⟨rfl, old_then HO.out hb2⟩
  · have e : (if frames ≤ fr then (2 : Int) else 0) = 0 := if_neg hr
    rw [e, if_pos rfl]
    clear e
    clear h1 h2 h3 h4 h5 h6 h7 h8 hA hF hB hrow hO hc c0 hz hget hold
    go_enter Try.func63, Try.ntmps63
    go_wp2_with fail
    (with_reducible refine hg1.mono ?_)
    rintro e w2 ⟨rfl, hb2⟩
    have c0 := HC.out _ hb2
    go_wp2
    go_ret3
    exact ⟨rfl, old_then HO.out hb2⟩
end
end Go.Proofs.Ytlbehhbicmmdoaa
/- Contracts of the package phys: Read, Write; bytes.Clone, bytes.Equal. -/
namespace Go.Proofs.Ytlbehhbicmmdoaa
set_option linter.unusedVariables false
set_option linter.unusedSimpArgs false
open Go.RowKit
theorem placeE_zero {frames addr : Nat} {s : Int} (h : placeE frames addr s = 0) : checkN 4096 ((addr % 4096 : Nat) : Int) s = 0 ∧ addr / 4096 < frames ∧ 1 ≤ s ∧ s ≤ 8 ∧ ((addr % 4096 : Nat) : Int) + s ≤ 4096 := by
  have hc : checkN 4096 ((addr % 4096 : Nat) : Int) s = 0 := by
    unfold placeE at h
    split at h
    · rename_i h1; exact absurd h h1
    · rename_i h1; exact Classical.not_not.1 h1
  have hf : addr / 4096 < frames := by
    unfold placeE at h
    rw [if_neg (fun g => g hc)] at h
    split at h
    · cases h
    · omega
  refine ⟨hc, hf, ?_⟩
  unfold checkN at hc
  split at hc
  · cases hc
  split at hc
  · cases hc
  split at hc
  · cases hc
  rename_i g1 g2 g3
  have g1' := Classical.not_not.1 g1
  omega
section
variable {X : Nat → Prop} {p frames ops : Nat} {pg : Int → Option (List Nat)} {w : World}
theorem read_fail2 (h : IsMem w X p frames pg ops) (addr : Nat) (ha : addr < 18446744073709551616) (s : Int) (he : placeE frames addr s ≠ 0) :
    Calls Try.prog 60 #[.pointer (some ⟨p, 0, none⟩), .int .u64 (addr : Nat), .int .i64 s] w (RetB w (.tuple #[.int .u64 0, .int .i64 (placeE frames addr s)])) := by
  have hp := mplace_calls h addr ha s
  rw [if_neg he] at hp
  generalize placeE frames addr s = E at *
  have hb : (E != 0) = true := by simp [he]
  clear he h
  go_enter Try.func60, Try.ntmps60
  go_wp2_with fail
  (with_reducible refine hp.mono ?_)
  rintro e w1 ⟨rfl, hb1⟩
  go_wp2
  go_ret2
  exact ⟨rfl, hb1⟩
/-- What a frame's number is. -/
def wordOf (pg : Int → Option (List Nat)) (addr : Nat) (s : Int) : Nat := getN (pageOf pg ((addr / 4096 : Nat) : Int)) (addr % 4096) s.toNat
set_option maxHeartbeats 1000000 in
theorem read_ok2 (h : IsMem w X p frames pg ops) (addr : Nat) (ha : addr < 18446744073709551616) (s : Int) (he : placeE frames addr s = 0) (ho : ops < 4611686018427387904) :
    Calls Try.prog 60 #[.pointer (some ⟨p, 0, none⟩), .int .u64 (addr : Nat), .int .i64 s] w (RetMem w X p frames (.tuple #[.int .u64 (wordOf pg addr s : Nat), .int .i64 0]) pg (ops + 1)) := by
  have hp := mplace_calls h addr ha s
  rw [if_pos he] at hp
  obtain ⟨hc, hf, hs1, hs8, hle⟩ := placeE_zero he
  obtain ⟨sn, rfl⟩ : ∃ sn : Nat, s = sn := ⟨s.toNat, by omega⟩
  have hl := fun k => pageOf_length h k
  have H := Lib.hid h
  have hv : wordOf pg addr (sn : Int) = getN (pageOf pg ((addr / 4096 : Nat) : Int)) (addr % 4096) sn := rfl
  rw [hv]
  clear hv
  generalize addr / 4096 = fr at *
  generalize addr % 4096 = at_ at *
  have hget := fun x c g (hBx : Bytes x (some ⟨g, 0, none⟩) c (pageOf pg (fr : Int))) => get_ok (some ⟨g, 0, none⟩) (pageOf pg (fr : Int)) c (at_ : Int) (sn : Int) at_ sn rfl rfl x hBx (by rw [hl]; exact hc) (by rw [hl]; omega) (by omega) (by omega)
  simp only [hl] at hget
  have HG := Lib.hid hget
  clear h he hc hf hle hl hget
  go_enter Try.func60, Try.ntmps60
  go_wp2_with fail
  (with_reducible refine hp.mono ?_)
  rintro e w1 ⟨rfl, hb1⟩
  obtain ⟨C, hC1, hC2, hm, hOn⟩ := mem_ops (mem_old H.out hb1) (ops + 1)
  have hcell : w1.cell? ⟨p, 2, none⟩ = some (.int .i64 ops) := by rw [cell_of hC1]; exact hC2
  have hfr := frozen_of hC1 2
  have hset : w1.setCell ⟨p, 2, none⟩ (.int .i64 ((ops : Int) + 1)) = putB w1 p (.cells (C.setIfInBounds 2 (.int .i64 ((ops + 1 : Nat) : Int))) 122) := by rw [set_of hC1]; rfl
  generalize putB w1 p (.cells (C.setIfInBounds 2 (.int .i64 ((ops + 1 : Nat) : Int))) 122) = W at *
  have hO1 : Only (fun b => ¬ X b) w W := ((Only.of_below hb1).mono fun b _ f => f.elim).trans hOn
  have hpg := page_calls hm (fr : Int)
  have HM := Lib.hid (And.intro hm hO1)
  clear hC1 hC2 hm hOn hO1 hb1 hp
  go_wp2_with fail
  (with_reducible refine hpg.mono ?_)
  rintro e w2 ⟨g, c, rfl, hrow, hO2⟩
  have hg1 := HG.out w2 c g (row_bytes hrow)
  have HM2 := Lib.hid (And.intro (mem_old HM.out.1 hO2) (HM.out.2.trans ((Only.of_below hO2).mono fun b _ f => f.elim)))
  clear hpg hrow hO2
  go_wp2_with fail
  (with_reducible refine hg1.mono ?_)
  rintro e w3 ⟨rfl, hO3⟩
  have HM3 := Lib.hid (And.intro (mem_old HM2.out.1 hO3) (HM2.out.2.trans ((Only.of_below hO3).mono fun b _ f => f.elim)))
  clear hg1 hO3
  go_wp2
  go_ret2
  exact ⟨rfl, HM3.out.1, HM3.out.2⟩
/-- A frame with another number. -/
def wroteOf (pg : Int → Option (List Nat)) (addr : Nat) (s : Int) (v : Nat) : List Nat := putL (pageOf pg ((addr / 4096 : Nat) : Int)) (addr % 4096) v s.toNat
set_option maxHeartbeats 1000000 in
theorem write_ok2 (h : IsMem w X p frames pg ops) (hX : ∀ b, X b → b < w.heap.size) (addr : Nat) (ha : addr < 18446744073709551616) (s : Int) (v : Nat) (he : placeE frames addr s = 0) (ho : ops < 4611686018427387904) :
    Calls Try.prog 38 #[.pointer (some ⟨p, 0, none⟩), .int .u64 (addr : Nat), .int .i64 s, .int .u64 (v : Nat)] w (RetMem w X p frames (.int .i64 0) (updP pg ((addr / 4096 : Nat) : Int) (some (wroteOf pg addr s v))) (ops + 1)) := by
  have hp := mplace_calls h addr ha s
  rw [if_pos he] at hp
  obtain ⟨hc, hf, hs1, hs8, hle⟩ := placeE_zero he
  obtain ⟨sn, rfl⟩ : ∃ sn : Nat, s = sn := ⟨s.toNat, by omega⟩
  have hl := fun k => pageOf_length h k
  have H := Lib.hid h
  have hv : wroteOf pg addr (sn : Int) v = putL (pageOf pg ((addr / 4096 : Nat) : Int)) (addr % 4096) v sn := rfl
  rw [hv]
  clear hv
  generalize addr / 4096 = fr at *
  generalize addr % 4096 = at_ at *
  have hput := fun x c g (hBx : Bytes x (some ⟨g, 0, none⟩) c (pageOf pg (fr : Int))) => put_ok (some ⟨g, 0, none⟩) (pageOf pg (fr : Int)) c (at_ : Int) (sn : Int) (v : Int) at_ sn v rfl rfl rfl x hBx (by rw [hl]; exact hc) (by rw [hl]; omega) (by omega) (by omega) (by rw [hl]; decide)
  simp only [hl] at hput
  have hll := putL_length (pageOf pg (fr : Int)) at_ v sn
  rw [hl] at hll
  have HG := Lib.hid hput
  have HLL := Lib.hid hll
  clear h he hc hf hle hl hput hll
  go_enter Try.func38, Try.ntmps38
  go_wp2_with fail
  (with_reducible refine hp.mono ?_)
  rintro e w1 ⟨rfl, hb1⟩
  obtain ⟨C, hC1, hC2, hm, hOn⟩ := mem_ops (mem_old H.out hb1) (ops + 1)
  have hcell : w1.cell? ⟨p, 2, none⟩ = some (.int .i64 ops) := by rw [cell_of hC1]; exact hC2
  have hfr := frozen_of hC1 2
  have hset : w1.setCell ⟨p, 2, none⟩ (.int .i64 ((ops : Int) + 1)) = putB w1 p (.cells (C.setIfInBounds 2 (.int .i64 ((ops + 1 : Nat) : Int))) 122) := by rw [set_of hC1]; rfl
  generalize putB w1 p (.cells (C.setIfInBounds 2 (.int .i64 ((ops + 1 : Nat) : Int))) 122) = W at *
  have hO1 : Only (fun b => ¬ X b) w W := ((Only.of_below hb1).mono fun b _ f => f.elim).trans hOn
  have hpg := page_calls hm (fr : Int)
  have HM := Lib.hid (And.intro hm hO1)
  clear hC1 hC2 hm hOn hO1 hb1 hp
  go_wp2_with fail
  (with_reducible refine hpg.mono ?_)
  rintro e w2 ⟨g, c, rfl, hrow, hO2⟩
  have hg1 := HG.out w2 c g (row_bytes hrow)
  have HM2 := Lib.hid (And.intro (mem_old HM.out.1 hO2) (HM.out.2.trans ((Only.of_below hO2).mono fun b _ f => f.elim)))
  clear hpg hrow hO2
  go_wp2_with fail
  (with_reducible refine hg1.mono ?_)
  rintro e w3 ⟨g2, c2, rfl, hrow2, hO3⟩
  have hm3 := mem_old HM2.out.1 hO3
  have hOn3 : Only (fun b => ¬ X b) w w3 := HM2.out.2.trans ((Only.of_below hO3).mono fun b _ f => f.elim)
  have hge := (row_parts hrow2).1
  have hsz := HM2.out.2.size
  have hpm : ∀ m, w3.cell? ⟨p, 1, none⟩ = some (.map (some m)) → g2 ≠ m ∧ g2 ≠ p := by
    intro m hcm
    obtain ⟨m', f', n', k1, k2, k3, k4, k5, k6, k7, k8⟩ := HM2.out.1
    have c1 : w3.cell? ⟨p, 1, none⟩ = some (.map (some m')) := by rw [cell_of (keep_old hO3 k1)]; rfl
    rw [c1] at hcm
    have hmm : m' = m := by simpa using hcm
    subst hmm
    have e1 := isMap_lt k3
    have e2 := lt_of_block k1
    omega
  have hgp : g2 ≠ p := by
    obtain ⟨m', f', n', k1, k2, k3, k4, k5, k6, k7, k8⟩ := hm3
    exact (hpm m' (by rw [cell_of k1]; rfl)).2
  obtain ⟨m, c1, W4, hput, hm4, hO4⟩ := mem_page hm3 (fr : Int) _ _ g2 c2 hrow2 HLL.out (fun f => by have := hX _ f; omega) hgp (fun m hm => (hpm m hm).1)
  rw [HLL.out]
  have HF := Lib.hid (And.intro hm4 (hOn3.trans hO4))
  clear hg1 hO3 hm3 hOn3 hge hsz hpm hgp hm4 hO4 hrow2
  go_wp2
  go_ret
  exact ⟨rfl, HF.out.1, HF.out.2⟩
end
theorem eq_nil_bytes (a : Addr) (n c : Nat) (w : World) : (binOp .eql 87 (.slice (some a) n c) (.slice none 0 0)).run Try.prog w = .ok (.bool false) w := by kernel_rfl
set_option maxRecDepth 100000 in
theorem clone_fix (a : Addr) (l : List Nat) (c : Nat) (w : World) (hl : Bytes w (some a) c l) (h0 : 0 < l.length) (hbig : l.length ≤ 1000000) :
    ∃ g cap w2, Row w2 w.heap.size g cap l ∧ Old w w2 ∧ Calls Try.prog 67 #[.slice (some a) l.length c] w (fun e y => e = .returned (.slice (some ⟨g, 0, none⟩) l.length cap) ∧ w2 = y) := by
  obtain ⟨v, w2, hrun, hown, hO, -⟩ := copy_run 87 w (some a) c l hl hbig
  obtain ⟨g, cap, rfl, hrow⟩ := row_of hown rfl h0 (bytes_lt hl)
  refine ⟨g, cap, w2, hrow, hO, ?_⟩
  have hn := eq_nil_bytes a l.length c
  clear hl hown hrow hO
  go_enter Try.func67, Try.ntmps67
  go_wp2_with (at_builtin; refine wpList_append_run rfl _ _ 87 rfl _ _ rfl rfl _ _ hrun ?_; clear hrun)
  go_ret
  exact ⟨rfl, rfl⟩
theorem clone_calls (a : Addr) (l : List Nat) (c : Nat) (w : World) (hl : Bytes w (some a) c l) (h0 : 0 < l.length) (hbig : l.length ≤ 1000000) :
    Calls Try.prog 67 #[.slice (some a) l.length c] w (fun e w' => ∃ g cap, e = .returned (.slice (some ⟨g, 0, none⟩) l.length cap) ∧ Row w' w.heap.size g cap l ∧ Old w w') := by
  obtain ⟨g, cap, w2, h1, h2, h3⟩ := clone_fix a l c w hl h0 hbig
  exact h3.mono fun e y ⟨he, hy⟩ => by subst hy; exact ⟨g, cap, he, h1, h2⟩
end Go.Proofs.Ytlbehhbicmmdoaa
/- What was put is got, part by part: plain. -/
namespace Go.Proofs.Ytlbehhbicmmdoaa
set_option linter.unusedVariables false
set_option linter.unusedSimpArgs false
open Go.RowKit
theorem putL_at (l : List Nat) (p v : Nat) : ∀ (k i : Nat), (putL l p v k)[i]? = if p ≤ i ∧ i < p + k ∧ i < l.length then some (v / 2 ^ (8 * (i - p)) % 256) else l[i]?
  | 0, i => by rw [putL, if_neg (by omega)]
  | k + 1, i => by
    rw [putL, List.getElem?_set, putL_length]
    by_cases h : p + k = i
    · subst h
      by_cases hl : p + k < l.length
      · rw [if_pos rfl, if_pos hl, if_pos ⟨by omega, by omega, hl⟩, Nat.add_sub_cancel_left]
      · rw [if_pos rfl, if_neg hl, if_neg (by omega), List.getElem?_eq_none (by omega)]
    · rw [if_neg h, putL_at l p v k i]
      by_cases h2 : p ≤ i ∧ i < p + k ∧ i < l.length
      · rw [if_pos h2, if_pos ⟨h2.1, by omega, h2.2.2⟩]
      · rw [if_neg h2, if_neg (by omega)]
theorem get_put_part (l : List Nat) (p v i s : Nat) (h8 : i + s ≤ 8) (h : p + 8 ≤ l.length) : getN (putL l p v 8) (p + i) s = v / 2 ^ (8 * i) % 2 ^ (8 * s) := by
  have key : ∀ k, k ≤ s → getN (putL l p v 8) (p + i) k = v / 2 ^ (8 * i) % 2 ^ (8 * k) := by
    intro k
    induction k with
    | zero => intro _; simp [getN, Nat.mod_one]
    | succ k ih =>
      intro hk
      rw [getN, ih (by omega), List.getD_eq_getElem?_getD, putL_at, if_pos ⟨by omega, by omega, by omega⟩, Option.getD_some, show p + i + k - p = i + k by omega]
      rw [show 8 * (i + k) = 8 * i + 8 * k by omega, Nat.pow_add, ← Nat.div_div_eq_div_mul, show 8 * (k + 1) = 8 * k + 8 by omega, Nat.pow_add, Nat.mod_mul]
      rw [Nat.mul_comm (2 ^ (8 * k))]
  exact key s (Nat.le_refl _)
end Go.Proofs.Ytlbehhbicmmdoaa
/- A memory by its words: contracts of phys.New, Read and Write of eight bytes. -/
namespace Go.Proofs.Ytlbehhbicmmdoaa
set_option linter.unusedVariables false
set_option linter.unusedSimpArgs false
open Go.RowKit
/-- Is there a word? -/
def okM (frames a : Nat) : Bool := decide (a % 8 = 0 ∧ a / 4096 < frames)
theorem okM_place {frames a : Nat} : placeE frames a 8 = 0 ↔ okM frames a = true := by
  unfold okM
  rw [decide_eq_true_iff]
  constructor
  · intro h
    obtain ⟨h1, h2, _, _, _⟩ := placeE_zero h
    refine ⟨?_, h2⟩
    unfold checkN at h1
    split at h1
    · cases h1
    split at h1
    · cases h1
    · rename_i _ g; have g' := Classical.not_not.1 g; omega
  · rintro ⟨h1, h2⟩
    have hc : checkN 4096 ((a % 4096 : Nat) : Int) 8 = 0 := checkN_ok (.inr (.inr (.inr rfl))) (by omega) (by omega)
    unfold placeE
    rw [if_neg (not_not_intro hc), if_neg (by omega)]
/-- A word; 0 where there is none. -/
def rawM (frames : Nat) (wd : Nat → Nat) (a : Nat) : Nat := if okM frames a then wd a else 0
theorem rawM_yes {frames : Nat} {wd : Nat → Nat} {a : Nat} (h : okM frames a = true) : rawM frames wd a = wd a := if_pos h
def updW (wd : Nat → Nat) (a v : Nat) : Nat → Nat := fun b => if b = a then v else wd b
theorem getN_ext (l m : List Nat) (p k : Nat) (h : ∀ i, i < k → l.getD (p + i) 0 = m.getD (p + i) 0) : getN l p k = getN m p k := by
  induction k with
  | zero => rfl
  | succ k ih => rw [getN, getN, ih (fun i hi => h i (by omega)), h k (by omega)]
theorem getN_nought (p k : Nat) : getN zeros4096 p k = 0 := by
  induction k with
  | zero => rfl
  | succ k ih =>
    rw [getN, ih, List.getD_eq_getElem?_getD]
    cases hx : (zeros4096)[p + k]? with
    | none => simp
    | some x =>
      have : x = 0 := List.eq_of_mem_replicate (List.mem_of_getElem? hx)
      simp [this]
/-- Block p holds a memory of these words. -/
def IsMemW (w : World) (X : Nat → Prop) (p frames : Nat) (wd : Nat → Nat) (N : Nat) : Prop :=
  ∃ pg ops, ops ≤ N ∧ IsMem w X p frames pg ops ∧ ∀ a, okM frames a = true → wordOf pg a 8 = wd a
section
variable {w x : World} {X Y : Nat → Prop} {p frames N M : Nat} {wd : Nat → Nat}
theorem memW_only {G : Nat → Prop} (h : IsMemW w X p frames wd N) (ho : Only G w x) (hG : ∀ b, ¬ X b → ¬ G b) : IsMemW x X p frames wd N := by
  obtain ⟨pg, ops, h1, h2, h3⟩ := h
  exact ⟨pg, ops, h1, mem_only h2 ho hG, h3⟩
theorem memW_old (h : IsMemW w X p frames wd N) (ho : Old w x) : IsMemW x X p frames wd N := memW_only h (Only.of_below ho) fun _ _ f => f
theorem memW_more (h : IsMemW w X p frames wd N) (hY : ∀ b, Y b → X b ∨ w.heap.size ≤ b) : IsMemW w Y p frames wd N := by
  obtain ⟨pg, ops, h1, h2, h3⟩ := h
  exact ⟨pg, ops, h1, mem_more h2 hY, h3⟩
theorem memW_le (h : IsMemW w X p frames wd N) (hM : N ≤ M) : IsMemW w X p frames wd M := by
  obtain ⟨pg, ops, h1, h2, h3⟩ := h
  exact ⟨pg, ops, by omega, h2, h3⟩
theorem rawM_lt (h : IsMemW w X p frames wd N) (a : Nat) : rawM frames wd a < 18446744073709551616 := by
  unfold rawM
  split
  · rename_i hok
    obtain ⟨pg, ops, h1, h2, h3⟩ := h
    rw [← h3 a hok]
    unfold wordOf pageOf
    refine Nat.lt_of_lt_of_le (getN_lt ?_ _ _) (by decide)
    cases hk : pg ((a / 4096 : Nat) : Int) with
    | none => intro y hy; have : y = 0 := List.eq_of_mem_replicate hy; omega
    | some l =>
      obtain ⟨m, f, n, _, _, _, _, _, _, _, h8⟩ := h2
      obtain ⟨v, _, g, c, _, _, hr, _⟩ := h8 _ l hk
      exact hr.2
  · decide
theorem memW_read (h : IsMemW w X p frames wd N) (hN : N < 4000000000) (a : Nat) (ha : a < 18446744073709551616) (hok : okM frames a = true) :
    Calls Try.prog 60 #[.pointer (some ⟨p, 0, none⟩), .int .u64 (a : Nat), .int .i64 8] w (fun e y => e = .returned (.tuple #[.int .u64 (wd a : Nat), .int .i64 0]) ∧ IsMemW y X p frames wd (N + 1) ∧ Only (fun b => ¬ X b) w y) := by
  obtain ⟨pg, ops, h1, h2, h3⟩ := h
  have := read_ok2 h2 a ha 8 (okM_place.2 hok) (by omega)
  rw [h3 a hok] at this
  exact this.mono fun e y ⟨he, hm, ho⟩ => ⟨he, ⟨pg, ops + 1, by omega, hm, h3⟩, ho⟩
theorem memW_readE (h : IsMemW w X p frames wd N) (a : Nat) (ha : a < 18446744073709551616) (hok : okM frames a = false) :
    ∃ E : Int, E ≠ 0 ∧ Calls Try.prog 60 #[.pointer (some ⟨p, 0, none⟩), .int .u64 (a : Nat), .int .i64 8] w (RetB w (.tuple #[.int .u64 0, .int .i64 E])) := by
  obtain ⟨pg, ops, h1, h2, h3⟩ := h
  have hp : placeE frames a 8 ≠ 0 := fun e => by rw [okM_place] at e; rw [hok] at e; cases e
  exact ⟨_, hp, read_fail2 h2 a ha 8 hp⟩
theorem word_wrote {pg : Int → Option (List Nat)} (hl : ∀ k, (pageOf pg k).length = 4096) (a b v : Nat) (ha : a % 8 = 0) (hb : b % 8 = 0) (hv : v < 18446744073709551616) :
    wordOf (updP pg ((a / 4096 : Nat) : Int) (some (wroteOf pg a 8 v))) b 8 = if b = a then v else wordOf pg b 8 := by
  have h64 : (2 : Nat) ^ (8 * 8) = 18446744073709551616 := by decide
  have h8 : Int.toNat 8 = 8 := rfl
  unfold wordOf
  rw [h8]
  by_cases hf : b / 4096 = a / 4096
  · have hp : pageOf (updP pg ((a / 4096 : Nat) : Int) (some (wroteOf pg a 8 v))) ((b / 4096 : Nat) : Int) = putL (pageOf pg ((a / 4096 : Nat) : Int)) (a % 4096) v 8 := by
      have e : updP pg ((a / 4096 : Nat) : Int) (some (wroteOf pg a 8 v)) ((b / 4096 : Nat) : Int) = some (wroteOf pg a 8 v) := by
        unfold updP; rw [hf, if_pos rfl]
      show (updP pg ((a / 4096 : Nat) : Int) (some (wroteOf pg a 8 v)) ((b / 4096 : Nat) : Int)).getD zeros4096 = _
      rw [e]; rfl
    rw [hp]
    have hlen := hl ((a / 4096 : Nat) : Int)
    by_cases he : b = a
    · subst he
      rw [if_pos rfl]
      have := get_put_part (pageOf pg ((b / 4096 : Nat) : Int)) (b % 4096) v 0 8 (by omega) (by omega)
      rw [Nat.add_zero, Nat.mul_zero, Nat.pow_zero, Nat.div_one, h64, Nat.mod_eq_of_lt hv] at this
      exact this
    · rw [if_neg he, hf]
      refine getN_ext _ _ _ _ fun i hi => ?_
      rw [List.getD_eq_getElem?_getD, List.getD_eq_getElem?_getD, putL_at, if_neg (by omega)]
  · have hp : pageOf (updP pg ((a / 4096 : Nat) : Int) (some (wroteOf pg a 8 v))) ((b / 4096 : Nat) : Int) = pageOf pg ((b / 4096 : Nat) : Int) := by
      unfold pageOf updP; rw [if_neg (by omega)]
    rw [hp, if_neg (fun e => hf (by rw [e]))]
theorem memW_write (h : IsMemW w X p frames wd N) (hX : ∀ b, X b → b < w.heap.size) (hN : N < 4000000000) (a v : Nat) (ha : a < 18446744073709551616) (hv : v < 18446744073709551616) (hok : okM frames a = true) :
    Calls Try.prog 38 #[.pointer (some ⟨p, 0, none⟩), .int .u64 (a : Nat), .int .i64 8, .int .u64 (v : Nat)] w (fun e y => e = .returned (.int .i64 0) ∧ IsMemW y X p frames (updW wd a v) (N + 1) ∧ Only (fun b => ¬ X b) w y) := by
  obtain ⟨pg, ops, h1, h2, h3⟩ := h
  refine (write_ok2 h2 hX a ha 8 v (okM_place.2 hok) (by omega)).mono fun e y ⟨he, hm, ho⟩ => ⟨he, ⟨_, ops + 1, by omega, hm, fun b hb => ?_⟩, ho⟩
  have hok' := of_decide_eq_true hok
  have hb' := of_decide_eq_true hb
  rw [word_wrote (fun k => pageOf_length h2 k) a b v hok'.1 hb'.1 hv]
  unfold updW
  split
  · rfl
  · exact h3 b hb
theorem memW_new (n : Nat) (w : World) (h1 : 1 ≤ n) (h2 : n ≤ 1048576) : Calls Try.prog 54 #[.int .i64 n] w (fun e w' =>
    e = .returned (.tuple #[.pointer (some ⟨w.heap.size + 1, 0, none⟩), .int .i64 0]) ∧ Old w w' ∧ w'.heap.size = w.heap.size + 2 ∧ ∀ X : Nat → Prop, (∀ b, X b → b < w.heap.size) → IsMemW w' X (w.heap.size + 1) n (fun _ => 0) 0) :=
  (physNew_calls n w h1 h2).mono fun e y ⟨he, ho, hs, hm⟩ => ⟨he, ho, hs, fun X hX => ⟨_, 0, Nat.le_refl 0, hm X hX, fun a _ => getN_nought _ _⟩⟩
end
end Go.Proofs.Ytlbehhbicmmdoaa
namespace Go.Proofs.Ytlbehhbicmmdoaa
set_option linter.unusedVariables false
set_option linter.unusedSimpArgs false
open Go.RowKit
/-- The slots that the mask names are told anew. -/
def mergeL (f : Nat → Value) : List Bool → Nat → List Value → List Value
  | true :: m, k, _ :: l => f k :: mergeL f m (k + 1) l
  | false :: m, k, v :: l => v :: mergeL f m (k + 1) l
  | [], _, l => l
  | _ :: _, _, [] => []
def mergeA (m : List Bool) (f : Nat → Value) (a : Act) : Act := ⟨(mergeL f m 0 a.tmps.toList).toArray, a.defers⟩
def slotL : List Value → Nat → Value
  | [], _ => undef
  | v :: _, 0 => v
  | _ :: l, k + 1 => slotL l k
def slotF (a : Act) (k : Nat) : Value := slotL a.tmps.toList k
theorem mergeL_self (L : List Value) : ∀ (m : List Bool) (k : Nat) (l : List Value), (∀ i, slotL L (k + i) = slotL l i) → mergeL (slotL L) m k l = l
  | true :: m, k, v :: l, h => by
    unfold mergeL
    rw [mergeL_self L m (k + 1) l (fun i => by rw [show k + 1 + i = k + (i + 1) by omega, h]; rfl)]
    have := h 0
    rw [Nat.add_zero] at this
    rw [this]; rfl
  | false :: m, k, v :: l, h => by
    unfold mergeL
    rw [mergeL_self L m (k + 1) l (fun i => by rw [show k + 1 + i = k + (i + 1) by omega, h]; rfl)]
  | [], k, l, h => by cases l <;> rfl
  | true :: m, k, [], h => rfl
  | false :: m, k, [], h => rfl
theorem mergeA_self (m : List Bool) (a : Act) : mergeA m (slotF a) a = a := by
  unfold mergeA slotF
  rw [mergeL_self a.tmps.toList m 0 a.tmps.toList (fun i => by rw [Nat.zero_add])]
section
variable {P : Program}
theorem wp_cutF {s : Code} {K : Act → World → Prop} {Q' : Exit → Act → World → Prop} {a : Act} {w : World} (m : List Bool) (R : (Nat → Value) → World → Prop)
    (rest : ∀ f w', R f w' → K (mergeA m f a) w')
    (first : ∀ (J K' : Act → World → Prop), (∀ a' w', a' = mergeA m (slotF a') a → R (slotF a') w' → J a' w') → (∀ a' w', Met J a' w' → K' a' w') → s.wp P (Exit.then K' Q') a w) : s.wp P (Exit.then K Q') a w := by
  refine wp_cut (fun a' w' => a' = mergeA m (slotF a') a ∧ R (slotF a') w') (fun a' w' h => ?_) (fun J K' h1 h2 => first J K' (fun a' w' e r => h1 a' w' ⟨e, r⟩) h2)
  rw [h.1]
  exact rest _ _ h.2
theorem wp_loopF {c : Code} {Q : Exit → Act → World → Prop} {a : Act} {w : World} (m : List Bool) (R : (Nat → Value) → World → Prop) (mu : (Nat → Value) → Nat)
    (start : R (slotF a) w)
    (round : ∀ f w', R f w' → ∀ (J K' : Act → World → Prop), (∀ a' w'', a' = mergeA m (slotF a') a → R (slotF a') w'' → mu (slotF a') < mu f → J a' w'') → (∀ a' w'', Met J a' w'' → K' a' w'') → c.wp P (Exit.then K' Q) (mergeA m f a) w') : (Code.loop c).wp P Q a w := by
  refine wp_loop (fun a' w' => ∃ f, a' = mergeA m f a ∧ R f w' ∧ mu f = mu (slotF a')) (fun a' _ => mu (slotF a')) ⟨slotF a, (mergeA_self m a).symm, start, rfl⟩ ?_
  rintro a' w' ⟨f, rfl, hR, hmu⟩
  refine wp_mono (round f w' hR (fun a'' w'' => ∃ g, (a'' = mergeA m g a ∧ R g w'' ∧ mu g = mu (slotF a'')) ∧ mu (slotF a'') < mu f) _ (fun a'' w'' e r lt => ⟨_, ⟨e, r, rfl⟩, lt⟩) (fun _ _ h => h)) ?_
  intro e a1 w1 hq
  cases e with
  | normal =>
    obtain ⟨g, h, lt⟩ := hq
    exact ⟨⟨g, h⟩, by rw [← hmu]; exact lt⟩
  | exit id => exact hq
  | goto l => exact hq
  | ret => exact hq
  | panic ch => exact hq
  | outgrown => exact hq
end
end Go.Proofs.Ytlbehhbicmmdoaa
