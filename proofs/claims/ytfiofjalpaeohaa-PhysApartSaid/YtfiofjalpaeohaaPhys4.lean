/- Contracts of the package phys: Get, Set, Zero, Clear, Same. -/
import Derived.Test.YtfiofjalpaeohaaPhys3
namespace Go.Proofs.Ytfiofjalpaeohaa
set_option linter.unusedVariables false
set_option linter.unusedSimpArgs false
open Go.RowKit

section
variable {X : Nat → Prop} {p frames ops : Nat} {pg : Int → Option (List Nat)} {w : World}
theorem get_none2 (h : IsMem w X p frames pg ops) (k : Int) (hk : hasB frames k = false) : Calls Try.prog 50 #[.pointer (some ⟨p, 0, none⟩), .int .i64 k] w (RetB w (.tuple #[.slice none 0 0, .int .i64 2])) := by
  have hh := has_calls h k
  rw [hk] at hh
  clear h hk
  go_enter Try.func50, Try.ntmps50
  go_wp2_with fail
  (with_reducible refine hh.mono ?_)
  rintro e w1 ⟨rfl, hb1⟩
  go_wp2
  go_ret2
  exact ⟨rfl, hb1⟩
theorem get_page2 (h : IsMem w X p frames pg ops) (k : Int) (hk : hasB frames k = true) : Calls Try.prog 50 #[.pointer (some ⟨p, 0, none⟩), .int .i64 k] w
    (fun e w' => ∃ g c, e = .returned (.tuple #[.slice (some ⟨g, 0, none⟩) 4096 c, .int .i64 0]) ∧ Row w' w.heap.size g c (pageOf pg k) ∧ Old w w') := by
  have hh := has_calls h k
  rw [hk] at hh
  have H := Lib.hid h
  have hl := pageOf_length h k
  have HL := Lib.hid hl
  clear h hk hl
  go_enter Try.func50, Try.ntmps50
  go_wp2_with fail
  (with_reducible refine hh.mono ?_)
  rintro e w1 ⟨rfl, hb1⟩
  have hpg := page_calls (mem_old H.out hb1) k
  have HO := Lib.hid hb1
  clear hh hb1
  go_wp2_with fail
  (with_reducible refine hpg.mono ?_)
  rintro e w2 ⟨g, c, rfl, hrow, hO2⟩
  have hcl := clone_calls ⟨g, 0, none⟩ (pageOf pg k) c w2 (row_bytes hrow) (by rw [HL.out]; decide) (by rw [HL.out]; decide)
  rw [HL.out] at hcl
  have HO2 := Lib.hid (old_then HO.out hO2)
  clear hpg hrow hO2
  go_wp2_with fail
  (with_reducible refine hcl.mono ?_)
  rintro e w3 ⟨g2, c2, rfl, hrow2, hO3⟩
  have HF := Lib.hid (And.intro hrow2 (old_then HO2.out hO3))
  clear hcl hrow2 hO3
  go_wp2
  go_ret2
  refine ⟨_, _, rfl, ?_, HF.out.2⟩
  have hsz := HO2.out.size
  refine ⟨⟨HF.out.1.1.1, ?_⟩, HF.out.1.2⟩
  rcases HF.out.1.1.2 with h' | ⟨g', cap', cur, h', hb, rest⟩
  · exact .inl h'
  · exact .inr ⟨g', cap', cur, h', by omega, rest⟩
theorem set_none2 (h : IsMem w X p frames pg ops) (k : Int) (v : Value) (hk : hasB frames k = false) : Calls Try.prog 54 #[.pointer (some ⟨p, 0, none⟩), .int .i64 k, v] w (RetB w (.int .i64 2)) := by
  have hh := has_calls h k
  rw [hk] at hh
  clear h hk
  go_enter Try.func54, Try.ntmps54
  go_wp2_with fail
  (with_reducible refine hh.mono ?_)
  rintro e w1 ⟨rfl, hb1⟩
  go_wp2
  go_ret
  exact ⟨rfl, hb1⟩
theorem set_arg2 (h : IsMem w X p frames pg ops) (k : Int) (ad : Option Addr) (n c : Nat) (hk : hasB frames k = true) (hn : n ≠ 4096) (hn63 : n ≤ maxLen) : Calls Try.prog 54 #[.pointer (some ⟨p, 0, none⟩), .int .i64 k, .slice ad n c] w (RetB w (.int .i64 1)) := by
  have hh := has_calls h k
  rw [hk] at hh
  have hnb : ((n : Int) != 4096) = true := by rw [bne_iff_ne]; omega
  have hn9 : n ≤ 9223372036854775807 := hn63
  clear h hk hn hn63
  go_enter Try.func54, Try.ntmps54
  go_wp2_with fail
  (with_reducible refine hh.mono ?_)
  rintro e w1 ⟨rfl, hb1⟩
  go_wp2
  go_ret
  exact ⟨rfl, hb1⟩
set_option maxHeartbeats 1000000 in
theorem set_ok2 (h : IsMem w X p frames pg ops) (hX : ∀ b, X b → b < w.heap.size) (k : Int) (a : Addr) (c : Nat) (l : List Nat) (hk : hasB frames k = true) (hB : Bytes w (some a) c l) (hl : l.length = 4096) :
    Calls Try.prog 54 #[.pointer (some ⟨p, 0, none⟩), .int .i64 k, .slice (some a) 4096 c] w (RetMem w X p frames (.int .i64 0) (updP pg k (some l)) ops) := by
  have hh := has_calls h k
  rw [hk] at hh
  have H := Lib.hid h
  have HB := Lib.hid hB
  have HL := Lib.hid hl
  clear h hk hB hl
  go_enter Try.func54, Try.ntmps54
  go_wp2_with fail
  (with_reducible refine hh.mono ?_)
  rintro e w1 ⟨rfl, hb1⟩
  have hO0 := old_drew hb1
  have hm1 := mem_old H.out hO0
  obtain ⟨g, cap, w2, hrow, hO2, hcl⟩ := clone_fix a l c w1.drew (bytes_old HB.out hO0) (by rw [HL.out]; decide) (by rw [HL.out]; decide)
  rw [HL.out] at hcl
  have hm2 := mem_old hm1 hO2
  have hge := (row_parts hrow).1
  have hsz : w.heap.size ≤ w1.drew.heap.size := hO0.size
  obtain ⟨m, f, n, k1, k2, k3, k4, k5, k6, k7, k8⟩ := id hm1
  have cA : w1.drew.cell? ⟨p, 1, none⟩ = some (.map (some m)) := by rw [cell_of k1]; rfl
  have cB : w2.cell? ⟨p, 1, none⟩ = some (.map (some m)) := by rw [cell_of (keep_old hO2 k1)]; rfl
  have hmsz := isMap_lt k3
  have hpsz := lt_of_block k1
  have hgm : ∀ m2, w2.cell? ⟨p, 1, none⟩ = some (.map (some m2)) → g ≠ m2 := by
    intro m2 hm2
    rw [cB] at hm2
    have : m = m2 := by simpa using hm2
    omega
  obtain ⟨m', c1', w3, hput, hm3, hO3⟩ := mem_page hm2 k l _ g cap hrow HL.out (fun f => by have := hX _ f; omega) (by omega) hgm
  have hmm : m = m' := by rw [cB] at c1'; simpa using c1'
  subst hmm
  have HF := Lib.hid (And.intro hm3 (((Only.of_below (old_then hO0 hO2)).mono fun b _ f => f.elim).trans hO3 : Only (fun b => ¬ X b) w w3))
  clear k1 k2 k3 k4 k5 k6 k7 k8 hm1 hO0 hmsz hpsz hh hm2 hge hsz c1' hm3 hO3 hrow hO2 hgm
  go_wp2_with fail
  refine wp_region_staged (S := StageS 6 w1.drew w2) 7 (by kernel_rfl) (by kernel_rfl) (by kernel_rfl) (by decide) rfl ?_
  (apply walkedS_cons; (focus (intro l9 wS hz hn hS; have hS9 := stage_other 0 (by decide) hS; have c9 := stage_cell hS cA cB; clear hS; go_wp2; exact ⟨rfl, rfl, hS9⟩)); rfl; (try simp only [Act.put, List.setIfInBounds_toArray, List.set_cons_succ, List.set_cons_zero]))
  (apply walkedS_cons; (focus (intro l9 wS hz hn hS; have hS9 := stage_other 1 (by decide) hS; have c9 := stage_cell hS cA cB; clear hS; go_wp2; exact ⟨rfl, rfl, hS9⟩)); rfl; (try simp only [Act.put, List.setIfInBounds_toArray, List.set_cons_succ, List.set_cons_zero]))
  (apply walkedS_cons; (focus (intro l9 wS hz hn hS; have hS9 := stage_other 2 (by decide) hS; have c9 := stage_cell hS cA cB; clear hS; go_wp2; exact ⟨rfl, rfl, hS9⟩)); rfl; (try simp only [Act.put, List.setIfInBounds_toArray, List.set_cons_succ, List.set_cons_zero]))
  (apply walkedS_cons; (focus (intro l9 wS hz hn hS; have hS9 := stage_other 3 (by decide) hS; have c9 := stage_cell hS cA cB; clear hS; go_wp2; exact ⟨rfl, rfl, hS9⟩)); rfl; (try simp only [Act.put, List.setIfInBounds_toArray, List.set_cons_succ, List.set_cons_zero]))
  (apply walkedS_cons; (focus (intro l9 wS hz hn hS; have hS9 := stage_other 4 (by decide) hS; have c9 := stage_cell hS cA cB; clear hS; go_wp2; exact ⟨rfl, rfl, hS9⟩)); rfl; (try simp only [Act.put, List.setIfInBounds_toArray, List.set_cons_succ, List.set_cons_zero]))
  (apply walkedS_cons; (focus (intro l9 wS hz hn hS; have hS9 := stage_other 5 (by decide) hS; have c9 := stage_cell hS cA cB; clear hS; go_wp2; exact ⟨rfl, rfl, hS9⟩)); rfl; (try simp only [Act.put, List.setIfInBounds_toArray, List.set_cons_succ, List.set_cons_zero]))
  apply walkedS_cons
  · intro l9 wS hz hn hS
    obtain rfl := stage_before hn hS
    clear hS
    go_wp2_with (go_at_call 86; refine hcl.mono ?_; rintro e w9 ⟨rfl, rfl⟩)
    exact ⟨rfl, rfl, stage_done hz (by decide)⟩
  · rfl
  apply walkedS_nil
  intro l9 wS hz hall hS
  obtain rfl := stage_after (hall 6 (by decide)) hS
  clear hS
  show wpList _ _ _ [_] _ _
  go_wp2
  go_ret
  exact ⟨rfl, HF.out.1, HF.out.2⟩
theorem zero_none2 (h : IsMem w X p frames pg ops) (k : Int) (hk : hasB frames k = false) : Calls Try.prog 60 #[.pointer (some ⟨p, 0, none⟩), .int .i64 k] w (RetB w (.int .i64 2)) := by
  have hh := has_calls h k
  rw [hk] at hh
  clear h hk
  go_enter Try.func60, Try.ntmps60
  go_wp2_with fail
  (with_reducible refine hh.mono ?_)
  rintro e w1 ⟨rfl, hb1⟩
  go_wp2
  go_ret
  exact ⟨rfl, hb1⟩
theorem zero_ok2 (h : IsMem w X p frames pg ops) (k : Int) (hk : hasB frames k = true) : Calls Try.prog 60 #[.pointer (some ⟨p, 0, none⟩), .int .i64 k] w (RetMem w X p frames (.int .i64 0) (updP pg k none) ops) := by
  have hh := has_calls h k
  rw [hk] at hh
  have H := Lib.hid h
  clear h hk
  go_enter Try.func60, Try.ntmps60
  go_wp2_with fail
  (with_reducible refine hh.mono ?_)
  rintro e w1 ⟨rfl, hb1⟩
  obtain ⟨m, c1, w2, hdel, hm2, hO2⟩ := mem_zero (mem_old H.out hb1) k
  have HF := Lib.hid (And.intro hm2 (((Only.of_below hb1).mono fun b _ f => f.elim).trans hO2 : Only (fun b => ¬ X b) w w2))
  clear hm2 hO2 hb1 hh
  go_wp2
  go_ret
  exact ⟨rfl, HF.out.1, HF.out.2⟩
/-- Is each byte 0? -/
def allZero (l : List Nat) : Bool := l.all (· == 0)
set_option maxRecDepth 100000 in
set_option maxHeartbeats 1000000 in
theorem clear_calls (h : IsMem w X p frames pg ops) (k : Int) : Calls Try.prog 53 #[.pointer (some ⟨p, 0, none⟩), .int .i64 k] w (RetB w (.bool (hasB frames k && allZero (pageOf pg k)))) := by
  have hh := has_calls h k
  have hl := pageOf_length h k
  cases hk : hasB frames k with
  | false =>
    rw [hk] at hh
    rw [Bool.false_and]
    clear h hk hl
    go_enter Try.func53, Try.ntmps53
    go_wp2_with fail
    (with_reducible refine hh.mono ?_)
    rintro e w1 ⟨rfl, hb1⟩
    go_wp2
    go_ret
    exact ⟨rfl, hb1⟩
  | true =>
    rw [hk] at hh
    rw [Bool.true_and]
    have H := Lib.hid h
    cases hp : pg k with
    | none =>
      have e : allZero (pageOf pg k) = true := by
        unfold pageOf allZero
        rw [hp]
        refine List.all_eq_true.2 (fun x hx => ?_)
        have : x = 0 := List.eq_of_mem_replicate hx
        rw [this]
        rfl
      rw [e]
      have HP := Lib.hid hp
      clear h hk hl e hp
      go_enter Try.func53, Try.ntmps53
      go_wp2_with fail
      (with_reducible refine hh.mono ?_)
      rintro e w1 ⟨rfl, hb1⟩
      obtain ⟨m, f, n, k1, k2, k3, k4, k5, k6, k7, k8⟩ := mem_old H.out hb1
      have c1 : w1.cell? ⟨p, 1, none⟩ = some (.map (some m)) := by rw [cell_of k1]; rfl
      have hlk := map_get_none (P := Try.prog) (t := 106) Try.underlying106 Try.underlying3 (zero_bytes w1) k3 (k7 k HP.out)
      clear k1 k2 k3 k4 k5 k6 k7 k8
      go_wp2
      go_loop [18] (fun i => i = .int .i64 0) (fun _ => 0)
      case atStart => rfl
      case round =>
      obtain rfl := hrel
      go_wp2
      go_ret
      exact ⟨rfl, hb1⟩
    | some l =>
      have hpl : pageOf pg k = l := by unfold pageOf; rw [hp]; rfl
      rw [hpl] at hl ⊢
      have HP := Lib.hid hp
      have HL := Lib.hid hl
      obtain ⟨B, hB⟩ : ∃ B, allZero l = B := ⟨_, rfl⟩
      rw [hB]
      have HB := Lib.hid hB
      clear h hk hl hp hpl hB
      go_enter Try.func53, Try.ntmps53
      go_wp2_with fail
      (with_reducible refine hh.mono ?_)
      rintro e w1 ⟨rfl, hb1⟩
      obtain ⟨m, f, n, k1, k2, k3, k4, k5, k6, k7, k8⟩ := mem_old H.out hb1
      obtain ⟨v, hv, g, c, rfl, b1, b2, b3, b4, b5⟩ := k8 k l HP.out
      have c1 : w1.cell? ⟨p, 1, none⟩ = some (.map (some m)) := by rw [cell_of k1]; rfl
      have hlk := map_get (P := Try.prog) (t := 106) Try.underlying106 Try.underlying3 k3 hv
      have HRow := Lib.hid b2
      clear k1 k2 k3 k4 k5 k6 k7 k8 hv b1 b2 b3 b4 b5
      go_wp2
      go_loop [18] (fun i => ∃ j : Nat, j ≤ 4096 ∧ i = .int .i64 j ∧ ∀ q : Nat, q < j → l[q]? = some 0) (fun i => (4096 - intOf i).toNat)
      case atStart => exact ⟨0, by omega, rfl, fun q hq => absurd hq (Nat.not_lt_zero _)⟩
      case round =>
      obtain ⟨j, hj, rfl, hz⟩ := hrel
      have HZ := Lib.hid hz
      clear hz
      by_cases hj2 : j < 4096
      · obtain ⟨x, hx⟩ : ∃ x, l[j]? = some x := ⟨_, List.getElem?_eq_getElem (by rw [HL.out]; exact hj2)⟩
        have cx := row_cell HRow.out hx
        have HX := Lib.hid hx
        clear hx
        by_cases hx0 : x = 0
        · subst hx0
          go_wp2
          go_round
          case rel => exact ⟨j + 1, by omega, by go_num, fun q hq => by
            by_cases e : q = j
            · rw [e]; exact HX.out
            · exact HZ.out q (by omega)⟩
          case measure => (simp [intOf]) <;> omega
        · have hb : ((x : Int) != 0) = true := by rw [bne_iff_ne]; omega
          have hB2 : B = false := by
            rw [← HB.out]
            unfold allZero
            rw [Bool.eq_false_iff]
            intro f
            have := List.all_eq_true.1 f x (List.mem_of_getElem? HX.out)
            simp at this
            exact hx0 this
          subst hB2
          clear hx0
          go_wp2
          go_ret
          exact ⟨rfl, hb1⟩
      · obtain rfl : j = 4096 := by omega
        have hB2 : B = true := by
          rw [← HB.out]
          unfold allZero
          rw [List.all_eq_true]
          intro x hx
          obtain ⟨q, hq⟩ := List.mem_iff_getElem?.1 hx
          have hq2 : q < 4096 := by
            have := (List.getElem?_eq_some_iff.1 hq).1
            rw [HL.out] at this
            exact this
          have := HZ.out q hq2
          rw [hq] at this
          simp at this
          simp [this]
        subst hB2
        go_wp2
        go_ret
        exact ⟨rfl, hb1⟩
theorem same_calls (h : IsMem w X p frames pg ops) (a b : Int) : Calls Try.prog 55 #[.pointer (some ⟨p, 0, none⟩), .int .i64 a, .int .i64 b] w (RetB w (.bool (hasB frames a && hasB frames b && decide (pageOf pg a = pageOf pg b)))) := by
  have ha := fun x (hx : Old w x) => has_calls (mem_old h hx) a
  have hb := fun x (hx : Old w x) => has_calls (mem_old h hx) b
  have pa := fun x (hx : Old w x) => page_calls (mem_old h hx) a
  have pb := fun x (hx : Old w x) => page_calls (mem_old h hx) b
  have la := pageOf_length h a
  have lb := pageOf_length h b
  have hq := fun x ga ca gb cb (h1 : Bytes x (some ⟨ga, 0, none⟩) ca (pageOf pg a)) (h2 : Bytes x (some ⟨gb, 0, none⟩) cb (pageOf pg b)) => equal_calls ⟨ga, 0, none⟩ ⟨gb, 0, none⟩ (pageOf pg a) (pageOf pg b) ca cb x h1 h2
  simp only [la, lb] at hq
  generalize hasB frames a = A at *
  generalize hasB frames b = B at *
  generalize decide (pageOf pg a = pageOf pg b) = E at *
  have HB := Lib.hid hb
  have HPA := Lib.hid pa
  have HPB := Lib.hid pb
  have HQ := Lib.hid hq
  have hA0 := ha w (old_refl _)
  clear h ha hb pa pb la lb hq
  cases A with
  | false =>
    go_enter Try.func55, Try.ntmps55
    go_wp2_with fail
    (with_reducible refine hA0.mono ?_)
    rintro e w1 ⟨rfl, hO1⟩
    go_wp2
    go_ret
    exact ⟨rfl, hO1⟩
  | true =>
    go_enter Try.func55, Try.ntmps55
    go_wp2_with fail
    (with_reducible refine hA0.mono ?_)
    rintro e w1 ⟨rfl, hO1⟩
    have hB1 := HB.out _ hO1
    clear hA0
    go_wp2_with fail
    (with_reducible refine hB1.mono ?_)
    rintro e w2 ⟨rfl, hO2⟩
    have hO2 := old_then hO1 hO2
    clear hB1 hO1
    cases B with
    | false =>
      go_wp2
      go_ret
      exact ⟨rfl, hO2⟩
    | true =>
      have p1 := HPA.out _ hO2
      have HO2 := Lib.hid hO2
      clear hO2
      go_wp2_with fail
      (with_reducible refine p1.mono ?_)
      rintro e w3 ⟨ga, ca, rfl, hra, hO3⟩
      have hO3' := old_then HO2.out hO3
      have p2 := HPB.out _ hO3'
      have HRA := Lib.hid hra
      have HO3 := Lib.hid hO3'
      clear p1 hra hO3 hO3'
      go_wp2_with fail
      (with_reducible refine p2.mono ?_)
      rintro e w4 ⟨gb, cb, rfl, hrb, hO4⟩
      have p3 := HQ.out w4 ga ca gb cb (bytes_old (row_bytes HRA.out) hO4) (row_bytes hrb)
      have HO4 := Lib.hid (old_then HO3.out hO4)
      clear p2 hrb hO4
      go_wp2_with fail
      (with_reducible refine p3.mono ?_)
      rintro e w5 ⟨rfl, hO5⟩
      have HO5 := Lib.hid (old_then HO4.out hO5)
      clear p3 hO5
      go_wp2
      go_ret
      exact ⟨rfl, HO5.out⟩
end
theorem old_stepM {F : Nat → Prop} {w x y : World} (h : Old w x) (ho : Only F x y) (hF : ∀ b, F b → w.heap.size ≤ b) : Old w y :=
  Only.to_below ((Only.of_below h).step ho (fun b hb f => by have := hF b f; omega))
end Go.Proofs.Ytfiofjalpaeohaa
