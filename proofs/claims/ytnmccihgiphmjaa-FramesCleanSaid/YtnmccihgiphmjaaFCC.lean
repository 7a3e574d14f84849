/- Texts on the way to the statement FramesClean, several in one file: each part says what it is. -/
import Derived.Test.YtnmccihgiphmjaaFCA
import Derived.Test.YtnmccihgiphmjaaFCB
import Derived.Laws.OwnMore
import Derived.ArgAppend
namespace Go.Proofs.Ytnmccihgiphmjaa
set_option linter.unusedVariables false
set_option linter.unusedSimpArgs false
open Go.RowKit
section
variable {O : Nat → Prop} {w x y : World} {p first en free : Nat} {S : Nat → Bool}
set_option maxHeartbeats 8000000 in
set_option maxRecDepth 100000 in
theorem budTake_calls (h : BudA p first en (cntS S en) (runsF S en) O w) (hS : ∀ x, S x = true → first ≤ x ∧ x < en) (order : Nat) (ho : order ≤ 9) {k f : Nat} (hf : Finds S en order k f) :
    Calls Try.prog 49 #[.pointer (some ⟨p, 0, none⟩), .int .i64 (order : Nat)] w (RetBud w O p first en (cntS (lessS S f (2 ^ order)) en) (runsF (lessS S f (2 ^ order)) en) (.tuple #[.int .i64 (f : Nat), .int .i64 0])) := by
  have hbnd := budS_bnd h
  have hk9 := hf.k9
  have hle := hf.le
  have hcnt := cntS_lessIn (S := S) (f := f) (n := 2 ^ order) (M := en) (hf.free hf.le) (hf.fits (fun x hx => (hS x hx).2) hf.le)
  obtain ⟨q, hq1, hq2, hq3⟩ := hf.run
  have hfen : f < en := by
    have := hf.fits (fun x hx => (hS x hx).2) (Nat.zero_le k)
    have := Nat.two_pow_pos 0
    omega
  have o0 : ¬ (order : Int) < 0 := by omega
  have o9 : (order : Int) ≤ 9 := by omega
  have H := Lib.hid (And.intro h hf)
  have HQ := Lib.hid (And.intro hq1 (And.intro hq2 hq3))
  have HS := Lib.hid hS
  have HC := Lib.hid hcnt
  have HB := Lib.hid (And.intro hbnd (And.intro hfen (And.intro hk9 hle)))
  clear h hS hf hcnt hq1 hq2 hq3 hbnd hfen hk9 hle ho
  go_enter Try.func49, Try.ntmps49
  go_wp2
  refine wp_scopeF 0 [false, false, false, false, false, false, true, true, true, true, true, true, true, true, true, true, true, true, true, true, true, true, true, true, true, true, true, true, true, true, true, true, true, true, true, true, true, true, true, true, true, true, true, true, true, true, true, true, true, true, true, true, true, true, true] (fun kk f2 x => f2 6 = .int .i64 ((order + kk : Nat) : Int) ∧ f2 7 = .int .i64 (f : Nat) ∧ order + kk ≤ k ∧ ∃ O', BudA p first en (cntS S en) (runsF (lessS S f (2 ^ (order + kk))) en) O' x ∧ (∀ b, O' b → O b ∨ w.heap.size ≤ b) ∧ Only O w x) _ rfl ?pass ?first
  case first =>
    intro J hp
    obtain ⟨ad, cp, hW⟩ := H.out.1
    have HW := Lib.hid hW
    clear hW
    go_wp2
    refine wp_loopF [false, false, false, false, false, false, true, false, false, false, false, false, false, false, false, true, true, true, true, true, true, true, true, true, true, true, true, true, true] (fun f2 wx => ∃ i : Nat, order ≤ i ∧ i ≤ k ∧ f2 6 = .int .i64 (i : Nat) ∧ w = wx) (fun f2 => k - (intOf (f2 6)).toNat) ?start1 ?round1
    case start1 => exact ⟨order, Nat.le_refl _, HB.out.2.2.2, rfl, rfl⟩
    case round1 =>
      intro f2 wr hrel J2 K2 hJ2 hM2
      dsimp only [mergeA, mergeL, Nat.reduceAdd]
      obtain ⟨i, hi1, hi2, h6, rfl⟩ := hrel
      rw [h6]
      have H6 := Lib.hid h6
      clear h6
      have hi9 : (i : Int) ≤ 9 := by have := HB.out; omega
      have hi10 : i < 10 := by omega
      have hcell := bud_cell HW.out hi10
      by_cases hik : i = k
      · obtain ⟨t, ht⟩ := H.out.2.head
        have hrow := HW.out.rows i hi10
        have hrk : runsF S en i = f :: t := by rw [hik]; exact ht
        rw [hrk, List.length_cons] at hcell
        rw [hrk] at hrow
        have hne : (((t.length + 1 : Nat) : Int) == 0) = false := by rw [beq_eq_false_iff_ne]; omega
        have ht63 : t.length + 1 ≤ 9223372036854775807 := by
          have := runsL_len S en i
          have h9 : (runsL S en i).length = t.length + 1 := by rw [show runsL S en i = f :: t from hrk]; rfl
          have := HB.out; omega
        have hcall := budCut_set H.out.1 k q HQ.out.2.2 HB.out.2.2.1 HQ.out.2.1
        rw [← HQ.out.1] at hcall
        subst hik
        rcases rowI_cases hrow with ⟨_, _, e0⟩ | ⟨g, cur, ea, _, hlc, hcm, _, _⟩
        · cases e0
        have hc0 := rowI_cell hrow ea (j := 0) (u := f) rfl
        rw [List.length_cons] at hlc
        rw [ea] at hcell
        have hcm63 : cp i ≤ 9223372036854775807 := hcm
        have hk10 : ((i : Int) == 10) = false := by rw [beq_eq_false_iff_ne]; omega
        have HI := Lib.hid (And.intro hi1 (And.intro hi2 H6.out))
        clear hrow hrk ht hi1 hi2 ea hcm
        go_wp2_with fail
        (with_reducible refine hcall.mono ?_)
        rintro e y1 ⟨rfl, O', q1, q2, q3⟩
        have HY : Hid (∃ O', BudA p first en (cntS S en) (runsF (lessS S f (2 ^ (order + (i - order)))) en) O' y1 ∧ (∀ b, O' b → O b ∨ w.heap.size ≤ b) ∧ Only O w y1) := Lib.hid ⟨O', by rw [show order + (i - order) = i by have := HI.out.1; omega]; exact q1, q2, q3⟩
        clear hcall q1 q2 q3 hcell hc0 HW
        go_wp2
        go_step3
        rename_i K9 hK9
        refine hK9 _ _ (hp (i - order) _ _ (by kernel_rfl) ?_)
        refine ⟨?_, rfl, ?_, HY.out⟩
        · show Value.int .i64 ((i : Nat) : Int) = .int .i64 ((order + (i - order) : Nat) : Int)
          rw [show order + (i - order) = i by have := HI.out.1; omega]
        · have := HI.out.1; have := HI.out.2.1; omega
      · rw [show runsF S en i = [] from H.out.2.least i hi1 (by omega), List.length_nil] at hcell
        have HI := Lib.hid (And.intro hi1 (show i < k by omega))
        clear hi1 hi2 hik
        go_wp2
        refine Met.intro (hJ2 _ _ (by kernel_rfl) ?_ ?_)
        · exact ⟨i + 1, by have := HI.out; omega, HI.out.2, by show Value.int .i64 ((i : Int) + 1) = _; simp, rfl⟩
        · have := HI.out.2
          rw [H6.out]; show k - (intOf (Value.int .i64 ((i : Int) + 1))).toNat < k - (intOf (Value.int .i64 (i : Int))).toNat
          simp [intOf]; omega
  case pass =>
    rintro kk f2 x ⟨h6, h7, hk, O', q1, q2, q3⟩ J hJ
    dsimp only [mergeA, mergeL, Nat.reduceAdd]
    rw [h6, h7]
    clear h6 h7
    cases kk with
    | zero =>
      rw [Nat.add_zero] at *
      have HX := Lib.hid (And.intro q2 q3)
      obtain ⟨ad, cp, hW⟩ := q1
      have hWd := budW_old hW (old_drew (old_refl x))
      obtain ⟨T, hT, hw2, hT1, hT2⟩ := pow_ten (show order < 10 by have := HB.out; omega)
      obtain ⟨c', hc'⟩ : ∃ c', cntS (lessS S f (2 ^ order)) en = c' := ⟨_, rfl⟩
      obtain ⟨cc, hcc⟩ : ∃ cc, cntS S en = cc := ⟨_, rfl⟩
      have hput := (bud_free_put hWd c')
      obtain ⟨-, -, c12⟩ := bud_first hWd
      have hfz := frozen_of hWd.hp 12
      have hCC := HC.out
      rw [hc', hcc, hT] at hCC
      rw [hcc] at c12
      have hsub : (cc : Int) - (T : Int) = (c' : Int) := by omega
      have hccb : cc ≤ 2097152 := by
        rw [← hcc]
        have := List.countP_le_length (p := S) (l := List.range en)
        rw [List.length_range] at this
        have := HB.out
        unfold cntS
        omega
      rw [hT] at hput
      have HT3 := Lib.hid (And.intro hT hc')
      have HP : Hid (∃ O', BudA p first en c' (runsF (lessS S f T) en) O' (x.drew.setCell ⟨p, 12, none⟩ (.int .i64 (c' : Nat))) ∧ (∀ b, O' b → O b ∨ w.heap.size ≤ b) ∧ Only O w (x.drew.setCell ⟨p, 12, none⟩ (.int .i64 (c' : Nat)))) := Lib.hid ⟨O', ⟨ad, cp, hput.1⟩, HX.out.1, HX.out.2.drew.step hput.2 (fun b hb h => (HX.out.1 b h).elim id (fun h' => by omega))⟩
      clear hput q2 q3 hW hWd hT hc' hcc hCC hk HX
      go_wp2_with fail
      refine wp_region_tail (S := Is x.drew) 7 (by kernel_rfl) (by kernel_rfl) (by kernel_rfl) (by decide) rfl ?_
      repeat (apply walked_cons; (first | exact gives_and rfl rfl rfl rfl | exact gives_or rfl rfl rfl rfl | (focus (intro wS hS; cases hS; go_wp2; exact ⟨rfl, rfl, rfl⟩; done)) | (focus (apply gives_guard; (focus (first | exact wanted_yes rfl rfl rfl | exact wanted_no rfl rfl rfl | exact wanted_yes2 rfl rfl rfl | exact wanted_no2 rfl rfl rfl)); (focus (intro hx9; (try simp only [Bool.not_eq_true', Bool.and_eq_true, Bool.not_not] at hx9); (try obtain ⟨hx9, hy9⟩ := hx9); (try subst hy9); (try subst hx9); (first | exact gives_and rfl rfl rfl rfl | exact gives_or rfl rfl rfl rfl | (intro wS hS; cases hS; go_wp2; exact ⟨rfl, rfl, rfl⟩; done))))))); rfl; (try simp only [Act.put, List.setIfInBounds_toArray, List.set_cons_succ, List.set_cons_zero]))
      apply walked_nil
      intro wS hS
      cases hS
      show wpList _ _ _ [_, _, _] _ _
      go_wp2
      simp only [toLabel]
      go_ret2
      refine ⟨rfl, ?_⟩
      rw [HT3.out.2, HT3.out.1]
      exact HP.out
    | succ j =>
      have hj9 : order + j < 9 := by have := HB.out; omega
      obtain ⟨l, m, hpl, hpo⟩ : ∃ l m, PartL (runsL (lessS S f (2 ^ (order + j))) en (order + j)) (runsL (lessS S f (2 ^ (order + (j + 1)))) en (order + j)) (f + 2 ^ (order + j)) l m ∧ ∀ i, i ≤ 9 → i ≠ order + j → runsL (lessS S f (2 ^ (order + j))) en i = runsL (lessS S f (2 ^ (order + (j + 1)))) en i := by
        have hh := halve_put (S := S) (M := en) (k := order + j) (f := f) (H.out.2.al hk) (H.out.2.free hk) hj9 (H.out.2.fits (fun x hx => (HS.out x hx).2) hk)
        obtain ⟨⟨l, m, h1⟩, h2⟩ := hh
        exact ⟨l, m, h1, h2⟩
      have hcall := budPut_set q1 (order + j) (f + 2 ^ (order + j)) (by omega) hpl hpo
      obtain ⟨T, hT, hw2, hT1, hT2⟩ := pow_ten (show order + j < 10 by omega)
      obtain ⟨K, hK⟩ : ∃ K, order + j = K := ⟨_, rfl⟩
      rw [hK] at hT hw2 hcall
      rw [hT] at hcall
      have e1 : ((order + (j + 1) : Nat) : Int) - 1 = (K : Int) := by omega
      have e2 : (order : Int) < ((order + (j + 1) : Nat) : Int) := by omega
      obtain ⟨K1, hK1⟩ : ∃ K1, order + (j + 1) = K1 := ⟨_, rfl⟩
      have hK19 : (K1 : Int) ≤ 9 := by omega
      rw [hK1] at e1 e2 ⊢
      have hK9 : (K : Int) ≤ 9 := by omega
      have hfm : (f : Int) ≤ 1048576 := by have := HB.out; omega
      have e3 : ((f + T : Nat) : Int) = (f : Int) + (T : Int) := by omega
      rw [e3] at hcall
      have HX := Lib.hid (And.intro q2 (And.intro q3 (And.intro hK (And.intro hT hk))))
      clear q1 q2 q3 hpl hpo hK hT hK1 hk hj9 e3
      go_wp2_with fail
      (with_reducible refine hcall.mono ?_)
      rintro e y1 ⟨rfl, O2, r1, r2, r3⟩
      have HY : Hid (∃ O', BudA p first en (cntS S en) (runsF (lessS S f (2 ^ (order + j))) en) O' y1 ∧ (∀ b, O' b → O b ∨ w.heap.size ≤ b) ∧ Only O w y1) := Lib.hid ⟨O2, by rw [HX.out.2.2.1, HX.out.2.2.2.1]; rw [← HX.out.2.2.2.1] at r1 ⊢; exact r1, fun b hb => by
        rcases r2 b hb with h | h
        · exact HX.out.1 b h
        · have := HX.out.2.1.size; exact .inr (by omega), HX.out.2.1.step r3 (fun b hb h => (HX.out.1 b h).elim id (fun h' => by omega))⟩
      clear hcall r1 r2 r3
      go_wp2
      go_step3
      refine ⟨rfl, hJ j _ _ (by omega) (by kernel_rfl) ?_⟩
      refine ⟨?_, rfl, ?_, HY.out⟩
      · show Value.int .i64 ((K : Nat) : Int) = _
        rw [HX.out.2.2.1]
      · have := HX.out.2.2.2.2; omega
end
end Go.Proofs.Ytnmccihgiphmjaa
namespace Go.Proofs.Ytnmccihgiphmjaa
set_option linter.unusedVariables false
set_option linter.unusedSimpArgs false
open Go.RowKit
section
variable {O : Nat → Prop} {w x y : World} {p first en free : Nat} {S : Nat → Bool}
theorem cntS_le (S : Nat → Bool) (M : Nat) : cntS S M ≤ M := by
  have := List.countP_le_length (p := S) (l := List.range M)
  rw [List.length_range] at this
  exact this
/-- What Give holds at its label. -/
structure GiveS (S Sj : Nat → Bool) (f b j : Nat) : Prop where
  apart : ∀ x, x / 2 ^ j = b → Sj x = false
  same : ∀ x, moreS Sj (b * 2 ^ j) (2 ^ j) x = true ↔ moreS S f 1 x = true
theorem giveS_start {f : Nat} (h : S f = false) : GiveS S S f f 0 := by
  refine ⟨fun x hx => ?_, fun x => ?_⟩
  · rw [Nat.pow_zero, Nat.div_one] at hx; rw [hx]; exact h
  · rw [Nat.pow_zero, Nat.mul_one]
theorem giveS_step {Sj : Nat → Bool} {f b j : Nat} (h : GiveS S Sj f b j) (hr : Run Sj j (budN b)) : GiveS S (lessS Sj (budN b * 2 ^ j) (2 ^ j)) f (b / 2) (j + 1) := by
  refine ⟨join_apart h.apart, fun x => ?_⟩
  rw [join_step, ← h.same]
  constructor
  · rintro (h1 | h1)
    · exact h1
    · exact moreS_iff.2 (.inl (hr.1 x h1))
  · exact .inl
theorem giveS_end {Sj : Nat → Bool} {f b j : Nat} (h : GiveS S Sj f b j) : moreS Sj (b * 2 ^ j) (2 ^ j) = moreS S f 1 := funext fun x => Bool.eq_iff_iff.2 (h.same x)
theorem giveS_first {Sj : Nat → Bool} {f b j : Nat} (h : GiveS S Sj f b j) : moreS S f 1 (b * 2 ^ j) = true := (h.same _).1 (moreS_iff.2 (.inr ⟨Nat.le_refl _, by have := Nat.two_pow_pos j; omega⟩))
set_option maxHeartbeats 8000000 in
set_option maxRecDepth 100000 in
theorem budGive_calls (h : BudA p first en (cntS S en) (runsF S en) O w) (hS : ∀ x, S x = true → first ≤ x ∧ x < en) (f : Nat) (hf : first ≤ f ∧ f < en) (hno : S f = false) :
    Calls Try.prog 36 #[.pointer (some ⟨p, 0, none⟩), .int .i64 (f : Nat), .int .i64 0] w (RetBud w O p first en (cntS (moreS S f 1) en) (runsF (moreS S f 1) en) (.int .i64 0)) := by
  have hbnd := budS_bnd h
  have hcnt : cntS (moreS S f 1) en = cntS S en + 1 := cntS_moreIn (fun x h1 h2 => by rw [show x = f by omega]; exact hno) (by omega)
  have hhas := fun x (hx : Old w x) => budHas_set ((loc_bud ..).keep h (Only.of_below hx) (fun _ _ f => f)) hS f
  rw [hno] at hhas
  have hcle := cntS_le S en
  have H := Lib.hid h
  have HH := Lib.hid hhas
  have HS := Lib.hid (And.intro hS (And.intro hf hno))
  have HC := Lib.hid (And.intro hcnt hcle)
  have HB := Lib.hid hbnd
  have f0 : (0 : Int) ≤ f := by omega
  have f1 : ¬ (f : Int) < first := by omega
  have f1n : decide (f < first) = false := decide_eq_false (by omega)
  have f2' : decide ((en : Int) - 1 < (f : Int)) = false := decide_eq_false (by omega)
  have f3 : (f : Int) ≤ 1048576 := by omega
  have en1 : (en : Int) ≤ 1048576 := by omega
  have en0 : (1 : Int) ≤ en := by omega
  clear hS hno hcnt hhas hcle hbnd hf h
  go_enter Try.func36, Try.ntmps36
  go_wp2
  refine wp_scopeF 0 [false, true, true, false, false, false, false, true, true, true, true, true, true, true, true, true, true, true, true, true, true, true, true, true, true, true, true, true, true, true, true, true, true, true, true, true, true, true, true, true, true, true, true, true, true, true, true, true, true, true, true, true, true, true, true, true, true, true, true, true, true, true, true, true, true, true, true, true, true, true, true, true, true, true, true, true, true, true] (fun kk f2 x => ∃ (j b : Nat) (Sj : Nat → Bool), f2 1 = .int .i64 ((b * 2 ^ j : Nat) : Int) ∧ f2 2 = .int .i64 (j : Nat) ∧ j + kk = 9 ∧ GiveS S Sj f b j ∧ ∃ O', BudA p first en (cntS S en + 1) (runsF Sj en) O' x ∧ (∀ b, O' b → O b ∨ w.heap.size ≤ b) ∧ Only O w x) _ rfl ?pass ?first
  case first =>
    intro J hp
    obtain ⟨ad, cp, hW⟩ := H.out
    have hWd := budW_old hW (old_drew (old_refl w))
    obtain ⟨c0, c1, -⟩ := bud_first hWd
    have HW := Lib.hid hW
    clear hW hWd
    go_wp2_with fail
    refine wp_region_walked (S := Is w.drew) (by kernel_rfl) (by kernel_rfl) rfl ?_
    repeat (apply walked_cons; (first | exact gives_and rfl rfl rfl rfl | exact gives_or rfl rfl rfl rfl | (focus (intro wS hS; cases hS; go_wp2; exact ⟨rfl, rfl, rfl⟩; done)) | (focus (apply gives_guard; (focus (first | exact wanted_yes rfl rfl rfl | exact wanted_no rfl rfl rfl | exact wanted_yes2 rfl rfl rfl | exact wanted_no2 rfl rfl rfl)); (focus (intro hx9; (try simp only [Bool.not_eq_true', Bool.and_eq_true, Bool.not_not] at hx9); (try obtain ⟨hx9, hy9⟩ := hx9); (try subst hy9); (try subst hx9); (first | exact gives_and rfl rfl rfl rfl | exact gives_or rfl rfl rfl rfl | (intro wS hS; cases hS; go_wp2; exact ⟨rfl, rfl, rfl⟩; done))))))); rfl; (try simp only [Act.put, List.setIfInBounds_toArray, List.set_cons_succ, List.set_cons_zero]))
    apply walked_nil
    intro wS hS
    cases hS
    clear c0 c1
    go_wp2
    refine wp_loopF [false, false, false, false, false, false, false, true, false, false, false, false, false, false, false, false, false, false, false, false, false, false, false, false, false, false, false, false, false, false, false, false, false, false, false, false, false, false, false, false, false, false, true, true, true, true, true, true, true, true, true] (fun f2 wx => ∃ i : Nat, i ≤ 1 ∧ f2 42 = .int .i64 (i : Nat) ∧ Old w wx) (fun f2 => 1 - (intOf (f2 42)).toNat) ?start1 ?round1
    case start1 => exact ⟨0, by omega, rfl, old_drew (old_refl _)⟩
    case round1 =>
      intro f2 wr hrel J2 K2 hJ2 hM2
      dsimp only [mergeA, mergeL, Nat.reduceAdd]
      obtain ⟨i, hi, h42, hO⟩ := hrel
      rw [h42]
      have H42 := Lib.hid h42
      clear h42
      by_cases hi0 : i = 0
      · subst hi0
        have hc := HH.out wr hO
        have HO := Lib.hid hO
        clear hO hi
        go_wp2_with fail
        (with_reducible refine hc.mono ?_)
        rintro e y1 ⟨rfl, ho1⟩
        have HO1 := Lib.hid (old_then HO.out ho1)
        clear hc ho1
        go_wp2
        refine Met.intro (hJ2 _ _ (by kernel_rfl) ?_ ?_)
        · exact ⟨1, Nat.le_refl _, rfl, HO1.out⟩
        · rw [H42.out]; exact (by decide : (0 : Nat) < 1)
      · obtain rfl : i = 1 := by omega
        have HO := Lib.hid hO
        obtain ⟨d0, d1, d12⟩ := bud_first (budW_old HW.out (old_drew hO))
        have hfz := frozen_of (budW_old HW.out (old_drew hO)).hp 12
        have hput := bud_free_put (budW_old HW.out (old_drew hO)) (cntS S en + 1)
        obtain ⟨cc, hcc⟩ : ∃ cc, cntS S en = cc := ⟨_, rfl⟩
        have hccb : (cc : Int) ≤ 2097152 := by have := HC.out.2; have := HB.out; omega
        rw [hcc] at d12 hput
        have HP : Hid (∃ O', BudA p first en (cc + 1) (runsF S en) O' (wr.drew.setCell ⟨p, 12, none⟩ (.int .i64 ((cc : Int) + 1))) ∧ (∀ b, O' b → O b ∨ w.heap.size ≤ b) ∧ Only O w (wr.drew.setCell ⟨p, 12, none⟩ (.int .i64 ((cc : Int) + 1)))) := Lib.hid ⟨O, ⟨ad, cp, hput.1⟩, fun b hb => .inl hb, ((Only.of_below (old_drew hO)).mono fun _ _ f => f.elim).trans hput.2⟩
        have HCC := Lib.hid hcc
        clear hO hi hi0 hput d0 d1 hcc
        go_wp2_with fail
        refine wp_region_tail (S := Is wr.drew) 7 (by kernel_rfl) (by kernel_rfl) (by kernel_rfl) (by decide) rfl ?_
        repeat (apply walked_cons; (first | exact gives_and rfl rfl rfl rfl | exact gives_or rfl rfl rfl rfl | (focus (intro wS hS; cases hS; go_wp2; exact ⟨rfl, rfl, rfl⟩; done)) | (focus (apply gives_guard; (focus (first | exact wanted_yes rfl rfl rfl | exact wanted_no rfl rfl rfl | exact wanted_yes2 rfl rfl rfl | exact wanted_no2 rfl rfl rfl)); (focus (intro hx9; (try simp only [Bool.not_eq_true', Bool.and_eq_true, Bool.not_not] at hx9); (try obtain ⟨hx9, hy9⟩ := hx9); (try subst hy9); (try subst hx9); (first | exact gives_and rfl rfl rfl rfl | exact gives_or rfl rfl rfl rfl | (intro wS hS; cases hS; go_wp2; exact ⟨rfl, rfl, rfl⟩; done))))))); rfl; (try simp only [Act.put, List.setIfInBounds_toArray, List.set_cons_succ, List.set_cons_zero]))
        apply walked_nil
        intro wS hS
        cases hS
        show wpList _ _ _ [_, _, _] _ _
        go_wp2
        go_step3
        rename_i K9 hK9
        refine hK9 _ _ (hp 9 _ _ (by kernel_rfl) ?_)
        refine ⟨0, f, S, ?_, rfl, rfl, giveS_start HS.out.2.2, by rw [HCC.out]; exact HP.out⟩
        show Value.int .i64 ((f : Nat) : Int) = .int .i64 ((f * 2 ^ 0 : Nat) : Int)
        rw [Nat.pow_zero, Nat.mul_one]
  case pass =>
    rintro kk f2 x ⟨j, b, Sj, h1, h2, hjk, hG, O', q1, q2, q3⟩ J hJ
    dsimp only [mergeA, mergeL, Nat.reduceAdd]
    rw [h1, h2]
    clear h1 h2
    have hsub : ∀ x, moreS S f 1 x = true → first ≤ x ∧ x < en := fun x hx => by
      rcases moreS_iff.1 hx with h | h
      · exact HS.out.1 x h
      · have := HS.out.2.1; omega
    have hbx := hsub _ (giveS_first hG)
    obtain ⟨T, hT, hw2, hT1, hT2⟩ := pow_ten (show j < 10 by omega)
    have hbb : b < en := by
      rcases Nat.eq_zero_or_pos b with h | h
      · omega
      · have : b * 1 ≤ b * 2 ^ j := Nat.mul_le_mul_left b (Nat.two_pow_pos j); omega
    have hbud : budN b ≤ b + 1 := by unfold budN; split <;> omega
    have hbT : budN b * T ≤ b * T + T := by have := Nat.mul_le_mul_right T hbud; rw [Nat.add_mul, Nat.one_mul] at this; exact this
    have hxor := bits_xor_i64 (b * 2 ^ j) (2 ^ j) (by have := HB.out; omega) (by omega)
    rw [bud_xor] at hxor
    obtain ⟨fb, hfb⟩ : ∃ fb, b * 2 ^ j = fb := ⟨_, rfl⟩
    obtain ⟨fc, hfc⟩ : ∃ fc, budN b * 2 ^ j = fc := ⟨_, rfl⟩
    have hfbm : (fb : Int) ≤ 1048576 := by have := HB.out; omega
    have HX := Lib.hid (And.intro q2 q3)
    by_cases hj9 : j = 9
    · obtain ⟨⟨l, m, hpl⟩, hpo⟩ := join_put (M := en) hG.apart (.inl hj9) (by omega) hbb
      have hcall := budPut_set q1 j (b * 2 ^ j) (by omega) hpl hpo
      rw [giveS_end hG, hfb] at hcall
      have HGo := Lib.hid (And.intro hcall hjk)
      rw [hfb]
      subst hj9
      clear q1 q2 q3 hG hcall hjk hpl hpo hxor hsub hbx hbT hT hfc hfb hbb hbud
      have hcall : Calls Try.prog 52 #[.pointer (some ⟨p, 0, none⟩), .int .i64 (fb : Nat), .int .i64 9] x _ := HGo.out.1
      go_wp2_with fail
      (with_reducible refine hcall.mono ?_)
      rintro e y1 ⟨rfl, O2, r1, r2, r3⟩
      have HY : Hid (∃ O', BudA p first en (cntS (moreS S f 1) en) (runsF (moreS S f 1) en) O' y1 ∧ (∀ b, O' b → O b ∨ w.heap.size ≤ b) ∧ Only O w y1) := Lib.hid ⟨O2, by rw [HC.out.1]; exact r1, fun b hb => by
        rcases r2 b hb with h | h
        · exact HX.out.1 b h
        · have := HX.out.2.size; exact .inr (by omega), HX.out.2.step r3 (fun b hb h => (HX.out.1 b h).elim id (fun h' => by omega))⟩
      clear hcall r1 r2 r3 HGo
      go_wp2
      simp only [toLabel]
      go_ret
      exact ⟨rfl, HY.out⟩
    have hj9' : j < 9 := by omega
    have hjn : (j : Int) + 1 < 10 := by omega
    by_cases hr : Run Sj j (budN b)
    · have hbn : budN b < en := by
        have := (hsub _ ((hG.same _).1 (moreS_iff.2 (.inl (hr.1 (budN b * 2 ^ j) (first_in j _)))))).2
        rcases Nat.eq_zero_or_pos (budN b) with h | h
        · omega
        · have : budN b * 1 ≤ budN b * 2 ^ j := Nat.mul_le_mul_left _ (Nat.two_pow_pos j); omega
      have hcall := budCut_set q1 j (budN b) hr (by omega) hbn
      have hG2 := giveS_step hG hr
      have hless := bits_andNot_i64 (b * 2 ^ j) (2 ^ j) (by have := HB.out; omega) (by omega)
      rw [lessN_up] at hless
      rw [hfb, hfc, hT] at hxor
      rw [hfc] at hcall hG2
      rw [hfb, hT] at hless
      obtain ⟨fd, hfd⟩ : ∃ fd, b / 2 * 2 ^ (j + 1) = fd := ⟨_, rfl⟩
      rw [hfd] at hless
      rw [hfb]
      have HGo := Lib.hid (And.intro hcall (And.intro hG2 (And.intro hfd hjk)))
      clear q1 q2 q3 hG hcall hjk hsub hbx hbT hfc hfb hbb hbud hj9 hr hbn hG2 hfd hT
      have hcall := HGo.out.1
      go_wp2_with fail
      (with_reducible refine hcall.mono ?_)
      rintro e y1 ⟨rfl, O2, r1, r2, r3⟩
      have HY : Hid (∃ O', BudA p first en (cntS S en + 1) (runsF (lessS Sj fc (2 ^ j)) en) O' y1 ∧ (∀ b, O' b → O b ∨ w.heap.size ≤ b) ∧ Only O w y1) := Lib.hid ⟨O2, r1, fun b hb => by
        rcases r2 b hb with h | h
        · exact HX.out.1 b h
        · have := HX.out.2.size; exact .inr (by omega), HX.out.2.step r3 (fun b hb h => (HX.out.1 b h).elim id (fun h' => by omega))⟩
      clear hcall r1 r2 r3
      go_wp2
      go_step3
      obtain ⟨kk', rfl⟩ : ∃ kk', kk = kk' + 1 := ⟨kk - 1, by have := HGo.out.2.2.2; omega⟩
      refine ⟨rfl, hJ kk' _ _ (by omega) (by kernel_rfl) ?_⟩
      refine ⟨j + 1, b / 2, _, ?_, ?_, by have := HGo.out.2.2.2; omega, HGo.out.2.1, HY.out⟩
      · show Value.int .i64 ((fd : Nat) : Int) = _
        rw [HGo.out.2.2.1]
      · show Value.int .i64 ((j : Int) + 1) = _
        simp
    · obtain ⟨⟨l, m, hpl⟩, hpo⟩ := join_put (M := en) hG.apart (.inr hr) (by omega) hbb
      have hcut := budCut_miss q1 j (budN b) hr (by omega)
      have hputc := fun y (hy : Old x y) => budPut_set ((loc_bud ..).keep q1 (Only.of_below hy) (fun _ _ f => f)) j (b * 2 ^ j) (by omega) hpl hpo
      rw [giveS_end hG, hfb] at hputc
      rw [hfb, hfc, hT] at hxor
      rw [hfc] at hcut
      rw [hfb]
      have HGo := Lib.hid hputc
      clear q1 q2 q3 hG hputc hjk hpl hpo hsub hbx hbT hT hfc hfb hbb hbud hr hj9
      go_wp2_with fail
      (with_reducible refine hcut.mono ?_)
      rintro e y0 ⟨rfl, ho0⟩
      have hcall := HGo.out y0 ho0
      have HO0 := Lib.hid ho0
      clear hcut ho0
      go_wp2_with fail
      (with_reducible refine hcall.mono ?_)
      rintro e y1 ⟨rfl, O2, r1, r2, r3⟩
      have HY : Hid (∃ O', BudA p first en (cntS (moreS S f 1) en) (runsF (moreS S f 1) en) O' y1 ∧ (∀ b, O' b → O b ∨ w.heap.size ≤ b) ∧ Only O w y1) := Lib.hid ⟨O2, by rw [HC.out.1]; exact r1, fun b hb => by
        rcases r2 b hb with h | h
        · exact HX.out.1 b h
        · have := HX.out.2.size; have := HO0.out.size; exact .inr (by omega), (HX.out.2.trans ((Only.of_below HO0.out).mono fun _ _ f => f.elim)).step r3 (fun b hb h => (HX.out.1 b h).elim id (fun h' => by omega))⟩
      clear hcall r1 r2 r3 HGo
      go_wp2
      simp only [toLabel]
      go_ret
      exact ⟨rfl, HY.out⟩
end
end Go.Proofs.Ytnmccihgiphmjaa
namespace Go.Proofs.Ytnmccihgiphmjaa
set_option linter.unusedVariables false
set_option linter.unusedSimpArgs false
open Go.RowKit
theorem int_info5 : (Try.prog.info? 3).map (fun i => (i.zero, i.size, i.bytes)) = some (some (.int .i64 0), 1, 8) := by kernel_rfl
/-- An append of one number: where it lies. -/
theorem rowI_append {w : World} {ad : Option Addr} {c : Nat} {l : List Nat} (h : RowI w ad c l) (a : Addr) (x cc : Nat) (hnews : ∀ (j : Nat) (u : Value), [vI x][j]? = some u → w.cell? (a.add j) = some u) (hlim : l.length + 1 ≤ 2097152) :
    ∃ ad' c' w2, (Builtin.append_ #[54, 54] 54 #[.slice ad l.length c, .slice (some a) 1 cc]).run Try.prog w = .ok (.slice ad' (l.length + 1) c') w2 ∧
      RowI w2 ad' c' (l ++ [x]) ∧ Only (fun z => ad = some ⟨z, 0, none⟩) w w2 ∧ (∀ z off, ad' = some ⟨z, off, none⟩ → ad = some ⟨z, 0, none⟩ ∨ w.heap.size ≤ z) := by
  obtain ⟨i0, hi, hz0, hz1, hz2⟩ := info_parts int_info5
  have weak : ∀ {row : Option Nat} {w2 : World}, w.grownBy w2 row → (∀ b, row = some b → ad = some ⟨b, 0, none⟩) → Only (fun z => ad = some ⟨z, 0, none⟩) w w2 := fun hg hr => (grown_only hg).mono fun b _ e => hr b e.symm
  have hl : ([vI x] : List Value).length = 1 * 1 := rfl
  have h1 : ∀ u ∈ [vI x], u.oneCell' = true := fun u hu => by rw [List.mem_singleton.1 hu]; rfl
  have fin : ∀ {ad' : Option Addr} {c' : Nat} {w2 : World} {B : Nat}, w2.ownsRow B 3 1 (.slice ad' (l.length + 1) c') (l.length + 1) (l.map vI ++ [vI x]) → RowI w2 ad' c' (l ++ [x]) := fun ho => by
    unfold RowI
    rw [List.length_append, List.map_append]
    refine ⟨ho.1, ?_⟩
    rcases ho.2 with h' | ⟨g, cap, cur, h', _, rest⟩
    · exact .inl h'
    · exact .inr ⟨g, cap, cur, h', Nat.zero_le _, rest⟩
  rcases h.2 with ⟨h', h0⟩ | ⟨g, cap, cur, h', hb, hcu, r1, r2, r3, r4⟩
  · have hxs : l = [] := List.length_eq_zero_iff.1 h0
    subst hxs
    simp only [Value.slice.injEq] at h'
    obtain ⟨rfl, -, rfl⟩ := h'
    obtain ⟨v', w2, hrun, ho, hg, -⟩ := run_append_own (P := Try.prog) w w.heap.size 54 54 3 i0 _ 1 8 Try.underlying54 hi hz0 hz1 hz2 rfl (by decide) (.slice none 0 0) 0 [] (World.ownsRow_nil _ _ _ _) a 1 cc [vI x] hl hnews h1 (by unfold maxLen; omega) (by omega) (Nat.le_refl _)
    obtain ⟨ad', c', rfl, -, -, h3, -⟩ := own_value ho
    exact ⟨ad', c', w2, hrun, fin ho, weak hg (fun b e => by cases e), fun z off e => .inr (h3 z off e).2.1⟩
  · simp only [Value.slice.injEq, true_and] at h'
    obtain ⟨rfl, rfl⟩ := h'
    by_cases hroom : l.length + 1 ≤ c
    · obtain ⟨w2, hrun, ho, hg⟩ := run_append_fits (P := Try.prog) w 0 54 54 3 i0 1 Try.underlying54 hi hz1 g l.length c (l.map vI) h a 1 cc [vI x] hl hnews h1 hroom
      exact ⟨_, _, w2, hrun, fin ho, weak hg (fun b e => by cases e; rfl), fun z off e => by cases e; exact .inl rfl⟩
    · obtain ⟨v', w2, hrun, ho, hg⟩ := run_append_arg_grows (P := Try.prog) w 54 54 3 i0 _ 1 8 Try.underlying54 hi hz0 hz1 hz2 rfl (by decide) ⟨g, 0, none⟩ l.length c (l.map vI) h.1
        (fun j u hu => by rw [add_eq _ _ rfl]; simpa using own_cell h rfl j hu) a 1 cc [vI x] hl hnews (by omega) (by unfold maxLen; omega) (by omega)
      obtain ⟨ad', c', rfl, -, -, h3, -⟩ := own_value ho
      exact ⟨ad', c', w2, hrun, fin ho, weak hg (fun b e => by cases e), fun z off e => .inr (h3 z off e).2.1⟩
end Go.Proofs.Ytnmccihgiphmjaa
namespace Go.Proofs.Ytnmccihgiphmjaa
set_option linter.unusedVariables false
set_option linter.unusedSimpArgs false
open Go.RowKit
section
variable {w x y : World} {p first en : Nat}
set_option maxHeartbeats 8000000 in
set_option maxRecDepth 100000 in
theorem budNew_calls (w : World) (first n : Nat) (h1 : first ≤ 1048576) (h2 : n + first ≤ 1048576) :
    Calls Try.prog 31 #[.int .i64 (first : Nat), .int .i64 (n : Nat)] w (fun e y => e = .returned (.tuple #[.pointer (some ⟨w.heap.size, 0, none⟩), .int .i64 0]) ∧ Old w y ∧
      ∃ O, BudA w.heap.size first (first + n) n (runsF (allS first (first + n)) (first + n)) O y ∧ ∀ b, O b → w.heap.size ≤ b) := by
  obtain ⟨en, hen⟩ : ∃ en, first + n = en := ⟨_, rfl⟩
  have hcn : n = en - first := by omega
  rw [hen]
  have f0 : ¬ (first : Int) < 0 := by omega
  have f1 : ¬ (1048576 : Int) < (first : Int) := by omega
  have f2 : ¬ (n : Int) < 0 := by omega
  have f3 : ¬ (1048576 : Int) - (first : Int) < (n : Int) := by omega
  have f4 : (first : Int) + (n : Int) = (en : Int) := by omega
  have f5 : (first : Int) ≤ 1048576 := by omega
  have f6 : (n : Int) ≤ 1048576 := by omega
  have f7 : (en : Int) ≤ 1048576 := by omega
  have HB := Lib.hid (show first ≤ en ∧ en ≤ 1048576 ∧ first ≤ 1048576 by omega)
  clear hen hcn h1 h2
  go_enter Try.func31, Try.ntmps31
  go_wp2
  have hnb := new_block w (.cells #[.int .i64 (first : Nat), .int .i64 (en : Nat), .slice none 0 0, .slice none 0 0, .slice none 0 0, .slice none 0 0, .slice none 0 0, .slice none 0 0, .slice none 0 0, .slice none 0 0, .slice none 0 0, .slice none 0 0, .int .i64 (n : Nat)] 95)
  have hO := old_alloc (old_refl w) (.cells #[.int .i64 (first : Nat), .int .i64 (en : Nat), .slice none 0 0, .slice none 0 0, .slice none 0 0, .slice none 0 0, .slice none 0 0, .slice none 0 0, .slice none 0 0, .slice none 0 0, .slice none 0 0, .slice none 0 0, .int .i64 (n : Nat)] 95)
  generalize w.alloc (.cells #[.int .i64 (first : Nat), .int .i64 (en : Nat), .slice none 0 0, .slice none 0 0, .slice none 0 0, .slice none 0 0, .slice none 0 0, .slice none 0 0, .slice none 0 0, .slice none 0 0, .slice none 0 0, .slice none 0 0, .int .i64 (n : Nat)] 95) = W0 at *
  obtain ⟨p, hp⟩ : ∃ p, w.heap.size = p := ⟨_, rfl⟩
  rw [hp] at hnb ⊢
  obtain ⟨cn, hcn⟩ : ∃ cn, n = cn := ⟨_, rfl⟩
  rw [hcn] at hnb
  have HA : Hid (∃ O, BudA p first en cn (fun k => beforeL (allS first en) en k first) O W0 ∧ ∀ b, O b → p ≤ b) := Lib.hid ⟨fun b => b = p, ⟨fun _ => none, fun _ => 0, by
    have e : ∀ k, beforeL (allS first en) en k first = [] := fun k => before_none
    refine ⟨?_, fun k _ => by show RowI _ _ _ (beforeL _ _ _ _); rw [e]; exact World.ownsRow_nil _ _ _ _, rfl, fun k b off _ e => (by cases e), fun j k b o1 o2 _ _ _ e => (by cases e), fun b hb => by rw [hb]; exact lt_of_block hnb, HB.out.2.2, HB.out.2.1⟩
    rw [hnb]
    simp only [budCells, e]
    rfl⟩, fun b hb => by rw [hb]; exact Nat.le_refl _⟩
  have HP := Lib.hid (And.intro hp hcn)
  have HO := Lib.hid hO
  clear hnb hp hcn hO
  refine wp_loopF [false, false, false, false, false, false, false, true, true, false, false, false, false, false, false, false, false, false, false, false, false, false, false, false, false, false, false, false, false, false, false, false, false, true, true, true, true, true, true, true, true, true, true, true, true, true, true, true, true, true, true, true, true, true, true, true, true, true, true, true, true, true, true, true, true, true, true, true, true, true, true, true, true, true, true, true, true, true, true, true] (fun f2 wx => ∃ at_ : Nat, f2 7 = .int .i64 (at_ : Nat) ∧ NewI first en at_ ∧ Old w wx ∧ ∃ O, BudA p first en cn (fun k => beforeL (allS first en) en k at_) O wx ∧ ∀ b, O b → p ≤ b) (fun f2 => en - (intOf (f2 7)).toNat) ?start1 ?round1
  case start1 => exact ⟨first, rfl, newI_start HB.out.1, HO.out, HA.out⟩
  case round1 =>
    clear HA HO
    intro f2 wr hrel J2 K2 hJ2 hM2
    dsimp only [mergeA, mergeL, Nat.reduceAdd]
    obtain ⟨at_, h7, hN, hO, O, hA, hOp⟩ := hrel
    rw [h7]
    have H7 := Lib.hid h7
    clear h7
    obtain ⟨ad, cp, hW⟩ := hA
    obtain ⟨c0, c1, -⟩ := bud_first hW
    have ha7 : (at_ : Int) ≤ 1048576 := by have := hN.2.1; have := HB.out; omega
    by_cases hend : at_ = en
    · have e1 : ¬ (at_ : Int) < en := by omega
      have e1n : decide (at_ < en) = false := decide_eq_false (by omega)
      have hA2 : BudA p first en cn (fun k => beforeL (allS first en) en k en) O wr := by rw [hend] at hW; exact ⟨ad, cp, hW⟩
      have HF : Hid (Old w wr ∧ ∃ O, BudA p first en cn (runsF (allS first en) en) O wr ∧ ∀ b, O b → p ≤ b) := Lib.hid ⟨hO, O, budA_congr hA2 (fun k _ => before_all), hOp⟩
      clear hW hA2 hN hO hOp hend
      go_wp2
      go_ret2
      rw [HP.out.1, HP.out.2]
      exact ⟨rfl, HF.out.1, HF.out.2⟩
    have hlt : at_ < en := by have := hN.2.1; omega
    have e1 : (at_ : Int) < en := by omega
    have e1n : decide (at_ < en) = true := decide_eq_true hlt
    have HW := Lib.hid (And.intro hW (And.intro hN (And.intro hO (And.intro hOp hlt))))
    clear hW hN hO hOp hend
    clear c0 c1
    obtain ⟨c0, c1, -⟩ := bud_first HW.out.1
    go_wp2
    refine wp_scopeF 0 [false, false, false, false, false, false, false, false, true, false, false, false, false, false, false, false, false, false, false, false, false, false, false, false, false, false, false, false, false, false, false, false, false, false, false, false, false, false, false, true, true, true, true, true, true, true, true, true, true, true, true, true, true, true, true, true, true, true, true, true, true, true] (fun kk f3 x => ∃ o : Nat, f3 8 = .int .i64 (o : Nat) ∧ o + kk = 9 ∧ at_ % 2 ^ o = 0 ∧ at_ + 2 ^ o ≤ en ∧ Old wr x) _ rfl ?pass ?first
    case first =>
      intro J hp
      clear c0 c1
      go_wp2
      go_step3
      rename_i K9 hK9
      refine hK9 _ _ (hp 9 _ _ (by kernel_rfl) ⟨0, rfl, rfl, by rw [Nat.pow_zero, Nat.mod_one], by rw [Nat.pow_zero]; exact HW.out.2.2.2.2, old_refl _⟩)
    case pass =>
      clear c0 c1
      rintro kk f3 x ⟨o, h8, hko, hal, hfit, hOx⟩ J hJ
      dsimp only [mergeA, mergeL, Nat.reduceAdd]
      rw [h8]
      clear h8
      have hWx := budW_old HW.out.1 (old_drew hOx)
      obtain ⟨c0, c1, -⟩ := bud_first hWx
      have ho9 : (o : Int) ≤ 9 := by omega
      by_cases hgo : o < 9 ∧ at_ % 2 ^ (o + 1) = 0 ∧ at_ + 2 ^ (o + 1) ≤ en
      · obtain ⟨g1, g2, g3⟩ := hgo
        obtain ⟨T, hT, hw2, hT1, hT2⟩ := pow_ten (show o + 1 < 10 by omega)
        have hsh : wrap64 (2 * (2 : Int) ^ o) = (T : Int) := by rw [← hw2, Int.pow_succ]; congr 1; omega
        rw [hT] at g2 g3
        have hrem : (at_ : Int).tmod (T : Int) = 0 := by rw [Int.tmod_eq_emod_of_nonneg (by omega)]; omega
        have hle : (at_ : Int) + (T : Int) ≤ en := by omega
        have ho10 : (o : Int) + 1 < 10 := by omega
        have HG := Lib.hid (And.intro hT (And.intro g2 (And.intro g3 (And.intro hko hOx))))
        clear hal hfit hko hOx hWx g1 g2 g3 hT
        go_wp2_with fail
        refine wp_region_walked (S := Is x.drew) (by kernel_rfl) (by kernel_rfl) rfl ?_
        repeat (apply walked_cons; (first | exact gives_and rfl rfl rfl rfl | exact gives_or rfl rfl rfl rfl | (focus (intro wS hS; cases hS; go_wp2; exact ⟨rfl, rfl, rfl⟩; done)) | (focus (apply gives_guard; (focus (first | exact wanted_yes rfl rfl rfl | exact wanted_no rfl rfl rfl | exact wanted_yes2 rfl rfl rfl | exact wanted_no2 rfl rfl rfl)); (focus (intro hx9; (try simp only [Bool.not_eq_true', Bool.and_eq_true, Bool.not_not] at hx9); (try obtain ⟨hx9, hy9⟩ := hx9); (try subst hy9); (try subst hx9); (first | exact gives_and rfl rfl rfl rfl | exact gives_or rfl rfl rfl rfl | (intro wS hS; cases hS; go_wp2; exact ⟨rfl, rfl, rfl⟩; done))))))); rfl; (try simp only [Act.put, List.setIfInBounds_toArray, List.set_cons_succ, List.set_cons_zero]))
        apply walked_nil
        intro wS hS
        cases hS
        go_wp2
        go_step3
        obtain ⟨kk', rfl⟩ : ∃ kk', kk = kk' + 1 := ⟨kk - 1, by have := HG.out.2.2.2.1; omega⟩
        refine ⟨rfl, hJ kk' _ _ (by omega) (by kernel_rfl) ⟨o + 1, by show Value.int .i64 ((o : Int) + 1) = _; simp, by have := HG.out.2.2.2.1; omega, by rw [HG.out.1]; exact HG.out.2.1, by rw [HG.out.1]; exact HG.out.2.2.1, old_drew HG.out.2.2.2.2⟩⟩
      · have hG : Greedy en at_ o := ⟨by omega, hal, hfit, by
          by_cases h9 : o = 9
          · exact .inl h9
          · by_cases h2 : at_ % 2 ^ (o + 1) = 0
            · exact .inr (.inr (Nat.lt_of_not_le fun h3 => hgo ⟨by omega, h2, h3⟩))
            · exact .inr (.inl h2)⟩
        have HS := Lib.hid (And.intro hG hOx)
        by_cases h9 : o = 9
        · have e9 : ¬ (o : Int) + 1 < 10 := by omega
          clear h9 hgo hal hfit hko hOx hWx hG
          go_wp2_with fail
          refine wp_region_walked (S := Is x.drew) (by kernel_rfl) (by kernel_rfl) rfl ?_
          repeat (apply walked_cons; (first | exact gives_and rfl rfl rfl rfl | exact gives_or rfl rfl rfl rfl | (focus (intro wS hS; cases hS; go_wp2; exact ⟨rfl, rfl, rfl⟩; done)) | (focus (apply gives_guard; (focus (first | exact wanted_yes rfl rfl rfl | exact wanted_no rfl rfl rfl | exact wanted_yes2 rfl rfl rfl | exact wanted_no2 rfl rfl rfl)); (focus (intro hx9; (try simp only [Bool.not_eq_true', Bool.and_eq_true, Bool.not_not] at hx9); (try obtain ⟨hx9, hy9⟩ := hx9); (try subst hy9); (try subst hx9); (first | exact gives_and rfl rfl rfl rfl | exact gives_or rfl rfl rfl rfl | (intro wS hS; cases hS; go_wp2; exact ⟨rfl, rfl, rfl⟩; done))))))); rfl; (try simp only [Act.put, List.setIfInBounds_toArray, List.set_cons_succ, List.set_cons_zero]))
          apply walked_nil
          intro wS hS
          cases hS
          clear c0 c1
          have ho1 : Old wr x.drew := old_drew HS.out.2
          generalize x.drew = y1 at *
          have hG := HS.out.1
          obtain ⟨T0, hT0, hw0, hT01, hT02⟩ := pow_ten (show o < 10 by have := hG.o9; omega)
          have hstep := fun k hk => before_step (k := k) (M := en) HW.out.2.1 hG hk (Nat.le_refl _)
          have hnext := new_next HW.out.2.1 hG
          have hko : o < 10 := by have := hG.o9; omega
          obtain ⟨R, hR⟩ : ∃ R : Nat → List Nat, (fun k => beforeL (allS first en) en k at_) = R := ⟨_, rfl⟩
          have hWr : BudW O wr p first en cn ad cp R := by rw [← hR]; exact HW.out.1
          have hB1 := budW_old hWr (old_drew ho1)
          have hc1 := bud_cell hB1 hko
          obtain ⟨z, hz⟩ : ∃ z, y1.drew.alloc (.cells #[.int .i64 (at_ : Nat)] 3) = z := ⟨_, rfl⟩
          have hoz : Old y1.drew z := by rw [← hz]; exact old_alloc (old_refl _) _
          have hBz := budW_old hB1 hoz
          have hRl : (R o).length ≤ 1048576 := by
            rw [← hR]
            have h1 := runsL_len (allS first en) en o
            have h2 : (beforeL (allS first en) en o at_).length ≤ (runsL (allS first en) en o).length := List.length_filter_le ..
            have := HB.out
            show (beforeL (allS first en) en o at_).length ≤ _
            omega
          obtain ⟨a', c', w9, hrun, hrow, hon, hfr⟩ := rowI_append (hBz.rows o hko) ⟨y1.heap.size, 0, none⟩ at_ 1 (by rw [← hz]; exact news_block y1.drew [vI at_] 3 y1.heap.size rfl) (by omega)
          obtain ⟨L', hL'⟩ : ∃ L', R o ++ [at_] = L' := ⟨_, rfl⟩
          have hLl : L'.length = (R o).length + 1 := by rw [← hL', List.length_append]; rfl
          rw [hL'] at hrow
          have HZ := Lib.hid hz
          have HC0 : Hid (∀ x, Old y1 x → x.cell? ⟨p, 2 + o, none⟩ = some (.slice (ad o) (R o).length (cp o))) := Lib.hid fun x hx => bud_cell (budW_old hWr (old_then ho1 hx)) hko
          have how : Only (fun b => ad o = some ⟨b, 0, none⟩) wr z := ((Only.of_below (old_then (old_drew ho1) hoz)).mono fun _ _ f => f.elim)
          have hpx := keep_only hon (fun e => (hBz.rown o p 0 hko e).2 rfl) hBz.hp
          have HI : Hid ((Builtin.append_ #[54, 54] 54 #[.slice (ad o) (R o).length (cp o), .slice (some ⟨y1.heap.size, 0, none⟩) 1 1]).run Try.prog z = .ok (.slice a' ((R o).length + 1) c') w9 ∧ PutP wr y1 p first en cn ad cp R o a' c' L' w9) := Lib.hid ⟨hrun, hpx, by rw [cell_of hpx, List.getElem?_toArray, budCells_row hko], how.trans hon, hrow⟩
          have HF : Hid (∀ z off, a' = some ⟨z, off, none⟩ → ad o = some ⟨z, 0, none⟩ ∨ wr.heap.size ≤ z) := Lib.hid fun z off e => (hfr z off e).imp id fun h => by have := (old_then (old_drew ho1) hoz).size; omega
          have HL := Lib.hid (And.intro hL' (And.intro hLl (And.intro hstep (And.intro hnext (And.intro hR hT0)))))
          have HWR := Lib.hid hWr
          have hoi : (o : Int) < 10 := by omega
          have hRi : ((R o).length : Int) ≤ 1048576 := by omega
          clear hB1 hoz hBz hrun hrow hon hfr hz how ho1 hL' hLl hstep hnext hR hT0 hWr hpx hG hRl
          go_wp2_with fail
          refine wp_region_met (S := TwoCalls 9 10 (fun x => x = y1.drew) (fun x => x = z) (fun x => PutP wr y1 p first en cn ad cp R o a' c' L' x)) 13 (by kernel_rfl) (by kernel_rfl) (by kernel_rfl) (by decide) (tc_start _ rfl) ?_
          apply walkedM_cons
          · intro l9 wS hz hn hm hS
            have HD := Lib.hid (tc_other 0 (by decide) (by decide) hS)
            clear hS hz hn hm
            go_wp2
            exact ⟨rfl, rfl, HD.out⟩
          · rfl
          (try simp only [Act.put, List.setIfInBounds_toArray, List.set_cons_succ, List.set_cons_zero])
          apply walkedM_cons
          · intro l9 wS hz hn hm hS
            have HD := Lib.hid (tc_other 1 (by decide) (by decide) hS)
            clear hS hz hn hm
            go_wp2
            exact ⟨rfl, rfl, HD.out⟩
          · rfl
          (try simp only [Act.put, List.setIfInBounds_toArray, List.set_cons_succ, List.set_cons_zero])
          apply walkedM_cons
          · intro l9 wS hz hn hm hS
            have HD := Lib.hid (tc_other 2 (by decide) (by decide) hS)
            clear hS hz hn hm
            go_wp2
            exact ⟨rfl, rfl, HD.out⟩
          · rfl
          (try simp only [Act.put, List.setIfInBounds_toArray, List.set_cons_succ, List.set_cons_zero])
          apply walkedM_cons
          · intro l9 wS hz hn hm hS
            have HD := Lib.hid (tc_other 3 (by decide) (by decide) hS)
            clear hS hz hn hm
            go_wp2
            exact ⟨rfl, rfl, HD.out⟩
          · rfl
          (try simp only [Act.put, List.setIfInBounds_toArray, List.set_cons_succ, List.set_cons_zero])
          apply walkedM_cons
          · intro l9 wS hz hn hm hS
            have HD := Lib.hid (tc_other 4 (by decide) (by decide) hS)
            clear hS hz hn hm
            go_wp2
            exact ⟨rfl, rfl, HD.out⟩
          · rfl
          (try simp only [Act.put, List.setIfInBounds_toArray, List.set_cons_succ, List.set_cons_zero])
          apply walkedM_cons
          · intro l9 wS hz hn hm hS
            have HD := Lib.hid (tc_other 5 (by decide) (by decide) hS)
            clear hS hz hn hm
            go_wp2
            exact ⟨rfl, rfl, HD.out⟩
          · rfl
          (try simp only [Act.put, List.setIfInBounds_toArray, List.set_cons_succ, List.set_cons_zero])
          apply walkedM_cons
          · intro l9 wS hz hn hm hS
            have HD := Lib.hid (tc_other 6 (by decide) (by decide) hS)
            clear hS hz hn hm
            go_wp2
            exact ⟨rfl, rfl, HD.out⟩
          · rfl
          (try simp only [Act.put, List.setIfInBounds_toArray, List.set_cons_succ, List.set_cons_zero])
          apply walkedM_cons
          · intro l9 wS hz hn hm hS
            have HD := Lib.hid (tc_other 7 (by decide) (by decide) hS)
            have ck := tc_any (P := fun x => x.cell? ⟨p, 2 + o, none⟩ = some (.slice (ad o) (R o).length (cp o))) hS (fun h => HC0.out _ (by rw [h]; exact old_drew (old_refl _))) (fun h => HC0.out _ (by rw [h, ← HZ.out]; exact old_alloc (old_drew (old_refl _)) _)) (fun h => h.cell)
            clear hS hz hn hm
            go_wp2
            exact ⟨rfl, rfl, HD.out⟩
          · rfl
          (try simp only [Act.put, List.setIfInBounds_toArray, List.set_cons_succ, List.set_cons_zero])
          apply walkedM_cons
          · intro l9 wS hz hn hm hS
            have HD := Lib.hid (tc_other 8 (by decide) (by decide) hS)
            clear hS hz hn hm
            go_wp2
            exact ⟨rfl, rfl, HD.out⟩
          · rfl
          (try simp only [Act.put, List.setIfInBounds_toArray, List.set_cons_succ, List.set_cons_zero])
          apply walkedM_cons
          · intro l9 wS hz hn hm hS
            obtain ⟨rfl, hnext⟩ := tc_first (by decide) (by rw [hz]; decide) hn hS
            have HN := Lib.hid hnext
            have HZ2 := HZ.out
            clear hS hnext hz hn hm
            go_wp2
            exact ⟨rfl, rfl, HN.out _ rfl⟩
          · rfl
          (try simp only [Act.put, List.setIfInBounds_toArray, List.set_cons_succ, List.set_cons_zero])
          apply walkedM_cons
          · intro l9 wS hz hn hm hS
            obtain ⟨rfl, hnext⟩ := tc_second (by decide) (by rw [hz]; decide) (hm _ rfl ⟨9, .data⟩ (by simp) rfl) hn hS
            have HD := Lib.hid (hnext _ HI.out.2)
            have hrun := HI.out.1
            clear hS hnext hz hn hm
            go_wp2_with (at_builtin; refine wpList_append_run rfl _ _ 54 rfl _ _ rfl rfl _ _ hrun ?_; clear hrun)
            exact ⟨rfl, rfl, HD.out⟩
          · rfl
          (try simp only [Act.put, List.setIfInBounds_toArray, List.set_cons_succ, List.set_cons_zero])
          apply walkedM_cons
          · intro l9 wS hz hn hm hS
            have HD := Lib.hid (tc_other 11 (by decide) (by decide) hS)
            clear hS hz hn hm
            go_wp2
            exact ⟨rfl, rfl, HD.out⟩
          · rfl
          (try simp only [Act.put, List.setIfInBounds_toArray, List.set_cons_succ, List.set_cons_zero])
          apply walkedM_cons
          · intro l9 wS hz hn hm hS
            have HD := Lib.hid (tc_other 12 (by decide) (by decide) hS)
            clear hS hz hn hm
            go_wp2
            exact ⟨rfl, rfl, HD.out⟩
          · rfl
          (try simp only [Act.put, List.setIfInBounds_toArray, List.set_cons_succ, List.set_cons_zero])
          apply walkedM_nil
          intro l9 z9 hz hall hS
          have HE := Lib.hid (tc_end (hall 10 (by decide)) hS)
          clear hS hall hz l9
          show wpList _ _ _ [_, _] _ _
          obtain ⟨O', q1, q2, q3⟩ := bud_set HWR.out hko HE.out.blk HE.out.only HE.out.row HF.out
          rw [HL.out.2.1] at q1 q3
          have HQ : Hid (Old w (z9.setCell ⟨p, 2 + o, none⟩ (.slice a' ((R o).length + 1) c')) ∧ ∃ O, BudA p first en cn (fun k => beforeL (allS first en) en k (at_ + T0)) O (z9.setCell ⟨p, 2 + o, none⟩ (.slice a' ((R o).length + 1) c')) ∧ ∀ b, O b → p ≤ b) := Lib.hid ⟨Only.to_below ((Only.of_below HW.out.2.2.1).step q3 (fun b hb h => by have := HW.out.2.2.2.1 b h; rw [← HP.out.1] at this; omega)), O', budA_congr ⟨_, _, q1⟩ (fun k hk => by
            have hs := HL.out.2.2.1 k (by omega)
            rw [HL.out.2.2.2.2.2] at hs
            show _ = beforeL (allS first en) en k (at_ + T0)
            rw [hs, ← HL.out.1, ← HL.out.2.2.2.2.1]
            by_cases hko : k = o
            · subst hko; rw [upd_same, if_pos rfl]
            · rw [upd_ne _ _ hko, if_neg hko, List.append_nil]), fun b hb => by
            rcases q2 b hb with h | h
            · exact HW.out.2.2.2.1 b h
            · have := HW.out.2.2.1.size; rw [HP.out.1] at this; omega⟩
          have hc9 := HE.out.cell
          have hf9 := frozen_of HE.out.blk (2 + o)
          have hat2 : (at_ : Int) + (T0 : Int) ≤ 1048576 := by have := HL.out.2.2.2.1.2.1; rw [HL.out.2.2.2.2.2] at this; have := HB.out; omega
          clear q1 q2 q3 hc1 HC0 HI HF HE
          go_wp2
          try simp only [toLabel]
          refine hM2 _ _ (Met.intro (hJ2 _ _ (by kernel_rfl) ?_ ?_))
          · exact ⟨at_ + T0, by show Value.int .i64 ((at_ : Int) + (T0 : Int)) = _; simp, by rw [← HL.out.2.2.2.2.2]; exact HL.out.2.2.2.1, HQ.out.1, HQ.out.2⟩
          · have := HW.out.2.2.2.2
            rw [H7.out]; show en - (intOf (Value.int .i64 ((at_ : Int) + (T0 : Int)))).toNat < en - (intOf (Value.int .i64 (at_ : Int))).toNat
            simp [intOf]; omega
        obtain ⟨T, hT, hw2, hT1, hT2⟩ := pow_ten (show o + 1 < 10 by omega)
        have hsh : wrap64 (2 * (2 : Int) ^ o) = (T : Int) := by rw [← hw2, Int.pow_succ]; congr 1; omega
        have ho10 : (o : Int) + 1 < 10 := by omega
        rw [hT] at hgo
        by_cases hm : at_ % T = 0
        · have hrem : (at_ : Int).tmod (T : Int) = 0 := by rw [Int.tmod_eq_emod_of_nonneg (by omega)]; omega
          have hle : ¬ (at_ : Int) + (T : Int) ≤ en := fun h => hgo ⟨by omega, hm, by omega⟩
          have hlen : decide (at_ + T ≤ en) = false := decide_eq_false (by omega)
          clear hgo hal hfit hko hOx hWx hG h9 hT hm
          go_wp2_with fail
          refine wp_region_walked (S := Is x.drew) (by kernel_rfl) (by kernel_rfl) rfl ?_
          repeat (apply walked_cons; (first | exact gives_and rfl rfl rfl rfl | exact gives_or rfl rfl rfl rfl | (focus (intro wS hS; cases hS; go_wp2; exact ⟨rfl, rfl, rfl⟩; done)) | (focus (apply gives_guard; (focus (first | exact wanted_yes rfl rfl rfl | exact wanted_no rfl rfl rfl | exact wanted_yes2 rfl rfl rfl | exact wanted_no2 rfl rfl rfl)); (focus (intro hx9; (try simp only [Bool.not_eq_true', Bool.and_eq_true, Bool.not_not] at hx9); (try obtain ⟨hx9, hy9⟩ := hx9); (try subst hy9); (try subst hx9); (first | exact gives_and rfl rfl rfl rfl | exact gives_or rfl rfl rfl rfl | (intro wS hS; cases hS; go_wp2; exact ⟨rfl, rfl, rfl⟩; done))))))); rfl; (try simp only [Act.put, List.setIfInBounds_toArray, List.set_cons_succ, List.set_cons_zero]))
          apply walked_nil
          intro wS hS
          cases hS
          clear c0 c1
          have ho1 : Old wr x.drew := old_drew HS.out.2
          generalize x.drew = y1 at *
          have hG := HS.out.1
          obtain ⟨T0, hT0, hw0, hT01, hT02⟩ := pow_ten (show o < 10 by have := hG.o9; omega)
          have hstep := fun k hk => before_step (k := k) (M := en) HW.out.2.1 hG hk (Nat.le_refl _)
          have hnext := new_next HW.out.2.1 hG
          have hko : o < 10 := by have := hG.o9; omega
          obtain ⟨R, hR⟩ : ∃ R : Nat → List Nat, (fun k => beforeL (allS first en) en k at_) = R := ⟨_, rfl⟩
          have hWr : BudW O wr p first en cn ad cp R := by rw [← hR]; exact HW.out.1
          have hB1 := budW_old hWr (old_drew ho1)
          have hc1 := bud_cell hB1 hko
          obtain ⟨z, hz⟩ : ∃ z, y1.drew.alloc (.cells #[.int .i64 (at_ : Nat)] 3) = z := ⟨_, rfl⟩
          have hoz : Old y1.drew z := by rw [← hz]; exact old_alloc (old_refl _) _
          have hBz := budW_old hB1 hoz
          have hRl : (R o).length ≤ 1048576 := by
            rw [← hR]
            have h1 := runsL_len (allS first en) en o
            have h2 : (beforeL (allS first en) en o at_).length ≤ (runsL (allS first en) en o).length := List.length_filter_le ..
            have := HB.out
            show (beforeL (allS first en) en o at_).length ≤ _
            omega
          obtain ⟨a', c', w9, hrun, hrow, hon, hfr⟩ := rowI_append (hBz.rows o hko) ⟨y1.heap.size, 0, none⟩ at_ 1 (by rw [← hz]; exact news_block y1.drew [vI at_] 3 y1.heap.size rfl) (by omega)
          obtain ⟨L', hL'⟩ : ∃ L', R o ++ [at_] = L' := ⟨_, rfl⟩
          have hLl : L'.length = (R o).length + 1 := by rw [← hL', List.length_append]; rfl
          rw [hL'] at hrow
          have HZ := Lib.hid hz
          have HC0 : Hid (∀ x, Old y1 x → x.cell? ⟨p, 2 + o, none⟩ = some (.slice (ad o) (R o).length (cp o))) := Lib.hid fun x hx => bud_cell (budW_old hWr (old_then ho1 hx)) hko
          have how : Only (fun b => ad o = some ⟨b, 0, none⟩) wr z := ((Only.of_below (old_then (old_drew ho1) hoz)).mono fun _ _ f => f.elim)
          have hpx := keep_only hon (fun e => (hBz.rown o p 0 hko e).2 rfl) hBz.hp
          have HI : Hid ((Builtin.append_ #[54, 54] 54 #[.slice (ad o) (R o).length (cp o), .slice (some ⟨y1.heap.size, 0, none⟩) 1 1]).run Try.prog z = .ok (.slice a' ((R o).length + 1) c') w9 ∧ PutP wr y1 p first en cn ad cp R o a' c' L' w9) := Lib.hid ⟨hrun, hpx, by rw [cell_of hpx, List.getElem?_toArray, budCells_row hko], how.trans hon, hrow⟩
          have HF : Hid (∀ z off, a' = some ⟨z, off, none⟩ → ad o = some ⟨z, 0, none⟩ ∨ wr.heap.size ≤ z) := Lib.hid fun z off e => (hfr z off e).imp id fun h => by have := (old_then (old_drew ho1) hoz).size; omega
          have HL := Lib.hid (And.intro hL' (And.intro hLl (And.intro hstep (And.intro hnext (And.intro hR hT0)))))
          have HWR := Lib.hid hWr
          have hoi : (o : Int) < 10 := by omega
          have hRi : ((R o).length : Int) ≤ 1048576 := by omega
          clear hB1 hoz hBz hrun hrow hon hfr hz how ho1 hL' hLl hstep hnext hR hT0 hWr hpx hG hRl
          go_wp2_with fail
          refine wp_region_met (S := TwoCalls 9 10 (fun x => x = y1.drew) (fun x => x = z) (fun x => PutP wr y1 p first en cn ad cp R o a' c' L' x)) 13 (by kernel_rfl) (by kernel_rfl) (by kernel_rfl) (by decide) (tc_start _ rfl) ?_
          apply walkedM_cons
          · intro l9 wS hz hn hm hS
            have HD := Lib.hid (tc_other 0 (by decide) (by decide) hS)
            clear hS hz hn hm
            go_wp2
            exact ⟨rfl, rfl, HD.out⟩
          · rfl
          (try simp only [Act.put, List.setIfInBounds_toArray, List.set_cons_succ, List.set_cons_zero])
          apply walkedM_cons
          · intro l9 wS hz hn hm hS
            have HD := Lib.hid (tc_other 1 (by decide) (by decide) hS)
            clear hS hz hn hm
            go_wp2
            exact ⟨rfl, rfl, HD.out⟩
          · rfl
          (try simp only [Act.put, List.setIfInBounds_toArray, List.set_cons_succ, List.set_cons_zero])
          apply walkedM_cons
          · intro l9 wS hz hn hm hS
            have HD := Lib.hid (tc_other 2 (by decide) (by decide) hS)
            clear hS hz hn hm
            go_wp2
            exact ⟨rfl, rfl, HD.out⟩
          · rfl
          (try simp only [Act.put, List.setIfInBounds_toArray, List.set_cons_succ, List.set_cons_zero])
          apply walkedM_cons
          · intro l9 wS hz hn hm hS
            have HD := Lib.hid (tc_other 3 (by decide) (by decide) hS)
            clear hS hz hn hm
            go_wp2
            exact ⟨rfl, rfl, HD.out⟩
          · rfl
          (try simp only [Act.put, List.setIfInBounds_toArray, List.set_cons_succ, List.set_cons_zero])
          apply walkedM_cons
          · intro l9 wS hz hn hm hS
            have HD := Lib.hid (tc_other 4 (by decide) (by decide) hS)
            clear hS hz hn hm
            go_wp2
            exact ⟨rfl, rfl, HD.out⟩
          · rfl
          (try simp only [Act.put, List.setIfInBounds_toArray, List.set_cons_succ, List.set_cons_zero])
          apply walkedM_cons
          · intro l9 wS hz hn hm hS
            have HD := Lib.hid (tc_other 5 (by decide) (by decide) hS)
            clear hS hz hn hm
            go_wp2
            exact ⟨rfl, rfl, HD.out⟩
          · rfl
          (try simp only [Act.put, List.setIfInBounds_toArray, List.set_cons_succ, List.set_cons_zero])
          apply walkedM_cons
          · intro l9 wS hz hn hm hS
            have HD := Lib.hid (tc_other 6 (by decide) (by decide) hS)
            clear hS hz hn hm
            go_wp2
            exact ⟨rfl, rfl, HD.out⟩
          · rfl
          (try simp only [Act.put, List.setIfInBounds_toArray, List.set_cons_succ, List.set_cons_zero])
          apply walkedM_cons
          · intro l9 wS hz hn hm hS
            have HD := Lib.hid (tc_other 7 (by decide) (by decide) hS)
            have ck := tc_any (P := fun x => x.cell? ⟨p, 2 + o, none⟩ = some (.slice (ad o) (R o).length (cp o))) hS (fun h => HC0.out _ (by rw [h]; exact old_drew (old_refl _))) (fun h => HC0.out _ (by rw [h, ← HZ.out]; exact old_alloc (old_drew (old_refl _)) _)) (fun h => h.cell)
            clear hS hz hn hm
            go_wp2
            exact ⟨rfl, rfl, HD.out⟩
          · rfl
          (try simp only [Act.put, List.setIfInBounds_toArray, List.set_cons_succ, List.set_cons_zero])
          apply walkedM_cons
          · intro l9 wS hz hn hm hS
            have HD := Lib.hid (tc_other 8 (by decide) (by decide) hS)
            clear hS hz hn hm
            go_wp2
            exact ⟨rfl, rfl, HD.out⟩
          · rfl
          (try simp only [Act.put, List.setIfInBounds_toArray, List.set_cons_succ, List.set_cons_zero])
          apply walkedM_cons
          · intro l9 wS hz hn hm hS
            obtain ⟨rfl, hnext⟩ := tc_first (by decide) (by rw [hz]; decide) hn hS
            have HN := Lib.hid hnext
            have HZ2 := HZ.out
            clear hS hnext hz hn hm
            go_wp2
            exact ⟨rfl, rfl, HN.out _ rfl⟩
          · rfl
          (try simp only [Act.put, List.setIfInBounds_toArray, List.set_cons_succ, List.set_cons_zero])
          apply walkedM_cons
          · intro l9 wS hz hn hm hS
            obtain ⟨rfl, hnext⟩ := tc_second (by decide) (by rw [hz]; decide) (hm _ rfl ⟨9, .data⟩ (by simp) rfl) hn hS
            have HD := Lib.hid (hnext _ HI.out.2)
            have hrun := HI.out.1
            clear hS hnext hz hn hm
            go_wp2_with (at_builtin; refine wpList_append_run rfl _ _ 54 rfl _ _ rfl rfl _ _ hrun ?_; clear hrun)
            exact ⟨rfl, rfl, HD.out⟩
          · rfl
          (try simp only [Act.put, List.setIfInBounds_toArray, List.set_cons_succ, List.set_cons_zero])
          apply walkedM_cons
          · intro l9 wS hz hn hm hS
            have HD := Lib.hid (tc_other 11 (by decide) (by decide) hS)
            clear hS hz hn hm
            go_wp2
            exact ⟨rfl, rfl, HD.out⟩
          · rfl
          (try simp only [Act.put, List.setIfInBounds_toArray, List.set_cons_succ, List.set_cons_zero])
          apply walkedM_cons
          · intro l9 wS hz hn hm hS
            have HD := Lib.hid (tc_other 12 (by decide) (by decide) hS)
            clear hS hz hn hm
            go_wp2
            exact ⟨rfl, rfl, HD.out⟩
          · rfl
          (try simp only [Act.put, List.setIfInBounds_toArray, List.set_cons_succ, List.set_cons_zero])
          apply walkedM_nil
          intro l9 z9 hz hall hS
          have HE := Lib.hid (tc_end (hall 10 (by decide)) hS)
          clear hS hall hz l9
          show wpList _ _ _ [_, _] _ _
          obtain ⟨O', q1, q2, q3⟩ := bud_set HWR.out hko HE.out.blk HE.out.only HE.out.row HF.out
          rw [HL.out.2.1] at q1 q3
          have HQ : Hid (Old w (z9.setCell ⟨p, 2 + o, none⟩ (.slice a' ((R o).length + 1) c')) ∧ ∃ O, BudA p first en cn (fun k => beforeL (allS first en) en k (at_ + T0)) O (z9.setCell ⟨p, 2 + o, none⟩ (.slice a' ((R o).length + 1) c')) ∧ ∀ b, O b → p ≤ b) := Lib.hid ⟨Only.to_below ((Only.of_below HW.out.2.2.1).step q3 (fun b hb h => by have := HW.out.2.2.2.1 b h; rw [← HP.out.1] at this; omega)), O', budA_congr ⟨_, _, q1⟩ (fun k hk => by
            have hs := HL.out.2.2.1 k (by omega)
            rw [HL.out.2.2.2.2.2] at hs
            show _ = beforeL (allS first en) en k (at_ + T0)
            rw [hs, ← HL.out.1, ← HL.out.2.2.2.2.1]
            by_cases hko : k = o
            · subst hko; rw [upd_same, if_pos rfl]
            · rw [upd_ne _ _ hko, if_neg hko, List.append_nil]), fun b hb => by
            rcases q2 b hb with h | h
            · exact HW.out.2.2.2.1 b h
            · have := HW.out.2.2.1.size; rw [HP.out.1] at this; omega⟩
          have hc9 := HE.out.cell
          have hf9 := frozen_of HE.out.blk (2 + o)
          have hat2 : (at_ : Int) + (T0 : Int) ≤ 1048576 := by have := HL.out.2.2.2.1.2.1; rw [HL.out.2.2.2.2.2] at this; have := HB.out; omega
          clear q1 q2 q3 hc1 HC0 HI HF HE
          go_wp2
          try simp only [toLabel]
          refine hM2 _ _ (Met.intro (hJ2 _ _ (by kernel_rfl) ?_ ?_))
          · exact ⟨at_ + T0, by show Value.int .i64 ((at_ : Int) + (T0 : Int)) = _; simp, by rw [← HL.out.2.2.2.2.2]; exact HL.out.2.2.2.1, HQ.out.1, HQ.out.2⟩
          · have := HW.out.2.2.2.2
            rw [H7.out]; show en - (intOf (Value.int .i64 ((at_ : Int) + (T0 : Int)))).toNat < en - (intOf (Value.int .i64 (at_ : Int))).toNat
            simp [intOf]; omega
        · obtain ⟨m, hmm⟩ : ∃ m, at_ % T = m := ⟨_, rfl⟩
          have hrem : (at_ : Int).tmod (T : Int) = (m : Int) := by rw [Int.tmod_eq_emod_of_nonneg (by omega)]; omega
          have hm0 : ((m : Int) == 0) = false := by rw [beq_eq_false_iff_ne]; omega
          clear hgo hal hfit hko hOx hWx hG h9 hT hm hmm
          go_wp2_with fail
          refine wp_region_walked (S := Is x.drew) (by kernel_rfl) (by kernel_rfl) rfl ?_
          repeat (apply walked_cons; (first | exact gives_and rfl rfl rfl rfl | exact gives_or rfl rfl rfl rfl | (focus (intro wS hS; cases hS; go_wp2; exact ⟨rfl, rfl, rfl⟩; done)) | (focus (apply gives_guard; (focus (first | exact wanted_yes rfl rfl rfl | exact wanted_no rfl rfl rfl | exact wanted_yes2 rfl rfl rfl | exact wanted_no2 rfl rfl rfl)); (focus (intro hx9; (try simp only [Bool.not_eq_true', Bool.and_eq_true, Bool.not_not] at hx9); (try obtain ⟨hx9, hy9⟩ := hx9); (try subst hy9); (try subst hx9); (first | exact gives_and rfl rfl rfl rfl | exact gives_or rfl rfl rfl rfl | (intro wS hS; cases hS; go_wp2; exact ⟨rfl, rfl, rfl⟩; done))))))); rfl; (try simp only [Act.put, List.setIfInBounds_toArray, List.set_cons_succ, List.set_cons_zero]))
          apply walked_nil
          intro wS hS
          cases hS
          clear c0 c1
          have ho1 : Old wr x.drew := old_drew HS.out.2
          generalize x.drew = y1 at *
          have hG := HS.out.1
          obtain ⟨T0, hT0, hw0, hT01, hT02⟩ := pow_ten (show o < 10 by have := hG.o9; omega)
          have hstep := fun k hk => before_step (k := k) (M := en) HW.out.2.1 hG hk (Nat.le_refl _)
          have hnext := new_next HW.out.2.1 hG
          have hko : o < 10 := by have := hG.o9; omega
          obtain ⟨R, hR⟩ : ∃ R : Nat → List Nat, (fun k => beforeL (allS first en) en k at_) = R := ⟨_, rfl⟩
          have hWr : BudW O wr p first en cn ad cp R := by rw [← hR]; exact HW.out.1
          have hB1 := budW_old hWr (old_drew ho1)
          have hc1 := bud_cell hB1 hko
          obtain ⟨z, hz⟩ : ∃ z, y1.drew.alloc (.cells #[.int .i64 (at_ : Nat)] 3) = z := ⟨_, rfl⟩
          have hoz : Old y1.drew z := by rw [← hz]; exact old_alloc (old_refl _) _
          have hBz := budW_old hB1 hoz
          have hRl : (R o).length ≤ 1048576 := by
            rw [← hR]
            have h1 := runsL_len (allS first en) en o
            have h2 : (beforeL (allS first en) en o at_).length ≤ (runsL (allS first en) en o).length := List.length_filter_le ..
            have := HB.out
            show (beforeL (allS first en) en o at_).length ≤ _
            omega
          obtain ⟨a', c', w9, hrun, hrow, hon, hfr⟩ := rowI_append (hBz.rows o hko) ⟨y1.heap.size, 0, none⟩ at_ 1 (by rw [← hz]; exact news_block y1.drew [vI at_] 3 y1.heap.size rfl) (by omega)
          obtain ⟨L', hL'⟩ : ∃ L', R o ++ [at_] = L' := ⟨_, rfl⟩
          have hLl : L'.length = (R o).length + 1 := by rw [← hL', List.length_append]; rfl
          rw [hL'] at hrow
          have HZ := Lib.hid hz
          have HC0 : Hid (∀ x, Old y1 x → x.cell? ⟨p, 2 + o, none⟩ = some (.slice (ad o) (R o).length (cp o))) := Lib.hid fun x hx => bud_cell (budW_old hWr (old_then ho1 hx)) hko
          have how : Only (fun b => ad o = some ⟨b, 0, none⟩) wr z := ((Only.of_below (old_then (old_drew ho1) hoz)).mono fun _ _ f => f.elim)
          have hpx := keep_only hon (fun e => (hBz.rown o p 0 hko e).2 rfl) hBz.hp
          have HI : Hid ((Builtin.append_ #[54, 54] 54 #[.slice (ad o) (R o).length (cp o), .slice (some ⟨y1.heap.size, 0, none⟩) 1 1]).run Try.prog z = .ok (.slice a' ((R o).length + 1) c') w9 ∧ PutP wr y1 p first en cn ad cp R o a' c' L' w9) := Lib.hid ⟨hrun, hpx, by rw [cell_of hpx, List.getElem?_toArray, budCells_row hko], how.trans hon, hrow⟩
          have HF : Hid (∀ z off, a' = some ⟨z, off, none⟩ → ad o = some ⟨z, 0, none⟩ ∨ wr.heap.size ≤ z) := Lib.hid fun z off e => (hfr z off e).imp id fun h => by have := (old_then (old_drew ho1) hoz).size; omega
          have HL := Lib.hid (And.intro hL' (And.intro hLl (And.intro hstep (And.intro hnext (And.intro hR hT0)))))
          have HWR := Lib.hid hWr
          have hoi : (o : Int) < 10 := by omega
          have hRi : ((R o).length : Int) ≤ 1048576 := by omega
          clear hB1 hoz hBz hrun hrow hon hfr hz how ho1 hL' hLl hstep hnext hR hT0 hWr hpx hG hRl
          go_wp2_with fail
          refine wp_region_met (S := TwoCalls 9 10 (fun x => x = y1.drew) (fun x => x = z) (fun x => PutP wr y1 p first en cn ad cp R o a' c' L' x)) 13 (by kernel_rfl) (by kernel_rfl) (by kernel_rfl) (by decide) (tc_start _ rfl) ?_
          apply walkedM_cons
          · intro l9 wS hz hn hm hS
            have HD := Lib.hid (tc_other 0 (by decide) (by decide) hS)
            clear hS hz hn hm
            go_wp2
            exact ⟨rfl, rfl, HD.out⟩
          · rfl
          (try simp only [Act.put, List.setIfInBounds_toArray, List.set_cons_succ, List.set_cons_zero])
          apply walkedM_cons
          · intro l9 wS hz hn hm hS
            have HD := Lib.hid (tc_other 1 (by decide) (by decide) hS)
            clear hS hz hn hm
            go_wp2
            exact ⟨rfl, rfl, HD.out⟩
          · rfl
          (try simp only [Act.put, List.setIfInBounds_toArray, List.set_cons_succ, List.set_cons_zero])
          apply walkedM_cons
          · intro l9 wS hz hn hm hS
            have HD := Lib.hid (tc_other 2 (by decide) (by decide) hS)
            clear hS hz hn hm
            go_wp2
            exact ⟨rfl, rfl, HD.out⟩
          · rfl
          (try simp only [Act.put, List.setIfInBounds_toArray, List.set_cons_succ, List.set_cons_zero])
          apply walkedM_cons
          · intro l9 wS hz hn hm hS
            have HD := Lib.hid (tc_other 3 (by decide) (by decide) hS)
            clear hS hz hn hm
            go_wp2
            exact ⟨rfl, rfl, HD.out⟩
          · rfl
          (try simp only [Act.put, List.setIfInBounds_toArray, List.set_cons_succ, List.set_cons_zero])
          apply walkedM_cons
          · intro l9 wS hz hn hm hS
            have HD := Lib.hid (tc_other 4 (by decide) (by decide) hS)
            clear hS hz hn hm
            go_wp2
            exact ⟨rfl, rfl, HD.out⟩
          · rfl
          (try simp only [Act.put, List.setIfInBounds_toArray, List.set_cons_succ, List.set_cons_zero])
          apply walkedM_cons
          · intro l9 wS hz hn hm hS
            have HD := Lib.hid (tc_other 5 (by decide) (by decide) hS)
            clear hS hz hn hm
            go_wp2
            exact ⟨rfl, rfl, HD.out⟩
          · rfl
          (try simp only [Act.put, List.setIfInBounds_toArray, List.set_cons_succ, List.set_cons_zero])
          apply walkedM_cons
          · intro l9 wS hz hn hm hS
            have HD := Lib.hid (tc_other 6 (by decide) (by decide) hS)
            clear hS hz hn hm
            go_wp2
            exact ⟨rfl, rfl, HD.out⟩
          · rfl
          (try simp only [Act.put, List.setIfInBounds_toArray, List.set_cons_succ, List.set_cons_zero])
          apply walkedM_cons
          · intro l9 wS hz hn hm hS
            have HD := Lib.hid (tc_other 7 (by decide) (by decide) hS)
            have ck := tc_any (P := fun x => x.cell? ⟨p, 2 + o, none⟩ = some (.slice (ad o) (R o).length (cp o))) hS (fun h => HC0.out _ (by rw [h]; exact old_drew (old_refl _))) (fun h => HC0.out _ (by rw [h, ← HZ.out]; exact old_alloc (old_drew (old_refl _)) _)) (fun h => h.cell)
            clear hS hz hn hm
            go_wp2
            exact ⟨rfl, rfl, HD.out⟩
          · rfl
          (try simp only [Act.put, List.setIfInBounds_toArray, List.set_cons_succ, List.set_cons_zero])
          apply walkedM_cons
          · intro l9 wS hz hn hm hS
            have HD := Lib.hid (tc_other 8 (by decide) (by decide) hS)
            clear hS hz hn hm
            go_wp2
            exact ⟨rfl, rfl, HD.out⟩
          · rfl
          (try simp only [Act.put, List.setIfInBounds_toArray, List.set_cons_succ, List.set_cons_zero])
          apply walkedM_cons
          · intro l9 wS hz hn hm hS
            obtain ⟨rfl, hnext⟩ := tc_first (by decide) (by rw [hz]; decide) hn hS
            have HN := Lib.hid hnext
            have HZ2 := HZ.out
            clear hS hnext hz hn hm
            go_wp2
            exact ⟨rfl, rfl, HN.out _ rfl⟩
          · rfl
          (try simp only [Act.put, List.setIfInBounds_toArray, List.set_cons_succ, List.set_cons_zero])
          apply walkedM_cons
          · intro l9 wS hz hn hm hS
            obtain ⟨rfl, hnext⟩ := tc_second (by decide) (by rw [hz]; decide) (hm _ rfl ⟨9, .data⟩ (by simp) rfl) hn hS
            have HD := Lib.hid (hnext _ HI.out.2)
            have hrun := HI.out.1
            clear hS hnext hz hn hm
            go_wp2_with (at_builtin; refine wpList_append_run rfl _ _ 54 rfl _ _ rfl rfl _ _ hrun ?_; clear hrun)
            exact ⟨rfl, rfl, HD.out⟩
          · rfl
          (try simp only [Act.put, List.setIfInBounds_toArray, List.set_cons_succ, List.set_cons_zero])
          apply walkedM_cons
          · intro l9 wS hz hn hm hS
            have HD := Lib.hid (tc_other 11 (by decide) (by decide) hS)
            clear hS hz hn hm
            go_wp2
            exact ⟨rfl, rfl, HD.out⟩
          · rfl
          (try simp only [Act.put, List.setIfInBounds_toArray, List.set_cons_succ, List.set_cons_zero])
          apply walkedM_cons
          · intro l9 wS hz hn hm hS
            have HD := Lib.hid (tc_other 12 (by decide) (by decide) hS)
            clear hS hz hn hm
            go_wp2
            exact ⟨rfl, rfl, HD.out⟩
          · rfl
          (try simp only [Act.put, List.setIfInBounds_toArray, List.set_cons_succ, List.set_cons_zero])
          apply walkedM_nil
          intro l9 z9 hz hall hS
          have HE := Lib.hid (tc_end (hall 10 (by decide)) hS)
          clear hS hall hz l9
          show wpList _ _ _ [_, _] _ _
          obtain ⟨O', q1, q2, q3⟩ := bud_set HWR.out hko HE.out.blk HE.out.only HE.out.row HF.out
          rw [HL.out.2.1] at q1 q3
          have HQ : Hid (Old w (z9.setCell ⟨p, 2 + o, none⟩ (.slice a' ((R o).length + 1) c')) ∧ ∃ O, BudA p first en cn (fun k => beforeL (allS first en) en k (at_ + T0)) O (z9.setCell ⟨p, 2 + o, none⟩ (.slice a' ((R o).length + 1) c')) ∧ ∀ b, O b → p ≤ b) := Lib.hid ⟨Only.to_below ((Only.of_below HW.out.2.2.1).step q3 (fun b hb h => by have := HW.out.2.2.2.1 b h; rw [← HP.out.1] at this; omega)), O', budA_congr ⟨_, _, q1⟩ (fun k hk => by
            have hs := HL.out.2.2.1 k (by omega)
            rw [HL.out.2.2.2.2.2] at hs
            show _ = beforeL (allS first en) en k (at_ + T0)
            rw [hs, ← HL.out.1, ← HL.out.2.2.2.2.1]
            by_cases hko : k = o
            · subst hko; rw [upd_same, if_pos rfl]
            · rw [upd_ne _ _ hko, if_neg hko, List.append_nil]), fun b hb => by
            rcases q2 b hb with h | h
            · exact HW.out.2.2.2.1 b h
            · have := HW.out.2.2.1.size; rw [HP.out.1] at this; omega⟩
          have hc9 := HE.out.cell
          have hf9 := frozen_of HE.out.blk (2 + o)
          have hat2 : (at_ : Int) + (T0 : Int) ≤ 1048576 := by have := HL.out.2.2.2.1.2.1; rw [HL.out.2.2.2.2.2] at this; have := HB.out; omega
          clear q1 q2 q3 hc1 HC0 HI HF HE
          go_wp2
          try simp only [toLabel]
          refine hM2 _ _ (Met.intro (hJ2 _ _ (by kernel_rfl) ?_ ?_))
          · exact ⟨at_ + T0, by show Value.int .i64 ((at_ : Int) + (T0 : Int)) = _; simp, by rw [← HL.out.2.2.2.2.2]; exact HL.out.2.2.2.1, HQ.out.1, HQ.out.2⟩
          · have := HW.out.2.2.2.2
            rw [H7.out]; show en - (intOf (Value.int .i64 ((at_ : Int) + (T0 : Int)))).toNat < en - (intOf (Value.int .i64 (at_ : Int))).toNat
            simp [intOf]; omega
end
end Go.Proofs.Ytnmccihgiphmjaa
namespace Go.Proofs.Ytnmccihgiphmjaa
set_option linter.unusedVariables false
set_option linter.unusedSimpArgs false
open Go.RowKit
end Go.Proofs.Ytnmccihgiphmjaa
namespace Go.Proofs.Ytnmccihgiphmjaa
set_option linter.unusedVariables false
set_option linter.unusedSimpArgs false
open Go.RowKit
end Go.Proofs.Ytnmccihgiphmjaa
namespace Go.Proofs.Ytnmccihgiphmjaa
set_option linter.unusedVariables false
set_option linter.unusedSimpArgs false
open Go.RowKit
section
variable {w x y : World} {q c n ops : Nat} {ad : Option Addr} {L : List (Nat × Nat)}
end
end Go.Proofs.Ytnmccihgiphmjaa
namespace Go.Proofs.Ytnmccihgiphmjaa
set_option linter.unusedVariables false
set_option linter.unusedSimpArgs false
open Go.RowKit
section
variable {J : Nat} {A B x : World} {l : Array Bool}
end
end Go.Proofs.Ytnmccihgiphmjaa
namespace Go.Proofs.Ytnmccihgiphmjaa
set_option linter.unusedVariables false
set_option linter.unusedSimpArgs false
open Go.RowKit
end Go.Proofs.Ytnmccihgiphmjaa
namespace Go.Proofs.Ytnmccihgiphmjaa
set_option linter.unusedVariables false
set_option linter.unusedSimpArgs false
open Go.RowKit
end Go.Proofs.Ytnmccihgiphmjaa
namespace Go.Proofs.Ytnmccihgiphmjaa
set_option linter.unusedVariables false
set_option linter.unusedSimpArgs false
open Go.RowKit
/-- The frame of 'sized' at its labels. -/
def SizedFrame (s j : Int) (a : Act) : Prop := ∃ u1 u4 u5 u6 u7 u8 u9 u10 u11 u12 u13 : Value, a = { tmps := #[.int .i64 s, u1, .bool false, .int .i64 j, u4, u5, u6, u7, u8, u9, u10, u11, u12, u13], defers := [] }
def SizedJ (s : Int) (W : World) (l k : Nat) (a : Act) (w : World) : Prop :=
  Old W w ∧ ((l = 0 ∧ k = 0 ∧ (s = 1 ∨ s = 2 ∨ s = 4 ∨ s = 8) ∧ ∃ j, SizedFrame s j a) ∨
    (l = 1 ∧ k = 3 ∧ s ≠ 1 ∧ SizedFrame s 1 a) ∨ (l = 1 ∧ k = 2 ∧ s ≠ 1 ∧ s ≠ 2 ∧ SizedFrame s 2 a) ∨ (l = 1 ∧ k = 1 ∧ s ≠ 1 ∧ s ≠ 2 ∧ s ≠ 4 ∧ SizedFrame s 3 a))
set_option maxHeartbeats 1000000 in
theorem sized_calls (s : Int) (w : World) : Calls Try.prog 62 #[.int .i64 s] w (RetB w (.bool (decide (s = 1 ∨ s = 2 ∨ s = 4 ∨ s = 8)))) := by
  go_enter Try.func62, Try.ntmps62
  go_wp2
  refine wp_scope_labels (SizedJ s w) ?_ ?_
  · by_cases h : s = 1
    · go_wp2
      go_step3
      go_wp2
      go_step3
      exact ⟨0, old_refl _, .inl ⟨rfl, rfl, .inl h, _, _, _, _, _, _, _, _, _, _, _, _, rfl⟩⟩
    · go_wp2
      go_step3
      go_wp2
      go_step3
      exact ⟨3, old_refl _, .inr (.inl ⟨rfl, rfl, h, _, _, _, _, _, _, _, _, _, _, _, rfl⟩)⟩
  · rintro l k a x ⟨hO, ⟨rfl, rfl, hs, j, hf⟩ | ⟨rfl, rfl, h1, hf⟩ | ⟨rfl, rfl, h1, h2, hf⟩ | ⟨rfl, rfl, h1, h2, h4, hf⟩⟩
    · obtain ⟨u1, u4, u5, u6, u7, u8, u9, u10, u11, u12, u13, rfl⟩ := hf
      refine ⟨_, rfl, ?_⟩
      have hd : decide (s = 1 ∨ s = 2 ∨ s = 4 ∨ s = 8) = true := decide_eq_true hs
      rw [hd]
      clear hd hs
      go_wp2
      go_ret
      exact ⟨rfl, hO⟩
    · obtain ⟨u1, u4, u5, u6, u7, u8, u9, u10, u11, u12, u13, rfl⟩ := hf
      refine ⟨_, rfl, ?_⟩
      by_cases h : s = 2
      · go_wp2
        go_step3
        exact ⟨0, by omega, hO, .inl ⟨rfl, rfl, .inr (.inl h), _, _, _, _, _, _, _, _, _, _, _, _, rfl⟩⟩
      · go_wp2
        go_step3
        exact ⟨2, by omega, hO, .inr (.inr (.inl ⟨rfl, rfl, h1, h, _, _, _, _, _, _, _, _, _, _, _, rfl⟩))⟩
    · obtain ⟨u1, u4, u5, u6, u7, u8, u9, u10, u11, u12, u13, rfl⟩ := hf
      refine ⟨_, rfl, ?_⟩
      by_cases h : s = 4
      · go_wp2
        go_step3
        exact ⟨0, by omega, hO, .inl ⟨rfl, rfl, .inr (.inr (.inl h)), _, _, _, _, _, _, _, _, _, _, _, _, rfl⟩⟩
      · go_wp2
        go_step3
        exact ⟨1, by omega, hO, .inr (.inr (.inr ⟨rfl, rfl, h1, h2, h, _, _, _, _, _, _, _, _, _, _, _, rfl⟩))⟩
    · obtain ⟨u1, u4, u5, u6, u7, u8, u9, u10, u11, u12, u13, rfl⟩ := hf
      refine ⟨_, rfl, ?_⟩
      by_cases h : s = 8
      · go_wp2
        go_step3
        exact ⟨0, by omega, hO, .inl ⟨rfl, rfl, .inr (.inr (.inr h)), _, _, _, _, _, _, _, _, _, _, _, _, rfl⟩⟩
      · have hd : decide (s = 1 ∨ s = 2 ∨ s = 4 ∨ s = 8) = false := decide_eq_false (by omega)
        rw [hd]
        clear hd
        go_wp2
        go_ret
        exact ⟨rfl, hO⟩
/-- Why no number stands there (0: one does), among n bytes. -/
def checkN (n : Nat) (p s : Int) : Int := if ¬ (s = 1 ∨ s = 2 ∨ s = 4 ∨ s = 8) then 1 else if p % s ≠ 0 then 3 else if p < 0 ∨ (n : Int) < p + s then 2 else 0
theorem checkN_arg {n : Nat} {p s : Int} (h : ¬ (s = 1 ∨ s = 2 ∨ s = 4 ∨ s = 8)) : checkN n p s = 1 := by unfold checkN; rw [if_pos h]
theorem checkN_align {n : Nat} {p s : Int} (h : s = 1 ∨ s = 2 ∨ s = 4 ∨ s = 8) (h2 : p % s ≠ 0) : checkN n p s = 3 := by unfold checkN; rw [if_neg (not_not_intro h), if_pos h2]
theorem checkN_range {n : Nat} {p s : Int} (h : s = 1 ∨ s = 2 ∨ s = 4 ∨ s = 8) (h2 : p % s = 0) (h3 : p < 0 ∨ (n : Int) < p + s) : checkN n p s = 2 := by unfold checkN; rw [if_neg (not_not_intro h), if_neg (not_not_intro h2), if_pos h3]
theorem checkN_ok {n : Nat} {p s : Int} (h : s = 1 ∨ s = 2 ∨ s = 4 ∨ s = 8) (h2 : p % s = 0) (h3 : ¬ (p < 0 ∨ (n : Int) < p + s)) : checkN n p s = 0 := by unfold checkN; rw [if_neg (not_not_intro h), if_neg (not_not_intro h2), if_neg h3]
theorem tmod_zero (p s : Int) : p.tmod s = 0 ↔ p % s = 0 := by
  rw [← Int.dvd_iff_tmod_eq_zero, Int.dvd_iff_emod_eq_zero]
set_option maxHeartbeats 2000000 in
theorem check_calls (ad : Option Addr) (n c : Nat) (p s : Int) (w : World) (hn : n ≤ maxLen) : Calls Try.prog 57 #[.slice ad n c, .int .i64 p, .int .i64 s] w (RetB w (.int .i64 (checkN n p s))) := by
  by_cases hs : s = 1 ∨ s = 2 ∨ s = 4 ∨ s = 8
  · have hd : decide (s = 1 ∨ s = 2 ∨ s = 4 ∨ s = 8) = true := decide_eq_true hs
    have hs0 : s ≠ 0 := by omega
    have hn63 : n ≤ 9223372036854775807 := hn
    by_cases h2 : p % s = 0
    · have h2t := (tmod_zero p s).2 h2
      by_cases h3 : p < 0 ∨ (n : Int) < p + s
      · rw [checkN_range hs h2 h3]
        by_cases h4 : p < 0
        · clear h3
          have HS := Lib.hid hs
          clear hs h2
          go_enter Try.func57, Try.ntmps57
          go_wp2_with fail
          (with_reducible refine (sized_calls s _).mono ?_)
          rw [hd]
          rintro e w1 ⟨rfl, hb1⟩
          go_wp2
          go_ret
          exact ⟨rfl, hb1⟩
        · by_cases h5 : (n : Int) < s
          · clear h3
            have HS := Lib.hid hs
            clear hs h2
            go_enter Try.func57, Try.ntmps57
            go_wp2_with fail
            (with_reducible refine (sized_calls s _).mono ?_)
            rw [hd]
            rintro e w1 ⟨rfl, hb1⟩
            go_wp2
            go_ret
            exact ⟨rfl, hb1⟩
          · have h6 : (n : Int) - s < p := by omega
            have h7 : 1 ≤ s ∧ s ≤ 8 := by omega
            clear h3
            have HS := Lib.hid hs
            clear hs h2
            go_enter Try.func57, Try.ntmps57
            go_wp2_with fail
            (with_reducible refine (sized_calls s _).mono ?_)
            rw [hd]
            rintro e w1 ⟨rfl, hb1⟩
            go_wp2
            go_ret
            exact ⟨rfl, hb1⟩
      · rw [checkN_ok hs h2 h3]
        have h4 : 0 ≤ p := by omega
        have h5 : s ≤ (n : Int) := by omega
        have h6 : p ≤ (n : Int) - s := by omega
        have h7 : 1 ≤ s ∧ s ≤ 8 := by omega
        clear h3
        have HS := Lib.hid hs
        clear hs h2
        go_enter Try.func57, Try.ntmps57
        go_wp2_with fail
        (with_reducible refine (sized_calls s _).mono ?_)
        rw [hd]
        rintro e w1 ⟨rfl, hb1⟩
        go_wp2
        go_ret
        exact ⟨rfl, hb1⟩
    · rw [checkN_align hs h2]
      have h2t : (p.tmod s != 0) = true := by rw [bne_iff_ne, ne_eq, tmod_zero]; exact h2
      have HS := Lib.hid hs
      clear hs h2
      go_enter Try.func57, Try.ntmps57
      go_wp2_with fail
      (with_reducible refine (sized_calls s _).mono ?_)
      rw [hd]
      rintro e w1 ⟨rfl, hb1⟩
      go_wp2
      go_ret
      exact ⟨rfl, hb1⟩
  · have hd : decide (s = 1 ∨ s = 2 ∨ s = 4 ∨ s = 8) = false := decide_eq_false hs
    rw [checkN_arg hs]
    clear hs
    go_enter Try.func57, Try.ntmps57
    go_wp2_with fail
    (with_reducible refine (sized_calls s _).mono ?_)
    rw [hd]
    rintro e w1 ⟨rfl, hb1⟩
    go_wp2
    go_ret
    exact ⟨rfl, hb1⟩
end Go.Proofs.Ytnmccihgiphmjaa
namespace Go.Proofs.Ytnmccihgiphmjaa
set_option linter.unusedVariables false
set_option linter.unusedSimpArgs false
open Go.RowKit
end Go.Proofs.Ytnmccihgiphmjaa
namespace Go.Proofs.Ytnmccihgiphmjaa
set_option linter.unusedVariables false
set_option linter.unusedSimpArgs false
open Go.RowKit
/-- The number that k bytes make, the lowest first. -/
def getN (l : List Nat) (p : Nat) : Nat → Nat
  | 0 => 0
  | k + 1 => getN l p k + l.getD (p + k) 0 * 2 ^ (8 * k)
theorem getN_lt {l : List Nat} (hl : ∀ x ∈ l, x < 256) (p k : Nat) : getN l p k < 2 ^ (8 * k) := by
  induction k with
  | zero => simp [getN]
  | succ k ih =>
    have hx : l.getD (p + k) 0 < 256 := by
      rw [List.getD_eq_getElem?_getD]
      cases e : l[p + k]? with
      | none => simp
      | some x => exact hl x (List.mem_of_getElem? e)
    have e : (2 : Nat) ^ (8 * (k + 1)) = 256 * 2 ^ (8 * k) := by rw [show 8 * (k + 1) = 8 + 8 * k by omega, Nat.pow_add]
    show getN l p k + l.getD (p + k) 0 * 2 ^ (8 * k) < _
    rw [e]
    calc getN l p k + l.getD (p + k) 0 * 2 ^ (8 * k) < 2 ^ (8 * k) + l.getD (p + k) 0 * 2 ^ (8 * k) := by omega
      _ = (l.getD (p + k) 0 + 1) * 2 ^ (8 * k) := by rw [Nat.add_mul, Nat.one_mul, Nat.add_comm]
      _ ≤ 256 * 2 ^ (8 * k) := Nat.mul_le_mul_right _ (by omega)
/-- One byte more. -/
theorem get_step {l : List Nat} (hl : ∀ x ∈ l, x < 256) {p k x : Nat} (hx : l[p + k]? = some x) (hk : k < 8) :
    bits .or .u64 ((getN l p k : Nat) : Int) (IntKind.u64.wrap ((x : Int) * 2 ^ (8 * k))) = (getN l p (k + 1) : Nat) := by
  have h0 : getN l p (k + 1) = getN l p k + x * 2 ^ (8 * k) := by
    show getN l p k + l.getD (p + k) 0 * 2 ^ (8 * k) = _
    rw [List.getD_eq_getElem?_getD, hx]; rfl
  have h1 := getN_lt hl p k
  have h2 := getN_lt hl p (k + 1)
  have h3 : (2 : Nat) ^ (8 * (k + 1)) ≤ 18446744073709551616 := by rw [← two64]; exact Nat.pow_le_pow_right (by decide) (by omega)
  have h4 : IntKind.u64.wrap ((x : Int) * 2 ^ (8 * k)) = ((x * 2 ^ (8 * k) : Nat) : Int) := by
    rw [show (x : Int) * 2 ^ (8 * k) = ((x * 2 ^ (8 * k) : Nat) : Int) by rw [Int.natCast_mul, Int.natCast_pow]; rfl, IntKind.wrap_u64]
    omega
  rw [h4, bits_or_u64_nat _ _ (by omega) (by omega), h0]
  have h5 := Nat.two_pow_add_eq_or_of_lt h1 x
  rw [Nat.or_comm, Nat.mul_comm x, ← h5, Nat.add_comm]
set_option maxHeartbeats 2000000 in
theorem get_fail (ad : Option Addr) (n c : Nat) (p s : Int) (w : World) (hn : n ≤ maxLen) (e : Int) (he : checkN n p s = e) (h0 : e ≠ 0) : Calls Try.prog 56 #[.slice ad n c, .int .i64 p, .int .i64 s] w (RetB w (.tuple #[.int .u64 0, .int .i64 e])) := by
  have hb : (e != 0) = true := bne_iff_ne.2 h0
  go_enter Try.func56, Try.ntmps56
  go_wp2_with fail
  (with_reducible refine (check_calls ad n c p s _ hn).mono ?_)
  rw [he]
  rintro e w1 ⟨rfl, hb1⟩
  go_wp2
  go_ret2
  exact ⟨rfl, hb1⟩
set_option maxHeartbeats 2000000 in
theorem get_ok (ad : Option Addr) (l : List Nat) (c : Nat) (pi si : Int) (p s : Nat) (hp : pi = p) (hs : si = s) (w : World) (hB : Bytes w ad c l) (h0 : checkN l.length p s = 0) (hps : p + s ≤ l.length) (hs1 : 1 ≤ s) (hs8 : s ≤ 8) :
    Calls Try.prog 56 #[.slice ad l.length c, .int .i64 pi, .int .i64 si] w (RetB w (.tuple #[.int .u64 (getN l p s : Nat), .int .i64 0])) := by
  subst hp hs
  have hn : l.length ≤ maxLen := Nat.le_trans hB.1 hB.2.1
  have hn63 : l.length ≤ 9223372036854775807 := hn
  obtain ⟨bb, off, rfl, hcells⟩ := bytes_some hB (by omega)
  go_enter Try.func56, Try.ntmps56
  go_wp2_with fail
  (with_reducible refine (check_calls _ _ c p s _ hn).mono ?_)
  rw [h0]
  rintro e w1 ⟨rfl, hb1⟩
  have hB1 := bytes_old hB hb1
  clear hB h0
  go_wp2
  go_loopw [9, 19] (fun v i wr => ∃ k : Nat, i = .int .i64 k ∧ k ≤ s ∧ v = .int .u64 (getN l p k : Nat) ∧ Old w wr ∧ Old w1 wr) (fun _ i _ => (9 - intOf i).toNat)
  case atStart => exact ⟨0, rfl, by omega, rfl, hb1, old_refl _⟩
  case round =>
    clear hb1
    obtain ⟨k, rfl, hk, rfl, hO, hO1⟩ := hrel
    by_cases hks : k < s
    · obtain ⟨x, bb', off', hx, hx256, e, hbl, hc⟩ := bytes_at (bytes_old hB1 hO1) (p + k) (by omega)
      cases e
      have hst := get_step (bytes_lt hB1) hx (by omega)
      have HB := Lib.hid hB1
      have HC := Lib.hid hcells
      clear hB1 hcells hx
      go_wp2
      go_roundw
      case rel => exact ⟨k + 1, by go_num, by omega, rfl, hO, hO1⟩
      case measure => (simp [intOf]) <;> omega
    · have hks' : k = s := by omega
      subst hks'
      clear hB1 hcells
      go_wp2
      go_ret2
      exact ⟨rfl, hO⟩
end Go.Proofs.Ytnmccihgiphmjaa
namespace Go.Proofs.Ytnmccihgiphmjaa
set_option linter.unusedVariables false
set_option linter.unusedSimpArgs false
open Go.RowKit
/-- Bytes with a number put in. -/
def putL (l : List Nat) (p v : Nat) : Nat → List Nat
  | 0 => l
  | k + 1 => (putL l p v k).set (p + k) (v / 2 ^ (8 * k) % 256)
theorem putL_length (l : List Nat) (p v k : Nat) : (putL l p v k).length = l.length := by
  induction k with
  | zero => rfl
  | succ k ih => rw [putL, List.length_set, ih]
theorem byte_shift (v k : Nat) : IntKind.u8.wrap ((v : Int) / 2 ^ (8 * k)) = ((v / 2 ^ (8 * k) % 256 : Nat) : Int) := by
  rw [show (v : Int) / 2 ^ (8 * k) = ((v / 2 ^ (8 * k) : Nat) : Int) by rw [Int.natCast_ediv, Int.natCast_pow]; rfl, IntKind.wrap_u8]
  omega
/-- A new row of bytes was told. -/
def RetRow (w : World) (e0 : Value) (l : List Nat) (e : Ending) (w' : World) : Prop :=
  ∃ g cap, e = .returned (.tuple #[.slice (some ⟨g, 0, none⟩) l.length cap, e0]) ∧ Row w' w.heap.size g cap l ∧ Old w w'
set_option maxHeartbeats 2000000 in
theorem put_ok (ad : Option Addr) (l : List Nat) (c : Nat) (pi si vi : Int) (p s v : Nat) (hp : pi = p) (hs : si = s) (hv : vi = v) (w : World) (hB : Bytes w ad c l) (h0 : checkN l.length p s = 0) (hps : p + s ≤ l.length) (hs1 : 1 ≤ s) (hs8 : s ≤ 8) (hbig : l.length ≤ 1000000) :
    Calls Try.prog 42 #[.slice ad l.length c, .int .i64 pi, .int .i64 si, .int .u64 vi] w (RetRow w (.int .i64 0) (putL l p v s)) := by
  subst hp hs hv
  have hn : l.length ≤ maxLen := Nat.le_trans hB.1 hB.2.1
  have hn63 : l.length ≤ 9223372036854775807 := hn
  obtain ⟨bb, off, rfl, hcells⟩ := bytes_some hB (by omega)
  clear hcells
  obtain ⟨i0, hi, hz0, hz1, hz2⟩ := info_parts u8_info
  go_enter Try.func42, Try.ntmps42
  go_wp2_with fail
  (with_reducible refine (check_calls _ _ c p s _ hn).mono ?_)
  rw [h0]
  rintro e w1 ⟨rfl, hb1⟩
  have hB1 := bytes_old hB hb1
  clear hB h0
  go_wp2_with (at_builtin; refine wpList_append_own _ rfl _ _ 84 rfl w.heap.size 5 i0 (.int .u8 0) 1 1 Try.underlying84 hi hz0 hz1 hz2 rfl (by decide) _ _ [] rfl (World.ownsRow_nil _ _ _ _) ⟨bb, off, none⟩ l.length c (l.map vb) rfl (by simp) (bytes_news hB1) (vb_one l) (by omega) (by omega) hb1.size ?_; intro v' w2 hown hgrow h9; clear h9)
  simp only [Nat.zero_add, List.nil_append] at hown
  obtain ⟨g, cap, rfl, hrow⟩ := row_of hown rfl (by omega) (bytes_lt hB1)
  have hO2 := old_grown hb1 hgrow (fun g e => by cases e)
  clear hown hgrow hB1 hb1
  go_loopw [12, 23] (fun _ i wr => ∃ k : Nat, i = .int .i64 k ∧ k ≤ s ∧ Row wr w.heap.size g cap (putL l p v k) ∧ Old w wr) (fun _ i _ => (9 - intOf i).toNat)
  case atStart => exact ⟨0, rfl, by omega, hrow, hO2⟩
  case round =>
    clear hrow hO2
    obtain ⟨k, rfl, hk, hrow, hO⟩ := hrel
    by_cases hks : k < s
    · have hbyte := byte_shift v k
      have hb256 : v / 2 ^ (8 * k) % 256 < 256 := Nat.mod_lt _ (by decide)
      have hstep : putL l p v (k + 1) = (putL l p v k).set (p + k) (v / 2 ^ (8 * k) % 256) := rfl
      generalize v / 2 ^ (8 * k) % 256 = b at *
      have hlen := putL_length l p v k
      obtain ⟨x, hx⟩ : ∃ x, (putL l p v k)[p + k]? = some x := ⟨_, List.getElem?_eq_getElem (by omega)⟩
      have ck := row_cell hrow hx
      have fk := row_frozen hrow (p + k)
      have hnew := row_set hrow (p + k) b hb256
      have hold := old_set hO (row_parts hrow).1 (p + k) (.int .u8 b)
      rw [← hstep] at hnew
      generalize hW : wr.setCell ⟨g, p + k, none⟩ (.int .u8 b) = W at *
      have HN := Lib.hid hnew
      clear hnew hrow hx hstep
      go_wp2
      go_roundw
      case rel => exact ⟨k + 1, by go_num, by omega, HN.out, hold⟩
      case measure => (simp [intOf]) <;> omega
    · obtain rfl : k = s := by omega
      have HN := Lib.hid hrow
      clear hrow
      go_wp2
      go_ret2
      exact ⟨g, cap, by rw [putL_length]; rfl, HN.out, hO⟩
end Go.Proofs.Ytnmccihgiphmjaa
