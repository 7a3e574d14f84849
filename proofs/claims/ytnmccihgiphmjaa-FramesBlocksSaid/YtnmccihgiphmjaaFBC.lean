/- Texts on the way to the statement FramesBlocks, several in one file: each part says what it is. -/
import Derived.Test.YtnmccihgiphmjaaFBA
import Derived.Test.YtnmccihgiphmjaaFBB
import Derived.Laws.OwnMore
import Derived.ArgAppend
import Derived.MapKept
import Derived.WideLaws
import Derived.Carry
namespace Go.Proofs.Ytnmccihgiphmjaa
set_option linter.unusedVariables false
set_option linter.unusedSimpArgs false
open Go.RowKit
section
variable {O : Nat → Prop} {w x y : World} {p first en free : Nat} {S : Nat → Bool}
set_option maxHeartbeats 8000000 in
set_option maxRecDepth 100000 in
theorem budTake_calls (h : BudA p first en (cntS S en) (runsF S en) O w) (hS : ∀ x, S x = true → first ≤ x ∧ x < en) (order : Nat) (ho : order ≤ 9) {k f : Nat} (hf : Finds S en order k f) :
    Calls Try.prog 49 #[.pointer (some ⟨p, 0, none⟩), .int .i64 (order : Nat)] w (RetBud w O p first en (cntS (lessS S f (2 ^ order)) en) (runsF (lessS S f (2 ^ order)) en) (.tuple #[.int .i64 (f : Nat), .int .i64 0])) := by
  have hbnd := budS_bnd h
  have hk9 := hf.k9
  have hle := hf.le
  have hcnt := cntS_lessIn (S := S) (f := f) (n := 2 ^ order) (M := en) (hf.free hf.le) (hf.fits (fun x hx => (hS x hx).2) hf.le)
  obtain ⟨q, hq1, hq2, hq3⟩ := hf.run
  have hfen : f < en := by
    have := hf.fits (fun x hx => (hS x hx).2) (Nat.zero_le k)
    have := Nat.two_pow_pos 0
    omega
  have o0 : ¬ (order : Int) < 0 := by omega
  have o9 : (order : Int) ≤ 9 := by omega
  have H := Lib.hid (And.intro h hf)
  have HQ := Lib.hid (And.intro hq1 (And.intro hq2 hq3))
  have HS := Lib.hid hS
  have HC := Lib.hid hcnt
  have HB := Lib.hid (And.intro hbnd (And.intro hfen (And.intro hk9 hle)))
  clear h hS hf hcnt hq1 hq2 hq3 hbnd hfen hk9 hle ho
  go_enter Try.func49, Try.ntmps49
  go_wp2
  refine wp_scopeF 0 [false, false, false, false, false, false, true, true, true, true, true, true, true, true, true, true, true, true, true, true, true, true, true, true, true, true, true, true, true, true, true, true, true, true, true, true, true, true, true, true, true, true, true, true, true, true, true, true, true, true, true, true, true, true, true] (fun kk f2 x => f2 6 = .int .i64 ((order + kk : Nat) : Int) ∧ f2 7 = .int .i64 (f : Nat) ∧ order + kk ≤ k ∧ ∃ O', BudA p first en (cntS S en) (runsF (lessS S f (2 ^ (order + kk))) en) O' x ∧ (∀ b, O' b → O b ∨ w.heap.size ≤ b) ∧ Only O w x) _ rfl ?pass ?first
  case first =>
    intro J hp
    obtain ⟨ad, cp, hW⟩ := H.out.1
    have HW := Lib.hid hW
    clear hW
    go_wp2
    refine wp_loopF [false, false, false, false, false, false, true, false, false, false, false, false, false, false, false, true, true, true, true, true, true, true, true, true, true, true, true, true, true] (fun f2 wx => ∃ i : Nat, order ≤ i ∧ i ≤ k ∧ f2 6 = .int .i64 (i : Nat) ∧ w = wx) (fun f2 => k - (intOf (f2 6)).toNat) ?start1 ?round1
    case start1 => exact ⟨order, Nat.le_refl _, HB.out.2.2.2, rfl, rfl⟩
    case round1 =>
      intro f2 wr hrel J2 K2 hJ2 hM2
      dsimp only [mergeA, mergeL, Nat.reduceAdd]
      obtain ⟨i, hi1, hi2, h6, rfl⟩ := hrel
      rw [h6]
      have H6 := Lib.hid h6
      clear h6
      have hi9 : (i : Int) ≤ 9 := by have := HB.out; omega
      have hi10 : i < 10 := by omega
      have hcell := bud_cell HW.out hi10
      by_cases hik : i = k
      · obtain ⟨t, ht⟩ := H.out.2.head
        have hrow := HW.out.rows i hi10
        have hrk : runsF S en i = f :: t := by rw [hik]; exact ht
        rw [hrk, List.length_cons] at hcell
        rw [hrk] at hrow
        have hne : (((t.length + 1 : Nat) : Int) == 0) = false := by rw [beq_eq_false_iff_ne]; omega
        have ht63 : t.length + 1 ≤ 9223372036854775807 := by
          have := runsL_len S en i
          have h9 : (runsL S en i).length = t.length + 1 := by rw [show runsL S en i = f :: t from hrk]; rfl
          have := HB.out; omega
        have hcall := budCut_set H.out.1 k q HQ.out.2.2 HB.out.2.2.1 HQ.out.2.1
        rw [← HQ.out.1] at hcall
        subst hik
        rcases rowI_cases hrow with ⟨_, _, e0⟩ | ⟨g, cur, ea, _, hlc, hcm, _, _⟩
        · cases e0
        have hc0 := rowI_cell hrow ea (j := 0) (u := f) rfl
        rw [List.length_cons] at hlc
        rw [ea] at hcell
        have hcm63 : cp i ≤ 9223372036854775807 := hcm
        have hk10 : ((i : Int) == 10) = false := by rw [beq_eq_false_iff_ne]; omega
        have HI := Lib.hid (And.intro hi1 (And.intro hi2 H6.out))
        clear hrow hrk ht hi1 hi2 ea hcm
        go_wp2_with fail
        (with_reducible refine hcall.mono ?_)
        rintro e y1 ⟨rfl, O', q1, q2, q3⟩
        have HY : Hid (∃ O', BudA p first en (cntS S en) (runsF (lessS S f (2 ^ (order + (i - order)))) en) O' y1 ∧ (∀ b, O' b → O b ∨ w.heap.size ≤ b) ∧ Only O w y1) := Lib.hid ⟨O', by rw [show order + (i - order) = i by have := HI.out.1; omega]; exact q1, q2, q3⟩
        clear hcall q1 q2 q3 hcell hc0 HW
        go_wp2
        go_step3
        rename_i K9 hK9
        refine hK9 _ _ (hp (i - order) _ _ (by kernel_rfl) ?_)
        refine ⟨?_, rfl, ?_, HY.out⟩
        · show Value.int .i64 ((i : Nat) : Int) = .int .i64 ((order + (i - order) : Nat) : Int)
          rw [show order + (i - order) = i by have := HI.out.1; omega]
        · have := HI.out.1; have := HI.out.2.1; omega
      · rw [show runsF S en i = [] from H.out.2.least i hi1 (by omega), List.length_nil] at hcell
        have HI := Lib.hid (And.intro hi1 (show i < k by omega))
        clear hi1 hi2 hik
        go_wp2
        refine Met.intro (hJ2 _ _ (by kernel_rfl) ?_ ?_)
        · exact ⟨i + 1, by have := HI.out; omega, HI.out.2, by show Value.int .i64 ((i : Int) + 1) = _; simp, rfl⟩
        · have := HI.out.2
          rw [H6.out]; show k - (intOf (Value.int .i64 ((i : Int) + 1))).toNat < k - (intOf (Value.int .i64 (i : Int))).toNat
          simp [intOf]; omega
  case pass =>
    rintro kk f2 x ⟨h6, h7, hk, O', q1, q2, q3⟩ J hJ
    dsimp only [mergeA, mergeL, Nat.reduceAdd]
    rw [h6, h7]
    clear h6 h7
    cases kk with
    | zero =>
      rw [Nat.add_zero] at *
      have HX := Lib.hid (And.intro q2 q3)
      obtain ⟨ad, cp, hW⟩ := q1
      have hWd := budW_old hW (old_drew (old_refl x))
      obtain ⟨T, hT, hw2, hT1, hT2⟩ := pow_ten (show order < 10 by have := HB.out; omega)
      obtain ⟨c', hc'⟩ : ∃ c', cntS (lessS S f (2 ^ order)) en = c' := ⟨_, rfl⟩
      obtain ⟨cc, hcc⟩ : ∃ cc, cntS S en = cc := ⟨_, rfl⟩
      have hput := (bud_free_put hWd c')
      obtain ⟨-, -, c12⟩ := bud_first hWd
      have hfz := frozen_of hWd.hp 12
      have hCC := HC.out
      rw [hc', hcc, hT] at hCC
      rw [hcc] at c12
      have hsub : (cc : Int) - (T : Int) = (c' : Int) := by omega
      have hccb : cc ≤ 2097152 := by
        rw [← hcc]
        have := List.countP_le_length (p := S) (l := List.range en)
        rw [List.length_range] at this
        have := HB.out
        unfold cntS
        omega
      rw [hT] at hput
      have HT3 := Lib.hid (And.intro hT hc')
      have HP : Hid (∃ O', BudA p first en c' (runsF (lessS S f T) en) O' (x.drew.setCell ⟨p, 12, none⟩ (.int .i64 (c' : Nat))) ∧ (∀ b, O' b → O b ∨ w.heap.size ≤ b) ∧ Only O w (x.drew.setCell ⟨p, 12, none⟩ (.int .i64 (c' : Nat)))) := Lib.hid ⟨O', ⟨ad, cp, hput.1⟩, HX.out.1, HX.out.2.drew.step hput.2 (fun b hb h => (HX.out.1 b h).elim id (fun h' => by omega))⟩
      clear hput q2 q3 hW hWd hT hc' hcc hCC hk HX
      go_wp2_with fail
      refine wp_region_tail (S := Is x.drew) 7 (by kernel_rfl) (by kernel_rfl) (by kernel_rfl) (by decide) rfl ?_
      repeat (apply walked_cons; (first | exact gives_and rfl rfl rfl rfl | exact gives_or rfl rfl rfl rfl | (focus (intro wS hS; cases hS; go_wp2; exact ⟨rfl, rfl, rfl⟩; done)) | (focus (apply gives_guard; (focus (first | exact wanted_yes rfl rfl rfl | exact wanted_no rfl rfl rfl | exact wanted_yes2 rfl rfl rfl | exact wanted_no2 rfl rfl rfl)); (focus (intro hx9; (try simp only [Bool.not_eq_true', Bool.and_eq_true, Bool.not_not] at hx9); (try obtain ⟨hx9, hy9⟩ := hx9); (try subst hy9); (try subst hx9); (first | exact gives_and rfl rfl rfl rfl | exact gives_or rfl rfl rfl rfl | (intro wS hS; cases hS; go_wp2; exact ⟨rfl, rfl, rfl⟩; done))))))); rfl; (try simp only [Act.put, List.setIfInBounds_toArray, List.set_cons_succ, List.set_cons_zero]))
      apply walked_nil
      intro wS hS
      cases hS
      show wpList _ _ _ [_, _, _] _ _
      go_wp2
      simp only [toLabel]
      go_ret2
      refine ⟨rfl, ?_⟩
      rw [HT3.out.2, HT3.out.1]
      exact HP.out
    | succ j =>
      have hj9 : order + j < 9 := by have := HB.out; omega
      obtain ⟨l, m, hpl, hpo⟩ : ∃ l m, PartL (runsL (lessS S f (2 ^ (order + j))) en (order + j)) (runsL (lessS S f (2 ^ (order + (j + 1)))) en (order + j)) (f + 2 ^ (order + j)) l m ∧ ∀ i, i ≤ 9 → i ≠ order + j → runsL (lessS S f (2 ^ (order + j))) en i = runsL (lessS S f (2 ^ (order + (j + 1)))) en i := by
        have hh := halve_put (S := S) (M := en) (k := order + j) (f := f) (H.out.2.al hk) (H.out.2.free hk) hj9 (H.out.2.fits (fun x hx => (HS.out x hx).2) hk)
        obtain ⟨⟨l, m, h1⟩, h2⟩ := hh
        exact ⟨l, m, h1, h2⟩
      have hcall := budPut_set q1 (order + j) (f + 2 ^ (order + j)) (by omega) hpl hpo
      obtain ⟨T, hT, hw2, hT1, hT2⟩ := pow_ten (show order + j < 10 by omega)
      obtain ⟨K, hK⟩ : ∃ K, order + j = K := ⟨_, rfl⟩
      rw [hK] at hT hw2 hcall
      rw [hT] at hcall
      have e1 : ((order + (j + 1) : Nat) : Int) - 1 = (K : Int) := by omega
      have e2 : (order : Int) < ((order + (j + 1) : Nat) : Int) := by omega
      obtain ⟨K1, hK1⟩ : ∃ K1, order + (j + 1) = K1 := ⟨_, rfl⟩
      have hK19 : (K1 : Int) ≤ 9 := by omega
      rw [hK1] at e1 e2 ⊢
      have hK9 : (K : Int) ≤ 9 := by omega
      have hfm : (f : Int) ≤ 1048576 := by have := HB.out; omega
      have e3 : ((f + T : Nat) : Int) = (f : Int) + (T : Int) := by omega
      rw [e3] at hcall
      have HX := Lib.hid (And.intro q2 (And.intro q3 (And.intro hK (And.intro hT hk))))
      clear q1 q2 q3 hpl hpo hK hT hK1 hk hj9 e3
      go_wp2_with fail
      (with_reducible refine hcall.mono ?_)
      rintro e y1 ⟨rfl, O2, r1, r2, r3⟩
      have HY : Hid (∃ O', BudA p first en (cntS S en) (runsF (lessS S f (2 ^ (order + j))) en) O' y1 ∧ (∀ b, O' b → O b ∨ w.heap.size ≤ b) ∧ Only O w y1) := Lib.hid ⟨O2, by rw [HX.out.2.2.1, HX.out.2.2.2.1]; rw [← HX.out.2.2.2.1] at r1 ⊢; exact r1, fun b hb => by
        rcases r2 b hb with h | h
        · exact HX.out.1 b h
        · have := HX.out.2.1.size; exact .inr (by omega), HX.out.2.1.step r3 (fun b hb h => (HX.out.1 b h).elim id (fun h' => by omega))⟩
      clear hcall r1 r2 r3
      go_wp2
      go_step3
      refine ⟨rfl, hJ j _ _ (by omega) (by kernel_rfl) ?_⟩
      refine ⟨?_, rfl, ?_, HY.out⟩
      · show Value.int .i64 ((K : Nat) : Int) = _
        rw [HX.out.2.2.1]
      · have := HX.out.2.2.2.2; omega
end
end Go.Proofs.Ytnmccihgiphmjaa
namespace Go.Proofs.Ytnmccihgiphmjaa
set_option linter.unusedVariables false
set_option linter.unusedSimpArgs false
open Go.RowKit
section
variable {O : Nat → Prop} {w x y : World} {p first en free : Nat} {S : Nat → Bool}
theorem cntS_le (S : Nat → Bool) (M : Nat) : cntS S M ≤ M := by
  have := List.countP_le_length (p := S) (l := List.range M)
  rw [List.length_range] at this
  exact this
/-- What Give holds at its label. -/
structure GiveS (S Sj : Nat → Bool) (f b j : Nat) : Prop where
  apart : ∀ x, x / 2 ^ j = b → Sj x = false
  same : ∀ x, moreS Sj (b * 2 ^ j) (2 ^ j) x = true ↔ moreS S f 1 x = true
theorem giveS_start {f : Nat} (h : S f = false) : GiveS S S f f 0 := by
  refine ⟨fun x hx => ?_, fun x => ?_⟩
  · rw [Nat.pow_zero, Nat.div_one] at hx; rw [hx]; exact h
  · rw [Nat.pow_zero, Nat.mul_one]
theorem giveS_step {Sj : Nat → Bool} {f b j : Nat} (h : GiveS S Sj f b j) (hr : Run Sj j (budN b)) : GiveS S (lessS Sj (budN b * 2 ^ j) (2 ^ j)) f (b / 2) (j + 1) := by
  refine ⟨join_apart h.apart, fun x => ?_⟩
  rw [join_step, ← h.same]
  constructor
  · rintro (h1 | h1)
    · exact h1
    · exact moreS_iff.2 (.inl (hr.1 x h1))
  · exact .inl
theorem giveS_end {Sj : Nat → Bool} {f b j : Nat} (h : GiveS S Sj f b j) : moreS Sj (b * 2 ^ j) (2 ^ j) = moreS S f 1 := funext fun x => Bool.eq_iff_iff.2 (h.same x)
theorem giveS_first {Sj : Nat → Bool} {f b j : Nat} (h : GiveS S Sj f b j) : moreS S f 1 (b * 2 ^ j) = true := (h.same _).1 (moreS_iff.2 (.inr ⟨Nat.le_refl _, by have := Nat.two_pow_pos j; omega⟩))
set_option maxHeartbeats 8000000 in
set_option maxRecDepth 100000 in
theorem budGive_calls (h : BudA p first en (cntS S en) (runsF S en) O w) (hS : ∀ x, S x = true → first ≤ x ∧ x < en) (f : Nat) (hf : first ≤ f ∧ f < en) (hno : S f = false) :
    Calls Try.prog 36 #[.pointer (some ⟨p, 0, none⟩), .int .i64 (f : Nat), .int .i64 0] w (RetBud w O p first en (cntS (moreS S f 1) en) (runsF (moreS S f 1) en) (.int .i64 0)) := by
  have hbnd := budS_bnd h
  have hcnt : cntS (moreS S f 1) en = cntS S en + 1 := cntS_moreIn (fun x h1 h2 => by rw [show x = f by omega]; exact hno) (by omega)
  have hhas := fun x (hx : Old w x) => budHas_set ((loc_bud ..).keep h (Only.of_below hx) (fun _ _ f => f)) hS f
  rw [hno] at hhas
  have hcle := cntS_le S en
  have H := Lib.hid h
  have HH := Lib.hid hhas
  have HS := Lib.hid (And.intro hS (And.intro hf hno))
  have HC := Lib.hid (And.intro hcnt hcle)
  have HB := Lib.hid hbnd
  have f0 : (0 : Int) ≤ f := by omega
  have f1 : ¬ (f : Int) < first := by omega
  have f1n : decide (f < first) = false := decide_eq_false (by omega)
  have f2' : decide ((en : Int) - 1 < (f : Int)) = false := decide_eq_false (by omega)
  have f3 : (f : Int) ≤ 1048576 := by omega
  have en1 : (en : Int) ≤ 1048576 := by omega
  have en0 : (1 : Int) ≤ en := by omega
  clear hS hno hcnt hhas hcle hbnd hf h
  go_enter Try.func36, Try.ntmps36
  go_wp2
  refine wp_scopeF 0 [false, true, true, false, false, false, false, true, true, true, true, true, true, true, true, true, true, true, true, true, true, true, true, true, true, true, true, true, true, true, true, true, true, true, true, true, true, true, true, true, true, true, true, true, true, true, true, true, true, true, true, true, true, true, true, true, true, true, true, true, true, true, true, true, true, true, true, true, true, true, true, true, true, true, true, true, true, true] (fun kk f2 x => ∃ (j b : Nat) (Sj : Nat → Bool), f2 1 = .int .i64 ((b * 2 ^ j : Nat) : Int) ∧ f2 2 = .int .i64 (j : Nat) ∧ j + kk = 9 ∧ GiveS S Sj f b j ∧ ∃ O', BudA p first en (cntS S en + 1) (runsF Sj en) O' x ∧ (∀ b, O' b → O b ∨ w.heap.size ≤ b) ∧ Only O w x) _ rfl ?pass ?first
  case first =>
    intro J hp
    obtain ⟨ad, cp, hW⟩ := H.out
    have hWd := budW_old hW (old_drew (old_refl w))
    obtain ⟨c0, c1, -⟩ := bud_first hWd
    have HW := Lib.hid hW
    clear hW hWd
    go_wp2_with fail
    refine wp_region_walked (S := Is w.drew) (by kernel_rfl) (by kernel_rfl) rfl ?_
    repeat (apply walked_cons; (first | exact gives_and rfl rfl rfl rfl | exact gives_or rfl rfl rfl rfl | (focus (intro wS hS; cases hS; go_wp2; exact ⟨rfl, rfl, rfl⟩; done)) | (focus (apply gives_guard; (focus (first | exact wanted_yes rfl rfl rfl | exact wanted_no rfl rfl rfl | exact wanted_yes2 rfl rfl rfl | exact wanted_no2 rfl rfl rfl)); (focus (intro hx9; (try simp only [Bool.not_eq_true', Bool.and_eq_true, Bool.not_not] at hx9); (try obtain ⟨hx9, hy9⟩ := hx9); (try subst hy9); (try subst hx9); (first | exact gives_and rfl rfl rfl rfl | exact gives_or rfl rfl rfl rfl | (intro wS hS; cases hS; go_wp2; exact ⟨rfl, rfl, rfl⟩; done))))))); rfl; (try simp only [Act.put, List.setIfInBounds_toArray, List.set_cons_succ, List.set_cons_zero]))
    apply walked_nil
    intro wS hS
    cases hS
    clear c0 c1
    go_wp2
    refine wp_loopF [false, false, false, false, false, false, false, true, false, false, false, false, false, false, false, false, false, false, false, false, false, false, false, false, false, false, false, false, false, false, false, false, false, false, false, false, false, false, false, false, false, false, true, true, true, true, true, true, true, true, true] (fun f2 wx => ∃ i : Nat, i ≤ 1 ∧ f2 42 = .int .i64 (i : Nat) ∧ Old w wx) (fun f2 => 1 - (intOf (f2 42)).toNat) ?start1 ?round1
    case start1 => exact ⟨0, by omega, rfl, old_drew (old_refl _)⟩
    case round1 =>
      intro f2 wr hrel J2 K2 hJ2 hM2
      dsimp only [mergeA, mergeL, Nat.reduceAdd]
      obtain ⟨i, hi, h42, hO⟩ := hrel
      rw [h42]
      have H42 := Lib.hid h42
      clear h42
      by_cases hi0 : i = 0
      · subst hi0
        have hc := HH.out wr hO
        have HO := Lib.hid hO
        clear hO hi
        go_wp2_with fail
        (with_reducible refine hc.mono ?_)
        rintro e y1 ⟨rfl, ho1⟩
        have HO1 := Lib.hid (old_then HO.out ho1)
        clear hc ho1
        go_wp2
        refine Met.intro (hJ2 _ _ (by kernel_rfl) ?_ ?_)
        · exact ⟨1, Nat.le_refl _, rfl, HO1.out⟩
        · rw [H42.out]; exact (by decide : (0 : Nat) < 1)
      · obtain rfl : i = 1 := by omega
        have HO := Lib.hid hO
        obtain ⟨d0, d1, d12⟩ := bud_first (budW_old HW.out (old_drew hO))
        have hfz := frozen_of (budW_old HW.out (old_drew hO)).hp 12
        have hput := bud_free_put (budW_old HW.out (old_drew hO)) (cntS S en + 1)
        obtain ⟨cc, hcc⟩ : ∃ cc, cntS S en = cc := ⟨_, rfl⟩
        have hccb : (cc : Int) ≤ 2097152 := by have := HC.out.2; have := HB.out; omega
        rw [hcc] at d12 hput
        have HP : Hid (∃ O', BudA p first en (cc + 1) (runsF S en) O' (wr.drew.setCell ⟨p, 12, none⟩ (.int .i64 ((cc : Int) + 1))) ∧ (∀ b, O' b → O b ∨ w.heap.size ≤ b) ∧ Only O w (wr.drew.setCell ⟨p, 12, none⟩ (.int .i64 ((cc : Int) + 1)))) := Lib.hid ⟨O, ⟨ad, cp, hput.1⟩, fun b hb => .inl hb, ((Only.of_below (old_drew hO)).mono fun _ _ f => f.elim).trans hput.2⟩
        have HCC := Lib.hid hcc
        clear hO hi hi0 hput d0 d1 hcc
        go_wp2_with fail
        refine wp_region_tail (S := Is wr.drew) 7 (by kernel_rfl) (by kernel_rfl) (by kernel_rfl) (by decide) rfl ?_
        repeat (apply walked_cons; (first | exact gives_and rfl rfl rfl rfl | exact gives_or rfl rfl rfl rfl | (focus (intro wS hS; cases hS; go_wp2; exact ⟨rfl, rfl, rfl⟩; done)) | (focus (apply gives_guard; (focus (first | exact wanted_yes rfl rfl rfl | exact wanted_no rfl rfl rfl | exact wanted_yes2 rfl rfl rfl | exact wanted_no2 rfl rfl rfl)); (focus (intro hx9; (try simp only [Bool.not_eq_true', Bool.and_eq_true, Bool.not_not] at hx9); (try obtain ⟨hx9, hy9⟩ := hx9); (try subst hy9); (try subst hx9); (first | exact gives_and rfl rfl rfl rfl | exact gives_or rfl rfl rfl rfl | (intro wS hS; cases hS; go_wp2; exact ⟨rfl, rfl, rfl⟩; done))))))); rfl; (try simp only [Act.put, List.setIfInBounds_toArray, List.set_cons_succ, List.set_cons_zero]))
        apply walked_nil
        intro wS hS
        cases hS
        show wpList _ _ _ [_, _, _] _ _
        go_wp2
        go_step3
        rename_i K9 hK9
        refine hK9 _ _ (hp 9 _ _ (by kernel_rfl) ?_)
        refine ⟨0, f, S, ?_, rfl, rfl, giveS_start HS.out.2.2, by rw [HCC.out]; exact HP.out⟩
        show Value.int .i64 ((f : Nat) : Int) = .int .i64 ((f * 2 ^ 0 : Nat) : Int)
        rw [Nat.pow_zero, Nat.mul_one]
  case pass =>
    rintro kk f2 x ⟨j, b, Sj, h1, h2, hjk, hG, O', q1, q2, q3⟩ J hJ
    dsimp only [mergeA, mergeL, Nat.reduceAdd]
    rw [h1, h2]
    clear h1 h2
    have hsub : ∀ x, moreS S f 1 x = true → first ≤ x ∧ x < en := fun x hx => by
      rcases moreS_iff.1 hx with h | h
      · exact HS.out.1 x h
      · have := HS.out.2.1; omega
    have hbx := hsub _ (giveS_first hG)
    obtain ⟨T, hT, hw2, hT1, hT2⟩ := pow_ten (show j < 10 by omega)
    have hbb : b < en := by
      rcases Nat.eq_zero_or_pos b with h | h
      · omega
      · have : b * 1 ≤ b * 2 ^ j := Nat.mul_le_mul_left b (Nat.two_pow_pos j); omega
    have hbud : budN b ≤ b + 1 := by unfold budN; split <;> omega
    have hbT : budN b * T ≤ b * T + T := by have := Nat.mul_le_mul_right T hbud; rw [Nat.add_mul, Nat.one_mul] at this; exact this
    have hxor := bits_xor_i64 (b * 2 ^ j) (2 ^ j) (by have := HB.out; omega) (by omega)
    rw [bud_xor] at hxor
    obtain ⟨fb, hfb⟩ : ∃ fb, b * 2 ^ j = fb := ⟨_, rfl⟩
    obtain ⟨fc, hfc⟩ : ∃ fc, budN b * 2 ^ j = fc := ⟨_, rfl⟩
    have hfbm : (fb : Int) ≤ 1048576 := by have := HB.out; omega
    have HX := Lib.hid (And.intro q2 q3)
    by_cases hj9 : j = 9
    · obtain ⟨⟨l, m, hpl⟩, hpo⟩ := join_put (M := en) hG.apart (.inl hj9) (by omega) hbb
      have hcall := budPut_set q1 j (b * 2 ^ j) (by omega) hpl hpo
      rw [giveS_end hG, hfb] at hcall
      have HGo := Lib.hid (And.intro hcall hjk)
      rw [hfb]
      subst hj9
      clear q1 q2 q3 hG hcall hjk hpl hpo hxor hsub hbx hbT hT hfc hfb hbb hbud
      have hcall : Calls Try.prog 52 #[.pointer (some ⟨p, 0, none⟩), .int .i64 (fb : Nat), .int .i64 9] x _ := HGo.out.1
      go_wp2_with fail
      (with_reducible refine hcall.mono ?_)
      rintro e y1 ⟨rfl, O2, r1, r2, r3⟩
      have HY : Hid (∃ O', BudA p first en (cntS (moreS S f 1) en) (runsF (moreS S f 1) en) O' y1 ∧ (∀ b, O' b → O b ∨ w.heap.size ≤ b) ∧ Only O w y1) := Lib.hid ⟨O2, by rw [HC.out.1]; exact r1, fun b hb => by
        rcases r2 b hb with h | h
        · exact HX.out.1 b h
        · have := HX.out.2.size; exact .inr (by omega), HX.out.2.step r3 (fun b hb h => (HX.out.1 b h).elim id (fun h' => by omega))⟩
      clear hcall r1 r2 r3 HGo
      go_wp2
      simp only [toLabel]
      go_ret
      exact ⟨rfl, HY.out⟩
    have hj9' : j < 9 := by omega
    have hjn : (j : Int) + 1 < 10 := by omega
    by_cases hr : Run Sj j (budN b)
    · have hbn : budN b < en := by
        have := (hsub _ ((hG.same _).1 (moreS_iff.2 (.inl (hr.1 (budN b * 2 ^ j) (first_in j _)))))).2
        rcases Nat.eq_zero_or_pos (budN b) with h | h
        · omega
        · have : budN b * 1 ≤ budN b * 2 ^ j := Nat.mul_le_mul_left _ (Nat.two_pow_pos j); omega
      have hcall := budCut_set q1 j (budN b) hr (by omega) hbn
      have hG2 := giveS_step hG hr
      have hless := bits_andNot_i64 (b * 2 ^ j) (2 ^ j) (by have := HB.out; omega) (by omega)
      rw [lessN_up] at hless
      rw [hfb, hfc, hT] at hxor
      rw [hfc] at hcall hG2
      rw [hfb, hT] at hless
      obtain ⟨fd, hfd⟩ : ∃ fd, b / 2 * 2 ^ (j + 1) = fd := ⟨_, rfl⟩
      rw [hfd] at hless
      rw [hfb]
      have HGo := Lib.hid (And.intro hcall (And.intro hG2 (And.intro hfd hjk)))
      clear q1 q2 q3 hG hcall hjk hsub hbx hbT hfc hfb hbb hbud hj9 hr hbn hG2 hfd hT
      have hcall := HGo.out.1
      go_wp2_with fail
      (with_reducible refine hcall.mono ?_)
      rintro e y1 ⟨rfl, O2, r1, r2, r3⟩
      have HY : Hid (∃ O', BudA p first en (cntS S en + 1) (runsF (lessS Sj fc (2 ^ j)) en) O' y1 ∧ (∀ b, O' b → O b ∨ w.heap.size ≤ b) ∧ Only O w y1) := Lib.hid ⟨O2, r1, fun b hb => by
        rcases r2 b hb with h | h
        · exact HX.out.1 b h
        · have := HX.out.2.size; exact .inr (by omega), HX.out.2.step r3 (fun b hb h => (HX.out.1 b h).elim id (fun h' => by omega))⟩
      clear hcall r1 r2 r3
      go_wp2
      go_step3
      obtain ⟨kk', rfl⟩ : ∃ kk', kk = kk' + 1 := ⟨kk - 1, by have := HGo.out.2.2.2; omega⟩
      refine ⟨rfl, hJ kk' _ _ (by omega) (by kernel_rfl) ?_⟩
      refine ⟨j + 1, b / 2, _, ?_, ?_, by have := HGo.out.2.2.2; omega, HGo.out.2.1, HY.out⟩
      · show Value.int .i64 ((fd : Nat) : Int) = _
        rw [HGo.out.2.2.1]
      · show Value.int .i64 ((j : Int) + 1) = _
        simp
    · obtain ⟨⟨l, m, hpl⟩, hpo⟩ := join_put (M := en) hG.apart (.inr hr) (by omega) hbb
      have hcut := budCut_miss q1 j (budN b) hr (by omega)
      have hputc := fun y (hy : Old x y) => budPut_set ((loc_bud ..).keep q1 (Only.of_below hy) (fun _ _ f => f)) j (b * 2 ^ j) (by omega) hpl hpo
      rw [giveS_end hG, hfb] at hputc
      rw [hfb, hfc, hT] at hxor
      rw [hfc] at hcut
      rw [hfb]
      have HGo := Lib.hid hputc
      clear q1 q2 q3 hG hputc hjk hpl hpo hsub hbx hbT hT hfc hfb hbb hbud hr hj9
      go_wp2_with fail
      (with_reducible refine hcut.mono ?_)
      rintro e y0 ⟨rfl, ho0⟩
      have hcall := HGo.out y0 ho0
      have HO0 := Lib.hid ho0
      clear hcut ho0
      go_wp2_with fail
      (with_reducible refine hcall.mono ?_)
      rintro e y1 ⟨rfl, O2, r1, r2, r3⟩
      have HY : Hid (∃ O', BudA p first en (cntS (moreS S f 1) en) (runsF (moreS S f 1) en) O' y1 ∧ (∀ b, O' b → O b ∨ w.heap.size ≤ b) ∧ Only O w y1) := Lib.hid ⟨O2, by rw [HC.out.1]; exact r1, fun b hb => by
        rcases r2 b hb with h | h
        · exact HX.out.1 b h
        · have := HX.out.2.size; have := HO0.out.size; exact .inr (by omega), (HX.out.2.trans ((Only.of_below HO0.out).mono fun _ _ f => f.elim)).step r3 (fun b hb h => (HX.out.1 b h).elim id (fun h' => by omega))⟩
      clear hcall r1 r2 r3 HGo
      go_wp2
      simp only [toLabel]
      go_ret
      exact ⟨rfl, HY.out⟩
end
end Go.Proofs.Ytnmccihgiphmjaa
namespace Go.Proofs.Ytnmccihgiphmjaa
set_option linter.unusedVariables false
set_option linter.unusedSimpArgs false
open Go.RowKit
theorem int_info5 : (Try.prog.info? 3).map (fun i => (i.zero, i.size, i.bytes)) = some (some (.int .i64 0), 1, 8) := by kernel_rfl
/-- An append of one number: where it lies. -/
theorem rowI_append {w : World} {ad : Option Addr} {c : Nat} {l : List Nat} (h : RowI w ad c l) (a : Addr) (x cc : Nat) (hnews : ∀ (j : Nat) (u : Value), [vI x][j]? = some u → w.cell? (a.add j) = some u) (hlim : l.length + 1 ≤ 2097152) :
    ∃ ad' c' w2, (Builtin.append_ #[54, 54] 54 #[.slice ad l.length c, .slice (some a) 1 cc]).run Try.prog w = .ok (.slice ad' (l.length + 1) c') w2 ∧
      RowI w2 ad' c' (l ++ [x]) ∧ Only (fun z => ad = some ⟨z, 0, none⟩) w w2 ∧ (∀ z off, ad' = some ⟨z, off, none⟩ → ad = some ⟨z, 0, none⟩ ∨ w.heap.size ≤ z) := by
  obtain ⟨i0, hi, hz0, hz1, hz2⟩ := info_parts int_info5
  have weak : ∀ {row : Option Nat} {w2 : World}, w.grownBy w2 row → (∀ b, row = some b → ad = some ⟨b, 0, none⟩) → Only (fun z => ad = some ⟨z, 0, none⟩) w w2 := fun hg hr => (grown_only hg).mono fun b _ e => hr b e.symm
  have hl : ([vI x] : List Value).length = 1 * 1 := rfl
  have h1 : ∀ u ∈ [vI x], u.oneCell' = true := fun u hu => by rw [List.mem_singleton.1 hu]; rfl
  have fin : ∀ {ad' : Option Addr} {c' : Nat} {w2 : World} {B : Nat}, w2.ownsRow B 3 1 (.slice ad' (l.length + 1) c') (l.length + 1) (l.map vI ++ [vI x]) → RowI w2 ad' c' (l ++ [x]) := fun ho => by
    unfold RowI
    rw [List.length_append, List.map_append]
    refine ⟨ho.1, ?_⟩
    rcases ho.2 with h' | ⟨g, cap, cur, h', _, rest⟩
    · exact .inl h'
    · exact .inr ⟨g, cap, cur, h', Nat.zero_le _, rest⟩
  rcases h.2 with ⟨h', h0⟩ | ⟨g, cap, cur, h', hb, hcu, r1, r2, r3, r4⟩
  · have hxs : l = [] := List.length_eq_zero_iff.1 h0
    subst hxs
    simp only [Value.slice.injEq] at h'
    obtain ⟨rfl, -, rfl⟩ := h'
    obtain ⟨v', w2, hrun, ho, hg, -⟩ := run_append_own (P := Try.prog) w w.heap.size 54 54 3 i0 _ 1 8 Try.underlying54 hi hz0 hz1 hz2 rfl (by decide) (.slice none 0 0) 0 [] (World.ownsRow_nil _ _ _ _) a 1 cc [vI x] hl hnews h1 (by unfold maxLen; omega) (by omega) (Nat.le_refl _)
    obtain ⟨ad', c', rfl, -, -, h3, -⟩ := own_value ho
    exact ⟨ad', c', w2, hrun, fin ho, weak hg (fun b e => by cases e), fun z off e => .inr (h3 z off e).2.1⟩
  · simp only [Value.slice.injEq, true_and] at h'
    obtain ⟨rfl, rfl⟩ := h'
    by_cases hroom : l.length + 1 ≤ c
    · obtain ⟨w2, hrun, ho, hg⟩ := run_append_fits (P := Try.prog) w 0 54 54 3 i0 1 Try.underlying54 hi hz1 g l.length c (l.map vI) h a 1 cc [vI x] hl hnews h1 hroom
      exact ⟨_, _, w2, hrun, fin ho, weak hg (fun b e => by cases e; rfl), fun z off e => by cases e; exact .inl rfl⟩
    · obtain ⟨v', w2, hrun, ho, hg⟩ := run_append_arg_grows (P := Try.prog) w 54 54 3 i0 _ 1 8 Try.underlying54 hi hz0 hz1 hz2 rfl (by decide) ⟨g, 0, none⟩ l.length c (l.map vI) h.1
        (fun j u hu => by rw [add_eq _ _ rfl]; simpa using own_cell h rfl j hu) a 1 cc [vI x] hl hnews (by omega) (by unfold maxLen; omega) (by omega)
      obtain ⟨ad', c', rfl, -, -, h3, -⟩ := own_value ho
      exact ⟨ad', c', w2, hrun, fin ho, weak hg (fun b e => by cases e), fun z off e => .inr (h3 z off e).2.1⟩
end Go.Proofs.Ytnmccihgiphmjaa
namespace Go.Proofs.Ytnmccihgiphmjaa
set_option linter.unusedVariables false
set_option linter.unusedSimpArgs false
open Go.RowKit
section
variable {w x y : World} {p first en : Nat}
set_option maxHeartbeats 8000000 in
set_option maxRecDepth 100000 in
theorem budNew_calls (w : World) (first n : Nat) (h1 : first ≤ 1048576) (h2 : n + first ≤ 1048576) :
    Calls Try.prog 31 #[.int .i64 (first : Nat), .int .i64 (n : Nat)] w (fun e y => e = .returned (.tuple #[.pointer (some ⟨w.heap.size, 0, none⟩), .int .i64 0]) ∧ Old w y ∧
      ∃ O, BudA w.heap.size first (first + n) n (runsF (allS first (first + n)) (first + n)) O y ∧ ∀ b, O b → w.heap.size ≤ b) := by
  obtain ⟨en, hen⟩ : ∃ en, first + n = en := ⟨_, rfl⟩
  have hcn : n = en - first := by omega
  rw [hen]
  have f0 : ¬ (first : Int) < 0 := by omega
  have f1 : ¬ (1048576 : Int) < (first : Int) := by omega
  have f2 : ¬ (n : Int) < 0 := by omega
  have f3 : ¬ (1048576 : Int) - (first : Int) < (n : Int) := by omega
  have f4 : (first : Int) + (n : Int) = (en : Int) := by omega
  have f5 : (first : Int) ≤ 1048576 := by omega
  have f6 : (n : Int) ≤ 1048576 := by omega
  have f7 : (en : Int) ≤ 1048576 := by omega
  have HB := Lib.hid (show first ≤ en ∧ en ≤ 1048576 ∧ first ≤ 1048576 by omega)
  clear hen hcn h1 h2
  go_enter Try.func31, Try.ntmps31
  go_wp2
  have hnb := new_block w (.cells #[.int .i64 (first : Nat), .int .i64 (en : Nat), .slice none 0 0, .slice none 0 0, .slice none 0 0, .slice none 0 0, .slice none 0 0, .slice none 0 0, .slice none 0 0, .slice none 0 0, .slice none 0 0, .slice none 0 0, .int .i64 (n : Nat)] 95)
  have hO := old_alloc (old_refl w) (.cells #[.int .i64 (first : Nat), .int .i64 (en : Nat), .slice none 0 0, .slice none 0 0, .slice none 0 0, .slice none 0 0, .slice none 0 0, .slice none 0 0, .slice none 0 0, .slice none 0 0, .slice none 0 0, .slice none 0 0, .int .i64 (n : Nat)] 95)
  generalize w.alloc (.cells #[.int .i64 (first : Nat), .int .i64 (en : Nat), .slice none 0 0, .slice none 0 0, .slice none 0 0, .slice none 0 0, .slice none 0 0, .slice none 0 0, .slice none 0 0, .slice none 0 0, .slice none 0 0, .slice none 0 0, .int .i64 (n : Nat)] 95) = W0 at *
  obtain ⟨p, hp⟩ : ∃ p, w.heap.size = p := ⟨_, rfl⟩
  rw [hp] at hnb ⊢
  obtain ⟨cn, hcn⟩ : ∃ cn, n = cn := ⟨_, rfl⟩
  rw [hcn] at hnb
  have HA : Hid (∃ O, BudA p first en cn (fun k => beforeL (allS first en) en k first) O W0 ∧ ∀ b, O b → p ≤ b) := Lib.hid ⟨fun b => b = p, ⟨fun _ => none, fun _ => 0, by
    have e : ∀ k, beforeL (allS first en) en k first = [] := fun k => before_none
    refine ⟨?_, fun k _ => by show RowI _ _ _ (beforeL _ _ _ _); rw [e]; exact World.ownsRow_nil _ _ _ _, rfl, fun k b off _ e => (by cases e), fun j k b o1 o2 _ _ _ e => (by cases e), fun b hb => by rw [hb]; exact lt_of_block hnb, HB.out.2.2, HB.out.2.1⟩
    rw [hnb]
    simp only [budCells, e]
    rfl⟩, fun b hb => by rw [hb]; exact Nat.le_refl _⟩
  have HP := Lib.hid (And.intro hp hcn)
  have HO := Lib.hid hO
  clear hnb hp hcn hO
  refine wp_loopF [false, false, false, false, false, false, false, true, true, false, false, false, false, false, false, false, false, false, false, false, false, false, false, false, false, false, false, false, false, false, false, false, false, true, true, true, true, true, true, true, true, true, true, true, true, true, true, true, true, true, true, true, true, true, true, true, true, true, true, true, true, true, true, true, true, true, true, true, true, true, true, true, true, true, true, true, true, true, true, true] (fun f2 wx => ∃ at_ : Nat, f2 7 = .int .i64 (at_ : Nat) ∧ NewI first en at_ ∧ Old w wx ∧ ∃ O, BudA p first en cn (fun k => beforeL (allS first en) en k at_) O wx ∧ ∀ b, O b → p ≤ b) (fun f2 => en - (intOf (f2 7)).toNat) ?start1 ?round1
  case start1 => exact ⟨first, rfl, newI_start HB.out.1, HO.out, HA.out⟩
  case round1 =>
    clear HA HO
    intro f2 wr hrel J2 K2 hJ2 hM2
    dsimp only [mergeA, mergeL, Nat.reduceAdd]
    obtain ⟨at_, h7, hN, hO, O, hA, hOp⟩ := hrel
    rw [h7]
    have H7 := Lib.hid h7
    clear h7
    obtain ⟨ad, cp, hW⟩ := hA
    obtain ⟨c0, c1, -⟩ := bud_first hW
    have ha7 : (at_ : Int) ≤ 1048576 := by have := hN.2.1; have := HB.out; omega
    by_cases hend : at_ = en
    · have e1 : ¬ (at_ : Int) < en := by omega
      have e1n : decide (at_ < en) = false := decide_eq_false (by omega)
      have hA2 : BudA p first en cn (fun k => beforeL (allS first en) en k en) O wr := by rw [hend] at hW; exact ⟨ad, cp, hW⟩
      have HF : Hid (Old w wr ∧ ∃ O, BudA p first en cn (runsF (allS first en) en) O wr ∧ ∀ b, O b → p ≤ b) := Lib.hid ⟨hO, O, budA_congr hA2 (fun k _ => before_all), hOp⟩
      clear hW hA2 hN hO hOp hend
      go_wp2
      go_ret2
      rw [HP.out.1, HP.out.2]
      exact ⟨rfl, HF.out.1, HF.out.2⟩
    have hlt : at_ < en := by have := hN.2.1; omega
    have e1 : (at_ : Int) < en := by omega
    have e1n : decide (at_ < en) = true := decide_eq_true hlt
    have HW := Lib.hid (And.intro hW (And.intro hN (And.intro hO (And.intro hOp hlt))))
    clear hW hN hO hOp hend
    clear c0 c1
    obtain ⟨c0, c1, -⟩ := bud_first HW.out.1
    go_wp2
    refine wp_scopeF 0 [false, false, false, false, false, false, false, false, true, false, false, false, false, false, false, false, false, false, false, false, false, false, false, false, false, false, false, false, false, false, false, false, false, false, false, false, false, false, false, true, true, true, true, true, true, true, true, true, true, true, true, true, true, true, true, true, true, true, true, true, true, true] (fun kk f3 x => ∃ o : Nat, f3 8 = .int .i64 (o : Nat) ∧ o + kk = 9 ∧ at_ % 2 ^ o = 0 ∧ at_ + 2 ^ o ≤ en ∧ Old wr x) _ rfl ?pass ?first
    case first =>
      intro J hp
      clear c0 c1
      go_wp2
      go_step3
      rename_i K9 hK9
      refine hK9 _ _ (hp 9 _ _ (by kernel_rfl) ⟨0, rfl, rfl, by rw [Nat.pow_zero, Nat.mod_one], by rw [Nat.pow_zero]; exact HW.out.2.2.2.2, old_refl _⟩)
    case pass =>
      clear c0 c1
      rintro kk f3 x ⟨o, h8, hko, hal, hfit, hOx⟩ J hJ
      dsimp only [mergeA, mergeL, Nat.reduceAdd]
      rw [h8]
      clear h8
      have hWx := budW_old HW.out.1 (old_drew hOx)
      obtain ⟨c0, c1, -⟩ := bud_first hWx
      have ho9 : (o : Int) ≤ 9 := by omega
      by_cases hgo : o < 9 ∧ at_ % 2 ^ (o + 1) = 0 ∧ at_ + 2 ^ (o + 1) ≤ en
      · obtain ⟨g1, g2, g3⟩ := hgo
        obtain ⟨T, hT, hw2, hT1, hT2⟩ := pow_ten (show o + 1 < 10 by omega)
        have hsh : wrap64 (2 * (2 : Int) ^ o) = (T : Int) := by rw [← hw2, Int.pow_succ]; congr 1; omega
        rw [hT] at g2 g3
        have hrem : (at_ : Int).tmod (T : Int) = 0 := by rw [Int.tmod_eq_emod_of_nonneg (by omega)]; omega
        have hle : (at_ : Int) + (T : Int) ≤ en := by omega
        have ho10 : (o : Int) + 1 < 10 := by omega
        have HG := Lib.hid (And.intro hT (And.intro g2 (And.intro g3 (And.intro hko hOx))))
        clear hal hfit hko hOx hWx g1 g2 g3 hT
        go_wp2_with fail
        refine wp_region_walked (S := Is x.drew) (by kernel_rfl) (by kernel_rfl) rfl ?_
        repeat (apply walked_cons; (first | exact gives_and rfl rfl rfl rfl | exact gives_or rfl rfl rfl rfl | (focus (intro wS hS; cases hS; go_wp2; exact ⟨rfl, rfl, rfl⟩; done)) | (focus (apply gives_guard; (focus (first | exact wanted_yes rfl rfl rfl | exact wanted_no rfl rfl rfl | exact wanted_yes2 rfl rfl rfl | exact wanted_no2 rfl rfl rfl)); (focus (intro hx9; (try simp only [Bool.not_eq_true', Bool.and_eq_true, Bool.not_not] at hx9); (try obtain ⟨hx9, hy9⟩ := hx9); (try subst hy9); (try subst hx9); (first | exact gives_and rfl rfl rfl rfl | exact gives_or rfl rfl rfl rfl | (intro wS hS; cases hS; go_wp2; exact ⟨rfl, rfl, rfl⟩; done))))))); rfl; (try simp only [Act.put, List.setIfInBounds_toArray, List.set_cons_succ, List.set_cons_zero]))
        apply walked_nil
        intro wS hS
        cases hS
        go_wp2
        go_step3
        obtain ⟨kk', rfl⟩ : ∃ kk', kk = kk' + 1 := ⟨kk - 1, by have := HG.out.2.2.2.1; omega⟩
        refine ⟨rfl, hJ kk' _ _ (by omega) (by kernel_rfl) ⟨o + 1, by show Value.int .i64 ((o : Int) + 1) = _; simp, by have := HG.out.2.2.2.1; omega, by rw [HG.out.1]; exact HG.out.2.1, by rw [HG.out.1]; exact HG.out.2.2.1, old_drew HG.out.2.2.2.2⟩⟩
      · have hG : Greedy en at_ o := ⟨by omega, hal, hfit, by
          by_cases h9 : o = 9
          · exact .inl h9
          · by_cases h2 : at_ % 2 ^ (o + 1) = 0
            · exact .inr (.inr (Nat.lt_of_not_le fun h3 => hgo ⟨by omega, h2, h3⟩))
            · exact .inr (.inl h2)⟩
        have HS := Lib.hid (And.intro hG hOx)
        by_cases h9 : o = 9
        · have e9 : ¬ (o : Int) + 1 < 10 := by omega
          clear h9 hgo hal hfit hko hOx hWx hG
          go_wp2_with fail
          refine wp_region_walked (S := Is x.drew) (by kernel_rfl) (by kernel_rfl) rfl ?_
          repeat (apply walked_cons; (first | exact gives_and rfl rfl rfl rfl | exact gives_or rfl rfl rfl rfl | (focus (intro wS hS; cases hS; go_wp2; exact ⟨rfl, rfl, rfl⟩; done)) | (focus (apply gives_guard; (focus (first | exact wanted_yes rfl rfl rfl | exact wanted_no rfl rfl rfl | exact wanted_yes2 rfl rfl rfl | exact wanted_no2 rfl rfl rfl)); (focus (intro hx9; (try simp only [Bool.not_eq_true', Bool.and_eq_true, Bool.not_not] at hx9); (try obtain ⟨hx9, hy9⟩ := hx9); (try subst hy9); (try subst hx9); (first | exact gives_and rfl rfl rfl rfl | exact gives_or rfl rfl rfl rfl | (intro wS hS; cases hS; go_wp2; exact ⟨rfl, rfl, rfl⟩; done))))))); rfl; (try simp only [Act.put, List.setIfInBounds_toArray, List.set_cons_succ, List.set_cons_zero]))
          apply walked_nil
          intro wS hS
          cases hS
          clear c0 c1
          have ho1 : Old wr x.drew := old_drew HS.out.2
          generalize x.drew = y1 at *
          have hG := HS.out.1
          obtain ⟨T0, hT0, hw0, hT01, hT02⟩ := pow_ten (show o < 10 by have := hG.o9; omega)
          have hstep := fun k hk => before_step (k := k) (M := en) HW.out.2.1 hG hk (Nat.le_refl _)
          have hnext := new_next HW.out.2.1 hG
          have hko : o < 10 := by have := hG.o9; omega
          obtain ⟨R, hR⟩ : ∃ R : Nat → List Nat, (fun k => beforeL (allS first en) en k at_) = R := ⟨_, rfl⟩
          have hWr : BudW O wr p first en cn ad cp R := by rw [← hR]; exact HW.out.1
          have hB1 := budW_old hWr (old_drew ho1)
          have hc1 := bud_cell hB1 hko
          obtain ⟨z, hz⟩ : ∃ z, y1.drew.alloc (.cells #[.int .i64 (at_ : Nat)] 3) = z := ⟨_, rfl⟩
          have hoz : Old y1.drew z := by rw [← hz]; exact old_alloc (old_refl _) _
          have hBz := budW_old hB1 hoz
          have hRl : (R o).length ≤ 1048576 := by
            rw [← hR]
            have h1 := runsL_len (allS first en) en o
            have h2 : (beforeL (allS first en) en o at_).length ≤ (runsL (allS first en) en o).length := List.length_filter_le ..
            have := HB.out
            show (beforeL (allS first en) en o at_).length ≤ _
            omega
          obtain ⟨a', c', w9, hrun, hrow, hon, hfr⟩ := rowI_append (hBz.rows o hko) ⟨y1.heap.size, 0, none⟩ at_ 1 (by rw [← hz]; exact news_block y1.drew [vI at_] 3 y1.heap.size rfl) (by omega)
          obtain ⟨L', hL'⟩ : ∃ L', R o ++ [at_] = L' := ⟨_, rfl⟩
          have hLl : L'.length = (R o).length + 1 := by rw [← hL', List.length_append]; rfl
          rw [hL'] at hrow
          have HZ := Lib.hid hz
          have HC0 : Hid (∀ x, Old y1 x → x.cell? ⟨p, 2 + o, none⟩ = some (.slice (ad o) (R o).length (cp o))) := Lib.hid fun x hx => bud_cell (budW_old hWr (old_then ho1 hx)) hko
          have how : Only (fun b => ad o = some ⟨b, 0, none⟩) wr z := ((Only.of_below (old_then (old_drew ho1) hoz)).mono fun _ _ f => f.elim)
          have hpx := keep_only hon (fun e => (hBz.rown o p 0 hko e).2 rfl) hBz.hp
          have HI : Hid ((Builtin.append_ #[54, 54] 54 #[.slice (ad o) (R o).length (cp o), .slice (some ⟨y1.heap.size, 0, none⟩) 1 1]).run Try.prog z = .ok (.slice a' ((R o).length + 1) c') w9 ∧ PutP wr y1 p first en cn ad cp R o a' c' L' w9) := Lib.hid ⟨hrun, hpx, by rw [cell_of hpx, List.getElem?_toArray, budCells_row hko], how.trans hon, hrow⟩
          have HF : Hid (∀ z off, a' = some ⟨z, off, none⟩ → ad o = some ⟨z, 0, none⟩ ∨ wr.heap.size ≤ z) := Lib.hid fun z off e => (hfr z off e).imp id fun h => by have := (old_then (old_drew ho1) hoz).size; omega
          have HL := Lib.hid (And.intro hL' (And.intro hLl (And.intro hstep (And.intro hnext (And.intro hR hT0)))))
          have HWR := Lib.hid hWr
          have hoi : (o : Int) < 10 := by omega
          have hRi : ((R o).length : Int) ≤ 1048576 := by omega
          clear hB1 hoz hBz hrun hrow hon hfr hz how ho1 hL' hLl hstep hnext hR hT0 hWr hpx hG hRl
          go_wp2_with fail
          refine wp_region_met (S := TwoCalls 9 10 (fun x => x = y1.drew) (fun x => x = z) (fun x => PutP wr y1 p first en cn ad cp R o a' c' L' x)) 13 (by kernel_rfl) (by kernel_rfl) (by kernel_rfl) (by decide) (tc_start _ rfl) ?_
          apply walkedM_cons
          · intro l9 wS hz hn hm hS
            have HD := Lib.hid (tc_other 0 (by decide) (by decide) hS)
            clear hS hz hn hm
            go_wp2
            exact ⟨rfl, rfl, HD.out⟩
          · rfl
          (try simp only [Act.put, List.setIfInBounds_toArray, List.set_cons_succ, List.set_cons_zero])
          apply walkedM_cons
          · intro l9 wS hz hn hm hS
            have HD := Lib.hid (tc_other 1 (by decide) (by decide) hS)
            clear hS hz hn hm
            go_wp2
            exact ⟨rfl, rfl, HD.out⟩
          · rfl
          (try simp only [Act.put, List.setIfInBounds_toArray, List.set_cons_succ, List.set_cons_zero])
          apply walkedM_cons
          · intro l9 wS hz hn hm hS
            have HD := Lib.hid (tc_other 2 (by decide) (by decide) hS)
            clear hS hz hn hm
            go_wp2
            exact ⟨rfl, rfl, HD.out⟩
          · rfl
          (try simp only [Act.put, List.setIfInBounds_toArray, List.set_cons_succ, List.set_cons_zero])
          apply walkedM_cons
          · intro l9 wS hz hn hm hS
            have HD := Lib.hid (tc_other 3 (by decide) (by decide) hS)
            clear hS hz hn hm
            go_wp2
            exact ⟨rfl, rfl, HD.out⟩
          · rfl
          (try simp only [Act.put, List.setIfInBounds_toArray, List.set_cons_succ, List.set_cons_zero])
          apply walkedM_cons
          · intro l9 wS hz hn hm hS
            have HD := Lib.hid (tc_other 4 (by decide) (by decide) hS)
            clear hS hz hn hm
            go_wp2
            exact ⟨rfl, rfl, HD.out⟩
          · rfl
          (try simp only [Act.put, List.setIfInBounds_toArray, List.set_cons_succ, List.set_cons_zero])
          apply walkedM_cons
          · intro l9 wS hz hn hm hS
            have HD := Lib.hid (tc_other 5 (by decide) (by decide) hS)
            clear hS hz hn hm
            go_wp2
            exact ⟨rfl, rfl, HD.out⟩
          · rfl
          (try simp only [Act.put, List.setIfInBounds_toArray, List.set_cons_succ, List.set_cons_zero])
          apply walkedM_cons
          · intro l9 wS hz hn hm hS
            have HD := Lib.hid (tc_other 6 (by decide) (by decide) hS)
            clear hS hz hn hm
            go_wp2
            exact ⟨rfl, rfl, HD.out⟩
          · rfl
          (try simp only [Act.put, List.setIfInBounds_toArray, List.set_cons_succ, List.set_cons_zero])
          apply walkedM_cons
          · intro l9 wS hz hn hm hS
            have HD := Lib.hid (tc_other 7 (by decide) (by decide) hS)
            have ck := tc_any (P := fun x => x.cell? ⟨p, 2 + o, none⟩ = some (.slice (ad o) (R o).length (cp o))) hS (fun h => HC0.out _ (by rw [h]; exact old_drew (old_refl _))) (fun h => HC0.out _ (by rw [h, ← HZ.out]; exact old_alloc (old_drew (old_refl _)) _)) (fun h => h.cell)
            clear hS hz hn hm
            go_wp2
            exact ⟨rfl, rfl, HD.out⟩
          · rfl
          (try simp only [Act.put, List.setIfInBounds_toArray, List.set_cons_succ, List.set_cons_zero])
          apply walkedM_cons
          · intro l9 wS hz hn hm hS
            have HD := Lib.hid (tc_other 8 (by decide) (by decide) hS)
            clear hS hz hn hm
            go_wp2
            exact ⟨rfl, rfl, HD.out⟩
          · rfl
          (try simp only [Act.put, List.setIfInBounds_toArray, List.set_cons_succ, List.set_cons_zero])
          apply walkedM_cons
          · intro l9 wS hz hn hm hS
            obtain ⟨rfl, hnext⟩ := tc_first (by decide) (by rw [hz]; decide) hn hS
            have HN := Lib.hid hnext
            have HZ2 := HZ.out
            clear hS hnext hz hn hm
            go_wp2
            exact ⟨rfl, rfl, HN.out _ rfl⟩
          · rfl
          (try simp only [Act.put, List.setIfInBounds_toArray, List.set_cons_succ, List.set_cons_zero])
          apply walkedM_cons
          · intro l9 wS hz hn hm hS
            obtain ⟨rfl, hnext⟩ := tc_second (by decide) (by rw [hz]; decide) (hm _ rfl ⟨9, .data⟩ (by simp) rfl) hn hS
            have HD := Lib.hid (hnext _ HI.out.2)
            have hrun := HI.out.1
            clear hS hnext hz hn hm
            go_wp2_with (at_builtin; refine wpList_append_run rfl _ _ 54 rfl _ _ rfl rfl _ _ hrun ?_; clear hrun)
            exact ⟨rfl, rfl, HD.out⟩
          · rfl
          (try simp only [Act.put, List.setIfInBounds_toArray, List.set_cons_succ, List.set_cons_zero])
          apply walkedM_cons
          · intro l9 wS hz hn hm hS
            have HD := Lib.hid (tc_other 11 (by decide) (by decide) hS)
            clear hS hz hn hm
            go_wp2
            exact ⟨rfl, rfl, HD.out⟩
          · rfl
          (try simp only [Act.put, List.setIfInBounds_toArray, List.set_cons_succ, List.set_cons_zero])
          apply walkedM_cons
          · intro l9 wS hz hn hm hS
            have HD := Lib.hid (tc_other 12 (by decide) (by decide) hS)
            clear hS hz hn hm
            go_wp2
            exact ⟨rfl, rfl, HD.out⟩
          · rfl
          (try simp only [Act.put, List.setIfInBounds_toArray, List.set_cons_succ, List.set_cons_zero])
          apply walkedM_nil
          intro l9 z9 hz hall hS
          have HE := Lib.hid (tc_end (hall 10 (by decide)) hS)
          clear hS hall hz l9
          show wpList _ _ _ [_, _] _ _
          obtain ⟨O', q1, q2, q3⟩ := bud_set HWR.out hko HE.out.blk HE.out.only HE.out.row HF.out
          rw [HL.out.2.1] at q1 q3
          have HQ : Hid (Old w (z9.setCell ⟨p, 2 + o, none⟩ (.slice a' ((R o).length + 1) c')) ∧ ∃ O, BudA p first en cn (fun k => beforeL (allS first en) en k (at_ + T0)) O (z9.setCell ⟨p, 2 + o, none⟩ (.slice a' ((R o).length + 1) c')) ∧ ∀ b, O b → p ≤ b) := Lib.hid ⟨Only.to_below ((Only.of_below HW.out.2.2.1).step q3 (fun b hb h => by have := HW.out.2.2.2.1 b h; rw [← HP.out.1] at this; omega)), O', budA_congr ⟨_, _, q1⟩ (fun k hk => by
            have hs := HL.out.2.2.1 k (by omega)
            rw [HL.out.2.2.2.2.2] at hs
            show _ = beforeL (allS first en) en k (at_ + T0)
            rw [hs, ← HL.out.1, ← HL.out.2.2.2.2.1]
            by_cases hko : k = o
            · subst hko; rw [upd_same, if_pos rfl]
            · rw [upd_ne _ _ hko, if_neg hko, List.append_nil]), fun b hb => by
            rcases q2 b hb with h | h
            · exact HW.out.2.2.2.1 b h
            · have := HW.out.2.2.1.size; rw [HP.out.1] at this; omega⟩
          have hc9 := HE.out.cell
          have hf9 := frozen_of HE.out.blk (2 + o)
          have hat2 : (at_ : Int) + (T0 : Int) ≤ 1048576 := by have := HL.out.2.2.2.1.2.1; rw [HL.out.2.2.2.2.2] at this; have := HB.out; omega
          clear q1 q2 q3 hc1 HC0 HI HF HE
          go_wp2
          try simp only [toLabel]
          refine hM2 _ _ (Met.intro (hJ2 _ _ (by kernel_rfl) ?_ ?_))
          · exact ⟨at_ + T0, by show Value.int .i64 ((at_ : Int) + (T0 : Int)) = _; simp, by rw [← HL.out.2.2.2.2.2]; exact HL.out.2.2.2.1, HQ.out.1, HQ.out.2⟩
          · have := HW.out.2.2.2.2
            rw [H7.out]; show en - (intOf (Value.int .i64 ((at_ : Int) + (T0 : Int)))).toNat < en - (intOf (Value.int .i64 (at_ : Int))).toNat
            simp [intOf]; omega
        obtain ⟨T, hT, hw2, hT1, hT2⟩ := pow_ten (show o + 1 < 10 by omega)
        have hsh : wrap64 (2 * (2 : Int) ^ o) = (T : Int) := by rw [← hw2, Int.pow_succ]; congr 1; omega
        have ho10 : (o : Int) + 1 < 10 := by omega
        rw [hT] at hgo
        by_cases hm : at_ % T = 0
        · have hrem : (at_ : Int).tmod (T : Int) = 0 := by rw [Int.tmod_eq_emod_of_nonneg (by omega)]; omega
          have hle : ¬ (at_ : Int) + (T : Int) ≤ en := fun h => hgo ⟨by omega, hm, by omega⟩
          have hlen : decide (at_ + T ≤ en) = false := decide_eq_false (by omega)
          clear hgo hal hfit hko hOx hWx hG h9 hT hm
          go_wp2_with fail
          refine wp_region_walked (S := Is x.drew) (by kernel_rfl) (by kernel_rfl) rfl ?_
          repeat (apply walked_cons; (first | exact gives_and rfl rfl rfl rfl | exact gives_or rfl rfl rfl rfl | (focus (intro wS hS; cases hS; go_wp2; exact ⟨rfl, rfl, rfl⟩; done)) | (focus (apply gives_guard; (focus (first | exact wanted_yes rfl rfl rfl | exact wanted_no rfl rfl rfl | exact wanted_yes2 rfl rfl rfl | exact wanted_no2 rfl rfl rfl)); (focus (intro hx9; (try simp only [Bool.not_eq_true', Bool.and_eq_true, Bool.not_not] at hx9); (try obtain ⟨hx9, hy9⟩ := hx9); (try subst hy9); (try subst hx9); (first | exact gives_and rfl rfl rfl rfl | exact gives_or rfl rfl rfl rfl | (intro wS hS; cases hS; go_wp2; exact ⟨rfl, rfl, rfl⟩; done))))))); rfl; (try simp only [Act.put, List.setIfInBounds_toArray, List.set_cons_succ, List.set_cons_zero]))
          apply walked_nil
          intro wS hS
          cases hS
          clear c0 c1
          have ho1 : Old wr x.drew := old_drew HS.out.2
          generalize x.drew = y1 at *
          have hG := HS.out.1
          obtain ⟨T0, hT0, hw0, hT01, hT02⟩ := pow_ten (show o < 10 by have := hG.o9; omega)
          have hstep := fun k hk => before_step (k := k) (M := en) HW.out.2.1 hG hk (Nat.le_refl _)
          have hnext := new_next HW.out.2.1 hG
          have hko : o < 10 := by have := hG.o9; omega
          obtain ⟨R, hR⟩ : ∃ R : Nat → List Nat, (fun k => beforeL (allS first en) en k at_) = R := ⟨_, rfl⟩
          have hWr : BudW O wr p first en cn ad cp R := by rw [← hR]; exact HW.out.1
          have hB1 := budW_old hWr (old_drew ho1)
          have hc1 := bud_cell hB1 hko
          obtain ⟨z, hz⟩ : ∃ z, y1.drew.alloc (.cells #[.int .i64 (at_ : Nat)] 3) = z := ⟨_, rfl⟩
          have hoz : Old y1.drew z := by rw [← hz]; exact old_alloc (old_refl _) _
          have hBz := budW_old hB1 hoz
          have hRl : (R o).length ≤ 1048576 := by
            rw [← hR]
            have h1 := runsL_len (allS first en) en o
            have h2 : (beforeL (allS first en) en o at_).length ≤ (runsL (allS first en) en o).length := List.length_filter_le ..
            have := HB.out
            show (beforeL (allS first en) en o at_).length ≤ _
            omega
          obtain ⟨a', c', w9, hrun, hrow, hon, hfr⟩ := rowI_append (hBz.rows o hko) ⟨y1.heap.size, 0, none⟩ at_ 1 (by rw [← hz]; exact news_block y1.drew [vI at_] 3 y1.heap.size rfl) (by omega)
          obtain ⟨L', hL'⟩ : ∃ L', R o ++ [at_] = L' := ⟨_, rfl⟩
          have hLl : L'.length = (R o).length + 1 := by rw [← hL', List.length_append]; rfl
          rw [hL'] at hrow
          have HZ := Lib.hid hz
          have HC0 : Hid (∀ x, Old y1 x → x.cell? ⟨p, 2 + o, none⟩ = some (.slice (ad o) (R o).length (cp o))) := Lib.hid fun x hx => bud_cell (budW_old hWr (old_then ho1 hx)) hko
          have how : Only (fun b => ad o = some ⟨b, 0, none⟩) wr z := ((Only.of_below (old_then (old_drew ho1) hoz)).mono fun _ _ f => f.elim)
          have hpx := keep_only hon (fun e => (hBz.rown o p 0 hko e).2 rfl) hBz.hp
          have HI : Hid ((Builtin.append_ #[54, 54] 54 #[.slice (ad o) (R o).length (cp o), .slice (some ⟨y1.heap.size, 0, none⟩) 1 1]).run Try.prog z = .ok (.slice a' ((R o).length + 1) c') w9 ∧ PutP wr y1 p first en cn ad cp R o a' c' L' w9) := Lib.hid ⟨hrun, hpx, by rw [cell_of hpx, List.getElem?_toArray, budCells_row hko], how.trans hon, hrow⟩
          have HF : Hid (∀ z off, a' = some ⟨z, off, none⟩ → ad o = some ⟨z, 0, none⟩ ∨ wr.heap.size ≤ z) := Lib.hid fun z off e => (hfr z off e).imp id fun h => by have := (old_then (old_drew ho1) hoz).size; omega
          have HL := Lib.hid (And.intro hL' (And.intro hLl (And.intro hstep (And.intro hnext (And.intro hR hT0)))))
          have HWR := Lib.hid hWr
          have hoi : (o : Int) < 10 := by omega
          have hRi : ((R o).length : Int) ≤ 1048576 := by omega
          clear hB1 hoz hBz hrun hrow hon hfr hz how ho1 hL' hLl hstep hnext hR hT0 hWr hpx hG hRl
          go_wp2_with fail
          refine wp_region_met (S := TwoCalls 9 10 (fun x => x = y1.drew) (fun x => x = z) (fun x => PutP wr y1 p first en cn ad cp R o a' c' L' x)) 13 (by kernel_rfl) (by kernel_rfl) (by kernel_rfl) (by decide) (tc_start _ rfl) ?_
          apply walkedM_cons
          · intro l9 wS hz hn hm hS
            have HD := Lib.hid (tc_other 0 (by decide) (by decide) hS)
            clear hS hz hn hm
            go_wp2
            exact ⟨rfl, rfl, HD.out⟩
          · rfl
          (try simp only [Act.put, List.setIfInBounds_toArray, List.set_cons_succ, List.set_cons_zero])
          apply walkedM_cons
          · intro l9 wS hz hn hm hS
            have HD := Lib.hid (tc_other 1 (by decide) (by decide) hS)
            clear hS hz hn hm
            go_wp2
            exact ⟨rfl, rfl, HD.out⟩
          · rfl
          (try simp only [Act.put, List.setIfInBounds_toArray, List.set_cons_succ, List.set_cons_zero])
          apply walkedM_cons
          · intro l9 wS hz hn hm hS
            have HD := Lib.hid (tc_other 2 (by decide) (by decide) hS)
            clear hS hz hn hm
            go_wp2
            exact ⟨rfl, rfl, HD.out⟩
          · rfl
          (try simp only [Act.put, List.setIfInBounds_toArray, List.set_cons_succ, List.set_cons_zero])
          apply walkedM_cons
          · intro l9 wS hz hn hm hS
            have HD := Lib.hid (tc_other 3 (by decide) (by decide) hS)
            clear hS hz hn hm
            go_wp2
            exact ⟨rfl, rfl, HD.out⟩
          · rfl
          (try simp only [Act.put, List.setIfInBounds_toArray, List.set_cons_succ, List.set_cons_zero])
          apply walkedM_cons
          · intro l9 wS hz hn hm hS
            have HD := Lib.hid (tc_other 4 (by decide) (by decide) hS)
            clear hS hz hn hm
            go_wp2
            exact ⟨rfl, rfl, HD.out⟩
          · rfl
          (try simp only [Act.put, List.setIfInBounds_toArray, List.set_cons_succ, List.set_cons_zero])
          apply walkedM_cons
          · intro l9 wS hz hn hm hS
            have HD := Lib.hid (tc_other 5 (by decide) (by decide) hS)
            clear hS hz hn hm
            go_wp2
            exact ⟨rfl, rfl, HD.out⟩
          · rfl
          (try simp only [Act.put, List.setIfInBounds_toArray, List.set_cons_succ, List.set_cons_zero])
          apply walkedM_cons
          · intro l9 wS hz hn hm hS
            have HD := Lib.hid (tc_other 6 (by decide) (by decide) hS)
            clear hS hz hn hm
            go_wp2
            exact ⟨rfl, rfl, HD.out⟩
          · rfl
          (try simp only [Act.put, List.setIfInBounds_toArray, List.set_cons_succ, List.set_cons_zero])
          apply walkedM_cons
          · intro l9 wS hz hn hm hS
            have HD := Lib.hid (tc_other 7 (by decide) (by decide) hS)
            have ck := tc_any (P := fun x => x.cell? ⟨p, 2 + o, none⟩ = some (.slice (ad o) (R o).length (cp o))) hS (fun h => HC0.out _ (by rw [h]; exact old_drew (old_refl _))) (fun h => HC0.out _ (by rw [h, ← HZ.out]; exact old_alloc (old_drew (old_refl _)) _)) (fun h => h.cell)
            clear hS hz hn hm
            go_wp2
            exact ⟨rfl, rfl, HD.out⟩
          · rfl
          (try simp only [Act.put, List.setIfInBounds_toArray, List.set_cons_succ, List.set_cons_zero])
          apply walkedM_cons
          · intro l9 wS hz hn hm hS
            have HD := Lib.hid (tc_other 8 (by decide) (by decide) hS)
            clear hS hz hn hm
            go_wp2
            exact ⟨rfl, rfl, HD.out⟩
          · rfl
          (try simp only [Act.put, List.setIfInBounds_toArray, List.set_cons_succ, List.set_cons_zero])
          apply walkedM_cons
          · intro l9 wS hz hn hm hS
            obtain ⟨rfl, hnext⟩ := tc_first (by decide) (by rw [hz]; decide) hn hS
            have HN := Lib.hid hnext
            have HZ2 := HZ.out
            clear hS hnext hz hn hm
            go_wp2
            exact ⟨rfl, rfl, HN.out _ rfl⟩
          · rfl
          (try simp only [Act.put, List.setIfInBounds_toArray, List.set_cons_succ, List.set_cons_zero])
          apply walkedM_cons
          · intro l9 wS hz hn hm hS
            obtain ⟨rfl, hnext⟩ := tc_second (by decide) (by rw [hz]; decide) (hm _ rfl ⟨9, .data⟩ (by simp) rfl) hn hS
            have HD := Lib.hid (hnext _ HI.out.2)
            have hrun := HI.out.1
            clear hS hnext hz hn hm
            go_wp2_with (at_builtin; refine wpList_append_run rfl _ _ 54 rfl _ _ rfl rfl _ _ hrun ?_; clear hrun)
            exact ⟨rfl, rfl, HD.out⟩
          · rfl
          (try simp only [Act.put, List.setIfInBounds_toArray, List.set_cons_succ, List.set_cons_zero])
          apply walkedM_cons
          · intro l9 wS hz hn hm hS
            have HD := Lib.hid (tc_other 11 (by decide) (by decide) hS)
            clear hS hz hn hm
            go_wp2
            exact ⟨rfl, rfl, HD.out⟩
          · rfl
          (try simp only [Act.put, List.setIfInBounds_toArray, List.set_cons_succ, List.set_cons_zero])
          apply walkedM_cons
          · intro l9 wS hz hn hm hS
            have HD := Lib.hid (tc_other 12 (by decide) (by decide) hS)
            clear hS hz hn hm
            go_wp2
            exact ⟨rfl, rfl, HD.out⟩
          · rfl
          (try simp only [Act.put, List.setIfInBounds_toArray, List.set_cons_succ, List.set_cons_zero])
          apply walkedM_nil
          intro l9 z9 hz hall hS
          have HE := Lib.hid (tc_end (hall 10 (by decide)) hS)
          clear hS hall hz l9
          show wpList _ _ _ [_, _] _ _
          obtain ⟨O', q1, q2, q3⟩ := bud_set HWR.out hko HE.out.blk HE.out.only HE.out.row HF.out
          rw [HL.out.2.1] at q1 q3
          have HQ : Hid (Old w (z9.setCell ⟨p, 2 + o, none⟩ (.slice a' ((R o).length + 1) c')) ∧ ∃ O, BudA p first en cn (fun k => beforeL (allS first en) en k (at_ + T0)) O (z9.setCell ⟨p, 2 + o, none⟩ (.slice a' ((R o).length + 1) c')) ∧ ∀ b, O b → p ≤ b) := Lib.hid ⟨Only.to_below ((Only.of_below HW.out.2.2.1).step q3 (fun b hb h => by have := HW.out.2.2.2.1 b h; rw [← HP.out.1] at this; omega)), O', budA_congr ⟨_, _, q1⟩ (fun k hk => by
            have hs := HL.out.2.2.1 k (by omega)
            rw [HL.out.2.2.2.2.2] at hs
            show _ = beforeL (allS first en) en k (at_ + T0)
            rw [hs, ← HL.out.1, ← HL.out.2.2.2.2.1]
            by_cases hko : k = o
            · subst hko; rw [upd_same, if_pos rfl]
            · rw [upd_ne _ _ hko, if_neg hko, List.append_nil]), fun b hb => by
            rcases q2 b hb with h | h
            · exact HW.out.2.2.2.1 b h
            · have := HW.out.2.2.1.size; rw [HP.out.1] at this; omega⟩
          have hc9 := HE.out.cell
          have hf9 := frozen_of HE.out.blk (2 + o)
          have hat2 : (at_ : Int) + (T0 : Int) ≤ 1048576 := by have := HL.out.2.2.2.1.2.1; rw [HL.out.2.2.2.2.2] at this; have := HB.out; omega
          clear q1 q2 q3 hc1 HC0 HI HF HE
          go_wp2
          try simp only [toLabel]
          refine hM2 _ _ (Met.intro (hJ2 _ _ (by kernel_rfl) ?_ ?_))
          · exact ⟨at_ + T0, by show Value.int .i64 ((at_ : Int) + (T0 : Int)) = _; simp, by rw [← HL.out.2.2.2.2.2]; exact HL.out.2.2.2.1, HQ.out.1, HQ.out.2⟩
          · have := HW.out.2.2.2.2
            rw [H7.out]; show en - (intOf (Value.int .i64 ((at_ : Int) + (T0 : Int)))).toNat < en - (intOf (Value.int .i64 (at_ : Int))).toNat
            simp [intOf]; omega
        · obtain ⟨m, hmm⟩ : ∃ m, at_ % T = m := ⟨_, rfl⟩
          have hrem : (at_ : Int).tmod (T : Int) = (m : Int) := by rw [Int.tmod_eq_emod_of_nonneg (by omega)]; omega
          have hm0 : ((m : Int) == 0) = false := by rw [beq_eq_false_iff_ne]; omega
          clear hgo hal hfit hko hOx hWx hG h9 hT hm hmm
          go_wp2_with fail
          refine wp_region_walked (S := Is x.drew) (by kernel_rfl) (by kernel_rfl) rfl ?_
          repeat (apply walked_cons; (first | exact gives_and rfl rfl rfl rfl | exact gives_or rfl rfl rfl rfl | (focus (intro wS hS; cases hS; go_wp2; exact ⟨rfl, rfl, rfl⟩; done)) | (focus (apply gives_guard; (focus (first | exact wanted_yes rfl rfl rfl | exact wanted_no rfl rfl rfl | exact wanted_yes2 rfl rfl rfl | exact wanted_no2 rfl rfl rfl)); (focus (intro hx9; (try simp only [Bool.not_eq_true', Bool.and_eq_true, Bool.not_not] at hx9); (try obtain ⟨hx9, hy9⟩ := hx9); (try subst hy9); (try subst hx9); (first | exact gives_and rfl rfl rfl rfl | exact gives_or rfl rfl rfl rfl | (intro wS hS; cases hS; go_wp2; exact ⟨rfl, rfl, rfl⟩; done))))))); rfl; (try simp only [Act.put, List.setIfInBounds_toArray, List.set_cons_succ, List.set_cons_zero]))
          apply walked_nil
          intro wS hS
          cases hS
          clear c0 c1
          have ho1 : Old wr x.drew := old_drew HS.out.2
          generalize x.drew = y1 at *
          have hG := HS.out.1
          obtain ⟨T0, hT0, hw0, hT01, hT02⟩ := pow_ten (show o < 10 by have := hG.o9; omega)
          have hstep := fun k hk => before_step (k := k) (M := en) HW.out.2.1 hG hk (Nat.le_refl _)
          have hnext := new_next HW.out.2.1 hG
          have hko : o < 10 := by have := hG.o9; omega
          obtain ⟨R, hR⟩ : ∃ R : Nat → List Nat, (fun k => beforeL (allS first en) en k at_) = R := ⟨_, rfl⟩
          have hWr : BudW O wr p first en cn ad cp R := by rw [← hR]; exact HW.out.1
          have hB1 := budW_old hWr (old_drew ho1)
          have hc1 := bud_cell hB1 hko
          obtain ⟨z, hz⟩ : ∃ z, y1.drew.alloc (.cells #[.int .i64 (at_ : Nat)] 3) = z := ⟨_, rfl⟩
          have hoz : Old y1.drew z := by rw [← hz]; exact old_alloc (old_refl _) _
          have hBz := budW_old hB1 hoz
          have hRl : (R o).length ≤ 1048576 := by
            rw [← hR]
            have h1 := runsL_len (allS first en) en o
            have h2 : (beforeL (allS first en) en o at_).length ≤ (runsL (allS first en) en o).length := List.length_filter_le ..
            have := HB.out
            show (beforeL (allS first en) en o at_).length ≤ _
            omega
          obtain ⟨a', c', w9, hrun, hrow, hon, hfr⟩ := rowI_append (hBz.rows o hko) ⟨y1.heap.size, 0, none⟩ at_ 1 (by rw [← hz]; exact news_block y1.drew [vI at_] 3 y1.heap.size rfl) (by omega)
          obtain ⟨L', hL'⟩ : ∃ L', R o ++ [at_] = L' := ⟨_, rfl⟩
          have hLl : L'.length = (R o).length + 1 := by rw [← hL', List.length_append]; rfl
          rw [hL'] at hrow
          have HZ := Lib.hid hz
          have HC0 : Hid (∀ x, Old y1 x → x.cell? ⟨p, 2 + o, none⟩ = some (.slice (ad o) (R o).length (cp o))) := Lib.hid fun x hx => bud_cell (budW_old hWr (old_then ho1 hx)) hko
          have how : Only (fun b => ad o = some ⟨b, 0, none⟩) wr z := ((Only.of_below (old_then (old_drew ho1) hoz)).mono fun _ _ f => f.elim)
          have hpx := keep_only hon (fun e => (hBz.rown o p 0 hko e).2 rfl) hBz.hp
          have HI : Hid ((Builtin.append_ #[54, 54] 54 #[.slice (ad o) (R o).length (cp o), .slice (some ⟨y1.heap.size, 0, none⟩) 1 1]).run Try.prog z = .ok (.slice a' ((R o).length + 1) c') w9 ∧ PutP wr y1 p first en cn ad cp R o a' c' L' w9) := Lib.hid ⟨hrun, hpx, by rw [cell_of hpx, List.getElem?_toArray, budCells_row hko], how.trans hon, hrow⟩
          have HF : Hid (∀ z off, a' = some ⟨z, off, none⟩ → ad o = some ⟨z, 0, none⟩ ∨ wr.heap.size ≤ z) := Lib.hid fun z off e => (hfr z off e).imp id fun h => by have := (old_then (old_drew ho1) hoz).size; omega
          have HL := Lib.hid (And.intro hL' (And.intro hLl (And.intro hstep (And.intro hnext (And.intro hR hT0)))))
          have HWR := Lib.hid hWr
          have hoi : (o : Int) < 10 := by omega
          have hRi : ((R o).length : Int) ≤ 1048576 := by omega
          clear hB1 hoz hBz hrun hrow hon hfr hz how ho1 hL' hLl hstep hnext hR hT0 hWr hpx hG hRl
          go_wp2_with fail
          refine wp_region_met (S := TwoCalls 9 10 (fun x => x = y1.drew) (fun x => x = z) (fun x => PutP wr y1 p first en cn ad cp R o a' c' L' x)) 13 (by kernel_rfl) (by kernel_rfl) (by kernel_rfl) (by decide) (tc_start _ rfl) ?_
          apply walkedM_cons
          · intro l9 wS hz hn hm hS
            have HD := Lib.hid (tc_other 0 (by decide) (by decide) hS)
            clear hS hz hn hm
            go_wp2
            exact ⟨rfl, rfl, HD.out⟩
          · rfl
          (try simp only [Act.put, List.setIfInBounds_toArray, List.set_cons_succ, List.set_cons_zero])
          apply walkedM_cons
          · intro l9 wS hz hn hm hS
            have HD := Lib.hid (tc_other 1 (by decide) (by decide) hS)
            clear hS hz hn hm
            go_wp2
            exact ⟨rfl, rfl, HD.out⟩
          · rfl
          (try simp only [Act.put, List.setIfInBounds_toArray, List.set_cons_succ, List.set_cons_zero])
          apply walkedM_cons
          · intro l9 wS hz hn hm hS
            have HD := Lib.hid (tc_other 2 (by decide) (by decide) hS)
            clear hS hz hn hm
            go_wp2
            exact ⟨rfl, rfl, HD.out⟩
          · rfl
          (try simp only [Act.put, List.setIfInBounds_toArray, List.set_cons_succ, List.set_cons_zero])
          apply walkedM_cons
          · intro l9 wS hz hn hm hS
            have HD := Lib.hid (tc_other 3 (by decide) (by decide) hS)
            clear hS hz hn hm
            go_wp2
            exact ⟨rfl, rfl, HD.out⟩
          · rfl
          (try simp only [Act.put, List.setIfInBounds_toArray, List.set_cons_succ, List.set_cons_zero])
          apply walkedM_cons
          · intro l9 wS hz hn hm hS
            have HD := Lib.hid (tc_other 4 (by decide) (by decide) hS)
            clear hS hz hn hm
            go_wp2
            exact ⟨rfl, rfl, HD.out⟩
          · rfl
          (try simp only [Act.put, List.setIfInBounds_toArray, List.set_cons_succ, List.set_cons_zero])
          apply walkedM_cons
          · intro l9 wS hz hn hm hS
            have HD := Lib.hid (tc_other 5 (by decide) (by decide) hS)
            clear hS hz hn hm
            go_wp2
            exact ⟨rfl, rfl, HD.out⟩
          · rfl
          (try simp only [Act.put, List.setIfInBounds_toArray, List.set_cons_succ, List.set_cons_zero])
          apply walkedM_cons
          · intro l9 wS hz hn hm hS
            have HD := Lib.hid (tc_other 6 (by decide) (by decide) hS)
            clear hS hz hn hm
            go_wp2
            exact ⟨rfl, rfl, HD.out⟩
          · rfl
          (try simp only [Act.put, List.setIfInBounds_toArray, List.set_cons_succ, List.set_cons_zero])
          apply walkedM_cons
          · intro l9 wS hz hn hm hS
            have HD := Lib.hid (tc_other 7 (by decide) (by decide) hS)
            have ck := tc_any (P := fun x => x.cell? ⟨p, 2 + o, none⟩ = some (.slice (ad o) (R o).length (cp o))) hS (fun h => HC0.out _ (by rw [h]; exact old_drew (old_refl _))) (fun h => HC0.out _ (by rw [h, ← HZ.out]; exact old_alloc (old_drew (old_refl _)) _)) (fun h => h.cell)
            clear hS hz hn hm
            go_wp2
            exact ⟨rfl, rfl, HD.out⟩
          · rfl
          (try simp only [Act.put, List.setIfInBounds_toArray, List.set_cons_succ, List.set_cons_zero])
          apply walkedM_cons
          · intro l9 wS hz hn hm hS
            have HD := Lib.hid (tc_other 8 (by decide) (by decide) hS)
            clear hS hz hn hm
            go_wp2
            exact ⟨rfl, rfl, HD.out⟩
          · rfl
          (try simp only [Act.put, List.setIfInBounds_toArray, List.set_cons_succ, List.set_cons_zero])
          apply walkedM_cons
          · intro l9 wS hz hn hm hS
            obtain ⟨rfl, hnext⟩ := tc_first (by decide) (by rw [hz]; decide) hn hS
            have HN := Lib.hid hnext
            have HZ2 := HZ.out
            clear hS hnext hz hn hm
            go_wp2
            exact ⟨rfl, rfl, HN.out _ rfl⟩
          · rfl
          (try simp only [Act.put, List.setIfInBounds_toArray, List.set_cons_succ, List.set_cons_zero])
          apply walkedM_cons
          · intro l9 wS hz hn hm hS
            obtain ⟨rfl, hnext⟩ := tc_second (by decide) (by rw [hz]; decide) (hm _ rfl ⟨9, .data⟩ (by simp) rfl) hn hS
            have HD := Lib.hid (hnext _ HI.out.2)
            have hrun := HI.out.1
            clear hS hnext hz hn hm
            go_wp2_with (at_builtin; refine wpList_append_run rfl _ _ 54 rfl _ _ rfl rfl _ _ hrun ?_; clear hrun)
            exact ⟨rfl, rfl, HD.out⟩
          · rfl
          (try simp only [Act.put, List.setIfInBounds_toArray, List.set_cons_succ, List.set_cons_zero])
          apply walkedM_cons
          · intro l9 wS hz hn hm hS
            have HD := Lib.hid (tc_other 11 (by decide) (by decide) hS)
            clear hS hz hn hm
            go_wp2
            exact ⟨rfl, rfl, HD.out⟩
          · rfl
          (try simp only [Act.put, List.setIfInBounds_toArray, List.set_cons_succ, List.set_cons_zero])
          apply walkedM_cons
          · intro l9 wS hz hn hm hS
            have HD := Lib.hid (tc_other 12 (by decide) (by decide) hS)
            clear hS hz hn hm
            go_wp2
            exact ⟨rfl, rfl, HD.out⟩
          · rfl
          (try simp only [Act.put, List.setIfInBounds_toArray, List.set_cons_succ, List.set_cons_zero])
          apply walkedM_nil
          intro l9 z9 hz hall hS
          have HE := Lib.hid (tc_end (hall 10 (by decide)) hS)
          clear hS hall hz l9
          show wpList _ _ _ [_, _] _ _
          obtain ⟨O', q1, q2, q3⟩ := bud_set HWR.out hko HE.out.blk HE.out.only HE.out.row HF.out
          rw [HL.out.2.1] at q1 q3
          have HQ : Hid (Old w (z9.setCell ⟨p, 2 + o, none⟩ (.slice a' ((R o).length + 1) c')) ∧ ∃ O, BudA p first en cn (fun k => beforeL (allS first en) en k (at_ + T0)) O (z9.setCell ⟨p, 2 + o, none⟩ (.slice a' ((R o).length + 1) c')) ∧ ∀ b, O b → p ≤ b) := Lib.hid ⟨Only.to_below ((Only.of_below HW.out.2.2.1).step q3 (fun b hb h => by have := HW.out.2.2.2.1 b h; rw [← HP.out.1] at this; omega)), O', budA_congr ⟨_, _, q1⟩ (fun k hk => by
            have hs := HL.out.2.2.1 k (by omega)
            rw [HL.out.2.2.2.2.2] at hs
            show _ = beforeL (allS first en) en k (at_ + T0)
            rw [hs, ← HL.out.1, ← HL.out.2.2.2.2.1]
            by_cases hko : k = o
            · subst hko; rw [upd_same, if_pos rfl]
            · rw [upd_ne _ _ hko, if_neg hko, List.append_nil]), fun b hb => by
            rcases q2 b hb with h | h
            · exact HW.out.2.2.2.1 b h
            · have := HW.out.2.2.1.size; rw [HP.out.1] at this; omega⟩
          have hc9 := HE.out.cell
          have hf9 := frozen_of HE.out.blk (2 + o)
          have hat2 : (at_ : Int) + (T0 : Int) ≤ 1048576 := by have := HL.out.2.2.2.1.2.1; rw [HL.out.2.2.2.2.2] at this; have := HB.out; omega
          clear q1 q2 q3 hc1 HC0 HI HF HE
          go_wp2
          try simp only [toLabel]
          refine hM2 _ _ (Met.intro (hJ2 _ _ (by kernel_rfl) ?_ ?_))
          · exact ⟨at_ + T0, by show Value.int .i64 ((at_ : Int) + (T0 : Int)) = _; simp, by rw [← HL.out.2.2.2.2.2]; exact HL.out.2.2.2.1, HQ.out.1, HQ.out.2⟩
          · have := HW.out.2.2.2.2
            rw [H7.out]; show en - (intOf (Value.int .i64 ((at_ : Int) + (T0 : Int)))).toNat < en - (intOf (Value.int .i64 (at_ : Int))).toNat
            simp [intOf]; omega
end
end Go.Proofs.Ytnmccihgiphmjaa
namespace Go.Proofs.Ytnmccihgiphmjaa
set_option linter.unusedVariables false
set_option linter.unusedSimpArgs false
open Go.RowKit
end Go.Proofs.Ytnmccihgiphmjaa
namespace Go.Proofs.Ytnmccihgiphmjaa
set_option linter.unusedVariables false
set_option linter.unusedSimpArgs false
open Go.RowKit
end Go.Proofs.Ytnmccihgiphmjaa
namespace Go.Proofs.Ytnmccihgiphmjaa
set_option linter.unusedVariables false
set_option linter.unusedSimpArgs false
open Go.RowKit
section
variable {w x y : World} {q c n ops : Nat} {ad : Option Addr} {L : List (Nat × Nat)}
end
end Go.Proofs.Ytnmccihgiphmjaa
namespace Go.Proofs.Ytnmccihgiphmjaa
set_option linter.unusedVariables false
set_option linter.unusedSimpArgs false
open Go.RowKit
section
variable {J : Nat} {A B x : World} {l : Array Bool}
end
end Go.Proofs.Ytnmccihgiphmjaa
namespace Go.Proofs.Ytnmccihgiphmjaa
set_option linter.unusedVariables false
set_option linter.unusedSimpArgs false
open Go.RowKit
end Go.Proofs.Ytnmccihgiphmjaa
namespace Go.Proofs.Ytnmccihgiphmjaa
set_option linter.unusedVariables false
set_option linter.unusedSimpArgs false
open Go.RowKit
end Go.Proofs.Ytnmccihgiphmjaa
namespace Go.Proofs.Ytnmccihgiphmjaa
set_option linter.unusedVariables false
set_option linter.unusedSimpArgs false
open Go.RowKit
end Go.Proofs.Ytnmccihgiphmjaa
namespace Go.Proofs.Ytnmccihgiphmjaa
set_option linter.unusedVariables false
set_option linter.unusedSimpArgs false
open Go.RowKit
end Go.Proofs.Ytnmccihgiphmjaa
namespace Go.Proofs.Ytnmccihgiphmjaa
set_option linter.unusedVariables false
set_option linter.unusedSimpArgs false
open Go.RowKit
end Go.Proofs.Ytnmccihgiphmjaa
namespace Go.Proofs.Ytnmccihgiphmjaa
set_option linter.unusedVariables false
set_option linter.unusedSimpArgs false
open Go.RowKit
end Go.Proofs.Ytnmccihgiphmjaa
/- A map from whole numbers: a block that reads as a function and a count. No function of the program stands here. -/
namespace Go.Proofs.Ytnmccihgiphmjaa
set_option linter.unusedVariables false
set_option linter.unusedSimpArgs false
open Go.RowKit Go.MapKept
/-- The first with a key, and its place. -/
def seekL : List (Int × Value) → Int → Nat → Option (Nat × Value)
  | [], _, _ => none
  | x :: l, k, i => if k = x.1 then some (i, x.2) else seekL l k (i + 1)
def assocL (l : List (Int × Value)) (k : Int) : Option Value := (seekL l k 0).map (·.2)
theorem seekL_shift : ∀ (l : List (Int × Value)) (k : Int) (i : Nat), seekL l k (i + 1) = (seekL l k i).map fun x => (x.1 + 1, x.2)
  | [], k, i => rfl
  | x :: l, k, i => by
    unfold seekL
    split
    · rfl
    · exact seekL_shift l k (i + 1)
theorem assocL_cons (x : Int × Value) (l : List (Int × Value)) (k : Int) : assocL (x :: l) k = if k = x.1 then some x.2 else assocL l k := by
  unfold assocL
  rw [seekL]
  split
  · rfl
  · rw [seekL_shift]
    cases seekL l k 0 <;> rfl
/-- The entries of an array, as pairs. -/
def Entries (es : List MapEntry) (l : List (Int × Value)) : Prop := es.map (fun e => (e.key, e.val)) = l.map (fun x => (Value.int .i64 x.1, x.2))
theorem find_now : ∀ (es : List MapEntry) (l : List (Int × Value)) (k : Int) (i : Nat), Entries es l → Instr.findNow (.int .i64) (.int .i64 k) es i = some (seekL l k i)
  | [], [], k, i, _ => rfl
  | [], x :: l, k, i, h => by simp [Entries] at h
  | e :: es, [], k, i, h => by simp [Entries] at h
  | e :: es, x :: l, k, i, h => by
    obtain ⟨h1, h2⟩ : ((e.key, e.val) = (Value.int .i64 x.1, x.2)) ∧ Entries es l := by
      unfold Entries at h
      simp only [List.map_cons, List.cons.injEq] at h
      exact h
    have hk : e.key = .int .i64 x.1 := (Prod.mk.inj h1).1
    have hv : e.val = x.2 := (Prod.mk.inj h1).2
    unfold Instr.findNow seekL
    rw [hk]
    by_cases hkx : k = x.1
    · have hb : (k == x.1) = true := beq_iff_eq.2 hkx
      simp [Instr.sameNow, hkx, hv]
    · have hb : (k == x.1) = false := beq_eq_false_iff_ne.2 hkx
      simp only [Instr.sameNow, if_true, hb, if_neg hkx]
      exact find_now es l k (i + 1) h2
/-- Block m is a map that reads as f, of n keys. -/
def IsMap (w : World) (m : Nat) (f : Int → Option Value) (n : Nat) : Prop :=
  ∃ es clock l, w.heap[m]? = some (.map es clock) ∧ Entries es.toList l ∧ (l.map Prod.fst).Nodup ∧ l.length = n ∧ ∀ k, f k = assocL l k
theorem isMap_old {w x : World} {m n : Nat} {f : Int → Option Value} (h : IsMap w m f n) (ho : Old w x) : IsMap x m f n := by
  obtain ⟨es, clock, l, hb, r⟩ := h
  exact ⟨es, clock, l, keep_old ho hb, r⟩
theorem isMap_only {F : Nat → Prop} {w x : World} {m n : Nat} {f : Int → Option Value} (h : IsMap w m f n) (ho : Only F w x) (hF : ¬ F m) : IsMap x m f n := by
  obtain ⟨es, clock, l, hb, r⟩ := h
  exact ⟨es, clock, l, keep_only ho hF hb, r⟩
theorem isMap_lt {w : World} {m n : Nat} {f : Int → Option Value} (h : IsMap w m f n) : m < w.heap.size := by
  obtain ⟨es, clock, l, hb, r⟩ := h
  exact lt_of_block hb
theorem isMap_made (w : World) : IsMap (w.alloc (.map #[] 0)) w.heap.size (fun _ => none) 0 := ⟨#[], 0, [], new_block w _, rfl, List.nodup_nil, rfl, fun _ => rfl⟩
section
variable {P : Program} {t k e : TypeId} {w : World} {m n : Nat} {f : Int → Option Value}
theorem map_seek (hk : P.underlying k = some (.int .i64)) {es : Array MapEntry} {l : List (Int × Value)} (he : Entries es.toList l) (x : Int) :
    (Instr.findKey k (.int .i64 x) es.toList).run P w = .ok (seekL l x 0) w := run_findKey hk (find_now _ _ _ _ he)
/-- Another value at a key. -/
def updF (f : Int → Option Value) (x : Int) (v : Option Value) : Int → Option Value := fun y => if y = x then v else f y
theorem seek_some : ∀ {l : List (Int × Value)} {x : Int} {i : Nat} {y : Nat × Value}, seekL l x i = some y → ∃ a b, l = a ++ (x, y.2) :: b ∧ y.1 = i + a.length ∧ x ∉ a.map Prod.fst
  | [], x, i, y, h => by cases h
  | z :: l, x, i, y, h => by
    unfold seekL at h
    split at h
    · rename_i hx
      obtain rfl := Option.some.inj h
      exact ⟨[], l, by rw [hx]; rfl, by simp, by simp⟩
    · rename_i hx
      obtain ⟨a, b, rfl, h2, h3⟩ := seek_some h
      refine ⟨z :: a, b, rfl, by simp; omega, ?_⟩
      simp only [List.map_cons, List.mem_cons, not_or]
      exact ⟨hx, h3⟩
theorem assocL_append : ∀ (a b : List (Int × Value)) (k : Int), assocL (a ++ b) k = (assocL a k).or (assocL b k)
  | [], b, k => rfl
  | z :: a, b, k => by
    rw [List.cons_append, assocL_cons, assocL_cons, assocL_append a b k]
    split <;> rfl
theorem assocL_none : ∀ {a : List (Int × Value)} {k : Int}, k ∉ a.map Prod.fst → assocL a k = none
  | [], k, _ => rfl
  | z :: a, k, h => by
    simp only [List.map_cons, List.mem_cons, not_or] at h
    rw [assocL_cons, if_neg h.1, assocL_none h.2]
theorem assocL_mem : ∀ {a : List (Int × Value)} {k : Int}, assocL a k = none → k ∉ a.map Prod.fst
  | [], k, _ => by simp
  | z :: a, k, h => by
    rw [assocL_cons] at h
    split at h
    · cases h
    · rename_i hk
      simp only [List.map_cons, List.mem_cons, not_or]
      exact ⟨hk, assocL_mem h⟩
theorem entries_split {es : List MapEntry} {a b : List (Int × Value)} {y : Int × Value} (h : Entries es (a ++ y :: b)) :
    ∃ ea ee eb, es = ea ++ ee :: eb ∧ Entries ea a ∧ ee.key = .int .i64 y.1 ∧ ee.val = y.2 ∧ Entries eb b := by
  unfold Entries at h
  rw [List.map_append, List.map_cons] at h
  obtain ⟨ea, er, rfl, h1, h2⟩ := List.map_eq_append_iff.1 h
  obtain ⟨ee, eb, rfl, h3, h4⟩ := List.map_eq_cons_iff.1 h2
  exact ⟨ea, ee, eb, rfl, h1, (Prod.mk.inj h3).1, (Prod.mk.inj h3).2, h4⟩
theorem entries_join {ea eb : List MapEntry} {ee : MapEntry} {a b : List (Int × Value)} {y : Int × Value} (h1 : Entries ea a) (h2 : ee.key = .int .i64 y.1) (h3 : ee.val = y.2) (h4 : Entries eb b) : Entries (ea ++ ee :: eb) (a ++ y :: b) := by
  unfold Entries at *
  rw [List.map_append, List.map_cons, List.map_append, List.map_cons, h1, h4, h2, h3]
theorem entries_length {es : List MapEntry} {l : List (Int × Value)} (h : Entries es l) : es.length = l.length := by
  have := congrArg List.length h
  simpa using this
theorem modify_at {α : Type} (f : α → α) (x : α) (b : List α) : ∀ a : List α, (a ++ x :: b).modify a.length f = a ++ f x :: b
  | [] => by simp
  | z :: a => by
    have := modify_at f x b a
    simp [this]
theorem erase_at {α : Type} (x : α) (b : List α) : ∀ a : List α, (a ++ x :: b).eraseIdx a.length = a ++ b
  | [] => by simp
  | z :: a => by
    have := erase_at x b a
    simpa using this
/-- What a store or a delete leaves: block m is another map, all else is as it was. -/
theorem map_put (ht : P.underlying t = some (.map k e)) (hk : P.underlying k = some (.int .i64)) (h : IsMap w m f n) (x : Int) (v : Value) :
    ∃ w', (Instr.mapUpdate t (.map (some m)) (.int .i64 x) v).run P w = .ok () w' ∧ IsMap w' m (updF f x (some v)) (if (f x).isSome then n else n + 1) ∧ Only (fun j => j = m) w w' := by
  obtain ⟨es, clock, l, hb, he, hnd, hn, hf⟩ := h
  have h1 := Go.MapKept.run_getObj_map (P := P) hb
  have h2 := run_checkKey (P := P) (w := w) (k := .int .i64 x) hk (by first | trivial | exact ⟨_, rfl⟩ | simp [IsKey]) false 9999
  have h3 := map_seek (w := w) hk he x
  cases hs : seekL l x 0 with
  | none =>
    rw [hs] at h3
    have hfx : assocL l x = none := by rw [assocL, hs]; rfl
    refine ⟨putB w m (.map (es.push { key := .int .i64 x, val := v, born := clock }) (clock + 1)), ?_, ⟨_, _, l ++ [(x, v)], putB_same _ (lt_of_block hb), ?_, ?_, ?_, fun y => ?_⟩, (Only.refl _ w).putB _ fun _ => rfl⟩
    · have h4 := Go.MapKept.run_setObj_map (P := P) (.map (es.push { key := .int .i64 x, val := v, born := clock }) (clock + 1)) hb
      simp [Instr.mapUpdate, Sem.run_bind, run_underlying ht, Result.andThen, h1, h2, h3, h4]
      rfl
    · rw [Array.toList_push]
      exact entries_join (b := []) (eb := []) he rfl rfl rfl
    · rw [List.map_append, List.nodup_append]
      refine ⟨hnd, by simp, fun a ha b hb' => ?_⟩
      simp at hb'
      subst hb'
      intro hab
      subst hab
      exact assocL_mem hfx ha
    · rw [hf, hfx, List.length_append, hn]
      rfl
    · unfold updF
      rw [assocL_append, ← hf y, assocL_cons]
      by_cases hy : y = x
      · subst hy
        rw [if_pos rfl, hf, hfx, if_pos rfl]; rfl
      · rw [if_neg hy, if_neg hy]
        cases f y <;> rfl
  | some q =>
    rw [hs] at h3
    obtain ⟨a, b, rfl, hq, hna⟩ := seek_some hs
    obtain ⟨ea, ee, eb, hes, e1, e2, e3, e4⟩ := entries_split he
    have hfx : assocL (a ++ (x, q.2) :: b) x = some q.2 := by rw [assocL_append, assocL_none hna, assocL_cons, if_pos rfl]; rfl
    have hql : q.1 = ea.length := by rw [hq, entries_length e1]; omega
    have hget : es[q.1]? = some ee := by
      rw [← Array.getElem?_toList, hes, hql, List.getElem?_append_right (Nat.le_refl _)]
      simp
    have hmod : (es.modify q.1 fun z => { z with key := .int .i64 x, val := v }).toList = ea ++ { ee with key := .int .i64 x, val := v } :: eb := by
      rw [Array.toList_modify, hes, hql]
      exact modify_at _ _ _ _
    have hstay : (Instr.keyThatStays (.int .i64 x) (.int .i64 x)).run P w = .ok (.int .i64 x) w := by
      unfold Instr.keyThatStays
      rw [if_pos (by simp [Instr.sameBits])]
      rfl
    refine ⟨putB w m (.map (es.modify q.1 fun z => { z with key := .int .i64 x, val := v }) clock), ?_, ⟨_, _, a ++ (x, v) :: b, putB_same _ (lt_of_block hb), ?_, ?_, ?_, fun y => ?_⟩, (Only.refl _ w).putB _ fun _ => rfl⟩
    · have h4 := Go.MapKept.run_setObj_map (P := P) (.map (es.modify q.1 fun z => { z with key := .int .i64 x, val := v }) clock) hb
      simp [Instr.mapUpdate, Sem.run_bind, run_underlying ht, Result.andThen, h1, h2, h3, hget, e2, hstay, h4]
      rfl
    · rw [hmod]
      exact entries_join e1 rfl rfl e4
    · simpa using hnd
    · rw [hf, hfx]
      simpa using hn
    · unfold updF
      rw [hf y, assocL_append, assocL_append, assocL_cons, assocL_cons]
      by_cases hy : y = x
      · subst hy
        rw [if_pos rfl, if_pos rfl, assocL_none hna]; rfl
      · rw [if_neg hy, if_neg hy, if_neg hy]
theorem map_del (ht : P.underlying t = some (.map k e)) (hk : P.underlying k = some (.int .i64)) (h : IsMap w m f n) (x : Int) (v : Value) (hx : f x = some v) :
    ∃ w', (∀ t2 ty : TypeId, (Builtin.delete_ #[t, t2] ty #[.map (some m), .int .i64 x]).run P w = .ok (.tuple #[]) w') ∧ IsMap w' m (updF f x none) (n - 1) ∧ 1 ≤ n ∧ Only (fun j => j = m) w w' := by
  obtain ⟨es, clock, l, hb, he, hnd, hn, hf⟩ := h
  have h1 := Go.MapKept.run_getObj_map (P := P) hb
  have h2 := run_checkKey (P := P) (w := w) (k := .int .i64 x) hk (by first | trivial | exact ⟨_, rfl⟩ | simp [IsKey]) es.isEmpty 9999
  have h3 := map_seek (w := w) hk he x
  cases hs : seekL l x 0 with
  | none =>
    have hfx : assocL l x = none := by rw [assocL, hs]; rfl
    rw [hf, hfx] at hx
    cases hx
  | some q =>
    rw [hs] at h3
    obtain ⟨a, b, rfl, hq, hna⟩ := seek_some hs
    obtain ⟨ea, ee, eb, hes, e1, e2, e3, e4⟩ := entries_split he
    have hql : q.1 = ea.length := by rw [hq, entries_length e1]; omega
    have hnb : x ∉ b.map Prod.fst := by
      have := hnd
      rw [List.map_append, List.map_cons, List.nodup_append] at this
      exact (List.nodup_cons.1 this.2.1).1
    refine ⟨putB w m (.map (es.eraseIdxIfInBounds q.1) clock), fun t2 ty => ?_, ⟨_, _, a ++ b, putB_same _ (lt_of_block hb), ?_, ?_, ?_, fun y => ?_⟩, ?_, (Only.refl _ w).putB _ fun _ => rfl⟩
    · have h4 := Go.MapKept.run_setObj_map (P := P) (.map (es.eraseIdxIfInBounds q.1) clock) hb
      simp [Builtin.delete_, Sem.run_bind, run_underlying ht, Result.andThen, h1, h2, h3, h4]
      rfl
    · have : (es.eraseIdxIfInBounds q.1).toList = ea ++ eb := by
        rw [Array.toList_eraseIdxIfInBounds, hes, hql]
        exact erase_at _ _ _
      rw [this]
      unfold Entries at *
      rw [List.map_append, List.map_append, e1, e4]
    · rw [List.map_append, List.map_cons] at hnd
      rw [List.map_append]
      exact (hnd.sublist (List.Sublist.append_left (List.sublist_cons_self _ _) _))
    · simp at hn ⊢
      omega
    · unfold updF
      rw [hf y, assocL_append, assocL_append, assocL_cons]
      by_cases hy : y = x
      · subst hy
        rw [if_pos rfl, assocL_none hna, assocL_none hnb]; rfl
      · rw [if_neg hy, if_neg hy]
    · simp at hn
      omega
end
end Go.Proofs.Ytnmccihgiphmjaa
/- Contracts of the package disk. -/
namespace Go.Proofs.Ytnmccihgiphmjaa
set_option linter.unusedVariables false
set_option linter.unusedSimpArgs false
open Go.RowKit
/-- Another page at a slot. -/
def updP (pg : Int → Option (List Nat)) (k : Int) (v : Option (List Nat)) : Int → Option (List Nat) := fun y => if y = k then v else pg y
/-- A page's slice. -/
def PageIs (w : World) (X : Nat → Prop) (p m : Nat) (v : Value) (l : List Nat) : Prop :=
  ∃ g c, v = .slice (some ⟨g, 0, none⟩) 4096 c ∧ l.length = 4096 ∧ Row w 0 g c l ∧ ¬ X g ∧ g ≠ p ∧ g ≠ m
section
variable {w x : World} {X Y : Nat → Prop} {p m slots : Nat} {pg : Int → Option (List Nat)} {F : List Bool} {v : Value} {l : List Nat}
theorem page_only {G : Nat → Prop} (h : PageIs w X p m v l) (ho : Only G w x) (hG : ∀ b, ¬ X b → b ≠ p → b ≠ m → ¬ G b) : PageIs x X p m v l := by
  obtain ⟨g, c, rfl, h1, h2, h3, h4, h5⟩ := h
  exact ⟨g, c, rfl, h1, row_only h2 ho (hG g h3 h4 h5), h3, h4, h5⟩
end
end Go.Proofs.Ytnmccihgiphmjaa
/- Contracts of the package disk: what turns it. -/
namespace Go.Proofs.Ytnmccihgiphmjaa
set_option linter.unusedVariables false
set_option linter.unusedSimpArgs false
open Go.RowKit
section
variable {w : World} {X : Nat → Prop} {p m slots : Nat} {pg : Int → Option (List Nat)} {F F' : List Bool} {f : Int → Option Value} {fv fv' : Value}
end
end Go.Proofs.Ytnmccihgiphmjaa
/- Contracts of the package disk: New, Fail, Give. -/
namespace Go.Proofs.Ytnmccihgiphmjaa
set_option linter.unusedVariables false
set_option linter.unusedSimpArgs false
open Go.RowKit
end Go.Proofs.Ytnmccihgiphmjaa
/- Contracts of the package disk: Give, Read, Write. -/
namespace Go.Proofs.Ytnmccihgiphmjaa
set_option linter.unusedVariables false
set_option linter.unusedSimpArgs false
open Go.RowKit
section
variable {w w' : World} {X : Nat → Prop} {p m slots : Nat} {pg pg' : Int → Option (List Nat)} {F F' : List Bool} {f f' : Int → Option Value} {fv fv' : Value}
end
end Go.Proofs.Ytnmccihgiphmjaa
/- Contracts of the package disk: Read, Write. -/
namespace Go.Proofs.Ytnmccihgiphmjaa
set_option linter.unusedVariables false
set_option linter.unusedSimpArgs false
open Go.RowKit
end Go.Proofs.Ytnmccihgiphmjaa
/- Contracts of the package disk: Write. -/
namespace Go.Proofs.Ytnmccihgiphmjaa
set_option linter.unusedVariables false
set_option linter.unusedSimpArgs false
open Go.RowKit
end Go.Proofs.Ytnmccihgiphmjaa
/- Contracts of the package disk: Take. -/
namespace Go.Proofs.Ytnmccihgiphmjaa
set_option linter.unusedVariables false
set_option linter.unusedSimpArgs false
open Go.RowKit
end Go.Proofs.Ytnmccihgiphmjaa
/- Contracts of the package phys: the memory, what it holds, has, Frames, Ops, page, place, New. -/
namespace Go.Proofs.Ytnmccihgiphmjaa
set_option linter.unusedVariables false
set_option linter.unusedSimpArgs false
open Go.RowKit Go.MapKept
section
variable {P : Program} {t k e : TypeId} {w : World} {m n : Nat} {f : Int → Option Value}
theorem map_get (ht : P.underlying t = some (.map k e)) (hk : P.underlying k = some (.int .i64)) (h : IsMap w m f n) {x : Int} {v : Value} (hx : f x = some v) :
    (Instr.lookup t (.map (some m)) (.int .i64 x) false).run P w = .ok v w := by
  obtain ⟨es, clock, l, hb, he, _, _, hf⟩ := h
  rw [hf, assocL] at hx
  obtain ⟨y, hy, rfl⟩ := Option.map_eq_some_iff.1 hx
  have h1 := Go.MapKept.run_getObj_map (P := P) hb
  have h2 := run_checkKey (P := P) (w := w) (k := .int .i64 x) hk (by first | trivial | exact ⟨_, rfl⟩ | simp [IsKey]) es.isEmpty 9999
  have h3 := map_seek (w := w) hk he x
  rw [hy] at h3
  simp [Instr.lookup, Sem.run_bind, run_underlying ht, Result.andThen, h1, h2, h3]
theorem map_get_none (ht : P.underlying t = some (.map k e)) (hk : P.underlying k = some (.int .i64)) {z : Value} (hz : (zeroValue e).run P w = .ok z w) (h : IsMap w m f n) {x : Int} (hx : f x = none) :
    (Instr.lookup t (.map (some m)) (.int .i64 x) false).run P w = .ok z w := by
  obtain ⟨es, clock, l, hb, he, _, _, hf⟩ := h
  rw [hf, assocL] at hx
  have hy : seekL l x 0 = none := Option.map_eq_none_iff.1 hx
  have h1 := Go.MapKept.run_getObj_map (P := P) hb
  have h2 := run_checkKey (P := P) (w := w) (k := .int .i64 x) hk (by first | trivial | exact ⟨_, rfl⟩ | simp [IsKey]) es.isEmpty 9999
  have h3 := map_seek (w := w) hk he x
  rw [hy] at h3
  simp [Instr.lookup, Sem.run_bind, run_underlying ht, Result.andThen, h1, h2, h3, hz]
theorem map_del_none (ht : P.underlying t = some (.map k e)) (hk : P.underlying k = some (.int .i64)) (h : IsMap w m f n) (x : Int) (hx : f x = none) :
    ∀ t2 ty : TypeId, (Builtin.delete_ #[t, t2] ty #[.map (some m), .int .i64 x]).run P w = .ok (.tuple #[]) w := by
  obtain ⟨es, clock, l, hb, he, hnd, hn, hf⟩ := h
  rw [hf, assocL] at hx
  have hy : seekL l x 0 = none := Option.map_eq_none_iff.1 hx
  have h1 := Go.MapKept.run_getObj_map (P := P) hb
  have h2 := run_checkKey (P := P) (w := w) (k := .int .i64 x) hk (by first | trivial | exact ⟨_, rfl⟩ | simp [IsKey]) es.isEmpty 9999
  have h3 := map_seek (w := w) hk he x
  rw [hy] at h3
  intro t2 ty
  have h4 := Go.MapKept.run_setObj_map (P := P) (.map es clock) hb
  have hid : putB w m (.map es clock) = w := by
    unfold putB
    have : w.heap.setIfInBounds m (.map es clock) = w.heap := by
      apply Array.ext_getElem?
      intro i
      rw [Array.getElem?_setIfInBounds]
      by_cases hi : m = i
      · subst hi
        rw [if_pos rfl, hb, if_pos (lt_of_block hb)]
      · rw [if_neg hi]
    rw [this]
  simp [Builtin.delete_, Sem.run_bind, run_underlying ht, Result.andThen, h1, h2, h3, h4]
  exact hid
end
/-- The cells of a memory. -/
def memCells (frames m ops : Nat) : Array Value := #[.int .i64 frames, .map (some m), .int .i64 ops]
/-- Block p holds a memory; X: blocks that are not its own. -/
def IsMem (w : World) (X : Nat → Prop) (p frames : Nat) (pg : Int → Option (List Nat)) (ops : Nat) : Prop :=
  ∃ m f n, w.heap[p]? = some (.cells (memCells frames m ops) 58) ∧ ¬ X p ∧ IsMap w m f n ∧ ¬ X m ∧ m ≠ p ∧ (1 ≤ frames ∧ frames ≤ 1048576) ∧
    (∀ k, pg k = none → f k = none) ∧ (∀ k l, pg k = some l → ∃ v, f k = some v ∧ PageIs w X p m v l)
section
variable {w x : World} {X Y : Nat → Prop} {p frames ops : Nat} {pg : Int → Option (List Nat)}
/-- Others' blocks were turned. -/
theorem mem_only {G : Nat → Prop} (h : IsMem w X p frames pg ops) (ho : Only G w x) (hG : ∀ b, ¬ X b → ¬ G b) : IsMem x X p frames pg ops := by
  obtain ⟨m, f, n, h1, h2, h3, h4, h5, h6, h7, h8⟩ := h
  refine ⟨m, f, n, keep_only ho (hG p h2) h1, h2, isMap_only h3 ho (hG m h4), h4, h5, h6, h7, fun k l hk => ?_⟩
  obtain ⟨v, a, b⟩ := h8 k l hk
  exact ⟨v, a, page_only b ho fun b hb _ _ => hG b hb⟩
theorem mem_old (h : IsMem w X p frames pg ops) (ho : Old w x) : IsMem x X p frames pg ops := mem_only h (Only.of_below ho) fun _ _ f => f
/-- More blocks that are not the memory's own. -/
theorem mem_more (h : IsMem w X p frames pg ops) (hY : ∀ b, Y b → X b ∨ w.heap.size ≤ b) : IsMem w Y p frames pg ops := by
  obtain ⟨m, f, n, h1, h2, h3, h4, h5, h6, h7, h8⟩ := h
  have key : ∀ b, ¬ X b → b < w.heap.size → ¬ Y b := fun b hb hl hy => (hY b hy).elim hb (by omega)
  refine ⟨m, f, n, h1, key p h2 (lt_of_block h1), h3, key m h4 (isMap_lt h3), h5, h6, h7, fun k l hk => ?_⟩
  obtain ⟨v, a, g, c, rfl, b1, b2, b3, b4, b5⟩ := h8 k l hk
  exact ⟨_, a, g, c, rfl, b1, b2, key g b3 (row_parts b2).2.1, b4, b5⟩
/-- A page taken away. -/
theorem mem_zero (h : IsMem w X p frames pg ops) (k : Int) :
    ∃ m, w.cell? ⟨p, 1, none⟩ = some (.map (some m)) ∧ ∃ w', (∀ ty : TypeId, (Builtin.delete_ #[56, 3] ty #[.map (some m), .int .i64 k]).run Try.prog w = .ok (.tuple #[]) w') ∧ IsMem w' X p frames (updP pg k none) ops ∧ Only (fun b => ¬ X b) w w' := by
  obtain ⟨m, f, n, h1, h2, h3, h4, h5, h6, h7, h8⟩ := h
  have c1 : w.cell? ⟨p, 1, none⟩ = some (.map (some m)) := by rw [cell_of h1]; rfl
  cases hk : pg k with
  | none =>
    have hdel := map_del_none (P := Try.prog) (t := 56) Try.underlying56 Try.underlying3 h3 k (h7 k hk)
    have e : updP pg k none = pg := by
      funext j
      unfold updP
      by_cases hj : j = k
      · rw [if_pos hj, hj, hk]
      · rw [if_neg hj]
    rw [e]
    exact ⟨m, c1, w, fun ty => hdel 3 ty, ⟨m, f, n, h1, h2, h3, h4, h5, h6, h7, h8⟩, Only.refl _ _⟩
  | some l =>
    obtain ⟨v, hv, hpg⟩ := h8 k l hk
    obtain ⟨w', hdel, hmap, -, ho⟩ := map_del (P := Try.prog) (t := 56) Try.underlying56 Try.underlying3 h3 k v hv
    refine ⟨m, c1, w', fun ty => hdel 3 ty, ⟨m, _, _, keep_only ho (fun e => h5 e.symm) h1, h2, hmap, h4, h5, h6, fun j hj => ?_, fun j lj hj => ?_⟩, ho.mono fun b _ e => by rw [e]; exact h4⟩
    · unfold updP at hj
      unfold updF
      by_cases e : j = k
      · rw [if_pos e]
      · rw [if_neg e] at hj ⊢; exact h7 j hj
    · unfold updP at hj
      unfold updF
      by_cases e : j = k
      · rw [if_pos e] at hj; cases hj
      · rw [if_neg e] at hj ⊢
        obtain ⟨v, a, b⟩ := h8 j lj hj
        exact ⟨v, a, page_only b ho fun b _ _ hm e => hm e⟩
end
/-- What a method of the memory leaves. -/
def RetMem (w : World) (X : Nat → Prop) (p frames : Nat) (v : Value) (pg : Int → Option (List Nat)) (ops : Nat) (e : Ending) (w' : World) : Prop :=
  e = .returned v ∧ IsMem w' X p frames pg ops ∧ Only (fun b => ¬ X b) w w'
theorem physNew_calls (n : Nat) (w : World) (h1 : 1 ≤ n) (h2 : n ≤ 1048576) : Calls Try.prog 7 #[.int .i64 n] w (fun e w' =>
    e = .returned (.tuple #[.pointer (some ⟨w.heap.size + 1, 0, none⟩), .int .i64 0]) ∧ Old w w' ∧ w'.heap.size = w.heap.size + 2 ∧ ∀ X : Nat → Prop, (∀ b, X b → b < w.heap.size) → IsMem w' X (w.heap.size + 1) n (fun _ => none) 0) := by
  have i1 : (1 : Int) ≤ n := by omega
  have i2 : (n : Int) ≤ 1048576 := by omega
  have hmm := @run_makeMap Try.prog
  go_enter Try.func7, Try.ntmps7
  go_wp2
  go_ret2
  refine ⟨?_, old_alloc (old_alloc (old_refl w) _) _, by simp, fun X hX => ⟨w.heap.size, fun _ => none, 0, ?_, fun f => by have := hX _ f; omega, isMap_old (isMap_made w) (old_alloc (old_refl _) _), fun f => by have := hX _ f; omega, by omega, ⟨h1, h2⟩, fun _ _ => rfl, fun k l hk => by cases hk⟩⟩
  · first | rfl | simp
  · exact alloc_heap_new _ _ _ (by simp)
section
variable {X : Nat → Prop} {p frames ops : Nat} {pg : Int → Option (List Nat)} {w : World}
theorem frames_calls (h : IsMem w X p frames pg ops) : Calls Try.prog 30 #[.pointer (some ⟨p, 0, none⟩)] w (RetB w (.int .i64 frames)) := by
  obtain ⟨m, f, n, h1, h2, h3, h4, h5, h6, h7, h8⟩ := h
  have c0 : w.cell? ⟨p, 0, none⟩ = some (.int .i64 frames) := by rw [cell_of h1]; rfl
  clear h1 h2 h3 h4 h5 h6 h7 h8
  go_enter Try.func30, Try.ntmps30
  go_wp2
  go_ret
  exact ⟨rfl, old_refl _⟩
def hasB (frames : Nat) (k : Int) : Bool := decide (0 ≤ k) && decide (k < frames)
theorem has_calls (h : IsMem w X p frames pg ops) (k : Int) : Calls Try.prog 47 #[.pointer (some ⟨p, 0, none⟩), .int .i64 k] w (RetB w (.bool (hasB frames k))) := by
  obtain ⟨m, f, n, h1, h2, h3, h4, h5, h6, h7, h8⟩ := h
  have c0 : w.cell? ⟨p, 0, none⟩ = some (.int .i64 frames) := by rw [cell_of h1]; rfl
  clear h1 h2 h3 h4 h5 h6 h7 h8
  by_cases k0 : 0 ≤ k
  · by_cases k1 : k < frames
    · have e : hasB frames k = true := by unfold hasB; simp [k0, k1]
      rw [e]
      clear e
      go_enter Try.func47, Try.ntmps47
      go_wp2
      go_ret
      exact ⟨rfl, old_refl _⟩
    · have e : hasB frames k = false := by unfold hasB; simp [k1]
      rw [e]
      clear e
      go_enter Try.func47, Try.ntmps47
      go_wp2
      go_ret
      exact ⟨rfl, old_refl _⟩
  · have e : hasB frames k = false := by unfold hasB; simp [k0]
    rw [e]
    clear e
    go_enter Try.func47, Try.ntmps47
    go_wp2
    go_ret
    exact ⟨rfl, old_refl _⟩
end
end Go.Proofs.Ytnmccihgiphmjaa
/- Contracts of the package phys: place, Read, Write. -/
namespace Go.Proofs.Ytnmccihgiphmjaa
set_option linter.unusedVariables false
set_option linter.unusedSimpArgs false
open Go.RowKit
section
variable {X : Nat → Prop} {p frames ops : Nat} {pg : Int → Option (List Nat)} {w : World}
end
end Go.Proofs.Ytnmccihgiphmjaa
/- Contracts of the package phys: Read, Write; bytes.Clone, bytes.Equal. -/
namespace Go.Proofs.Ytnmccihgiphmjaa
set_option linter.unusedVariables false
set_option linter.unusedSimpArgs false
open Go.RowKit
section
variable {X : Nat → Prop} {p frames ops : Nat} {pg : Int → Option (List Nat)} {w : World}
end
end Go.Proofs.Ytnmccihgiphmjaa
/- What was put is got, part by part: plain. -/
namespace Go.Proofs.Ytnmccihgiphmjaa
set_option linter.unusedVariables false
set_option linter.unusedSimpArgs false
open Go.RowKit
end Go.Proofs.Ytnmccihgiphmjaa
/- A memory by its words: contracts of phys.New, Read and Write of eight bytes. -/
namespace Go.Proofs.Ytnmccihgiphmjaa
set_option linter.unusedVariables false
set_option linter.unusedSimpArgs false
open Go.RowKit
section
variable {w x : World} {X Y : Nat → Prop} {p frames N M : Nat} {wd : Nat → Nat}
end
end Go.Proofs.Ytnmccihgiphmjaa
namespace Go.Proofs.Ytnmccihgiphmjaa
set_option linter.unusedVariables false
set_option linter.unusedSimpArgs false
open Go.RowKit
section
variable {w x y : World} {q c n ops : Nat} {ad : Option Addr} {L : List (Nat × Nat)}
end
end Go.Proofs.Ytnmccihgiphmjaa
namespace Go.Proofs.Ytnmccihgiphmjaa
set_option linter.unusedVariables false
set_option linter.unusedSimpArgs false
open Go.RowKit
section
variable {w x y : World} {q c n ops : Nat} {ad : Option Addr} {L : List (Nat × Nat)}
end
end Go.Proofs.Ytnmccihgiphmjaa
namespace Go.Proofs.Ytnmccihgiphmjaa
set_option linter.unusedVariables false
set_option linter.unusedSimpArgs false
open Go.RowKit
end Go.Proofs.Ytnmccihgiphmjaa
namespace Go.Proofs.Ytnmccihgiphmjaa
set_option linter.unusedVariables false
set_option linter.unusedSimpArgs false
open Go.RowKit
section
variable {w x y : World} {q c n ops : Nat} {ad : Option Addr} {L : List (Nat × Nat)}
end
end Go.Proofs.Ytnmccihgiphmjaa
namespace Go.Proofs.Ytnmccihgiphmjaa
set_option linter.unusedVariables false
set_option linter.unusedSimpArgs false
open Go.RowKit
section
variable {w x y : World} {q c n ops : Nat} {ad : Option Addr} {L : List (Nat × Nat)}
end
end Go.Proofs.Ytnmccihgiphmjaa
namespace Go.Proofs.Ytnmccihgiphmjaa
set_option linter.unusedVariables false
set_option linter.unusedSimpArgs false
open Go.RowKit
section
variable {w x y : World} {q c n ops : Nat} {ad : Option Addr} {L : List (Nat × Nat)}
end
end Go.Proofs.Ytnmccihgiphmjaa
namespace Go.Proofs.Ytnmccihgiphmjaa
set_option linter.unusedVariables false
set_option linter.unusedSimpArgs false
open Go.RowKit
section
variable {P : Program} {ops : Array Oper} {Q : Exit → Act → World → Prop}
section
variable {S : (Nat → Value) → Array Bool → World → Prop}
end
end
end Go.Proofs.Ytnmccihgiphmjaa
namespace Go.Proofs.Ytnmccihgiphmjaa
set_option linter.unusedVariables false
set_option linter.unusedSimpArgs false
open Go.RowKit
section
variable {P : Program} {ops : Array Oper} {S : (Nat → Value) → Array Bool → World → Prop}
end
end Go.Proofs.Ytnmccihgiphmjaa
namespace Go.Proofs.Ytnmccihgiphmjaa
set_option linter.unusedVariables false
set_option linter.unusedSimpArgs false
open Go.RowKit
section
variable {X : Nat → Prop} {p frames ops : Nat} {pg : Int → Option (List Nat)} {w : World}
theorem zero_ok2 (h : IsMem w X p frames pg ops) (k : Int) (hk : hasB frames k = true) : Calls Try.prog 35 #[.pointer (some ⟨p, 0, none⟩), .int .i64 k] w (RetMem w X p frames (.int .i64 0) (updP pg k none) ops) := by
  have hh := has_calls h k
  rw [hk] at hh
  have H := Lib.hid h
  clear h hk
  go_enter Try.func35, Try.ntmps35
  go_wp2_with fail
  (with_reducible refine hh.mono ?_)
  rintro e w1 ⟨rfl, hb1⟩
  obtain ⟨m, c1, w2, hdel, hm2, hO2⟩ := mem_zero (mem_old H.out hb1) k
  have HF := Lib.hid (And.intro hm2 (((Only.of_below hb1).mono fun b _ f => f.elim).trans hO2 : Only (fun b => ¬ X b) w w2))
  clear hm2 hO2 hb1 hh
  go_wp2
  go_ret
  exact ⟨rfl, HF.out.1, HF.out.2⟩
end
end Go.Proofs.Ytnmccihgiphmjaa
namespace Go.Proofs.Ytnmccihgiphmjaa
set_option linter.unusedVariables false
set_option linter.unusedSimpArgs false
open Go.RowKit
section
variable {w x : World} {L : List (Nat × Nat)} {i : Nat} {v : Nat → Value} {l : Array Bool}
end
end Go.Proofs.Ytnmccihgiphmjaa
namespace Go.Proofs.Ytnmccihgiphmjaa
set_option linter.unusedVariables false
set_option linter.unusedSimpArgs false
open Go.RowKit
section
variable {w x y : World} {q c n ops : Nat} {ad : Option Addr} {L : List (Nat × Nat)}
end
end Go.Proofs.Ytnmccihgiphmjaa
namespace Go.Proofs.Ytnmccihgiphmjaa
set_option linter.unusedVariables false
set_option linter.unusedSimpArgs false
open Go.RowKit
section
variable {w x y : World} {X : Nat → Prop} {q n ops lim : Nat} {wd : Nat → Nat}
end
end Go.Proofs.Ytnmccihgiphmjaa
namespace Go.Proofs.Ytnmccihgiphmjaa
set_option linter.unusedVariables false
set_option linter.unusedSimpArgs false
open Go.RowKit
section
variable {w : World} {X : Nat → Prop} {q n ops lim : Nat} {wd : Nat → Nat}
end
end Go.Proofs.Ytnmccihgiphmjaa
namespace Go.Proofs.Ytnmccihgiphmjaa
set_option linter.unusedVariables false
set_option linter.unusedSimpArgs false
open Go.RowKit
section
variable {w : World} {X : Nat → Prop} {q n ops lim : Nat} {wd : Nat → Nat}
end
end Go.Proofs.Ytnmccihgiphmjaa
namespace Go.Proofs.Ytnmccihgiphmjaa
set_option linter.unusedVariables false
set_option linter.unusedSimpArgs false
open Go.RowKit
section
variable {w : World} {X : Nat → Prop} {q n ops lim c : Nat} {ad : Option Addr} {L : List (Nat × Nat)} {wd : Nat → Nat}
end
end Go.Proofs.Ytnmccihgiphmjaa
namespace Go.Proofs.Ytnmccihgiphmjaa
set_option linter.unusedVariables false
set_option linter.unusedSimpArgs false
open Go.RowKit
section
variable {w : World} {X : Nat → Prop} {q n ops lim c : Nat} {ad : Option Addr} {L : List (Nat × Nat)} {wd : Nat → Nat}
end
end Go.Proofs.Ytnmccihgiphmjaa
namespace Go.Proofs.Ytnmccihgiphmjaa
set_option linter.unusedVariables false
set_option linter.unusedSimpArgs false
open Go.RowKit
section
variable {w : World} {X : Nat → Prop} {q n ops lim : Nat} {wd : Nat → Nat}
end
end Go.Proofs.Ytnmccihgiphmjaa
namespace Go.Proofs.Ytnmccihgiphmjaa
set_option linter.unusedVariables false
set_option linter.unusedSimpArgs false
open Go.RowKit
/-- The program's memory. -/
def MemA (p n : Nat) (pg : Int → Option (List Nat)) (ops : Nat) : Asn := fun O w => IsMem w (fun b => ¬ O b) p n pg ops ∧ ∀ b, O b → b < w.heap.size
section
variable {w x y : World} {X Y O : Nat → Prop} {p q n ops lim : Nat} {pg : Int → Option (List Nat)} {wd : Nat → Nat}
theorem loc_mem (p n : Nat) (pg : Int → Option (List Nat)) (ops : Nat) : Loc (MemA p n pg ops) :=
  ⟨fun h hb => h.2 _ hb, fun h ho hG => ⟨mem_only h.1 ho (fun b hb => hG b (Classical.not_not.1 hb)), fun b hb => Nat.lt_of_lt_of_le (h.2 b hb) ho.size⟩⟩
/-- The bounded set of the blocks that are others'. -/
abbrev Oth (O : Nat → Prop) (w : World) : Nat → Prop := fun b => b < w.heap.size ∧ ¬ O b
abbrev Own (O : Nat → Prop) (w y : World) : Nat → Prop := fun b => b < y.heap.size ∧ (O b ∨ w.heap.size ≤ b)
theorem mem_oth (h : MemA p n pg ops O w) : IsMem w (Oth O w) p n pg ops := mem_more h.1 fun b hb => .inl hb.2
theorem own_out {b : Nat} (h : ¬ Own O w y b) : Oth O w b ∨ y.heap.size ≤ b := by
  by_cases hb : b < y.heap.size
  · by_cases ho : O b
    · exact absurd ⟨hb, .inl ho⟩ h
    · by_cases hw : w.heap.size ≤ b
      · exact absurd ⟨hb, .inr hw⟩ h
      · exact .inl ⟨by omega, ho⟩
  · exact .inr (by omega)
theorem turn_mem_at {f : FuncId} {args : Array Value} {v : Value} {pg1 : Int → Option (List Nat)} {ops1 : Nat}
    (h : ∀ X, IsMem w X p n pg ops → (∀ b, X b → b < w.heap.size) → Calls Try.prog f args w (RetMem w X p n v pg1 ops1)) (hA : MemA p n pg ops O w) :
    Calls Try.prog f args w (fun e y => e = .returned v ∧ ∃ O', MemA p n pg1 ops1 O' y ∧ (∀ b, O' b → O b ∨ w.heap.size ≤ b) ∧ Only O w y) := by
  refine (h (Oth O w) (mem_oth hA) (fun b hb => hb.1)).mono ?_
  rintro e y ⟨rfl, h1, h2⟩
  exact ⟨rfl, Own O w y, ⟨mem_more h1 fun b hb => own_out hb, fun b hb => hb.1⟩, fun b hb => hb.2, h2.mono fun b hb hn => by
    by_cases ho : O b
    · exact ho
    · exact absurd ⟨hb, ho⟩ hn⟩
theorem turn_mem {f : FuncId} {args : Array Value} {v : Value} {pg1 : Int → Option (List Nat)} {ops1 : Nat}
    (h : ∀ w X, IsMem w X p n pg ops → (∀ b, X b → b < w.heap.size) → Calls Try.prog f args w (RetMem w X p n v pg1 ops1)) : Turns Try.prog f args (MemA p n pg ops) v (MemA p n pg1 ops1) :=
  fun _ w hA => turn_mem_at (h w) hA
/-! The bytes behind each step. -/
end
end Go.Proofs.Ytnmccihgiphmjaa
namespace Go.Proofs.Ytnmccihgiphmjaa
set_option linter.unusedVariables false
set_option linter.unusedSimpArgs false
open Go.RowKit
/-- A buddy by the set of its free frames. -/
def BudT (b first en : Nat) (S : Nat → Bool) : Asn := BudA b first en (cntS S en) (runsF S en)
theorem loc_budT (b first en : Nat) (S : Nat → Bool) : Loc (BudT b first en S) := loc_bud ..
/-- A map of counts. -/
def cntF (C : Int → Nat) : Int → Option Value := fun k => if C k = 0 then none else some (.int .i64 (C k : Nat))
def CntA (m : Nat) (C : Int → Nat) : Asn := fun O w => (∀ b, O b ↔ b = m) ∧ ∃ n, IsMap w m (cntF C) n
theorem loc_cnt (m : Nat) (C : Int → Nat) : Loc (CntA m C) :=
  ⟨fun ⟨h1, n, h2⟩ hb => by rw [(h1 _).1 hb]; exact isMap_lt h2, fun ⟨h1, n, h2⟩ ho hG => ⟨h1, n, isMap_only h2 ho (hG m ((h1 m).2 rfl))⟩⟩
/-- The struct's cells. -/
def frCells (p pool bt bp m : Nat) : Array Value := #[.pointer (some ⟨p, 0, none⟩), .int .i64 (pool : Nat), .pointer (some ⟨bt, 0, none⟩), .pointer (some ⟨bp, 0, none⟩), .map (some m)]
/-- All that the frames hold. -/
def frL (fr p bt bp m n pool : Nat) (pg : Int → Option (List Nat)) (ops : Nat) (St Sp : Nat → Bool) (C : Int → Nat) : List Asn :=
  [Pts fr (frCells p pool bt bp m) 65, MemA p n pg ops, BudT bt 0 pool St, BudT bp pool n Sp, CntA m C]
theorem locs_fr {fr p bt bp m n pool : Nat} {pg : Int → Option (List Nat)} {ops : Nat} {St Sp : Nat → Bool} {C : Int → Nat} : Locs (frL fr p bt bp m n pool pg ops St Sp C) :=
  locs_cons (loc_pts ..) (locs_cons (loc_mem ..) (locs_cons (loc_budT ..) (locs_cons (loc_budT ..) (locs_cons (loc_cnt ..) locs_nil))))
section
variable {w x y : World} {O : Nat → Prop} {m : Nat} {C : Int → Nat}
theorem cnt_lookup (h : CntA m C O w) (k : Int) : (Instr.lookup 63 (.map (some m)) (.int .i64 k) false).run Try.prog w = .ok (.int .i64 (C k : Nat)) w := by
  obtain ⟨-, n, h2⟩ := h
  by_cases hk : C k = 0
  · have h3 : cntF C k = none := if_pos hk
    rw [hk]
    exact map_get_none (P := Try.prog) (t := 63) (z := .int .i64 0) Try.underlying63 Try.underlying3 (by kernel_rfl) h2 h3
  · have h3 : cntF C k = some (.int .i64 (C k : Nat)) := if_neg hk
    exact map_get (P := Try.prog) (t := 63) Try.underlying63 Try.underlying3 h2 h3
end
end Go.Proofs.Ytnmccihgiphmjaa
namespace Go.Proofs.Ytnmccihgiphmjaa
set_option linter.unusedVariables false
set_option linter.unusedSimpArgs false
open Go.RowKit
def updC (C : Int → Nat) (k : Int) (v : Nat) : Int → Nat := fun j => if j = k then v else C j
theorem cntF_upd (C : Int → Nat) (k : Int) (v : Nat) : cntF (updC C k v) = updF (cntF C) k (if v = 0 then none else some (.int .i64 (v : Nat))) := by
  funext j
  unfold cntF updC updF
  by_cases h : j = k
  · simp only [if_pos h]
  · simp only [if_neg h]
section
variable {w x y : World} {O : Nat → Prop} {m : Nat} {C : Int → Nat}
theorem cnt_put (h : CntA m C O w) (k : Int) (v : Nat) (hv : v ≠ 0) : ∃ w', (Instr.mapUpdate 63 (.map (some m)) (.int .i64 k) (.int .i64 (v : Nat))).run Try.prog w = .ok () w' ∧ CntA m (updC C k v) O w' ∧ Only O w w' := by
  obtain ⟨h1, n, h2⟩ := h
  obtain ⟨w', p1, p2, p3⟩ := map_put (P := Try.prog) (t := 63) Try.underlying63 Try.underlying3 h2 k (.int .i64 (v : Nat))
  obtain ⟨n2, hn2⟩ : ∃ n2, IsMap w' m (updF (cntF C) k (some (.int .i64 (v : Nat)))) n2 := ⟨_, p2⟩
  exact ⟨w', p1, ⟨h1, n2, by rw [cntF_upd, if_neg hv]; exact hn2⟩, p3.mono fun b _ e => by rw [e]; exact (h1 m).2 rfl⟩
theorem cnt_del (h : CntA m C O w) (k : Int) (hk : C k ≠ 0) : ∃ w', (∀ t2 ty : TypeId, (Builtin.delete_ #[63, t2] ty #[.map (some m), .int .i64 k]).run Try.prog w = .ok (.tuple #[]) w') ∧ CntA m (updC C k 0) O w' ∧ Only O w w' := by
  obtain ⟨h1, n, h2⟩ := h
  obtain ⟨w', p1, p2, p3, p4⟩ := map_del (P := Try.prog) (t := 63) Try.underlying63 Try.underlying3 h2 k (.int .i64 (C k : Nat)) (if_neg hk)
  obtain ⟨n2, hn2⟩ : ∃ n2, IsMap w' m (updF (cntF C) k none) n2 := ⟨_, p2⟩
  exact ⟨w', p1, ⟨h1, n2, by rw [cntF_upd, if_pos rfl]; exact hn2⟩, p4.mono fun b _ e => by rw [e]; exact (h1 m).2 rfl⟩
end
section
variable {w x y : World} {O : Nat → Prop} {fr p bt bp m n pool ops : Nat} {pg : Int → Option (List Nat)} {St Sp : Nat → Bool} {C : Int → Nat}
theorem fr_cells (E : Ev w O (frL fr p bt bp m n pool pg ops St Sp C) x) : x.cell? ⟨fr, 0, none⟩ = some (.pointer (some ⟨p, 0, none⟩)) ∧ x.cell? ⟨fr, 1, none⟩ = some (.int .i64 (pool : Nat)) ∧ x.cell? ⟨fr, 2, none⟩ = some (.pointer (some ⟨bt, 0, none⟩)) ∧ x.cell? ⟨fr, 3, none⟩ = some (.pointer (some ⟨bp, 0, none⟩)) ∧ x.cell? ⟨fr, 4, none⟩ = some (.map (some m)) := by
  have k1 := cell_of (ev_pts E (i := 0) rfl)
  exact ⟨k1 0, k1 1, k1 2, k1 3, k1 4⟩
set_option maxHeartbeats 4000000 in
set_option maxRecDepth 100000 in
theorem frCount_calls (h : SepL (frL fr p bt bp m n pool pg ops St Sp C) O w) (k : Int) : Calls Try.prog 16 #[.pointer (some ⟨fr, 0, none⟩), .int .i64 k] w (RetB w (.int .i64 (C k : Nat))) := by
  have E := ev_start locs_fr h
  obtain ⟨c0, c1, c2, c3, c4⟩ := fr_cells E
  obtain ⟨Om, hm⟩ := ev_get E (i := 4) rfl
  have hlk := cnt_lookup hm k
  clear h E hm
  go_enter Try.func16, Try.ntmps16
  go_wp2
  go_ret
  exact ⟨rfl, old_refl _⟩
set_option maxHeartbeats 4000000 in
set_option maxRecDepth 100000 in
theorem frRef_calls (k : Int) (hk : C k ≠ 0) (hk2 : C k < 1073741824) : Turns Try.prog 14 #[.pointer (some ⟨fr, 0, none⟩), .int .i64 k] (SepL (frL fr p bt bp m n pool pg ops St Sp C)) (.tuple #[.int .i64 ((C k + 1 : Nat) : Int), .int .i64 0]) (SepL (frL fr p bt bp m n pool pg ops St Sp (updC C k (C k + 1)))) := by
  intro O w h
  have E := ev_start locs_fr h
  obtain ⟨c0, c1, c2, c3, c4⟩ := fr_cells E
  obtain ⟨Om, hm, ht⟩ := ev_turn E (i := 4) rfl
  have hlk := cnt_lookup hm k
  obtain ⟨w2, hput, hm2, ho2⟩ := cnt_put hm k (C k + 1) (by omega)
  have E2 : Ev w O (frL fr p bt bp m n pool pg ops St Sp (updC C k (C k + 1))) w2 := ht _ Om w2 (loc_cnt ..) hm2 (fun b hb => .inl hb) ho2
  obtain ⟨d0, d1, d2, d3, d4⟩ := fr_cells E2
  have hlk2 := cnt_lookup hm2 k
  have e2 : updC C k (C k + 1) k = C k + 1 := if_pos rfl
  rw [e2] at hlk2
  have HE := Lib.hid E2
  generalize C k = c at *
  have hc0 : ((c : Int) == 0) = false := by rw [beq_eq_false_iff_ne]; omega
  have hc1 : ((c : Int) == 1073741824) = false := by rw [beq_eq_false_iff_ne]; omega
  have hcb : (c : Int) < 1073741824 := by omega
  have hput' : (Instr.mapUpdate 63 (.map (some m)) (.int .i64 k) (.int .i64 ((c : Int) + 1))).run Try.prog w = .ok () w2 := hput
  clear h E hm ht hm2 ho2 E2 hk hk2 e2 hput
  go_enter Try.func14, Try.ntmps14
  go_wp2
  go_ret2
  exact ev_end (by simp) HE.out
set_option maxHeartbeats 4000000 in
set_option maxRecDepth 100000 in
theorem frDrop_less (k : Int) (hk : 2 ≤ C k) (hk2 : C k ≤ 1073741824) : Turns Try.prog 15 #[.pointer (some ⟨fr, 0, none⟩), .int .i64 k] (SepL (frL fr p bt bp m n pool pg ops St Sp C)) (.tuple #[.int .i64 ((C k - 1 : Nat) : Int), .int .i64 0]) (SepL (frL fr p bt bp m n pool pg ops St Sp (updC C k (C k - 1)))) := by
  intro O w h
  have E := ev_start locs_fr h
  obtain ⟨c0, c1, c2, c3, c4⟩ := fr_cells E
  obtain ⟨Om, hm, ht⟩ := ev_turn E (i := 4) rfl
  have hlk := cnt_lookup hm k
  obtain ⟨w2, hput, hm2, ho2⟩ := cnt_put hm k (C k - 1) (by omega)
  have E2 : Ev w O (frL fr p bt bp m n pool pg ops St Sp (updC C k (C k - 1))) w2 := ht _ Om w2 (loc_cnt ..) hm2 (fun b hb => .inl hb) ho2
  have HE := Lib.hid E2
  obtain ⟨c, hc⟩ : ∃ c, C k = c + 2 := ⟨C k - 2, by omega⟩
  rw [hc] at hlk hput hk2 ⊢
  rw [hc] at HE
  have hc0 : (((c + 2 : Nat) : Int) == 0) = false := by rw [beq_eq_false_iff_ne]; omega
  have hc1 : (((c + 2 : Nat) : Int) == 1) = false := by rw [beq_eq_false_iff_ne]; omega
  have hcb : ((c + 2 : Nat) : Int) ≤ 1073741824 := by omega
  have hd1 : ((c + 2 - 1 : Nat) : Int) = ((c + 2 : Nat) : Int) - 1 := by omega
  rw [hd1] at hput ⊢
  generalize c + 2 = d at *
  clear h E hm ht hm2 ho2 E2 hk hk2 hc hd1
  go_enter Try.func15, Try.ntmps15
  go_wp2
  go_ret2
  exact ev_end rfl HE.out
end
end Go.Proofs.Ytnmccihgiphmjaa
namespace Go.Proofs.Ytnmccihgiphmjaa
set_option linter.unusedVariables false
set_option linter.unusedSimpArgs false
open Go.RowKit
theorem hasB_lt {n f : Nat} (h : f < n) : hasB n (f : Int) = true := by unfold hasB; simp; omega
section
variable {w x y : World} {O : Nat → Prop} {fr p bt bp m n pool ops b first en : Nat} {pg : Int → Option (List Nat)} {S St Sp : Nat → Bool} {C : Int → Nat}
theorem turn_give (f : Nat) (hS : ∀ x, S x = true → first ≤ x ∧ x < en) (hf : first ≤ f ∧ f < en) (hno : S f = false) :
    Turns Try.prog 36 #[.pointer (some ⟨b, 0, none⟩), .int .i64 (f : Nat), .int .i64 0] (BudT b first en S) (.int .i64 0) (BudT b first en (moreS S f 1)) := by
  intro O w h
  refine (budGive_calls h hS f hf hno).mono ?_
  rintro e y ⟨rfl, O', h1, h2, h3⟩
  exact ⟨rfl, O', h1, h2, h3⟩
set_option maxHeartbeats 4000000 in
set_option maxRecDepth 100000 in
theorem frDrop_p (f : Nat) (hf : pool ≤ f ∧ f < n) (hpn : pool ≤ n) (hk : C (f : Int) = 1) (hS : ∀ x, Sp x = true → pool ≤ x ∧ x < n) (hno : Sp f = false) :
    Turns Try.prog 15 #[.pointer (some ⟨fr, 0, none⟩), .int .i64 (f : Nat)] (SepL (frL fr p bt bp m n pool pg ops St Sp C)) (.tuple #[.int .i64 0, .int .i64 0]) (SepL (frL fr p bt bp m n pool (updP pg (f : Int) none) ops St (moreS Sp f 1) (updC C (f : Int) 0))) := by
  intro O w h
  have E := ev_start locs_fr h
  obtain ⟨c0, c1, c2, c3, c4⟩ := fr_cells E
  obtain ⟨Om, hm, ht⟩ := ev_turn E (i := 4) rfl
  have hlk := cnt_lookup hm (f : Int)
  rw [hk] at hlk
  obtain ⟨w2, hdel, hm2, ho2⟩ := cnt_del hm (f : Int) (by rw [hk]; decide)
  have E2 : Ev w O (frL fr p bt bp m n pool pg ops St Sp (updC C (f : Int) 0)) w2 := ht _ Om w2 (loc_cnt ..) hm2 (fun b hb => .inl hb) ho2
  obtain ⟨d0, d1, d2, d3, d4⟩ := fr_cells E2
  have hz := ev_call (turn_mem fun w X h _ => zero_ok2 h (f : Int) (hasB_lt (by omega))) (loc_mem ..) E2 (i := 1) rfl
  have hg := fun y (hy : Ev w O (frL fr p bt bp m n pool (updP pg (f : Int) none) ops St Sp (updC C (f : Int) 0)) y) => ev_call (turn_give f hS (by omega) hno) (loc_budT ..) hy (i := 3) rfl
  have HG := Lib.hid hg
  have e1 : ¬ (f : Int) < pool := by omega
  have e1n : decide (f < pool) = false := decide_eq_false (by omega)
  have hpb : (pool : Int) ≤ 1048576 := by
    obtain ⟨Ob, hb⟩ := ev_get E2 (i := 3) rfl
    have := budS_bnd hb; omega
  clear h E hm ht hm2 ho2 E2 hk hg hS hno hf hpn
  go_enter Try.func15, Try.ntmps15
  go_wp2_with fail
  (with_reducible refine hz.mono ?_)
  rintro e y1 ⟨rfl, E3⟩
  have hc := HG.out y1 E3
  clear hz c0 c1 c2 c3 c4 d0 d1 d2 d3 d4 hlk hdel HG
  obtain ⟨c0, c1, c2, c3, c4⟩ := fr_cells E3
  clear E3
  go_wp2_with fail
  (with_reducible refine hc.mono ?_)
  rintro e y2 ⟨rfl, E4⟩
  have HE := Lib.hid E4
  clear hc E4 c0 c1 c2 c3 c4
  go_wp2
  go_ret2
  exact ev_end rfl HE.out
set_option maxHeartbeats 4000000 in
set_option maxRecDepth 100000 in
theorem frFree_calls (h : SepL (frL fr p bt bp m n pool pg ops St Sp C) O w) : Calls Try.prog 11 #[.pointer (some ⟨fr, 0, none⟩)] w (RetB w (.tuple #[.int .i64 (cntS Sp n : Nat), .int .i64 (cntS St pool : Nat)])) := by
  have E := ev_start locs_fr h
  have E0 := ev_then E (old_drew (old_refl w))
  have H0 := Lib.hid E0
  have H1 := Lib.hid (fun y (hy : Old w.drew y) => by
    obtain ⟨O1, h1⟩ := ev_get (ev_then E0 hy) (i := 3) rfl
    obtain ⟨ad, cp, hB⟩ := h1
    exact budFree_calls hB : ∀ y, Old w.drew y → Calls Try.prog 33 #[.pointer (some ⟨bp, 0, none⟩)] y (RetB y (.int .i64 (cntS Sp n : Nat))))
  have H2 := Lib.hid (fun y (hy : Old w.drew y) => by
    obtain ⟨O1, h1⟩ := ev_get (ev_then E0 hy) (i := 2) rfl
    obtain ⟨ad, cp, hB⟩ := h1
    exact budFree_calls hB : ∀ y, Old w.drew y → Calls Try.prog 33 #[.pointer (some ⟨bt, 0, none⟩)] y (RetB y (.int .i64 (cntS St pool : Nat))))
  clear h E E0
  generalize cntS Sp n = a at *
  generalize cntS St pool = b at *
  go_enter Try.func11, Try.ntmps11
  go_wp2_with fail
  refine wp_region_walked (S := Old w.drew) (by kernel_rfl) (by kernel_rfl) (old_refl _) ?_
  apply walked_cons
  · intro wS hS
    have HS := Lib.hid hS
    obtain ⟨c0, c1, c2, c3, c4⟩ := fr_cells (ev_then H0.out hS)
    clear hS
    go_wp2
    exact ⟨rfl, rfl, HS.out⟩
  · rfl
  (try simp only [Act.put, List.setIfInBounds_toArray, List.set_cons_succ, List.set_cons_zero])
  apply walked_cons
  · intro wS hS
    have HS := Lib.hid hS
    obtain ⟨c0, c1, c2, c3, c4⟩ := fr_cells (ev_then H0.out hS)
    clear hS
    go_wp2
    exact ⟨rfl, rfl, HS.out⟩
  · rfl
  (try simp only [Act.put, List.setIfInBounds_toArray, List.set_cons_succ, List.set_cons_zero])
  apply walked_cons
  · intro wS hS
    have HS := Lib.hid hS
    obtain ⟨c0, c1, c2, c3, c4⟩ := fr_cells (ev_then H0.out hS)
    clear hS
    go_wp2
    exact ⟨rfl, rfl, HS.out⟩
  · rfl
  (try simp only [Act.put, List.setIfInBounds_toArray, List.set_cons_succ, List.set_cons_zero])
  apply walked_cons
  · intro wS hS
    have HS := Lib.hid hS
    obtain ⟨c0, c1, c2, c3, c4⟩ := fr_cells (ev_then H0.out hS)
    clear hS
    go_wp2
    exact ⟨rfl, rfl, HS.out⟩
  · rfl
  (try simp only [Act.put, List.setIfInBounds_toArray, List.set_cons_succ, List.set_cons_zero])
  apply walked_cons
  · intro wS hS
    have hc := H1.out wS hS
    have HS := Lib.hid hS
    clear hS
    go_wp2_with fail
    (with_reducible refine hc.mono ?_)
    rintro e y9 ⟨rfl, hY⟩
    have HY := Lib.hid (old_then HS.out hY)
    clear hc hY HS
    go_wp2
    exact ⟨rfl, rfl, HY.out⟩
  · rfl
  (try simp only [Act.put, List.setIfInBounds_toArray, List.set_cons_succ, List.set_cons_zero])
  apply walked_cons
  · intro wS hS
    have HS := Lib.hid hS
    obtain ⟨c0, c1, c2, c3, c4⟩ := fr_cells (ev_then H0.out hS)
    clear hS
    go_wp2
    exact ⟨rfl, rfl, HS.out⟩
  · rfl
  (try simp only [Act.put, List.setIfInBounds_toArray, List.set_cons_succ, List.set_cons_zero])
  apply walked_cons
  · intro wS hS
    have HS := Lib.hid hS
    obtain ⟨c0, c1, c2, c3, c4⟩ := fr_cells (ev_then H0.out hS)
    clear hS
    go_wp2
    exact ⟨rfl, rfl, HS.out⟩
  · rfl
  (try simp only [Act.put, List.setIfInBounds_toArray, List.set_cons_succ, List.set_cons_zero])
  apply walked_cons
  · intro wS hS
    have HS := Lib.hid hS
    obtain ⟨c0, c1, c2, c3, c4⟩ := fr_cells (ev_then H0.out hS)
    clear hS
    go_wp2
    exact ⟨rfl, rfl, HS.out⟩
  · rfl
  (try simp only [Act.put, List.setIfInBounds_toArray, List.set_cons_succ, List.set_cons_zero])
  apply walked_cons
  · intro wS hS
    have HS := Lib.hid hS
    obtain ⟨c0, c1, c2, c3, c4⟩ := fr_cells (ev_then H0.out hS)
    clear hS
    go_wp2
    exact ⟨rfl, rfl, HS.out⟩
  · rfl
  (try simp only [Act.put, List.setIfInBounds_toArray, List.set_cons_succ, List.set_cons_zero])
  apply walked_cons
  · intro wS hS
    have hc := H2.out wS hS
    have HS := Lib.hid hS
    clear hS
    go_wp2_with fail
    (with_reducible refine hc.mono ?_)
    rintro e y9 ⟨rfl, hY⟩
    have HY := Lib.hid (old_then HS.out hY)
    clear hc hY HS
    go_wp2
    exact ⟨rfl, rfl, HY.out⟩
  · rfl
  (try simp only [Act.put, List.setIfInBounds_toArray, List.set_cons_succ, List.set_cons_zero])
  apply walked_cons
  · intro wS hS
    have HS := Lib.hid hS
    obtain ⟨c0, c1, c2, c3, c4⟩ := fr_cells (ev_then H0.out hS)
    clear hS
    go_wp2
    exact ⟨rfl, rfl, HS.out⟩
  · rfl
  (try simp only [Act.put, List.setIfInBounds_toArray, List.set_cons_succ, List.set_cons_zero])
  apply walked_cons
  · intro wS hS
    have HS := Lib.hid hS
    obtain ⟨c0, c1, c2, c3, c4⟩ := fr_cells (ev_then H0.out hS)
    clear hS
    go_wp2
    exact ⟨rfl, rfl, HS.out⟩
  · rfl
  (try simp only [Act.put, List.setIfInBounds_toArray, List.set_cons_succ, List.set_cons_zero])
  apply walked_nil
  intro wS hS
  have HS := Lib.hid hS
  clear hS H0 H1 H2
  go_wp2
  go_ret2
  exact ⟨rfl, old_then (old_drew (old_refl w)) HS.out⟩
end
end Go.Proofs.Ytnmccihgiphmjaa
