/- Texts on the way to the statement FramesBlocks, several in one file: each part says what it is. -/
import Derived.Test.YtnmccihgiphmjaaFBA
import Derived.Test.YtnmccihgiphmjaaFBB
import Derived.Test.YtnmccihgiphmjaaFBC
import Derived.LaidEqlPtr
import Derived.Deep.OwnRows
namespace Go.Proofs.Ytnmccihgiphmjaa
set_option linter.unusedVariables false
set_option linter.unusedSimpArgs false
open Go.RowKit
/-- Frames from f on without bytes. -/
def pgZ (pg : Int → Option (List Nat)) (f j : Nat) : Int → Option (List Nat) := fun k => if (f : Int) ≤ k ∧ k < (f : Int) + (j : Int) then none else pg k
def cntZ (C : Int → Nat) (f j : Nat) : Int → Nat := fun k => if (f : Int) ≤ k ∧ k < (f : Int) + (j : Int) then 1 else C k
theorem pgZ_zero (pg : Int → Option (List Nat)) (f : Nat) : pgZ pg f 0 = pg := by funext k; unfold pgZ; rw [if_neg (by omega)]
theorem cntZ_zero (C : Int → Nat) (f : Nat) : cntZ C f 0 = C := by funext k; unfold cntZ; rw [if_neg (by omega)]
theorem pgZ_step (pg : Int → Option (List Nat)) (f j : Nat) : updP (pgZ pg f j) ((f + j : Nat) : Int) none = pgZ pg f (j + 1) := by
  funext k
  unfold updP pgZ
  by_cases h : k = ((f + j : Nat) : Int)
  · rw [if_pos h, if_pos (by omega)]
  · rw [if_neg h]
    by_cases h2 : (f : Int) ≤ k ∧ k < (f : Int) + (j : Int)
    · rw [if_pos h2, if_pos (by omega)]
    · rw [if_neg h2, if_neg (by omega)]
theorem cntZ_step (C : Int → Nat) (f j : Nat) : updC (cntZ C f j) ((f + j : Nat) : Int) 1 = cntZ C f (j + 1) := by
  funext k
  unfold updC cntZ
  by_cases h : k = ((f + j : Nat) : Int)
  · rw [if_pos h, if_pos (by omega)]
  · rw [if_neg h]
    by_cases h2 : (f : Int) ≤ k ∧ k < (f : Int) + (j : Int)
    · rw [if_pos h2, if_pos (by omega)]
    · rw [if_neg h2, if_neg (by omega)]
section
variable {w x y : World} {O : Nat → Prop} {fr p bt bp m n pool ops b first en : Nat} {pg : Int → Option (List Nat)} {S St Sp : Nat → Bool} {C : Int → Nat}
theorem turn_take (hS : ∀ x, S x = true → first ≤ x ∧ x < en) (order : Nat) (ho : order ≤ 9) {k f : Nat} (hf : Finds S en order k f) :
    Turns Try.prog 49 #[.pointer (some ⟨b, 0, none⟩), .int .i64 (order : Nat)] (BudT b first en S) (.tuple #[.int .i64 (f : Nat), .int .i64 0]) (BudT b first en (lessS S f (2 ^ order))) := by
  intro O w h
  refine (budTake_calls h hS order ho hf).mono ?_
  rintro e y ⟨rfl, O', h1, h2, h3⟩
  exact ⟨rfl, O', h1, h2, h3⟩
set_option maxHeartbeats 4000000 in
set_option maxRecDepth 100000 in
theorem budTake_none (h : BudT b first en S O w) (order : Nat) (ho : order ≤ 9) (hf : ∀ k, order ≤ k → k ≤ 9 → runsL S en k = []) :
    Calls Try.prog 49 #[.pointer (some ⟨b, 0, none⟩), .int .i64 (order : Nat)] w (RetB w (.tuple #[.int .i64 0, .int .i64 10])) := by
  obtain ⟨ad, cp, hW⟩ := h
  have HW := Lib.hid hW
  have HF := Lib.hid (And.intro hf ho)
  have o0 : ¬ (order : Int) < 0 := by omega
  have o9 : (order : Int) ≤ 9 := by omega
  clear hW hf ho
  go_enter Try.func49, Try.ntmps49
  go_wp2
  refine wp_scope_labels (fun _ _ _ _ => False) ?_ (fun _ _ _ _ h => h.elim)
  go_wp2
  refine wp_loopF [false, false, false, false, false, false, true, false, false, false, false, false, false, false, false, true, true, true, true, true, true, true, true, true, true, true, true, true, true] (fun f2 wx => ∃ i : Nat, order ≤ i ∧ i ≤ 10 ∧ f2 6 = .int .i64 (i : Nat) ∧ w = wx) (fun f2 => 10 - (intOf (f2 6)).toNat) ?start1 ?round1
  case start1 => exact ⟨order, Nat.le_refl _, by have := HF.out.2; omega, rfl, rfl⟩
  case round1 =>
    intro f2 wr hrel J2 K2 hJ2 hM2
    dsimp only [mergeA, mergeL, Nat.reduceAdd]
    obtain ⟨i, hi1, hi2, h6, rfl⟩ := hrel
    rw [h6]
    have H6 := Lib.hid h6
    clear h6
    by_cases hi10 : i = 10
    · subst hi10
      clear hi1 hi2
      go_wp2
      try simp only [toLabel]
      go_ret2
      exact ⟨rfl, old_refl _⟩
    · have hlt : i < 10 := by omega
      have hlti : (i : Int) < 10 := by omega
      have hcell := bud_cell HW.out hlt
      rw [show runsF S en i = [] from HF.out.1 i hi1 (by omega), List.length_nil] at hcell
      have HI := Lib.hid (And.intro hi1 hlt)
      clear hi1 hi2 hi10 hlt
      go_wp2
      refine Met.intro (hJ2 _ _ (by kernel_rfl) ?_ ?_)
      · exact ⟨i + 1, by have := HI.out; omega, HI.out.2, by show Value.int .i64 ((i : Int) + 1) = _; simp, rfl⟩
      · have := HI.out.2
        rw [H6.out]; show 10 - (intOf (Value.int .i64 ((i : Int) + 1))).toNat < 10 - (intOf (Value.int .i64 (i : Int))).toNat
        simp [intOf]; omega
set_option maxHeartbeats 4000000 in
set_option maxRecDepth 100000 in
theorem frTake_t (hpn : pool ≤ n) (hS : ∀ x, St x = true → 0 ≤ x ∧ x < pool) (order : Nat) (ho : order ≤ 9) {k f : Nat} (hf : Finds St pool order k f) (err : Int) :
    Turns Try.prog 32 #[.pointer (some ⟨fr, 0, none⟩), .pointer (some ⟨bt, 0, none⟩), .int .i64 (order : Nat), .int .i64 err] (SepL (frL fr p bt bp m n pool pg ops St Sp C)) (.tuple #[.int .i64 (f : Nat), .int .i64 0]) (SepL (frL fr p bt bp m n pool (pgZ pg f (2 ^ order)) ops (lessS St f (2 ^ order)) Sp (cntZ C f (2 ^ order)))) := by
  intro O w h
  have E := ev_start locs_fr h
  have hc := ev_call (turn_take hS order ho hf) (loc_budT ..) E (i := 2) rfl
  have hfit := hf.fits (fun x hx => (hS x hx).2) hf.le
  have hpb : n ≤ 1048576 := by obtain ⟨Ob, hb⟩ := ev_get E (i := 3) rfl; exact (budS_bnd hb).2
  obtain ⟨T, hT, hw2, hT1, hT2⟩ := pow_ten (show order < 10 by omega)
  rw [hT] at hc hfit ⊢
  obtain ⟨S9, hS9⟩ : ∃ S9, lessS St f T = S9 := ⟨_, rfl⟩
  rw [hS9] at hc ⊢
  have HF := Lib.hid (show f + T ≤ n by omega)
  have o9 : (order : Int) ≤ 9 := by omega
  have ff : (f : Int) ≤ 1048576 := by omega
  have tt : (T : Int) ≤ 512 := by omega
  clear h E hS hf hfit hpn hS9 hpb ho
  go_enter Try.func32, Try.ntmps32
  go_wp2_with fail
  (with_reducible refine hc.mono ?_)
  rintro e y1 ⟨rfl, E1⟩
  have HE1 : Hid (Ev w O (frL fr p bt bp m n pool (pgZ pg f 0) ops S9 Sp (cntZ C f 0)) y1) := Lib.hid (by rw [pgZ_zero, cntZ_zero]; exact E1)
  clear hc E1
  go_wp2
  rw [hw2]
  refine wp_loopF [false, false, false, false, false, false, false, false, false, false, false, false, true, false, false, false, false, false, false, false, false, false, false, false, true, true, true, true, true, true, true, true, true, true, true, true, true, true, true, true, true, true, true] (fun f2 wx => ∃ j : Nat, j ≤ T ∧ f2 24 = .int .i64 (j : Nat) ∧ Ev w O (frL fr p bt bp m n pool (pgZ pg f j) ops S9 Sp (cntZ C f j)) wx) (fun f2 => T - (intOf (f2 24)).toNat) ?start1 ?round1
  case start1 => exact ⟨0, Nat.zero_le _, rfl, HE1.out⟩
  case round1 =>
    clear HE1
    intro f2 wr hrel J2 K2 hJ2 hM2
    dsimp only [mergeA, mergeL, Nat.reduceAdd]
    obtain ⟨j, hj, h24, hE⟩ := hrel
    rw [h24]
    have H24 := Lib.hid h24
    clear h24
    by_cases hjT : j = T
    · subst hjT
      have HE := Lib.hid hE
      clear hE hj
      go_wp2
      go_ret2
      exact ev_end rfl HE.out
    · have hlt : j < T := by omega
      have hlti : (j : Int) < T := by omega
      have hz := ev_call (turn_mem fun w X h _ => zero_ok2 h ((f + j : Nat) : Int) (hasB_lt (by have := HF.out; omega))) (loc_mem ..) hE (i := 1) rfl
      have hz' : Calls Try.prog 35 #[.pointer (some ⟨p, 0, none⟩), .int .i64 ((f : Int) + (j : Int))] wr (fun e y => e = .returned (.int .i64 0) ∧ Ev w O (frL fr p bt bp m n pool (pgZ pg f (j + 1)) ops S9 Sp (cntZ C f j)) y) := by
        have := hz
        rw [pgZ_step, Int.natCast_add] at this
        exact this
      obtain ⟨c0, c1, c2, c3, c4⟩ := fr_cells hE
      have HJ := Lib.hid hlt
      clear hE hz hj hjT hlt
      go_wp2_with fail
      (with_reducible refine hz'.mono ?_)
      rintro e y2 ⟨rfl, E2⟩
      clear hz' c0 c1 c2 c3 c4
      obtain ⟨c0, c1, c2, c3, c4⟩ := fr_cells E2
      obtain ⟨Om, hm, ht⟩ := ev_turn E2 (i := 4) rfl
      obtain ⟨w3, hput, hm2, ho2⟩ := cnt_put hm ((f + j : Nat) : Int) 1 (by decide)
      have E3 : Ev w O (frL fr p bt bp m n pool (pgZ pg f (j + 1)) ops S9 Sp (cntZ C f (j + 1))) w3 := by
        rw [← cntZ_step]
        exact ht _ Om w3 (loc_cnt ..) hm2 (fun b hb => .inl hb) ho2
      have hput' : (Instr.mapUpdate 63 (.map (some m)) (.int .i64 ((f : Int) + (j : Int))) (.int .i64 1)).run Try.prog y2 = .ok () w3 := by rw [Int.natCast_add] at hput; exact hput
      have HE3 := Lib.hid E3
      clear E2 hm ht hput hm2 ho2 E3
      go_wp2
      refine Met.intro (hJ2 _ _ (by kernel_rfl) ?_ ?_)
      · exact ⟨j + 1, HJ.out, by show Value.int .i64 ((j : Int) + 1) = _; simp, HE3.out⟩
      · have := HJ.out
        rw [H24.out]; show T - (intOf (Value.int .i64 ((j : Int) + 1))).toNat < T - (intOf (Value.int .i64 (j : Int))).toNat
        simp [intOf]; omega
set_option maxHeartbeats 4000000 in
set_option maxRecDepth 100000 in
theorem frTake_t_none (h : SepL (frL fr p bt bp m n pool pg ops St Sp C) O w) (order : Nat) (ho : order ≤ 9) (hf : ∀ k, order ≤ k → k ≤ 9 → runsL St pool k = []) (err : Int) :
    Calls Try.prog 32 #[.pointer (some ⟨fr, 0, none⟩), .pointer (some ⟨bt, 0, none⟩), .int .i64 (order : Nat), .int .i64 err] w (RetB w (.tuple #[.int .i64 0, .int .i64 err])) := by
  have E := ev_start locs_fr h
  obtain ⟨Ob, hb⟩ := ev_get E (i := 2) rfl
  have hc := budTake_none hb order ho hf
  clear h E hb hf ho
  go_enter Try.func32, Try.ntmps32
  go_wp2_with fail
  (with_reducible refine hc.mono ?_)
  rintro e y1 ⟨rfl, ho1⟩
  go_wp2
  go_ret2
  exact ⟨rfl, ho1⟩
set_option maxHeartbeats 4000000 in
set_option maxRecDepth 100000 in
theorem frTake_p (hpn : pool ≤ n) (hS : ∀ x, Sp x = true → pool ≤ x ∧ x < n) (order : Nat) (ho : order ≤ 9) {k f : Nat} (hf : Finds Sp n order k f) (err : Int) :
    Turns Try.prog 32 #[.pointer (some ⟨fr, 0, none⟩), .pointer (some ⟨bp, 0, none⟩), .int .i64 (order : Nat), .int .i64 err] (SepL (frL fr p bt bp m n pool pg ops St Sp C)) (.tuple #[.int .i64 (f : Nat), .int .i64 0]) (SepL (frL fr p bt bp m n pool (pgZ pg f (2 ^ order)) ops St (lessS Sp f (2 ^ order)) (cntZ C f (2 ^ order)))) := by
  intro O w h
  have E := ev_start locs_fr h
  have hc := ev_call (turn_take hS order ho hf) (loc_budT ..) E (i := 3) rfl
  have hfit := hf.fits (fun x hx => (hS x hx).2) hf.le
  have hpb : n ≤ 1048576 := by obtain ⟨Ob, hb⟩ := ev_get E (i := 3) rfl; exact (budS_bnd hb).2
  obtain ⟨T, hT, hw2, hT1, hT2⟩ := pow_ten (show order < 10 by omega)
  rw [hT] at hc hfit ⊢
  obtain ⟨S9, hS9⟩ : ∃ S9, lessS Sp f T = S9 := ⟨_, rfl⟩
  rw [hS9] at hc ⊢
  have HF := Lib.hid (show f + T ≤ n by omega)
  have o9 : (order : Int) ≤ 9 := by omega
  have ff : (f : Int) ≤ 1048576 := by omega
  have tt : (T : Int) ≤ 512 := by omega
  clear h E hS hf hfit hpn hS9 hpb ho
  go_enter Try.func32, Try.ntmps32
  go_wp2_with fail
  (with_reducible refine hc.mono ?_)
  rintro e y1 ⟨rfl, E1⟩
  have HE1 : Hid (Ev w O (frL fr p bt bp m n pool (pgZ pg f 0) ops St S9 (cntZ C f 0)) y1) := Lib.hid (by rw [pgZ_zero, cntZ_zero]; exact E1)
  clear hc E1
  go_wp2
  rw [hw2]
  refine wp_loopF [false, false, false, false, false, false, false, false, false, false, false, false, true, false, false, false, false, false, false, false, false, false, false, false, true, true, true, true, true, true, true, true, true, true, true, true, true, true, true, true, true, true, true] (fun f2 wx => ∃ j : Nat, j ≤ T ∧ f2 24 = .int .i64 (j : Nat) ∧ Ev w O (frL fr p bt bp m n pool (pgZ pg f j) ops St S9 (cntZ C f j)) wx) (fun f2 => T - (intOf (f2 24)).toNat) ?start1 ?round1
  case start1 => exact ⟨0, Nat.zero_le _, rfl, HE1.out⟩
  case round1 =>
    clear HE1
    intro f2 wr hrel J2 K2 hJ2 hM2
    dsimp only [mergeA, mergeL, Nat.reduceAdd]
    obtain ⟨j, hj, h24, hE⟩ := hrel
    rw [h24]
    have H24 := Lib.hid h24
    clear h24
    by_cases hjT : j = T
    · subst hjT
      have HE := Lib.hid hE
      clear hE hj
      go_wp2
      go_ret2
      exact ev_end rfl HE.out
    · have hlt : j < T := by omega
      have hlti : (j : Int) < T := by omega
      have hz := ev_call (turn_mem fun w X h _ => zero_ok2 h ((f + j : Nat) : Int) (hasB_lt (by have := HF.out; omega))) (loc_mem ..) hE (i := 1) rfl
      have hz' : Calls Try.prog 35 #[.pointer (some ⟨p, 0, none⟩), .int .i64 ((f : Int) + (j : Int))] wr (fun e y => e = .returned (.int .i64 0) ∧ Ev w O (frL fr p bt bp m n pool (pgZ pg f (j + 1)) ops St S9 (cntZ C f j)) y) := by
        have := hz
        rw [pgZ_step, Int.natCast_add] at this
        exact this
      obtain ⟨c0, c1, c2, c3, c4⟩ := fr_cells hE
      have HJ := Lib.hid hlt
      clear hE hz hj hjT hlt
      go_wp2_with fail
      (with_reducible refine hz'.mono ?_)
      rintro e y2 ⟨rfl, E2⟩
      clear hz' c0 c1 c2 c3 c4
      obtain ⟨c0, c1, c2, c3, c4⟩ := fr_cells E2
      obtain ⟨Om, hm, ht⟩ := ev_turn E2 (i := 4) rfl
      obtain ⟨w3, hput, hm2, ho2⟩ := cnt_put hm ((f + j : Nat) : Int) 1 (by decide)
      have E3 : Ev w O (frL fr p bt bp m n pool (pgZ pg f (j + 1)) ops St S9 (cntZ C f (j + 1))) w3 := by
        rw [← cntZ_step]
        exact ht _ Om w3 (loc_cnt ..) hm2 (fun b hb => .inl hb) ho2
      have hput' : (Instr.mapUpdate 63 (.map (some m)) (.int .i64 ((f : Int) + (j : Int))) (.int .i64 1)).run Try.prog y2 = .ok () w3 := by rw [Int.natCast_add] at hput; exact hput
      have HE3 := Lib.hid E3
      clear E2 hm ht hput hm2 ho2 E3
      go_wp2
      refine Met.intro (hJ2 _ _ (by kernel_rfl) ?_ ?_)
      · exact ⟨j + 1, HJ.out, by show Value.int .i64 ((j : Int) + 1) = _; simp, HE3.out⟩
      · have := HJ.out
        rw [H24.out]; show T - (intOf (Value.int .i64 ((j : Int) + 1))).toNat < T - (intOf (Value.int .i64 (j : Int))).toNat
        simp [intOf]; omega
set_option maxHeartbeats 4000000 in
set_option maxRecDepth 100000 in
theorem frTake_p_none (h : SepL (frL fr p bt bp m n pool pg ops St Sp C) O w) (order : Nat) (ho : order ≤ 9) (hf : ∀ k, order ≤ k → k ≤ 9 → runsL Sp n k = []) (err : Int) :
    Calls Try.prog 32 #[.pointer (some ⟨fr, 0, none⟩), .pointer (some ⟨bp, 0, none⟩), .int .i64 (order : Nat), .int .i64 err] w (RetB w (.tuple #[.int .i64 0, .int .i64 err])) := by
  have E := ev_start locs_fr h
  obtain ⟨Ob, hb⟩ := ev_get E (i := 3) rfl
  have hc := budTake_none hb order ho hf
  clear h E hb hf ho
  go_enter Try.func32, Try.ntmps32
  go_wp2_with fail
  (with_reducible refine hc.mono ?_)
  rintro e y1 ⟨rfl, ho1⟩
  go_wp2
  go_ret2
  exact ⟨rfl, ho1⟩
end
end Go.Proofs.Ytnmccihgiphmjaa
namespace Go.Proofs.Ytnmccihgiphmjaa
set_option linter.unusedVariables false
set_option linter.unusedSimpArgs false
open Go.RowKit
section
variable {w x y : World} {O : Nat → Prop} {fr p bt bp m n pool ops b first en : Nat} {pg : Int → Option (List Nat)} {S St Sp : Nat → Bool} {C : Int → Nat}
set_option maxHeartbeats 4000000 in
theorem frTable (hpn : pool ≤ n) (hS : ∀ x, St x = true → 0 ≤ x ∧ x < pool) {k f : Nat} (hf : Finds St pool 0 k f) :
    Turns Try.prog 9 #[.pointer (some ⟨fr, 0, none⟩)] (SepL (frL fr p bt bp m n pool pg ops St Sp C)) (.tuple #[.int .i64 (f : Nat), .int .i64 0]) (SepL (frL fr p bt bp m n pool (pgZ pg f 1) ops (lessS St f 1) Sp (cntZ C f 1))) := by
  intro O w h
  obtain ⟨c0, c1, c2, c3, c4⟩ := fr_cells (ev_start locs_fr h)
  have hc : Calls Try.prog 32 #[.pointer (some ⟨fr, 0, none⟩), .pointer (some ⟨bt, 0, none⟩), .int .i64 0, .int .i64 11] w _ := frTake_t (n := n) (pool := pool) hpn hS 0 (by decide) hf 11 O w h
  rw [show (2 : Nat) ^ 0 = 1 from rfl] at hc
  clear h hpn hS hf
  go_enter Try.func9, Try.ntmps9
  go_wp2_with fail
  (with_reducible refine hc.mono ?_)
  rintro e y1 ⟨rfl, E1⟩
  have HE := Lib.hid E1
  clear hc E1 c0 c1 c2 c3 c4
  go_wp2
  go_ret2
  exact ⟨rfl, HE.out⟩
set_option maxHeartbeats 4000000 in
theorem frTable_none (h : SepL (frL fr p bt bp m n pool pg ops St Sp C) O w) (hf : ∀ k, 0 ≤ k → k ≤ 9 → runsL St pool k = []) :
    Calls Try.prog 9 #[.pointer (some ⟨fr, 0, none⟩)] w (RetB w (.tuple #[.int .i64 0, .int .i64 11])) := by
  obtain ⟨c0, c1, c2, c3, c4⟩ := fr_cells (ev_start locs_fr h)
  have hc : Calls Try.prog 32 #[.pointer (some ⟨fr, 0, none⟩), .pointer (some ⟨bt, 0, none⟩), .int .i64 0, .int .i64 11] w _ := frTake_t_none (n := n) (pool := pool) h 0 (by decide) hf 11
  clear h hf
  go_enter Try.func9, Try.ntmps9
  go_wp2_with fail
  (with_reducible refine hc.mono ?_)
  rintro e y1 ⟨rfl, E1⟩
  clear hc c0 c1 c2 c3 c4
  go_wp2
  go_ret2
  exact ⟨rfl, E1⟩
set_option maxHeartbeats 4000000 in
theorem frPage (hpn : pool ≤ n) (hS : ∀ x, Sp x = true → pool ≤ x ∧ x < n) {k f : Nat} (hf : Finds Sp n 0 k f) :
    Turns Try.prog 10 #[.pointer (some ⟨fr, 0, none⟩)] (SepL (frL fr p bt bp m n pool pg ops St Sp C)) (.tuple #[.int .i64 (f : Nat), .int .i64 0]) (SepL (frL fr p bt bp m n pool (pgZ pg f 1) ops St (lessS Sp f 1) (cntZ C f 1))) := by
  intro O w h
  obtain ⟨c0, c1, c2, c3, c4⟩ := fr_cells (ev_start locs_fr h)
  have hc : Calls Try.prog 32 #[.pointer (some ⟨fr, 0, none⟩), .pointer (some ⟨bp, 0, none⟩), .int .i64 0, .int .i64 10] w _ := frTake_p (n := n) (pool := pool) hpn hS 0 (by decide) hf 10 O w h
  rw [show (2 : Nat) ^ 0 = 1 from rfl] at hc
  clear h hpn hS hf
  go_enter Try.func10, Try.ntmps10
  go_wp2_with fail
  (with_reducible refine hc.mono ?_)
  rintro e y1 ⟨rfl, E1⟩
  have HE := Lib.hid E1
  clear hc E1 c0 c1 c2 c3 c4
  go_wp2
  go_ret2
  exact ⟨rfl, HE.out⟩
set_option maxHeartbeats 4000000 in
theorem frBlock (hpn : pool ≤ n) (hS : ∀ x, Sp x = true → pool ≤ x ∧ x < n) {k f : Nat} (hf : Finds Sp n 9 k f) :
    Turns Try.prog 13 #[.pointer (some ⟨fr, 0, none⟩)] (SepL (frL fr p bt bp m n pool pg ops St Sp C)) (.tuple #[.int .i64 (f : Nat), .int .i64 0]) (SepL (frL fr p bt bp m n pool (pgZ pg f 512) ops St (lessS Sp f 512) (cntZ C f 512))) := by
  intro O w h
  obtain ⟨c0, c1, c2, c3, c4⟩ := fr_cells (ev_start locs_fr h)
  have hc : Calls Try.prog 32 #[.pointer (some ⟨fr, 0, none⟩), .pointer (some ⟨bp, 0, none⟩), .int .i64 9, .int .i64 10] w _ := frTake_p (n := n) (pool := pool) hpn hS 9 (by decide) hf 10 O w h
  rw [show (2 : Nat) ^ 9 = 512 from rfl] at hc
  clear h hpn hS hf
  go_enter Try.func13, Try.ntmps13
  go_wp2_with fail
  (with_reducible refine hc.mono ?_)
  rintro e y1 ⟨rfl, E1⟩
  have HE := Lib.hid E1
  clear hc E1 c0 c1 c2 c3 c4
  go_wp2
  go_ret2
  exact ⟨rfl, HE.out⟩
set_option maxHeartbeats 4000000 in
theorem frBlock_none (h : SepL (frL fr p bt bp m n pool pg ops St Sp C) O w) (hf : ∀ k, 9 ≤ k → k ≤ 9 → runsL Sp n k = []) :
    Calls Try.prog 13 #[.pointer (some ⟨fr, 0, none⟩)] w (RetB w (.tuple #[.int .i64 0, .int .i64 10])) := by
  obtain ⟨c0, c1, c2, c3, c4⟩ := fr_cells (ev_start locs_fr h)
  have hc : Calls Try.prog 32 #[.pointer (some ⟨fr, 0, none⟩), .pointer (some ⟨bp, 0, none⟩), .int .i64 9, .int .i64 10] w _ := frTake_p_none (n := n) (pool := pool) h 9 (by decide) hf 10
  clear h hf
  go_enter Try.func13, Try.ntmps13
  go_wp2_with fail
  (with_reducible refine hc.mono ?_)
  rintro e y1 ⟨rfl, E1⟩
  clear hc c0 c1 c2 c3 c4
  go_wp2
  go_ret2
  exact ⟨rfl, E1⟩
theorem sep_perm {l m : List Asn} (h : l.Perm m) : ∀ O w, SepL l O w → SepL m O w := by
  induction h with
  | nil => exact fun O w h => h
  | cons A _ ih => exact fun O w h => sep_under ih h
  | swap A B l => exact fun O w h => sep_swap h
  | trans _ _ i1 i2 => exact fun O w h => i2 O w (i1 O w h)
theorem sep_join : ∀ {l m : List Asn} {O1 O2 : Nat → Prop} {w : World}, SepL l O1 w → SepL m O2 w → (∀ b, O1 b → ¬ O2 b) → SepL (l ++ m) (fun b => O1 b ∨ O2 b) w
  | [], m, O1, O2, w, h1, h2, _ => by
    have e : (fun b => O1 b ∨ O2 b) = O2 := funext fun b => propext ⟨fun h => h.elim (fun h => (h1 b h).elim) id, .inr⟩
    rw [e]; exact h2
  | A :: l, m, O1, O2, w, ⟨P1, P2, q1, q2, q3, q4⟩, h2, h3 => by
    refine ⟨P1, fun b => P2 b ∨ O2 b, q1, sep_join q2 h2 (fun b hb => h3 b ((q4 b).2 (.inr hb))), fun b hb hb2 => ?_, fun b => ?_⟩
    · rcases hb2 with h | h
      · exact q3 b hb h
      · exact h3 b ((q4 b).2 (.inl hb)) h
    · show O1 b ∨ O2 b ↔ _
      rw [q4 b, or_assoc]
theorem stands_join {l m : List Asn} (h : Stands w l x) (h2 : Stands x m y) : Stands w (m ++ l) y := by
  obtain ⟨a1, a2, O1, a3, a4⟩ := h
  obtain ⟨b1, b2, O2, b3, b4⟩ := h2
  refine ⟨fun A hA => (List.mem_append.1 hA).elim (b1 A) (a1 A), old_then a2 b2, _, sep_join b3 (sep_keep a1 a3 (Only.of_below b2) (fun _ _ f => f)) (fun b hb hb2 => ?_), fun b hb => ?_⟩
  · have := b4 b hb
    have := sep_lt a1 a3 hb2
    omega
  · rcases hb with hb | hb
    · have := b4 b hb
      have := a2.size
      omega
    · exact a4 b hb
/-- Structures as one. -/
theorem stands_one {l : List Asn} (h : Stands w l x) : Stands w [SepL l] x := by
  obtain ⟨a1, a2, O1, a3, a4⟩ := h
  exact ⟨locs_cons (sep_loc a1) locs_nil, a2, O1, ⟨O1, fun _ => False, a3, fun _ f => f, fun _ _ f => f, fun b => ⟨.inl, fun h => h.elim id (fun f => f.elim)⟩⟩, a4⟩
set_option maxHeartbeats 4000000 in
theorem frNew_calls (h : MemA p n pg ops O w) (hp : 1 ≤ pool ∧ pool ≤ 4096 ∧ pool < n) (hn : n ≤ 1048576) :
    Calls Try.prog 8 #[.pointer (some ⟨p, 0, none⟩), .int .i64 (pool : Nat)] w (fun e y => ∃ fr bt bp m, e = .returned (.tuple #[.pointer (some ⟨fr, 0, none⟩), .int .i64 0]) ∧
      Stands w [Pts fr (frCells p pool bt bp m) 65, CntA m (fun _ => 0), BudT bp pool n (allS pool n), BudT bt 0 pool (allS 0 pool)] y) := by
  have H := Lib.hid h
  have hf := frames_calls h.1
  have HN1 := Lib.hid (fun y : World => budNew_calls y 0 pool (by omega) (by omega))
  have HN2 := Lib.hid (fun y : World => budNew_calls y pool (n - pool) (by omega) (by omega))
  have HP := Lib.hid hp
  have i1 : (1 : Int) ≤ pool := by omega
  have i2 : (pool : Int) ≤ 4096 := by omega
  have i3 : (pool : Int) < n := by omega
  have i4 : (n : Int) ≤ 1048576 := by omega
  have HC1 := Lib.hid (show cntS (allS 0 pool) pool = pool by rw [cntS_all (by omega) (by omega)]; omega)
  have HC2 := Lib.hid (show cntS (allS pool n) n = n - pool by rw [cntS_all (by omega) (by omega)])
  have hmm := @run_makeMap Try.prog
  clear h hp hn
  go_enter Try.func8, Try.ntmps8
  go_wp2_with fail
  (with_reducible refine hf.mono ?_)
  rintro e y1 ⟨rfl, ho1⟩
  have hc1 : Calls Try.prog 31 #[.int .i64 0, .int .i64 (pool : Nat)] y1 _ := HN1.out y1
  have hS1 : Hid (Stands w [] y1) := Lib.hid (stands_then (stands_nil w) ho1)
  have HM1 : Hid (MemA p n pg ops O y1) := Lib.hid ((loc_mem ..).keep H.out (Only.of_below ho1) (fun _ _ f => f))
  clear hf ho1 HN1 H
  go_wp2_with fail
  (with_reducible refine hc1.mono ?_)
  rintro e y2 ⟨rfl, ho2, O2, hb2, hO2⟩
  rw [Nat.zero_add] at hb2
  obtain ⟨bt, hbt⟩ : ∃ bt, y1.heap.size = bt := ⟨_, rfl⟩
  rw [hbt] at hb2 ⊢
  have hb2' : BudT bt 0 pool (allS 0 pool) O2 y2 := by unfold BudT; rw [HC1.out]; exact hb2
  have hS2 : Hid (Stands w [BudT bt 0 pool (allS 0 pool)] y2) := Lib.hid (stands_new hS1.out ho2 (loc_budT ..) hb2' hO2)
  have hM2 : MemA p n pg ops O y2 := (loc_mem ..).keep HM1.out (Only.of_below ho2) (fun _ _ f => f)
  have hf2 := frames_calls hM2.1
  clear hc1 hb2 hb2' hO2 ho2 hS1 HM1 hM2 hbt
  go_wp2_with fail
  (with_reducible refine hf2.mono ?_)
  rintro e y3 ⟨rfl, ho3⟩
  have hc3 := HN2.out y3
  rw [Int.ofNat_sub (show pool ≤ n by have := HP.out; omega)] at hc3
  have hS3 : Hid (Stands w [BudT bt 0 pool (allS 0 pool)] y3) := Lib.hid (stands_then hS2.out ho3)
  clear hf2 ho3 HN2 hS2
  go_wp2_with fail
  (with_reducible refine hc3.mono ?_)
  rintro e y4 ⟨rfl, ho4, O4, hb4, hO4⟩
  obtain ⟨bp, hbp⟩ : ∃ bp, y3.heap.size = bp := ⟨_, rfl⟩
  rw [show pool + (n - pool) = n by have := HP.out; omega, hbp] at hb4
  rw [hbp]
  have hb4' : BudT bp pool n (allS pool n) O4 y4 := by unfold BudT; rw [HC2.out]; exact hb4
  have hS4 : Hid (Stands w [BudT bp pool n (allS pool n), BudT bt 0 pool (allS 0 pool)] y4) := Lib.hid (stands_new hS3.out ho4 (loc_budT ..) hb4' hO4)
  clear hc3 hb4 hb4' hO4 ho4 hS3 hbp
  go_wp2
  go_ret2
  have hS5 : Stands w [CntA y4.heap.size (fun _ => 0), BudT bp pool n (allS pool n), BudT bt 0 pool (allS 0 pool)] (y4.alloc (.map #[] 0)) :=
    stands_new hS4.out (old_alloc (old_refl _) _) (loc_cnt ..) (O1 := fun b => b = y4.heap.size) ⟨fun _ => Iff.rfl, 0, by
      have e : cntF (fun _ => 0) = (fun _ => none) := funext fun _ => if_pos rfl
      rw [e]; exact isMap_made y4⟩ (fun b hb => by omega)
  exact ⟨_, bt, bp, y4.heap.size, by first | rfl | simp, stands_pts hS5 _ _⟩
theorem frNew_stands (h : Stands w [MemA p n pg ops] x) (hp : 1 ≤ pool ∧ pool ≤ 4096 ∧ pool < n) (hn : n ≤ 1048576) :
    Calls Try.prog 8 #[.pointer (some ⟨p, 0, none⟩), .int .i64 (pool : Nat)] x (fun e y => ∃ fr bt bp m, e = .returned (.tuple #[.pointer (some ⟨fr, 0, none⟩), .int .i64 0]) ∧
      Stands w [SepL (frL fr p bt bp m n pool pg ops (allS 0 pool) (allS pool n) (fun _ => 0))] y) := by
  obtain ⟨O1, h1, -⟩ := stands_get h (i := 0) rfl
  refine (frNew_calls h1 hp hn).mono ?_
  rintro e y ⟨fr, bt, bp, m, rfl, hS⟩
  have hj := stands_join h hS
  refine ⟨fr, bt, bp, m, rfl, stands_one (stands_perm (fun A hA => ?_) (sep_perm ?_) hj)⟩
  · unfold frL at hA
    simp only [List.cons_append, List.nil_append, List.mem_cons, List.not_mem_nil, or_false] at hA ⊢
    rcases hA with h | h | h | h | h
    · exact .inl h
    · exact .inr (.inr (.inr (.inr h)))
    · exact .inr (.inr (.inr (.inl h)))
    · exact .inr (.inr (.inl h))
    · exact .inr (.inl h)
  · unfold frL
    show [_, CntA m _, BudT bp pool n _, BudT bt 0 pool _, MemA p n pg ops].Perm _
    refine .cons _ ?_
    exact List.reverse_perm [MemA p n pg ops, BudT bt 0 pool (allS 0 pool), BudT bp pool n (allS pool n), CntA m (fun _ => 0)]
end
end Go.Proofs.Ytnmccihgiphmjaa
namespace Go.Proofs.Ytnmccihgiphmjaa
set_option linter.unusedVariables false
set_option linter.unusedSimpArgs false
open Go.RowKit
section
variable {w x y : World} {O : Nat → Prop} {fr p bt bp m n pool ops b first en : Nat} {pg : Int → Option (List Nat)} {S St Sp : Nat → Bool} {C : Int → Nat}
theorem ptr_same (p : Nat) (w : World) : (binOp .eql 23 (.pointer (some ⟨p, 0, none⟩)) (.pointer (some ⟨p, 0, none⟩))).run Try.prog w = .ok (.bool true) w := by
  obtain ⟨j, hj⟩ : ∃ j, Try.prog.info? 58 = some j := Option.isSome_iff_exists.1 (by kernel_rfl)
  exact run_eql_ptr_same w _ Try.underlying23 hj
theorem fr_turn {P : Program} {f : FuncId} {args : Array Value} {A B : Asn} {v : Value} {E : List Asn} (ht : Turns P f args A v B) (hB : Loc B) (h : Stands w (A :: E) x) : Calls P f args x (fun e y => e = .returned v ∧ Stands w (B :: E) y) :=
  turns_stands ht hB h (i := 0) rfl
theorem fr_quiet {P : Program} {f : FuncId} {args : Array Value} {A : Asn} {v : Value} {E : List Asn} (hc : ∀ O y, A O y → Calls P f args y (RetB y v)) (h : Stands w (A :: E) x) : Calls P f args x (fun e y => e = .returned v ∧ Stands w (A :: E) y) := by
  obtain ⟨O1, h1, -⟩ := stands_get h (i := 0) rfl
  exact quiet_stands h (hc O1 x h1)
theorem frNew_nil (w : World) (k : Int) : Calls Try.prog 8 #[.pointer none, .int .i64 k] w (RetB w (.tuple #[.pointer none, .int .i64 1])) := by
  go_enter Try.func8, Try.ntmps8
  go_wp2
  go_ret2
  exact ⟨rfl, old_refl _⟩
theorem frMem_calls (h : SepL (frL fr p bt bp m n pool pg ops St Sp C) O w) : Calls Try.prog 34 #[.pointer (some ⟨fr, 0, none⟩)] w (RetB w (.pointer (some ⟨p, 0, none⟩))) := by
  obtain ⟨c0, c1, c2, c3, c4⟩ := fr_cells (ev_start locs_fr h)
  clear h
  go_enter Try.func34, Try.ntmps34
  go_wp2
  go_ret
  exact ⟨rfl, old_refl _⟩
theorem physNew_stands (n : Nat) (w : World) (h1 : 1 ≤ n) (h2 : n ≤ 1048576) : Calls Try.prog 7 #[.int .i64 n] w (fun e y => ∃ p, e = .returned (.tuple #[.pointer (some ⟨p, 0, none⟩), .int .i64 0]) ∧ Stands w [MemA p n (fun _ => none) 0] y) := by
  refine (physNew_calls n w h1 h2).mono ?_
  rintro e x ⟨rfl, hO, hs, hm⟩
  exact ⟨_, rfl, stands_new (stands_nil w) hO (loc_mem ..) (O1 := fun b => w.heap.size ≤ b ∧ b < x.heap.size)
    ⟨mem_more (hm (fun b => b < w.heap.size) fun b hb => hb) (fun b hb => by
      by_cases h : b < w.heap.size
      · exact .inl h
      · exact .inr (Nat.le_of_not_lt fun hl => hb ⟨by omega, hl⟩)), fun b hb => hb.2⟩ (fun b hb => hb.1)⟩
/-- Where each free frame's half is free too, a frame is found at the head of a pair. -/
theorem finds_pair {M k f : Nat} (h : Finds S M 0 k f) (hb : ∀ x, S x = true → S (budN x) = true) : 1 ≤ k := by
  obtain ⟨q, h1, h2, h3⟩ := h.run
  rcases Nat.eq_zero_or_pos k with rfl | hk
  · have e : ∀ z, z / 2 ^ 0 = z := fun z => by simp
    have hq : S q = true := h3.1 q (e q)
    rcases h3.2 with h | h
    · cases h
    · exact absurd (allIn_halves.2 ⟨h3.1, fun z hz => by rw [e] at hz; rw [hz]; exact hb q hq⟩) h
  · exact hk
theorem told_t0 : ∃ k, Finds (allS 0 2) 2 0 k 0 := by
  rcases finds_or (allS 0 2) 2 0 with ⟨k, f, h⟩ | h
  · have h1 := finds_pair h (fun x hx => by rw [allS_iff] at *; unfold budN; split <;> omega)
    have h2 := h.al h1
    have h3 := allS_iff.1 (h.free (Nat.zero_le _) f (Nat.le_refl _) (by simp))
    obtain rfl : f = 0 := by omega
    exact ⟨k, h⟩
  · have := (none_iff (fun x hx => (allS_iff.1 hx).2)).1 h
    rw [cntS_all (by decide) (by decide)] at this
    omega
theorem told_t1 : ∃ k, Finds (lessS (allS 0 2) 0 1) 2 0 k 1 := by
  have hl : ∀ x, lessS (allS 0 2) 0 1 x = true ↔ x = 1 := fun x => by rw [lessS_iff, allS_iff]; omega
  rcases finds_or (lessS (allS 0 2) 0 1) 2 0 with ⟨k, f, h⟩ | h
  · obtain rfl : f = 1 := (hl f).1 (h.free (Nat.zero_le _) f (Nat.le_refl _) (by simp))
    exact ⟨k, h⟩
  · have := cntS_zero.1 ((none_iff (fun x hx => by rw [hl] at hx; omega)).1 h) 1 (by omega)
    rw [(hl 1).2 rfl] at this
    cases this
theorem told_t2 : ∀ k, 0 ≤ k → k ≤ 9 → runsL (lessS (lessS (allS 0 2) 0 1) 1 1) 2 k = [] := by
  have hl : ∀ x, ¬ lessS (lessS (allS 0 2) 0 1) 1 1 x = true := fun x => by rw [lessS_iff, lessS_iff, allS_iff]; omega
  exact (none_iff (fun x hx => (hl x hx).elim)).2 (cntS_zero.2 fun x hx => Bool.eq_false_iff.2 (hl x))
theorem told_p0 : ∃ k, Finds (allS 2 6) 6 0 k 2 := by
  have hr : Run (allS 2 6) 1 1 := ⟨allIn_all.2 (by decide), .inr (fun h => by have := allIn_all.1 h; omega)⟩
  have hm : 2 ∈ runsL (allS 2 6) 6 1 := mem_runsL.2 ⟨1, by decide, hr, rfl⟩
  rcases finds_or (allS 2 6) 6 0 with ⟨k, f, h⟩ | h
  · have h1 := finds_pair h (fun x hx => by rw [allS_iff] at *; unfold budN; split <;> omega)
    have hk : k = 1 := by
      rcases Nat.lt_or_ge 1 k with h' | h'
      · have := h.least 1 (by omega) h'
        rw [this] at hm; cases hm
      · omega
    subst hk
    obtain ⟨t, ht⟩ := h.head
    have hs := runsL_sorted (allS 2 6) 6 1
    rw [ht] at hm hs
    have h3 := allS_iff.1 (h.free (Nat.zero_le _) f (Nat.le_refl _) (by simp))
    obtain rfl : f = 2 := by
      rcases List.mem_cons.1 hm with e | e
      · exact e.symm
      · have := (List.pairwise_cons.1 hs).1 2 e; omega
    exact ⟨1, h⟩
  · have := (none_iff (fun x hx => (allS_iff.1 hx).2)).1 h
    rw [cntS_all (by decide) (by decide)] at this
    omega
theorem told_p1 : ∀ k, 9 ≤ k → k ≤ 9 → runsL (lessS (allS 2 6) 2 1) 6 k = [] := by
  intro k h1 h2
  obtain rfl : k = 9 := by omega
  refine List.eq_nil_iff_forall_not_mem.2 (fun f hf => ?_)
  obtain ⟨q, -, hr, -⟩ := mem_runsL.1 hf
  have e : ∀ x, x / 2 ^ 9 = q → _ := fun x hx => hr.1 x hx
  have h3 := allS_iff.1 (lessS_iff.1 (e (q * 512 + 7) (by omega))).1
  omega
set_option maxHeartbeats 8000000 in
set_option maxRecDepth 100000 in
theorem framesTold_calls (w : World) : Calls Try.prog 12 #[] w (RetB w (.bool true)) := by
  have hc : Calls Try.prog 7 #[.int .i64 6] w _ := physNew_stands 6 w (by decide) (by decide)
  go_enter Try.func12, Try.ntmps12
  go_wp2_with fail
  (with_reducible refine hc.mono ?_)
  rintro e y1 ⟨p, rfl, h1⟩
  have hc1 := frNew_nil y1 1
  have H1 := Lib.hid h1
  clear hc h1
  go_wp2_with fail
  (with_reducible refine hc1.mono ?_)
  rintro e y2 ⟨rfl, ho⟩
  have hc2 : Calls Try.prog 8 #[.pointer (some ⟨p, 0, none⟩), .int .i64 2] y2 _ := frNew_stands (pool := 2) (stands_then H1.out ho) (by decide) (by decide)
  clear hc1 H1 ho
  go_wp2_with fail
  (with_reducible refine hc2.mono ?_)
  rintro e y3 ⟨fr, bt, bp, m, rfl, h3⟩
  obtain ⟨k0, f0⟩ := told_t0
  have hc3 : Calls Try.prog 9 #[.pointer (some ⟨fr, 0, none⟩)] y3 _ := fr_turn (frTable (by decide) (fun x hx => allS_iff.1 hx) f0) (sep_loc locs_fr) h3
  clear hc2 h3 f0 k0
  go_wp2_with fail
  (with_reducible refine hc3.mono ?_)
  rintro e y4 ⟨rfl, h4⟩
  obtain ⟨k1, f1⟩ := told_t1
  have hc4 : Calls Try.prog 9 #[.pointer (some ⟨fr, 0, none⟩)] y4 _ := fr_turn (frTable (by decide) (fun x hx => allS_iff.1 (lessS_iff.1 hx).1) f1) (sep_loc locs_fr) h4
  clear hc3 h4 f1 k1
  go_wp2_with fail
  (with_reducible refine hc4.mono ?_)
  rintro e y5 ⟨rfl, h5⟩
  have hc5 : Calls Try.prog 9 #[.pointer (some ⟨fr, 0, none⟩)] y5 _ := fr_quiet (fun O y h => frTable_none h told_t2) h5
  clear hc4 h5
  go_wp2_with fail
  (with_reducible refine hc5.mono ?_)
  rintro e y6 ⟨rfl, h6⟩
  obtain ⟨k2, f2⟩ := told_p0
  have hc6 : Calls Try.prog 10 #[.pointer (some ⟨fr, 0, none⟩)] y6 _ := fr_turn (frPage (by decide) (fun x hx => allS_iff.1 hx) f2) (sep_loc locs_fr) h6
  clear hc5 h6 f2 k2
  go_wp2_with fail
  (with_reducible refine hc6.mono ?_)
  rintro e y7 ⟨rfl, h7⟩
  have hc7 : Calls Try.prog 14 #[.pointer (some ⟨fr, 0, none⟩), .int .i64 2] y7 _ := fr_turn (frRef_calls (2 : Int) (by decide) (by decide)) (sep_loc locs_fr) h7
  rw [show cntZ (cntZ (cntZ (fun _ => 0) 0 1) 1 1) 2 1 2 = 1 from by decide] at hc7
  clear hc6 h7
  go_wp2_with fail
  (with_reducible refine hc7.mono ?_)
  rintro e y8 ⟨rfl, h8⟩
  have hc8 : Calls Try.prog 11 #[.pointer (some ⟨fr, 0, none⟩)] y8 _ := fr_quiet (fun O y h => frFree_calls h) h8
  rw [show cntS (lessS (allS 2 6) 2 1) 6 = 3 from by decide, show cntS (lessS (lessS (allS 0 2) 0 1) 1 1) 2 = 0 from by decide] at hc8
  clear hc7 h8
  go_wp2_with fail
  (with_reducible refine hc8.mono ?_)
  rintro e y9 ⟨rfl, h9⟩
  have hc9 : Calls Try.prog 13 #[.pointer (some ⟨fr, 0, none⟩)] y9 _ := fr_quiet (fun O y h => frBlock_none h told_p1) h9
  clear hc8 h9
  go_wp2_with fail
  (with_reducible refine hc9.mono ?_)
  rintro e z1 ⟨rfl, g1⟩
  have hd1 : Calls Try.prog 16 #[.pointer (some ⟨fr, 0, none⟩), .int .i64 2] z1 _ := fr_quiet (fun O y h => frCount_calls h 2) g1
  rw [show updC (cntZ (cntZ (cntZ (fun _ => 0) 0 1) 1 1) 2 1) 2 (1 + 1) 2 = 2 from by decide] at hd1
  clear hc9 g1
  go_wp2_with fail
  (with_reducible refine hd1.mono ?_)
  rintro e z2 ⟨rfl, g2⟩
  have hd2 : Calls Try.prog 16 #[.pointer (some ⟨fr, 0, none⟩), .int .i64 9] z2 _ := fr_quiet (fun O y h => frCount_calls h 9) g2
  rw [show updC (cntZ (cntZ (cntZ (fun _ => 0) 0 1) 1 1) 2 1) 2 (1 + 1) 9 = 0 from by decide] at hd2
  clear hd1 g2
  go_wp2_with fail
  (with_reducible refine hd2.mono ?_)
  rintro e z3 ⟨rfl, g3⟩
  have hd3 : Calls Try.prog 34 #[.pointer (some ⟨fr, 0, none⟩)] z3 _ := fr_quiet (fun O y h => frMem_calls h) g3
  clear hd2 g3
  go_wp2_with fail
  (with_reducible refine hd3.mono ?_)
  rintro e z4 ⟨rfl, g4⟩
  have HO := Lib.hid (stands_old g4)
  have hpp := ptr_same p z4
  clear hd3 g4
  go_wp2
  go_ret
  exact ⟨rfl, HO.out⟩
end
end Go.Proofs.Ytnmccihgiphmjaa
namespace Go.Proofs.Ytnmccihgiphmjaa
set_option linter.unusedVariables false
set_option linter.unusedSimpArgs false
open Go.RowKit
end Go.Proofs.Ytnmccihgiphmjaa
namespace Go.Proofs.Ytnmccihgiphmjaa
set_option linter.unusedVariables false
set_option linter.unusedSimpArgs false
open Go.RowKit
section
variable {w x y : World} {O : Nat → Prop} {fr p bt bp m g n pool ops u i : Nat} {pg : Int → Option (List Nat)} {S St Sp : Nat → Bool} {C : Int → Nat} {cs : List Int} {k : Int}
theorem updC_same (C : Int → Nat) (k : Int) (v : Nat) : updC C k v k = v := by unfold updC; rw [if_pos rfl]
theorem updC_ne (C : Int → Nat) {k j : Int} (v : Nat) (h : j ≠ k) : updC C k v j = C j := by unfold updC; rw [if_neg h]
end
end Go.Proofs.Ytnmccihgiphmjaa
namespace Go.Proofs.Ytnmccihgiphmjaa
set_option linter.unusedVariables false
set_option linter.unusedSimpArgs false
open Go.RowKit
theorem i64_mask63 (n : Int) : bits .and .i64 n 63 = n % 64 := by
  have h0 : (BitVec.ofInt 64 63).toNat = 2 ^ 6 - 1 := by decide
  have key : (BitVec.ofInt 64 n &&& BitVec.ofInt 64 63).toNat = (n % ((2 ^ 64 : Nat) : Int)).toNat % 2 ^ 6 := by
    rw [BitVec.toNat_and, BitVec.toNat_ofInt, h0, Nat.and_two_pow_sub_one_eq_mod]
  show IntKind.i64.wrap ((BitVec.ofInt 64 n &&& BitVec.ofInt 64 63).toNat : Nat) = n % 64
  rw [key, IntKind.wrap_i64]
  omega
end Go.Proofs.Ytnmccihgiphmjaa
namespace Go.Proofs.Ytnmccihgiphmjaa
set_option linter.unusedVariables false
set_option linter.unusedSimpArgs false
open Go.RowKit
theorem i64_mask511 (n : Int) : bits .and .i64 n 511 = n % 512 := by
  have h0 : (BitVec.ofInt 64 511).toNat = 2 ^ 9 - 1 := by decide
  have key : (BitVec.ofInt 64 n &&& BitVec.ofInt 64 511).toNat = (n % ((2 ^ 64 : Nat) : Int)).toNat % 2 ^ 9 := by
    rw [BitVec.toNat_and, BitVec.toNat_ofInt, h0, Nat.and_two_pow_sub_one_eq_mod]
  show IntKind.i64.wrap ((BitVec.ofInt 64 n &&& BitVec.ofInt 64 511).toNat : Nat) = n % 512
  rw [key, IntKind.wrap_i64]
  omega
theorem i64_mask2047 (n : Int) : bits .and .i64 n 2047 = n % 2048 := by
  have h0 : (BitVec.ofInt 64 2047).toNat = 2 ^ 11 - 1 := by decide
  have key : (BitVec.ofInt 64 n &&& BitVec.ofInt 64 2047).toNat = (n % ((2 ^ 64 : Nat) : Int)).toNat % 2 ^ 11 := by
    rw [BitVec.toNat_and, BitVec.toNat_ofInt, h0, Nat.and_two_pow_sub_one_eq_mod]
  show IntKind.i64.wrap ((BitVec.ofInt 64 n &&& BitVec.ofInt 64 2047).toNat : Nat) = n % 2048
  rw [key, IntKind.wrap_i64]
  omega
/-- The frame that is dropped as number i. -/
def kI (a i : Nat) : Nat := 512 + (i * 5 + a) % 512
theorem kI_in (a i : Nat) : 512 ≤ kI a i ∧ kI a i < 1024 := by unfold kI; omega
theorem kI_new {a i j : Nat} (hi : i < 512) (hj : j < i) : kI a j ≠ kI a i := by unfold kI; omega
theorem kI_all {a x : Nat} (ha : a < 512) (h1 : 512 ≤ x) (h2 : x < 1024) : ∃ i, i < 512 ∧ kI a i = x := ⟨(205 * (x - a)) % 512, by omega, by unfold kI; omega⟩
structure BlkI (n pool T a i : Nat) (Sp : Nat → Bool) (C : Int → Nat) : Prop where
  sp : ∀ x, Sp x = true ↔ pool ≤ x ∧ x < n ∧ (x < 512 ∨ 1024 ≤ x ∨ (x ≠ T ∧ ∃ j, j < i ∧ kI a j = x))
  c1 : ∀ x : Nat, 512 ≤ x → x < 1024 → (∀ j, j < i → kI a j ≠ x) → C (x : Int) = if x = T then 2 else 1
  c2 : ∀ j, j < i → C ((kI a j : Nat) : Int) = if kI a j = T then 1 else 0
section
variable {w x y : World} {fr p bt bp m n pool T a i ops : Nat} {pg : Int → Option (List Nat)} {Sp : Nat → Bool} {C : Int → Nat}
theorem blk_start (hT : 512 ≤ T ∧ T < 1024) (hn : 1024 ≤ n) : BlkI n pool T a 0 (lessS (allS pool n) 512 512) (updC (cntZ (fun _ => 0) 512 512) (T : Int) 2) := by
  refine ⟨fun x => ?_, fun x h1 h2 _ => ?_, fun j hj => by omega⟩
  · rw [lessS_iff, allS_iff]
    constructor
    · intro h; exact ⟨h.1.1, h.1.2, by omega⟩
    · rintro ⟨h1, h2, h3 | h3 | ⟨_, j, hj, _⟩⟩
      · omega
      · omega
      · omega
  · by_cases hx : x = T
    · subst hx; rw [updC_same, if_pos rfl]
    · rw [updC_ne _ _ (by omega), if_neg hx]; unfold cntZ; rw [if_pos (by omega)]
theorem blk_twice (h : BlkI n pool T a i Sp C) (hi : i < 512) (hk : kI a i = T) : C (T : Int) = 2 ∧ BlkI n pool T a (i + 1) Sp (updC C (T : Int) 1) := by
  have hin := kI_in a i
  have h2 : C (T : Int) = 2 := by
    have := h.c1 (kI a i) hin.1 hin.2 (fun j hj => kI_new hi hj)
    rw [hk, if_pos rfl] at this; exact this
  refine ⟨h2, fun x => ?_, fun x h3 h4 h5 => ?_, fun j hj => ?_⟩
  · rw [h.sp x]
    constructor
    · rintro ⟨q1, q2, q3 | q3 | ⟨q3, j, hj, q4⟩⟩
      · exact ⟨q1, q2, .inl q3⟩
      · exact ⟨q1, q2, .inr (.inl q3)⟩
      · exact ⟨q1, q2, .inr (.inr ⟨q3, j, by omega, q4⟩)⟩
    · rintro ⟨q1, q2, q3 | q3 | ⟨q3, j, hj, q4⟩⟩
      · exact ⟨q1, q2, .inl q3⟩
      · exact ⟨q1, q2, .inr (.inl q3)⟩
      · refine ⟨q1, q2, .inr (.inr ⟨q3, j, ?_, q4⟩)⟩
        rcases Nat.lt_or_ge j i with h' | h'
        · exact h'
        · exact absurd (by rw [← q4, show j = i by omega, hk]) q3
  · have hne : x ≠ T := fun e => h5 i (by omega) (by rw [hk, e])
    rw [updC_ne _ _ (by omega)]
    exact h.c1 x h3 h4 (fun j hj => h5 j (by omega))
  · rcases Nat.lt_or_ge j i with h' | h'
    · have hne : kI a j ≠ T := by rw [← hk]; exact kI_new hi h'
      rw [updC_ne _ _ (by omega)]
      exact h.c2 j h'
    · rw [show j = i by omega, hk, updC_same, if_pos rfl]
theorem blk_once (h : BlkI n pool T a i Sp C) (hi : i < 512) (hk : kI a i ≠ T) (hp : pool ≤ 512) (hn : 1024 ≤ n) : C ((kI a i : Nat) : Int) = 1 ∧ Sp (kI a i) = false ∧ BlkI n pool T a (i + 1) (moreS Sp (kI a i) 1) (updC C ((kI a i : Nat) : Int) 0) := by
  have hin := kI_in a i
  have h2 : C ((kI a i : Nat) : Int) = 1 := by
    have := h.c1 (kI a i) hin.1 hin.2 (fun j hj => kI_new hi hj)
    rw [if_neg hk] at this; exact this
  refine ⟨h2, Bool.eq_false_iff.2 fun hs => ?_, fun x => ?_, fun x h3 h4 h5 => ?_, fun j hj => ?_⟩
  · rcases ((h.sp _).1 hs).2.2 with q | q | ⟨_, j, hj, q⟩
    · omega
    · omega
    · exact kI_new hi hj q
  · rw [moreS_iff, h.sp x]
    constructor
    · rintro (⟨q1, q2, q3 | q3 | ⟨q3, j, hj, q4⟩⟩ | q)
      · exact ⟨q1, q2, .inl q3⟩
      · exact ⟨q1, q2, .inr (.inl q3)⟩
      · exact ⟨q1, q2, .inr (.inr ⟨q3, j, by omega, q4⟩)⟩
      · have e : x = kI a i := by omega
        exact ⟨by omega, by omega, .inr (.inr ⟨by rw [e]; exact hk, i, by omega, e.symm⟩)⟩
    · rintro ⟨q1, q2, q3 | q3 | ⟨q3, j, hj, q4⟩⟩
      · exact .inl ⟨q1, q2, .inl q3⟩
      · exact .inl ⟨q1, q2, .inr (.inl q3)⟩
      · rcases Nat.lt_or_ge j i with h' | h'
        · exact .inl ⟨q1, q2, .inr (.inr ⟨q3, j, h', q4⟩)⟩
        · have e : j = i := by omega
          subst e; exact .inr (by omega)
  · have hne : x ≠ kI a i := fun e => h5 i (by omega) e.symm
    rw [updC_ne _ _ (by omega)]
    exact h.c1 x h3 h4 (fun j hj => h5 j (by omega))
  · rcases Nat.lt_or_ge j i with h' | h'
    · have hne : kI a j ≠ kI a i := kI_new hi h'
      rw [updC_ne _ _ (by omega)]
      exact h.c2 j h'
    · rw [show j = i by omega, updC_same, if_neg hk]
theorem blk_end (h : BlkI n pool T a 512 Sp C) (ha : a < 512) (hT : 512 ≤ T ∧ T < 1024) (hp : pool ≤ 512) (hn : 1024 ≤ n) : C (T : Int) = 1 ∧ Sp T = false ∧ moreS Sp T 1 = allS pool n := by
  obtain ⟨i, hi, hk⟩ := kI_all ha hT.1 hT.2
  refine ⟨?_, Bool.eq_false_iff.2 fun hs => ?_, funext fun x => Bool.eq_iff_iff.2 ?_⟩
  · have := h.c2 i hi
    rw [hk, if_pos rfl] at this; exact this
  · rcases ((h.sp _).1 hs).2.2 with q | q | ⟨q, _⟩
    · omega
    · omega
    · exact q rfl
  · rw [moreS_iff, h.sp x, allS_iff]
    constructor
    · rintro (⟨q1, q2, _⟩ | q)
      · exact ⟨q1, q2⟩
      · omega
    · rintro ⟨q1, q2⟩
      by_cases hx : x = T
      · exact .inr (by omega)
      · refine .inl ⟨q1, q2, ?_⟩
        rcases Nat.lt_or_ge x 512 with h1 | h1
        · exact .inl h1
        · rcases Nat.lt_or_ge x 1024 with h2 | h2
          · obtain ⟨j, hj, hk2⟩ := kI_all ha h1 h2
            exact .inr (.inr ⟨hx, j, hj, hk2⟩)
          · exact .inr (.inl h2)
theorem blk_bnd (h : BlkI n pool T a i Sp C) : ∀ x, Sp x = true → pool ≤ x ∧ x < n := fun x hx => ⟨((h.sp x).1 hx).1, ((h.sp x).1 hx).2.1⟩
/-- What Block finds. -/
theorem blk_finds (hp1 : 1 ≤ pool) (hp : pool ≤ 512) (hn : 1024 ≤ n) : Finds (allS pool n) n 9 9 512 := by
  have hr : Run (allS pool n) 9 1 := ⟨allIn_all.2 (by omega), .inl rfl⟩
  have hm : 512 ∈ runsL (allS pool n) n 9 := mem_runsL.2 ⟨1, by omega, hr, rfl⟩
  refine ⟨Nat.le_refl _, Nat.le_refl _, fun i h1 h2 => by omega, ?_⟩
  have hs := runsL_sorted (allS pool n) n 9
  cases hl : runsL (allS pool n) n 9 with
  | nil => rw [hl] at hm; cases hm
  | cons f t =>
    rw [hl] at hm hs
    obtain ⟨q, -, hq, hf⟩ := mem_runsL.1 (show f ∈ runsL (allS pool n) n 9 by rw [hl]; exact List.mem_cons_self ..)
    have hq2 := allIn_all.1 hq.1
    have : f = 512 := by
      rcases List.mem_cons.1 hm with e | e
      · exact e.symm
      · have := (List.pairwise_cons.1 hs).1 512 e; omega
    subst this
    exact ⟨t, rfl⟩
theorem blk_none (hp1 : 1 ≤ pool) (hn : n < 1024) : ∀ k, 9 ≤ k → k ≤ 9 → runsL (allS pool n) n k = [] := by
  intro k h1 h2
  obtain rfl : k = 9 := by omega
  refine List.eq_nil_iff_forall_not_mem.2 (fun f hf => ?_)
  obtain ⟨q, -, hr, -⟩ := mem_runsL.1 hf
  have := allIn_all.1 hr.1
  omega
/-- The frames. -/
def FP (w : World) (fr p bt bp m n pool : Nat) (pg : Int → Option (List Nat)) (Sp : Nat → Bool) (C : Int → Nat) (x : World) : Prop := Stands w [SepL (frL fr p bt bp m n pool pg 0 (allS 0 pool) Sp C)] x
/-- Between two drops. -/
def BS (w : World) (fr p bt bp m n pool T a i : Nat) (x : World) : Prop := ∃ pg Sp C, FP w fr p bt bp m n pool pg Sp C x ∧ BlkI n pool T a i Sp C
theorem bs_twice (h : BS w fr p bt bp m n pool T a i x) (hi : i < 512) (hk : kI a i = T) : Calls Try.prog 15 #[.pointer (some ⟨fr, 0, none⟩), .int .i64 (T : Nat)] x (fun e y => e = .returned (.tuple #[.int .i64 1, .int .i64 0]) ∧ BS w fr p bt bp m n pool T a (i + 1) y) := by
  obtain ⟨pg, Sp, C, hF, hB⟩ := h
  obtain ⟨h2, hB'⟩ := blk_twice hB hi hk
  have := fr_turn (frDrop_less (T : Int) (by omega) (by omega)) (sep_loc locs_fr) hF
  rw [h2] at this
  refine this.mono ?_
  rintro e y ⟨rfl, hy⟩
  exact ⟨rfl, _, _, _, hy, hB'⟩
theorem bs_once (h : BS w fr p bt bp m n pool T a i x) (hi : i < 512) (hk : kI a i ≠ T) (hp : pool ≤ 512) (hn : 1024 ≤ n) : Calls Try.prog 15 #[.pointer (some ⟨fr, 0, none⟩), .int .i64 (kI a i : Nat)] x (fun e y => e = .returned (.tuple #[.int .i64 0, .int .i64 0]) ∧ BS w fr p bt bp m n pool T a (i + 1) y) := by
  obtain ⟨pg, Sp, C, hF, hB⟩ := h
  obtain ⟨h1, h2, hB'⟩ := blk_once hB hi hk hp hn
  have hin := kI_in a i
  refine (fr_turn (frDrop_p (kI a i) ⟨by omega, by omega⟩ (by omega) h1 (blk_bnd hB) h2) (sep_loc locs_fr) hF).mono ?_
  rintro e y ⟨rfl, hy⟩
  exact ⟨rfl, _, _, _, hy, hB'⟩
theorem bs_last (h : BS w fr p bt bp m n pool T a 512 x) (ha : a < 512) (hT : 512 ≤ T ∧ T < 1024) (hp : pool ≤ 512) (hn : 1024 ≤ n) : Calls Try.prog 15 #[.pointer (some ⟨fr, 0, none⟩), .int .i64 (T : Nat)] x (fun e y => e = .returned (.tuple #[.int .i64 0, .int .i64 0]) ∧ ∃ pg C, FP w fr p bt bp m n pool pg (allS pool n) C y) := by
  obtain ⟨pg, Sp, C, hF, hB⟩ := h
  obtain ⟨h1, h2, h3⟩ := blk_end hB ha hT hp hn
  refine (fr_turn (frDrop_p T ⟨by omega, by omega⟩ (by omega) h1 (blk_bnd hB) h2) (sep_loc locs_fr) hF).mono ?_
  rintro e y ⟨rfl, hy⟩
  rw [h3] at hy
  exact ⟨rfl, _, _, hy⟩
theorem fp_free (h : FP w fr p bt bp m n pool pg (allS pool n) C x) (hpn : pool ≤ n) {Q : Nat} (hQ : Q = n - pool) : Calls Try.prog 11 #[.pointer (some ⟨fr, 0, none⟩)] x (fun e y => e = .returned (.tuple #[.int .i64 (Q : Nat), .int .i64 (pool : Nat)]) ∧ FP w fr p bt bp m n pool pg (allS pool n) C y) := by
  have := fr_quiet (fun O y h => frFree_calls h) h
  rw [cntS_all hpn (Nat.le_refl _), cntS_all (Nat.zero_le _) (Nat.le_refl _), ← hQ, Nat.sub_zero] at this
  exact this
theorem fp_block (h : FP w fr p bt bp m n pool pg (allS pool n) C x) (hp1 : 1 ≤ pool) (hp : pool ≤ 512) (hn : 1024 ≤ n) : Calls Try.prog 13 #[.pointer (some ⟨fr, 0, none⟩)] x (fun e y => e = .returned (.tuple #[.int .i64 512, .int .i64 0]) ∧ FP w fr p bt bp m n pool (pgZ pg 512 512) (lessS (allS pool n) 512 512) (cntZ C 512 512) y) :=
  fr_turn (frBlock (by omega) (fun x hx => allS_iff.1 hx) (blk_finds hp1 hp hn)) (sep_loc locs_fr) h
theorem fp_block_none (h : FP w fr p bt bp m n pool pg (allS pool n) C x) (hp1 : 1 ≤ pool) (hn : n < 1024) : Calls Try.prog 13 #[.pointer (some ⟨fr, 0, none⟩)] x (fun e y => e = .returned (.tuple #[.int .i64 0, .int .i64 10]) ∧ FP w fr p bt bp m n pool pg (allS pool n) C y) :=
  fr_quiet (fun O y h => frBlock_none h (blk_none hp1 hn)) h
theorem fp_ref (h : FP w fr p bt bp m n pool pg (lessS (allS pool n) 512 512) (cntZ (fun _ => 0) 512 512) x) (hT : 512 ≤ T ∧ T < 1024) (hn : 1024 ≤ n) : Calls Try.prog 14 #[.pointer (some ⟨fr, 0, none⟩), .int .i64 (T : Nat)] x (fun e y => e = .returned (.tuple #[.int .i64 2, .int .i64 0]) ∧ BS w fr p bt bp m n pool T a 0 y) := by
  have h1 : cntZ (fun _ => 0) 512 512 (T : Int) = 1 := by unfold cntZ; rw [if_pos (by omega)]
  have := fr_turn (frRef_calls (T : Int) (by omega) (by omega)) (sep_loc locs_fr) h
  rw [h1] at this
  refine this.mono ?_
  rintro e y ⟨rfl, hy⟩
  exact ⟨rfl, _, _, _, hy, blk_start hT hn⟩
theorem fp_count (h : FP w fr p bt bp m n pool pg Sp (cntZ C 512 512) x) : Calls Try.prog 16 #[.pointer (some ⟨fr, 0, none⟩), .int .i64 1023] x (fun e y => e = .returned (.int .i64 1) ∧ FP w fr p bt bp m n pool pg Sp (cntZ C 512 512) y) := by
  have := fr_quiet (fun O y h => frCount_calls h 1023) h
  rw [show cntZ C 512 512 1023 = 1 from by unfold cntZ; rw [if_pos (by omega)]] at this
  exact this
end
end Go.Proofs.Ytnmccihgiphmjaa
namespace Go.Proofs.Ytnmccihgiphmjaa
set_option linter.unusedVariables false
set_option linter.unusedSimpArgs false
open Go.RowKit
section
set_option maxHeartbeats 32000000 in
set_option maxRecDepth 100000 in
theorem framesBlocks_walk (x0 : Int) (_ : (Lit.int .i64 x0).wf = true) (x1 : Int) (_ : (Lit.int .i64 x1).wf = true) (x2 : Int) (_ : (Lit.int .i64 x2).wf = true) (x3 : Int) (_ : (Lit.int .i64 x3).wf = true) (w : World) :
    Calls Try.prog 4 #[.int .i64 x0, .int .i64 x1, .int .i64 x2, .int .i64 x3] w (RetB w (.bool true)) := by
  have hm := i64_mask2047 x0
  have hm2 := i64_mask63 x1
  have b1 : 0 ≤ x0 % 2048 := by omega
  have b2 : x0 % 2048 < 2048 := by omega
  have b3 : 0 ≤ x1 % 64 := by omega
  have b4 : x1 % 64 < 64 := by omega
  have b5 : 0 ≤ x0 % 2048 % 1088 := by omega
  have b6 : x0 % 2048 % 1088 < 1088 := by omega
  obtain ⟨pool, hP⟩ : ∃ pool : Nat, 1 + x1 % 64 = pool := ⟨(1 + x1 % 64).toNat, by omega⟩
  have hp1 : 1 ≤ pool := by omega
  have hp2 : pool ≤ 64 := by omega
  obtain ⟨n, hN⟩ : ∃ n : Nat, (pool : Int) + 512 + x0 % 2048 % 1088 = n := ⟨((pool : Int) + 512 + x0 % 2048 % 1088).toNat, by omega⟩
  have hn1 : pool + 512 ≤ n := by omega
  have hn2 : n ≤ 1700 := by omega
  have p1 : (1 : Int) ≤ pool := by omega
  have p2 : (pool : Int) ≤ 64 := by omega
  have n1 : (pool : Int) + 512 ≤ n := by omega
  have n2 : (n : Int) ≤ 1700 := by omega
  obtain ⟨a, hA⟩ : ∃ a : Nat, bits .and .i64 x2 511 = (a : Int) := ⟨(x2 % 512).toNat, by rw [i64_mask511]; omega⟩
  have ha : a < 512 := by have := i64_mask511 x2; omega
  obtain ⟨b, hBb⟩ : ∃ b : Nat, bits .and .i64 x3 511 = (b : Int) := ⟨(x3 % 512).toNat, by rw [i64_mask511]; omega⟩
  have hb : b < 512 := by have := i64_mask511 x3; omega
  obtain ⟨T, hT⟩ : ∃ T : Nat, (512 : Int) + (b : Int) = T := ⟨512 + b, by omega⟩
  have hTin : 512 ≤ T ∧ T < 1024 := by omega
  have b512 : (b : Int) % 512 = (b : Int) := by omega
  have w512 : ((pool : Int) + 511) / 512 = 1 := by omega
  obtain ⟨Q, hQ⟩ : ∃ Q : Nat, (n : Int) - pool = Q := ⟨n - pool, by omega⟩
  have HQ := Lib.hid (show Q = n - pool by omega)
  have HPN := Lib.hid (show 1 ≤ pool ∧ pool ≤ 512 ∧ pool ≤ n by omega)
  have HT := Lib.hid hTin
  have HA := Lib.hid ha
  have hc : Calls Try.prog 7 #[.int .i64 (n : Nat)] w _ := physNew_stands n w (by omega) (by omega)
  clear ha hTin
  go_enter Try.func4, Try.ntmps4
  go_wp2_with fail
  (with_reducible refine hc.mono ?_)
  rintro e y1 ⟨p, rfl, h1⟩
  have hc2 := frNew_stands (pool := pool) h1 ⟨hp1, by omega, by omega⟩ (by omega)
  clear hc h1 hm hm2 b1 b2 b3 b4 b5 b6 hP hN
  go_wp2_with fail
  (with_reducible refine hc2.mono ?_)
  rintro e y2 ⟨fr, bt, bp, m, rfl, h2⟩
  have hF : FP w fr p bt bp m n pool (fun _ => none) (allS pool n) (fun _ => 0) y2 := h2
  clear hc2 h2
  by_cases hn : 1024 ≤ n
  · have hcb := fp_block hF HPN.out.1 HPN.out.2.1 hn
    have HN := Lib.hid hn
    have q1 : ¬ (n : Int) < 1024 := by omega
    have q2 : decide (n < 1024) = false := decide_eq_false (by omega)
    have q3 : ¬ (512 : Int) < pool := by omega
    have q4 : decide (512 < pool) = false := decide_eq_false (by omega)
    clear hF hn
    go_wp2_with fail
    (with_reducible refine hcb.mono ?_)
    rintro e y3 ⟨rfl, hF3⟩
    have hcr := fp_ref (a := a) hF3 HT.out HN.out
    clear hcb hF3
    go_wp2_with fail
    (with_reducible refine hcr.mono ?_)
    rintro e y4 ⟨rfl, hS4⟩
    have HS4 := Lib.hid hS4
    clear hcr hS4
    go_wp2
    refine wp_loopF [false, false, false, false, false, false, false, false, true, false, false, false, false, false, false, false, true, true, true, true, false, false, false, false, false, false, false, false, false, false, false, false, false, false, false, false, false, false, false, false, false, false, false, false, false, false, false, false, false, false, false, false, false, false, false, false, false, false, false, false, false, false, false, false, false, false, false, false, false, false, false, false, false, false, false, false, false, false, false, false, false, false, false, false, false, false, false, false, false, false, false, false, false, false, false, false, false, false, false, false, false, false, true, true, true, true, true, true, true, true, true, true, true, true, true, true, true, true, true, true, true, true, true, true, true, true, true, true, true, true] (fun f2 wx => ∃ i : Nat, i ≤ 512 ∧ f2 16 = .int .i64 (i : Nat) ∧ BS w fr p bt bp m n pool T a i wx) (fun f2 => 512 - (intOf (f2 16)).toNat) ?start1 ?round1
    case start1 => exact ⟨0, by omega, rfl, HS4.out⟩
    case round1 =>
      clear HS4
      intro f2 wr hrel J2 K2 hJ2 hM2
      dsimp only [mergeA, mergeL, Nat.reduceAdd]
      obtain ⟨i, hi, h16, hS⟩ := hrel
      rw [h16]
      have H16 := Lib.hid h16
      clear h16
      by_cases hend : i = 512
      · subst hend
        have hcd := bs_last hS HA.out HT.out HPN.out.2.1 HN.out
        clear hS hi H16
        go_wp2_with fail
        (with_reducible refine hcd.mono ?_)
        rintro e y5 ⟨rfl, pg5, C5, hF5⟩
        have hcf := fp_free hF5 HPN.out.2.2 HQ.out
        clear hcd hF5
        go_wp2_with fail
        (with_reducible refine hcf.mono ?_)
        rintro e y6 ⟨rfl, hF6⟩
        have hcb := fp_block hF6 HPN.out.1 HPN.out.2.1 HN.out
        clear hcf hF6
        go_wp2_with fail
        (with_reducible refine hcb.mono ?_)
        rintro e y7 ⟨rfl, hF7⟩
        have ht := framesTold_calls y7
        have HF7 := Lib.hid hF7
        clear hcb hF7
        go_wp2_with fail
        (with_reducible refine ht.mono ?_)
        rintro e y8 ⟨rfl, ho8⟩
        have hcc : Calls Try.prog 16 #[.pointer (some ⟨fr, 0, none⟩), .int .i64 1023] y8 _ := fp_count (stands_then HF7.out ho8)
        clear ht ho8 HF7
        go_wp2_with fail
        (with_reducible refine hcc.mono ?_)
        rintro e y9 ⟨rfl, hF9⟩
        have HO := Lib.hid (stands_old hF9)
        clear hcc hF9
        go_wp2
        go_ret
        exact ⟨rfl, HO.out⟩
      · have hlt : i < 512 := by omega
        have HI := Lib.hid hlt
        have i1 : (i : Int) < 512 := by omega
        have a1 : (a : Int) < 512 := by have := HA.out; omega
        obtain ⟨k, hk⟩ : ∃ k, kI a i = k := ⟨_, rfl⟩
        have hkk : (512 : Int) + ((i : Int) * 5 + (a : Int)) % 512 = (k : Int) := by rw [← hk]; unfold kI; omega
        have hkb := kI_in a i
        rw [hk] at hkb
        have k1 : (k : Int) < 1024 := by omega
        by_cases hkT : k = T
        · have hcd := bs_twice hS HI.out (hk.trans hkT)
          rw [hkT] at hkk
          clear hS hi hend hlt hk hkb hkT k1
          go_wp2_with fail
          (with_reducible refine hcd.mono ?_)
          rintro e y5 ⟨rfl, hS5⟩
          have HS := Lib.hid hS5
          clear hcd hS5
          go_wp2
          refine Met.intro (hJ2 _ _ (by kernel_rfl) ?_ ?_)
          · exact ⟨i + 1, by have := HI.out; omega, by show Value.int .i64 ((i : Int) + 1) = _; simp, HS.out⟩
          · have := HI.out
            rw [H16.out]; show 512 - (intOf (Value.int .i64 ((i : Int) + 1))).toNat < 512 - (intOf (Value.int .i64 (i : Int))).toNat
            simp [intOf]; omega
        · have hcd := bs_once hS HI.out (by rw [hk]; exact hkT) HPN.out.2.1 HN.out
          rw [hk] at hcd
          have e1 : ¬ (k : Int) = T := by omega
          have e2 : ((k : Int) == (T : Int)) = false := by simp; omega
          have e3 : (k == T) = false := by simp; exact hkT
          have e4 : ((k : Int) != (T : Int)) = true := by simp; omega
          have e5 : (k != T) = true := by simp; exact hkT
          have e6 : decide (k = T) = false := decide_eq_false hkT
          have e7 : decide ((k : Int) = (T : Int)) = false := decide_eq_false e1
          clear hS hi hend hlt hk hkb
          go_wp2_with fail
          (with_reducible refine hcd.mono ?_)
          rintro e y5 ⟨rfl, hS5⟩
          have HS := Lib.hid hS5
          clear hcd hS5
          go_wp2
          refine Met.intro (hJ2 _ _ (by kernel_rfl) ?_ ?_)
          · exact ⟨i + 1, by have := HI.out; omega, by show Value.int .i64 ((i : Int) + 1) = _; simp, HS.out⟩
          · have := HI.out
            rw [H16.out]; show 512 - (intOf (Value.int .i64 ((i : Int) + 1))).toNat < 512 - (intOf (Value.int .i64 (i : Int))).toNat
            simp [intOf]; omega
  · have hcb := fp_block_none hF HPN.out.1 (by omega)
    have q1 : (n : Int) < 1024 := by omega
    have q2 : decide (n < 1024) = true := decide_eq_true (by omega)
    clear hF hn
    go_wp2_with fail
    (with_reducible refine hcb.mono ?_)
    rintro e y3 ⟨rfl, hF3⟩
    have ht := framesTold_calls y3
    have HO := Lib.hid (stands_old hF3)
    clear hcb hF3
    go_wp2_with fail
    (with_reducible refine ht.mono ?_)
    rintro e y8 ⟨rfl, ho8⟩
    have HO8 := Lib.hid ho8
    clear ht ho8
    go_wp2
    go_ret
    exact ⟨rfl, old_then HO.out HO8.out⟩
end
end Go.Proofs.Ytnmccihgiphmjaa
