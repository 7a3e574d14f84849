/- Texts on the way to the statement NestedWalks, several in one file: each part says what it is. -/
import Derived.Test.YtlbehhbicmmdoaaKWA
import Derived.Laws.Bits64b
import Derived.Lib.SmallJoins
namespace Go.Proofs.Ytlbehhbicmmdoaa
set_option linter.unusedVariables false
set_option linter.unusedSimpArgs false
open Go.RowKit
/-- A permission that is none. -/
theorem eq_permD (x0 x1 x2 y0 y1 y2 : Bool) (w : World) :
    (Op.equalIn 10000 46 (.agg #[.bool x0, .bool x1, .bool x2]) (.agg #[.bool y0, .bool y1, .bool y2])).run Try.prog w = .ok (x0 == y0 && (x1 == y1 && (x2 == y2 && true))) w := by
  refine same_struct (d := 9999) Try.underlying46 (by kernel_rfl) ?_
  refine same_cons (by rfl) (by go_simp; rfl) (by go_simp; rfl) (by go_simp) ?_
  refine same_cons (by rfl) (by go_simp; rfl) (by go_simp; rfl) (by go_simp) ?_
  refine same_cons (by rfl) (by go_simp; rfl) (by go_simp; rfl) (by go_simp) ?_
  exact same_nil
theorem eq_none (r wr x : Bool) (w : World) :
    (Op.equalIn 10000 46 (.agg #[.bool r, .bool wr, .bool x]) (.agg #[.bool false, .bool false, .bool false])).run Try.prog w = .ok (!(r || wr || x)) w := by
  rw [eq_permD]
  cases r <;> cases wr <;> cases x <;> rfl
/-- The frame at the label. -/
def CheckFrame (v : Int) (a : Act) : Prop := ∀ Q : Act → Prop, (∀ u0 u1 u2 u3 u4 u5 u7 u8 u9 u10 u11 u12 u13 u14 u15 u16 u17 u18 u19 u20 u21 u22 u23 u24 u25 u26 u27 u28 u29 u30 u31 u32 u33 u34 u35 u36 u37 u38 u39 u40 u41 u42 u43 u44 u45 u46 u47 u48 u49 u50 u51 u52 u53 u54 u55 u56 u57 u58 u59 u60 u61 u62 u63 u64 u65 u66 u67 u68 u69 u70 u71 u72 u73 u74 u75 u76 u77 u78 u79 u80 u81 u82 u83 u84 u85 u86 u87 u88 u89 u90 u91 u92 u93 u94 u95 u96 u97 u98 u99 u100 u101 u102 u103 u104 u105 u106 u107 u108 u109 u110 u111 u112 u113 u114 u115 u116 u117 : Value, Q { tmps := #[u0, u1, u2, u3, u4, u5, .int .i64 v, u7, u8, u9, u10, u11, u12, u13, u14, u15, u16, u17, u18, u19, u20, u21, u22, u23, u24, u25, u26, u27, u28, u29, u30, u31, u32, u33, u34, u35, u36, u37, u38, u39, u40, u41, u42, u43, u44, u45, u46, u47, u48, u49, u50, u51, u52, u53, u54, u55, u56, u57, u58, u59, u60, u61, u62, u63, u64, u65, u66, u67, u68, u69, u70, u71, u72, u73, u74, u75, u76, u77, u78, u79, u80, u81, u82, u83, u84, u85, u86, u87, u88, u89, u90, u91, u92, u93, u94, u95, u96, u97, u98, u99, u100, u101, u102, u103, u104, u105, u106, u107, u108, u109, u110, u111, u112, u113, u114, u115, u116, u117], defers := [] }) → Q a
abbrev DescL (w : World) (k : Int) (a : Nat) (r wr x : Bool) (s : Int) : List (Nat × Array Value × TypeId) := [(w.heap.size + 1, #[.bool r, .bool wr, .bool x], 46), (w.heap.size, #[.int .i64 k, .int .u64 (a : Nat), .bool r, .bool wr, .bool x, .int .i64 s], 48)]
def argB (P : Bool) (k s : Int) : Bool := !P || decide (k < 0) || decide (3 < k) || decide (s < 0) || decide (15 < s)
def kindB (lv k : Int) : Bool := decide (k = 1) && decide (lv = 3) || decide (k = 2) && (decide (lv = 0) || decide (lv = 3)) || decide (k = 3) && !decide (lv = 3)
def formB (k : Int) (a : Nat) (r wr x : Bool) (s : Int) : Bool := decide (k ≤ 1) && (r || wr || x) || wr && !r || decide (k = 0) && (!decide (a = 0) || !decide (s = 0))
theorem argB_eq {st lv k s : Int} {P : Bool} (h : decide (Place st lv) = P) : decide (¬ Place st lv ∨ k < 0 ∨ 3 < k ∨ s < 0 ∨ 15 < s) = argB P k s := by
  subst h; simp [argB, Bool.or_assoc]
theorem kindB_eq (lv k : Int) : decide ((k = 1 ∧ lv = 3) ∨ (k = 2 ∧ (lv = 0 ∨ lv = 3)) ∨ (k = 3 ∧ lv ≠ 3)) = kindB lv k := by
  simp [kindB, Bool.or_assoc]
theorem formB_eq (k : Int) (a : Nat) (r wr x : Bool) (s : Int) : decide ((k ≤ 1 ∧ (r || wr || x) = true) ∨ (wr && !r) = true ∨ (k = 0 ∧ (a ≠ 0 ∨ s ≠ 0))) = formB k a r wr x s := by
  unfold formB; simp only [Bool.decide_or, Bool.decide_and, Bool.decide_eq_true, ne_eq, decide_not, Bool.or_assoc]
set_option maxHeartbeats 8000000 in
set_option maxRecDepth 100000 in
theorem descCheck_calls (st lv k : Int) (a : Nat) (r wr x : Bool) (s : Int) (w : World) :
    Calls Try.prog 74 #[.int .i64 st, .int .i64 lv, .agg #[.int .i64 k, .int .u64 (a : Nat), .bool r, .bool wr, .bool x, .int .i64 s]] w (RetB w (.int .i64 (checkC st lv k a r wr x s))) := by
  generalize hv : checkC st lv k a r wr x s = v
  have HV := Lib.hid hv
  clear hv
  obtain ⟨P, hP⟩ : ∃ P, decide (Place st lv) = P := ⟨_, rfl⟩
  have hpl := place_calls st lv P hP
  go_enter Try.func74, Try.ntmps74
  go_wp2
  refine wp_scope_labels (fun lb k a x => lb = 0 ∧ k = 0 ∧ Old w x ∧ CheckFrame v a) ?_ ?_
  · go_upto_region 3 with (fail)
    have hH := holds_new #[.bool r, .bool wr, .bool x] 46 (holds_new #[.int .i64 k, .int .u64 (a : Nat), .bool r, .bool wr, .bool x, .int .i64 s] 48 (holds_nil w))
    simp only [World.size_alloc] at hH
    generalize (w.alloc (.cells #[.int .i64 k, .int .u64 (a : Nat), .bool r, .bool wr, .bool x, .int .i64 s] 48)).alloc (.cells #[.bool r, .bool wr, .bool x] 46) = W at *
    go_cut [33] (fun s33 wx => s33 = .bool (argB P k s) ∧ Holds w (DescL w k a r wr x s) wx)
    case first =>
      go_wp2_with fail
      refine (hpl _).mono ?_
      rintro e w1 ⟨rfl, hb1⟩
      have hH := holds_old hH hb1
      obtain ⟨s0, s1, s2, _⟩ := id hH
      obtain ⟨k1, f1, z1⟩ := of_block s1
      obtain ⟨k2, f2, z2⟩ := of_block s2
      cases P
      · go_wp2
        go_meet
        case rel => exact ⟨rfl, hH⟩
      · go_wp2
        all_goals go_meet
        all_goals exact ⟨by simp_all [argB], hH⟩
    case rest =>
    obtain ⟨rfl, hH⟩ := hcut
    have hAe := argB_eq (k := k) (s := s) hP
    cases hA : argB P k s
    case true =>
      obtain rfl : v = 1 := by rw [← HV.out]; exact checkC_arg (by rw [hA] at hAe; exact of_decide_eq_true hAe)
      go_wp2_with fail
      go_step3
      exact ⟨0, rfl, rfl, hH.1, fun _ hq => hq _ _ _ _ _ _ _ _ _ _ _ _ _ _ _ _ _ _ _ _ _ _ _ _ _ _ _ _ _ _ _ _ _ _ _ _ _ _ _ _ _ _ _ _ _ _ _ _ _ _ _ _ _ _ _ _ _ _ _ _ _ _ _ _ _ _ _ _ _ _ _ _ _ _ _ _ _ _ _ _ _ _ _ _ _ _ _ _ _ _ _ _ _ _ _ _ _ _ _ _ _ _ _ _ _ _ _ _ _ _ _ _ _ _ _ _ _⟩
    case false =>
    rw [hA] at hAe
    have hA := of_decide_eq_false hAe
    clear hAe hpl
    go_upto_region 5 with (fail)
    go_cut [62] (fun s62 wx => s62 = .bool (kindB lv k) ∧ Holds w (DescL w k a r wr x s) wx)
    case first =>
      obtain ⟨s0, s1, s2, _⟩ := id hH
      obtain ⟨k1, f1, z1⟩ := of_block s1
      obtain ⟨k2, f2, z2⟩ := of_block s2
      have HA := Lib.hid hA
      clear hA hP
      go_wp2
      all_goals subst_vars
      all_goals go_meet
      all_goals exact ⟨by simp_all [kindB] <;> rfl, hH⟩
    case rest =>
    obtain ⟨rfl, hH⟩ := hcut
    have hBe := kindB_eq lv k
    cases hB : kindB lv k
    case true =>
      obtain rfl : v = 4 := by rw [← HV.out]; exact checkC_kind hA (by rw [hB] at hBe; exact of_decide_eq_true hBe)
      go_wp2_with fail
      go_step3
      exact ⟨0, rfl, rfl, hH.1, fun _ hq => hq _ _ _ _ _ _ _ _ _ _ _ _ _ _ _ _ _ _ _ _ _ _ _ _ _ _ _ _ _ _ _ _ _ _ _ _ _ _ _ _ _ _ _ _ _ _ _ _ _ _ _ _ _ _ _ _ _ _ _ _ _ _ _ _ _ _ _ _ _ _ _ _ _ _ _ _ _ _ _ _ _ _ _ _ _ _ _ _ _ _ _ _ _ _ _ _ _ _ _ _ _ _ _ _ _ _ _ _ _ _ _ _ _ _ _ _ _⟩
    case false =>
    rw [hB] at hBe
    have hB := of_decide_eq_false hBe
    clear hBe
    go_upto_region 6 with (fail)
    go_cut [2, 94] (fun s2 s94 wx => s94 = .bool (formB k a r wr x s) ∧ Holds w (DescL w k a r wr x s) wx)
    case first =>
      obtain ⟨s0, s1, s2, _⟩ := id hH
      obtain ⟨k1, f1, z1⟩ := of_block s1
      obtain ⟨k2, f2, z2⟩ := of_block s2
      have HA := Lib.hid hA
      have HB := Lib.hid hB
      clear hA hB hP
      have hN := eq_none r wr x
      have hF : formB k a r wr x s = (decide (k ≤ 1) && (r || wr || x) || wr && !r || decide (k = 0) && (!decide (a = 0) || !decide (s = 0))) := rfl
      generalize (r || wr || x) = E at *
      have HF := Lib.hid hF
      clear hF
      cases E
      · go_wp2
        all_goals subst_vars
        all_goals go_meet
        all_goals exact ⟨by rw [HF.out]; simp_all <;> rfl, hH⟩
      · go_wp2
        all_goals subst_vars
        all_goals go_meet
        all_goals exact ⟨by rw [HF.out]; simp_all <;> rfl, hH⟩
    case rest =>
    obtain ⟨rfl, hH⟩ := hcut
    have hCe := formB_eq k a r wr x s
    cases hC : formB k a r wr x s
    case true =>
      obtain rfl : v = 4 := by rw [← HV.out]; exact checkC_form hA hB (by rw [hC] at hCe; exact of_decide_eq_true hCe)
      go_wp2_with fail
      go_step3
      exact ⟨0, rfl, rfl, hH.1, fun _ hq => hq _ _ _ _ _ _ _ _ _ _ _ _ _ _ _ _ _ _ _ _ _ _ _ _ _ _ _ _ _ _ _ _ _ _ _ _ _ _ _ _ _ _ _ _ _ _ _ _ _ _ _ _ _ _ _ _ _ _ _ _ _ _ _ _ _ _ _ _ _ _ _ _ _ _ _ _ _ _ _ _ _ _ _ _ _ _ _ _ _ _ _ _ _ _ _ _ _ _ _ _ _ _ _ _ _ _ _ _ _ _ _ _ _ _ _ _ _⟩
    case false =>
    rw [hC] at hCe
    have hC := of_decide_eq_false hCe
    clear hCe
    go_upto_region 8 with (fail)
    have hTop := top_calls st
    have hl3 : lv = ((lv.toNat : Nat) : Int) ∧ lv.toNat ≤ 3 := by
      by_cases hp : Place st lv
      · obtain ⟨_, h1, h2⟩ := hp
        omega
      · exact absurd (.inl hp) hA
    have hSp := fun x => span_yes lv lv.toNat hl3.1 x hl3.2
    have hs0 : (((spanN lv.toNat : Nat) : Int) == 0) = false := by
      have : 0 < spanN lv.toNat := by rw [spanN_pow _ hl3.2]; exact Nat.two_pow_pos _
      rw [beq_eq_false_iff_ne]; omega
    generalize hsp : ((spanN lv.toNat : Nat) : Int) = SP at hSp hs0
    have HSP := Lib.hid hsp
    have hsn : ¬ SP = 0 := by simpa using hs0
    clear hsp hs0
    have HA := Lib.hid hA
    have HB := Lib.hid hB
    have HC := Lib.hid hC
    have HL := Lib.hid hl3
    clear hA hB hC hP hl3
    refine wp_region_walked (S := Holds w (DescL w k a r wr x s)) (by kernel_rfl) (by kernel_rfl) (holds_drew hH) ?_
    repeat (apply walked_cons; (first | exact gives_and rfl rfl rfl rfl | exact gives_or rfl rfl rfl rfl | (focus (intro wS hS; obtain ⟨s0, s1, s2, _⟩ := id hS; obtain ⟨k1, f1, z1⟩ := of_block s1; obtain ⟨k2, f2, z2⟩ := of_block s2; go_wp2_with ((go_at_call 45; (with_reducible refine (hTop _).mono ?_); rintro e w9 ⟨rfl, hb9⟩)); (first | exact ⟨rfl, rfl, hS⟩ | exact ⟨rfl, rfl, holds_old hS hb9⟩); done)) | (focus (apply gives_guard; (focus (first | exact wanted_yes rfl rfl rfl | exact wanted_no rfl rfl rfl | exact wanted_yes2 rfl rfl rfl | exact wanted_no2 rfl rfl rfl)); (focus (intro hx9; (try simp only [Bool.not_eq_true', Bool.and_eq_true, Bool.not_not] at hx9); (try obtain ⟨hx9, hy9⟩ := hx9); (try subst hy9); (try subst hx9); (first | exact gives_and rfl rfl rfl rfl | exact gives_or rfl rfl rfl rfl | (intro wS hS; obtain ⟨s0, s1, s2, _⟩ := id hS; obtain ⟨k1, f1, z1⟩ := of_block s1; obtain ⟨k2, f2, z2⟩ := of_block s2; go_wp2_with ((go_at_call 45; (with_reducible refine (hTop _).mono ?_); rintro e w9 ⟨rfl, hb9⟩)); (first | exact ⟨rfl, rfl, hS⟩ | exact ⟨rfl, rfl, holds_old hS hb9⟩); done))))))); rfl; (try simp only [Act.put, List.setIfInBounds_toArray, List.set_cons_succ, List.set_cons_zero]))
    apply walked_nil
    intro wS hH
    obtain ⟨s0, s1, s2, _⟩ := id hH
    obtain ⟨k1, f1, z1⟩ := of_block s1
    obtain ⟨k2, f2, z2⟩ := of_block s2
    go_wp2
    · have hD : topN st ≤ a := by assumption
      obtain rfl : v = 2 := by rw [← HV.out]; exact checkC_range HA.out HB.out HC.out hD
      go_step3
      exact ⟨0, rfl, rfl, hH.1, fun _ hq => hq _ _ _ _ _ _ _ _ _ _ _ _ _ _ _ _ _ _ _ _ _ _ _ _ _ _ _ _ _ _ _ _ _ _ _ _ _ _ _ _ _ _ _ _ _ _ _ _ _ _ _ _ _ _ _ _ _ _ _ _ _ _ _ _ _ _ _ _ _ _ _ _ _ _ _ _ _ _ _ _ _ _ _ _ _ _ _ _ _ _ _ _ _ _ _ _ _ _ _ _ _ _ _ _ _ _ _ _ _ _ _ _ _ _ _ _ _⟩
    have hD : ¬ topN st ≤ a := by assumption
    refine wp_region_walked (S := Holds w (DescL w k a r wr x s)) (by kernel_rfl) (by kernel_rfl) (holds_drew hH) ?_
    iterate 5 (apply walked_cons; (first | exact gives_and rfl rfl rfl rfl | exact gives_or rfl rfl rfl rfl | (focus (intro wS hS; obtain ⟨s0, s1, s2, _⟩ := id hS; obtain ⟨k1, f1, z1⟩ := of_block s1; obtain ⟨k2, f2, z2⟩ := of_block s2; go_wp2_with (fail); (first | exact ⟨rfl, rfl, hS⟩ | exact ⟨rfl, rfl, holds_old hS hb9⟩); done)) | (focus (apply gives_guard; (focus (first | exact wanted_yes rfl rfl rfl | exact wanted_no rfl rfl rfl | exact wanted_yes2 rfl rfl rfl | exact wanted_no2 rfl rfl rfl)); (focus (intro hx9; (try simp only [Bool.not_eq_true', Bool.and_eq_true, Bool.not_not] at hx9); (try obtain ⟨hx9, hy9⟩ := hx9); (try subst hy9); (try subst hx9); (first | exact gives_and rfl rfl rfl rfl | exact gives_or rfl rfl rfl rfl | (intro wS hS; obtain ⟨s0, s1, s2, _⟩ := id hS; obtain ⟨k1, f1, z1⟩ := of_block s1; obtain ⟨k2, f2, z2⟩ := of_block s2; go_wp2_with (fail); (first | exact ⟨rfl, rfl, hS⟩ | exact ⟨rfl, rfl, holds_old hS hb9⟩); done))))))); rfl; (try simp only [Act.put, List.setIfInBounds_toArray, List.set_cons_succ, List.set_cons_zero]))
    generalize hB1 : ((a : Int) % 4096 != 0) = B1
    cases B1
    case true =>
      have hE : a % 4096 ≠ 0 := by
        have := bne_iff_ne.1 hB1
        omega
      have HE := Lib.hid hE
      clear hB1 hE
      repeat (apply walked_cons; (first | exact gives_and rfl rfl rfl rfl | exact gives_or rfl rfl rfl rfl | (focus (intro wS hS; obtain ⟨s0, s1, s2, _⟩ := id hS; obtain ⟨k1, f1, z1⟩ := of_block s1; obtain ⟨k2, f2, z2⟩ := of_block s2; go_wp2_with (fail); (first | exact ⟨rfl, rfl, hS⟩ | exact ⟨rfl, rfl, holds_old hS hb9⟩); done)) | (focus (apply gives_guard; (focus (first | exact wanted_yes rfl rfl rfl | exact wanted_no rfl rfl rfl | exact wanted_yes2 rfl rfl rfl | exact wanted_no2 rfl rfl rfl)); (focus (intro hx9; (try simp only [Bool.not_eq_true', Bool.and_eq_true, Bool.not_not] at hx9); (try obtain ⟨hx9, hy9⟩ := hx9); (try subst hy9); (try subst hx9); (first | exact gives_and rfl rfl rfl rfl | exact gives_or rfl rfl rfl rfl | (intro wS hS; obtain ⟨s0, s1, s2, _⟩ := id hS; obtain ⟨k1, f1, z1⟩ := of_block s1; obtain ⟨k2, f2, z2⟩ := of_block s2; go_wp2_with (fail); (first | exact ⟨rfl, rfl, hS⟩ | exact ⟨rfl, rfl, holds_old hS hb9⟩); done))))))); rfl; (try simp only [Act.put, List.setIfInBounds_toArray, List.set_cons_succ, List.set_cons_zero]))
      apply walked_nil
      intro wS hH
      obtain ⟨s0, s1, s2, _⟩ := id hH
      obtain ⟨k1, f1, z1⟩ := of_block s1
      obtain ⟨k2, f2, z2⟩ := of_block s2
      obtain rfl : v = 3 := by rw [← HV.out]; exact checkC_align HA.out HB.out HC.out hD (.inl HE.out)
      go_wp2_with fail
      go_step3
      exact ⟨0, rfl, rfl, hH.1, fun _ hq => hq _ _ _ _ _ _ _ _ _ _ _ _ _ _ _ _ _ _ _ _ _ _ _ _ _ _ _ _ _ _ _ _ _ _ _ _ _ _ _ _ _ _ _ _ _ _ _ _ _ _ _ _ _ _ _ _ _ _ _ _ _ _ _ _ _ _ _ _ _ _ _ _ _ _ _ _ _ _ _ _ _ _ _ _ _ _ _ _ _ _ _ _ _ _ _ _ _ _ _ _ _ _ _ _ _ _ _ _ _ _ _ _ _ _ _ _ _⟩
    case false =>
      have hE : a % 4096 = 0 := by
        have : (a : Int) % 4096 = 0 := by simpa using hB1
        omega
      have HE := Lib.hid hE
      clear hB1 hE
      iterate 4 (apply walked_cons; (first | exact gives_and rfl rfl rfl rfl | exact gives_or rfl rfl rfl rfl | (focus (intro wS hS; obtain ⟨s0, s1, s2, _⟩ := id hS; obtain ⟨k1, f1, z1⟩ := of_block s1; obtain ⟨k2, f2, z2⟩ := of_block s2; go_wp2_with (fail); (first | exact ⟨rfl, rfl, hS⟩ | exact ⟨rfl, rfl, holds_old hS hb9⟩); done)) | (focus (apply gives_guard; (focus (first | exact wanted_yes rfl rfl rfl | exact wanted_no rfl rfl rfl | exact wanted_yes2 rfl rfl rfl | exact wanted_no2 rfl rfl rfl)); (focus (intro hx9; (try simp only [Bool.not_eq_true', Bool.and_eq_true, Bool.not_not] at hx9); (try obtain ⟨hx9, hy9⟩ := hx9); (try subst hy9); (try subst hx9); (first | exact gives_and rfl rfl rfl rfl | exact gives_or rfl rfl rfl rfl | (intro wS hS; obtain ⟨s0, s1, s2, _⟩ := id hS; obtain ⟨k1, f1, z1⟩ := of_block s1; obtain ⟨k2, f2, z2⟩ := of_block s2; go_wp2_with (fail); (first | exact ⟨rfl, rfl, hS⟩ | exact ⟨rfl, rfl, holds_old hS hb9⟩); done))))))); rfl; (try simp only [Act.put, List.setIfInBounds_toArray, List.set_cons_succ, List.set_cons_zero]))
      generalize hB2 : decide (k = 2) = B2
      cases B2
      case false =>
        have HK := Lib.hid (of_decide_eq_false hB2)
        clear hB2
        repeat (apply walked_cons; (first | exact gives_and rfl rfl rfl rfl | exact gives_or rfl rfl rfl rfl | (focus (intro wS hS; obtain ⟨s0, s1, s2, _⟩ := id hS; obtain ⟨k1, f1, z1⟩ := of_block s1; obtain ⟨k2, f2, z2⟩ := of_block s2; go_wp2_with (fail); (first | exact ⟨rfl, rfl, hS⟩ | exact ⟨rfl, rfl, holds_old hS hb9⟩); done)) | (focus (apply gives_guard; (focus (first | exact wanted_yes rfl rfl rfl | exact wanted_no rfl rfl rfl | exact wanted_yes2 rfl rfl rfl | exact wanted_no2 rfl rfl rfl)); (focus (intro hx9; (try simp only [Bool.not_eq_true', Bool.and_eq_true, Bool.not_not] at hx9); (try obtain ⟨hx9, hy9⟩ := hx9); (try subst hy9); (try subst hx9); (first | exact gives_and rfl rfl rfl rfl | exact gives_or rfl rfl rfl rfl | (intro wS hS; obtain ⟨s0, s1, s2, _⟩ := id hS; obtain ⟨k1, f1, z1⟩ := of_block s1; obtain ⟨k2, f2, z2⟩ := of_block s2; go_wp2_with (fail); (first | exact ⟨rfl, rfl, hS⟩ | exact ⟨rfl, rfl, holds_old hS hb9⟩); done))))))); rfl; (try simp only [Act.put, List.setIfInBounds_toArray, List.set_cons_succ, List.set_cons_zero]))
        apply walked_nil
        intro wS hH
        obtain ⟨s0, s1, s2, _⟩ := id hH
        obtain ⟨k1, f1, z1⟩ := of_block s1
        obtain ⟨k2, f2, z2⟩ := of_block s2
        obtain rfl : v = 0 := by rw [← HV.out]; exact checkC_ok HA.out HB.out HC.out hD (by have := HK.out; have := HE.out; omega)
        go_wp2_with fail
        go_step3
        go_wp2
        simp only [toLabel]
        go_ret
        exact ⟨rfl, hH.1⟩
      case true =>
        have HK := Lib.hid (of_decide_eq_true hB2)
        clear hB2
        iterate 6 (apply walked_cons; (first | exact gives_and rfl rfl rfl rfl | exact gives_or rfl rfl rfl rfl | (focus (intro wS hS; obtain ⟨s0, s1, s2, _⟩ := id hS; obtain ⟨k1, f1, z1⟩ := of_block s1; obtain ⟨k2, f2, z2⟩ := of_block s2; go_wp2_with ((go_at_call 53; (with_reducible refine (hSp _).mono ?_); rintro e w9 ⟨rfl, hb9⟩)); (first | exact ⟨rfl, rfl, hS⟩ | exact ⟨rfl, rfl, holds_old hS hb9⟩); done)) | (focus (apply gives_guard; (focus (first | exact wanted_yes rfl rfl rfl | exact wanted_no rfl rfl rfl | exact wanted_yes2 rfl rfl rfl | exact wanted_no2 rfl rfl rfl)); (focus (intro hx9; (try simp only [Bool.not_eq_true', Bool.and_eq_true, Bool.not_not] at hx9); (try obtain ⟨hx9, hy9⟩ := hx9); (try subst hy9); (try subst hx9); (first | exact gives_and rfl rfl rfl rfl | exact gives_or rfl rfl rfl rfl | (intro wS hS; obtain ⟨s0, s1, s2, _⟩ := id hS; obtain ⟨k1, f1, z1⟩ := of_block s1; obtain ⟨k2, f2, z2⟩ := of_block s2; go_wp2_with ((go_at_call 53; (with_reducible refine (hSp _).mono ?_); rintro e w9 ⟨rfl, hb9⟩)); (first | exact ⟨rfl, rfl, hS⟩ | exact ⟨rfl, rfl, holds_old hS hb9⟩); done))))))); rfl; (try simp only [Act.put, List.setIfInBounds_toArray, List.set_cons_succ, List.set_cons_zero]))
        generalize hB3 : ((a : Int) % SP != 0) = B3
        cases B3
        case true =>
          have HF := Lib.hid (bne_iff_ne.1 hB3)
          clear hB3
          repeat (apply walked_cons; (first | exact gives_and rfl rfl rfl rfl | exact gives_or rfl rfl rfl rfl | (focus (intro wS hS; obtain ⟨s0, s1, s2, _⟩ := id hS; obtain ⟨k1, f1, z1⟩ := of_block s1; obtain ⟨k2, f2, z2⟩ := of_block s2; go_wp2_with (fail); (first | exact ⟨rfl, rfl, hS⟩ | exact ⟨rfl, rfl, holds_old hS hb9⟩); done)) | (focus (apply gives_guard; (focus (first | exact wanted_yes rfl rfl rfl | exact wanted_no rfl rfl rfl | exact wanted_yes2 rfl rfl rfl | exact wanted_no2 rfl rfl rfl)); (focus (intro hx9; (try simp only [Bool.not_eq_true', Bool.and_eq_true, Bool.not_not] at hx9); (try obtain ⟨hx9, hy9⟩ := hx9); (try subst hy9); (try subst hx9); (first | exact gives_and rfl rfl rfl rfl | exact gives_or rfl rfl rfl rfl | (intro wS hS; obtain ⟨s0, s1, s2, _⟩ := id hS; obtain ⟨k1, f1, z1⟩ := of_block s1; obtain ⟨k2, f2, z2⟩ := of_block s2; go_wp2_with (fail); (first | exact ⟨rfl, rfl, hS⟩ | exact ⟨rfl, rfl, holds_old hS hb9⟩); done))))))); rfl; (try simp only [Act.put, List.setIfInBounds_toArray, List.set_cons_succ, List.set_cons_zero]))
          apply walked_nil
          intro wS hH
          obtain ⟨s0, s1, s2, _⟩ := id hH
          obtain ⟨k1, f1, z1⟩ := of_block s1
          obtain ⟨k2, f2, z2⟩ := of_block s2
          obtain rfl : v = 3 := by
            rw [← HV.out]
            refine checkC_align HA.out HB.out HC.out hD (.inr ⟨HK.out, ?_⟩)
            have h1 := HF.out
            rw [← HSP.out] at h1
            omega
          go_wp2_with fail
          go_step3
          exact ⟨0, rfl, rfl, hH.1, fun _ hq => hq _ _ _ _ _ _ _ _ _ _ _ _ _ _ _ _ _ _ _ _ _ _ _ _ _ _ _ _ _ _ _ _ _ _ _ _ _ _ _ _ _ _ _ _ _ _ _ _ _ _ _ _ _ _ _ _ _ _ _ _ _ _ _ _ _ _ _ _ _ _ _ _ _ _ _ _ _ _ _ _ _ _ _ _ _ _ _ _ _ _ _ _ _ _ _ _ _ _ _ _ _ _ _ _ _ _ _ _ _ _ _ _ _ _ _ _ _⟩
        case false =>
          have HF := Lib.hid (show (a : Int) % SP = 0 by simpa using hB3)
          clear hB3
          repeat (apply walked_cons; (first | exact gives_and rfl rfl rfl rfl | exact gives_or rfl rfl rfl rfl | (focus (intro wS hS; obtain ⟨s0, s1, s2, _⟩ := id hS; obtain ⟨k1, f1, z1⟩ := of_block s1; obtain ⟨k2, f2, z2⟩ := of_block s2; go_wp2_with (fail); (first | exact ⟨rfl, rfl, hS⟩ | exact ⟨rfl, rfl, holds_old hS hb9⟩); done)) | (focus (apply gives_guard; (focus (first | exact wanted_yes rfl rfl rfl | exact wanted_no rfl rfl rfl | exact wanted_yes2 rfl rfl rfl | exact wanted_no2 rfl rfl rfl)); (focus (intro hx9; (try simp only [Bool.not_eq_true', Bool.and_eq_true, Bool.not_not] at hx9); (try obtain ⟨hx9, hy9⟩ := hx9); (try subst hy9); (try subst hx9); (first | exact gives_and rfl rfl rfl rfl | exact gives_or rfl rfl rfl rfl | (intro wS hS; obtain ⟨s0, s1, s2, _⟩ := id hS; obtain ⟨k1, f1, z1⟩ := of_block s1; obtain ⟨k2, f2, z2⟩ := of_block s2; go_wp2_with (fail); (first | exact ⟨rfl, rfl, hS⟩ | exact ⟨rfl, rfl, holds_old hS hb9⟩); done))))))); rfl; (try simp only [Act.put, List.setIfInBounds_toArray, List.set_cons_succ, List.set_cons_zero]))
          apply walked_nil
          intro wS hH
          obtain ⟨s0, s1, s2, _⟩ := id hH
          obtain ⟨k1, f1, z1⟩ := of_block s1
          obtain ⟨k2, f2, z2⟩ := of_block s2
          obtain rfl : v = 0 := by
            rw [← HV.out]
            refine checkC_ok HA.out HB.out HC.out hD ?_
            have h1 := HF.out
            rw [← HSP.out] at h1
            have := HE.out
            rintro (h | ⟨_, h⟩)
            · exact h this
            · omega
          go_wp2_with fail
          go_step3
          go_wp2
          simp only [toLabel]
          go_ret
          exact ⟨rfl, hH.1⟩
  · rintro l9 k9 b9 x9 ⟨rfl, rfl, hO, hfr⟩
    refine ⟨_, rfl, ?_⟩
    clear hpl HV hP
    refine hfr (fun b => Code.wp _ _ _ b x9) ?_
    intro u0 u1 u2 u3 u4 u5 u7 u8 u9 u10 u11 u12 u13 u14 u15 u16 u17 u18 u19 u20 u21 u22 u23 u24 u25 u26 u27 u28 u29 u30 u31 u32 u33 u34 u35 u36 u37 u38 u39 u40 u41 u42 u43 u44 u45 u46 u47 u48 u49 u50 u51 u52 u53 u54 u55 u56 u57 u58 u59 u60 u61 u62 u63 u64 u65 u66 u67 u68 u69 u70 u71 u72 u73 u74 u75 u76 u77 u78 u79 u80 u81 u82 u83 u84 u85 u86 u87 u88 u89 u90 u91 u92 u93 u94 u95 u96 u97 u98 u99 u100 u101 u102 u103 u104 u105 u106 u107 u108 u109 u110 u111 u112 u113 u114 u115 u116 u117
    go_wp2
    simp only [toLabel]
    go_ret
    exact ⟨rfl, hO⟩
end Go.Proofs.Ytlbehhbicmmdoaa
namespace Go.Proofs.Ytlbehhbicmmdoaa
set_option linter.unusedVariables false
set_option linter.unusedSimpArgs false
open Go.RowKit
abbrev RDescL (w : World) (k : Int) (a : Nat) (r wr x : Bool) (s : Int) : List (Nat × Array Value × TypeId) := [(w.heap.size, #[.int .i64 k, .int .u64 (a : Nat), .bool r, .bool wr, .bool x, .int .i64 s], 48)]
def argR (st lv k s : Int) : Bool := decide (st < 1) || decide (2 < st) || decide (lv < 0) || decide (3 < lv) || decide (k < 0) || decide (3 < k) || decide (s < 0) || decide (15 < s)
def kindR (lv k : Int) : Bool := decide (k = 1) && decide (lv = 3) || decide (k = 2) && (decide (lv = 0) || decide (lv = 3)) || decide (k = 3) && !decide (lv = 3)
def formR (k : Int) (a : Nat) (E r wr : Bool) (s : Int) : Bool := decide (k < 2) && E || wr && !r || decide (k = 0) && (!decide (a = 0) || !decide (s = 0))
theorem argR_eq (st lv k s : Int) : decide (¬ Place st lv ∨ k < 0 ∨ 3 < k ∨ s < 0 ∨ 15 < s) = argR st lv k s := by
  unfold argR Place; rw [Bool.eq_iff_iff]; simp only [decide_eq_true_eq, Bool.or_eq_true]; omega
theorem kindR_eq (lv k : Int) : decide ((k = 1 ∧ lv = 3) ∨ (k = 2 ∧ (lv = 0 ∨ lv = 3)) ∨ (k = 3 ∧ lv ≠ 3)) = kindR lv k := by
  simp [kindR, Bool.or_assoc]
theorem formR_eq (k : Int) (a : Nat) (r wr x : Bool) (s : Int) : decide ((k ≤ 1 ∧ (r || wr || x) = true) ∨ (wr && !r) = true ∨ (k = 0 ∧ (a ≠ 0 ∨ s ≠ 0))) = formR k a (r || wr || x) r wr s := by
  unfold formR
  have : decide (k < 2) = decide (k ≤ 1) := by rw [decide_eq_decide]; omega
  rw [this]
  simp only [Bool.decide_or, Bool.decide_and, Bool.decide_eq_true, ne_eq, decide_not, Bool.or_assoc]
set_option maxHeartbeats 8000000 in
set_option maxRecDepth 100000 in
theorem descRefCheck_calls (st lv k : Int) (a : Nat) (r wr x : Bool) (s : Int) (w : World) :
    Calls Try.prog 68 #[.int .i64 st, .int .i64 lv, .agg #[.int .i64 k, .int .u64 (a : Nat), .bool r, .bool wr, .bool x, .int .i64 s]] w (RetB w (.int .i64 (checkC st lv k a r wr x s))) := by
  generalize hv : checkC st lv k a r wr x s = v
  have HV := Lib.hid hv
  clear hv
  go_enter Try.func68, Try.ntmps68
  go_upto_region 1 with (fail)
  have hH := holds_new #[.int .i64 k, .int .u64 (a : Nat), .bool r, .bool wr, .bool x, .int .i64 s] 48 (holds_nil w)
  generalize w.alloc (.cells #[.int .i64 k, .int .u64 (a : Nat), .bool r, .bool wr, .bool x, .int .i64 s] 48) = W at *
  go_cut [2, 42] (fun s2 s42 wx => s42 = .bool (argR st lv k s) ∧ Holds w (RDescL w k a r wr x s) wx)
  case first =>
    obtain ⟨s0, s1, _⟩ := id hH
    obtain ⟨k1, f1, z1⟩ := of_block s1
    go_wp2
    all_goals go_meet
    all_goals exact ⟨by simp_all [argR], hH⟩
  case rest =>
  obtain ⟨rfl, hH⟩ := hcut
  have hAe := argR_eq st lv k s
  cases hA : argR st lv k s
  case true =>
    obtain rfl : v = 1 := by rw [← HV.out]; exact checkC_arg (by rw [hA] at hAe; exact of_decide_eq_true hAe)
    go_wp2_with fail
    go_ret
    exact ⟨rfl, hH.1⟩
  case false =>
  rw [hA] at hAe
  have HA := Lib.hid (of_decide_eq_false hAe)
  clear hAe hA
  go_upto_region 3 with (fail)
  go_cut [2, 71] (fun s2 s71 wx => s71 = .bool (kindR lv k) ∧ Holds w (RDescL w k a r wr x s) wx)
  case first =>
    obtain ⟨s0, s1, _⟩ := id hH
    obtain ⟨k1, f1, z1⟩ := of_block s1
    go_wp2
    all_goals subst_vars
    all_goals go_meet
    all_goals exact ⟨by simp_all [kindR] <;> rfl, hH⟩
  case rest =>
  obtain ⟨rfl, hH⟩ := hcut
  have hBe := kindR_eq lv k
  cases hB : kindR lv k
  case true =>
    obtain rfl : v = 4 := by rw [← HV.out]; exact checkC_kind HA.out (by rw [hB] at hBe; exact of_decide_eq_true hBe)
    go_wp2_with fail
    go_ret
    exact ⟨rfl, hH.1⟩
  case false =>
  rw [hB] at hBe
  have HB := Lib.hid (of_decide_eq_false hBe)
  clear hBe hB
  go_upto_region 5 with (fail)
  go_cut [2, 7] (fun s2 s7 wx => s7 = .bool (r || wr || x) ∧ Holds w (RDescL w k a r wr x s) wx)
  case first =>
    obtain ⟨s0, s1, _⟩ := id hH
    obtain ⟨k1, f1, z1⟩ := of_block s1
    go_wp2
    all_goals go_meet
    all_goals exact ⟨by simp_all, hH⟩
  case rest =>
  obtain ⟨rfl, hH⟩ := hcut
  have hCe := formR_eq k a r wr x s
  generalize hE : (r || wr || x) = E
  rw [hE] at hCe
  have HE := Lib.hid hE
  clear hE
  go_upto_region 6 with (fail)
  go_cut [2, 7, 116] (fun s2 s7 s116 wx => s116 = .bool (formR k a E r wr s) ∧ Holds w (RDescL w k a r wr x s) wx)
  case first =>
    clear hCe
    obtain ⟨s0, s1, _⟩ := id hH
    obtain ⟨k1, f1, z1⟩ := of_block s1
    go_wp2
    all_goals subst_vars
    all_goals go_meet
    all_goals exact ⟨by simp_all [formR] <;> (first | rfl | omega | (intro h; exfalso; omega)), hH⟩
  case rest =>
  obtain ⟨rfl, hH⟩ := hcut
  cases hC : formR k a E r wr s
  case true =>
    obtain rfl : v = 4 := by rw [← HV.out]; exact checkC_form HA.out HB.out (by rw [hC] at hCe; rw [HE.out]; exact of_decide_eq_true hCe)
    go_wp2_with fail
    go_ret
    exact ⟨rfl, hH.1⟩
  case false =>
  rw [hC] at hCe
  have HC := Lib.hid (show ¬ ((k ≤ 1 ∧ (r || wr || x) = true) ∨ (wr && !r) = true ∨ (k = 0 ∧ (a ≠ 0 ∨ s ≠ 0))) by rw [HE.out]; exact of_decide_eq_false hCe)
  clear hCe hC
  go_upto_region 8 with (fail)
  have hTop := refTop_calls st
  have hl3 : lv = ((lv.toNat : Nat) : Int) ∧ lv.toNat ≤ 3 := by
    have hA := HA.out
    by_cases hp : Place st lv
    · obtain ⟨_, h1, h2⟩ := hp
      omega
    · exact absurd (.inl hp) hA
  have hSp := fun x => refSpan_yes lv lv.toNat hl3.1 x hl3.2
  have hs0 : (((spanN lv.toNat : Nat) : Int) == 0) = false := by
    have : 0 < spanN lv.toNat := by rw [spanN_pow _ hl3.2]; exact Nat.two_pow_pos _
    rw [beq_eq_false_iff_ne]; omega
  have hmul : 4096 ∣ spanN lv.toNat := by rw [spanN_pow _ hl3.2, Nat.pow_add]; exact ⟨_, rfl⟩
  generalize hsp : ((spanN lv.toNat : Nat) : Int) = SP at hSp hs0
  have HSP := Lib.hid hsp
  have HM := Lib.hid hmul
  have hsn : ¬ SP = 0 := by simpa using hs0
  clear hsp hs0 hl3 hmul
  refine wp_region_walked (S := Holds w (RDescL w k a r wr x s)) (by kernel_rfl) (by kernel_rfl) (holds_drew hH) ?_
  repeat (apply walked_cons; (first | exact gives_and rfl rfl rfl rfl | exact gives_or rfl rfl rfl rfl | (focus (intro wS hS; obtain ⟨s0, s1, _⟩ := id hS; obtain ⟨k1, f1, z1⟩ := of_block s1; go_wp2_with ((go_at_call 51; (with_reducible refine (hTop _).mono ?_); rintro e w9 ⟨rfl, hb9⟩)); (first | exact ⟨rfl, rfl, hS⟩ | exact ⟨rfl, rfl, holds_old hS hb9⟩); done)) | (focus (apply gives_guard; (focus (first | exact wanted_yes rfl rfl rfl | exact wanted_no rfl rfl rfl | exact wanted_yes2 rfl rfl rfl | exact wanted_no2 rfl rfl rfl)); (focus (intro hx9; (try simp only [Bool.not_eq_true', Bool.and_eq_true, Bool.not_not] at hx9); (try obtain ⟨hx9, hy9⟩ := hx9); (try subst hy9); (try subst hx9); (first | exact gives_and rfl rfl rfl rfl | exact gives_or rfl rfl rfl rfl | (intro wS hS; obtain ⟨s0, s1, _⟩ := id hS; obtain ⟨k1, f1, z1⟩ := of_block s1; go_wp2_with ((go_at_call 51; (with_reducible refine (hTop _).mono ?_); rintro e w9 ⟨rfl, hb9⟩)); (first | exact ⟨rfl, rfl, hS⟩ | exact ⟨rfl, rfl, holds_old hS hb9⟩); done))))))); rfl; (try simp only [Act.put, List.setIfInBounds_toArray, List.set_cons_succ, List.set_cons_zero]))
  apply walked_nil
  intro wS hH
  obtain ⟨s0, s1, _⟩ := id hH
  obtain ⟨k1, f1, z1⟩ := of_block s1
  go_wp2_with fail
  · have hD : topN st ≤ a := by assumption
    obtain rfl : v = 2 := by rw [← HV.out]; exact checkC_range HA.out HB.out HC.out hD
    go_ret
    exact ⟨rfl, hH.1⟩
  · have HD := Lib.hid (show ¬ topN st ≤ a by assumption)
    have HK := Lib.hid (show k = 2 by simpa using (show (k == 2) = true by assumption))
    (with_reducible refine (hSp _).mono ?_)
    rintro e w9 ⟨rfl, hb9⟩
    have hH := holds_old hH hb9
    obtain ⟨s0, s1, _⟩ := id hH
    obtain ⟨k1, f1, z1⟩ := of_block s1
    go_wp2
    · have h : ((a : Int) % SP != 0) = true := by assumption
      obtain rfl : v = 3 := by
        rw [← HV.out]
        refine checkC_align HA.out HB.out HC.out HD.out (.inr ⟨HK.out, ?_⟩)
        have h1 := bne_iff_ne.1 h
        rw [← HSP.out] at h1
        omega
      go_ret
      exact ⟨rfl, hH.1⟩
    · have h : (a : Int) % SP = 0 := by simpa using (show ((a : Int) % SP != 0) = false by assumption)
      obtain rfl : v = 0 := by
        rw [← HV.out]
        refine checkC_ok HA.out HB.out HC.out HD.out ?_
        rw [← HSP.out] at h
        have h2 : a % spanN lv.toNat = 0 := by omega
        have h3 : a % 4096 = 0 := Nat.mod_eq_zero_of_dvd (Nat.dvd_trans HM.out (Nat.dvd_of_mod_eq_zero h2))
        omega
      go_ret
      exact ⟨rfl, hH.1⟩
  · have HD := Lib.hid (show ¬ topN st ≤ a by assumption)
    have h : ((a : Int) % 4096 != 0) = true := by assumption
    obtain rfl : v = 3 := by
      rw [← HV.out]
      refine checkC_align HA.out HB.out HC.out HD.out (.inl ?_)
      have h1 := bne_iff_ne.1 h
      omega
    go_ret
    exact ⟨rfl, hH.1⟩
  · have HD := Lib.hid (show ¬ topN st ≤ a by assumption)
    have h : (a : Int) % 4096 = 0 := by simpa using (show ((a : Int) % 4096 != 0) = false by assumption)
    have hk : ¬ k = 2 := by simpa using (show (k == 2) = false by assumption)
    obtain rfl : v = 0 := by
      rw [← HV.out]
      exact checkC_ok HA.out HB.out HC.out HD.out (by omega)
    go_ret
    exact ⟨rfl, hH.1⟩
end Go.Proofs.Ytlbehhbicmmdoaa
namespace Go.Proofs.Ytlbehhbicmmdoaa
set_option linter.unusedVariables false
set_option linter.unusedSimpArgs false
open Go.RowKit
/-- The word of a descriptor that is not none. -/
def wordN (k : Int) (a : Nat) (r wr x : Bool) (s : Nat) : Nat := 1 + flagN (decide (k ≠ 2)) 1 + flagN r 6 + flagN wr 7 + flagN x 8 + a + s * 36028797018963968
def bitB (w i : Nat) : Bool := decide (w / 2 ^ i % 2 = 1)
def decK (lv : Int) (w : Nat) : Int := bif bitB w 1 then (if lv = 3 then 3 else 1) else 2
def decS (w : Nat) : Nat := w / 36028797018963968 % 16
def decA (w : Nat) : Nat := w / 4096 % 68719476736 * 4096
theorem decA_le (w : Nat) : decA w ≤ 281474976706560 := by unfold decA; omega
theorem decA_mod (w : Nat) : decA w % 4096 = 0 := by unfold decA; omega
theorem decS_le (w : Nat) : decS w ≤ 15 := by unfold decS; omega
theorem decK_range (lv : Int) (w : Nat) : 1 ≤ decK lv w ∧ decK lv w ≤ 3 := by
  unfold decK; cases bitB w 1
  · rw [cond_false]; exact ⟨by decide, by decide⟩
  · simp only [cond_true]; split <;> exact ⟨by decide, by decide⟩
theorem wordN_add (k : Int) (a : Nat) (r wr x : Bool) (s : Nat) : wordN k a r wr x s = wordN k 0 r wr x s + a := by unfold wordN; omega
theorem flags_lt (b r wr x : Bool) : 1 + flagN b 1 + flagN r 6 + flagN wr 7 + flagN x 8 < 4096 := by
  cases b <;> cases r <;> cases wr <;> cases x <;> decide
theorem word_parts {k : Int} {a : Nat} {r wr x : Bool} {s : Nat} (ha : a % 4096 = 0) (hl : a < 281474976710656) (hs : s ≤ 15) :
    wordN k a r wr x s < 18446744073709551616 ∧ wordN k a r wr x s % 2 = 1 ∧ bitB (wordN k a r wr x s) 1 = decide (k ≠ 2) ∧ bitB (wordN k a r wr x s) 6 = r ∧ bitB (wordN k a r wr x s) 7 = wr ∧
      bitB (wordN k a r wr x s) 8 = x ∧ decS (wordN k a r wr x s) = s ∧ decA (wordN k a r wr x s) = a := by
  unfold wordN bitB decS decA
  have key : ∀ F : Nat, F < 4096 → (F + a + s * 36028797018963968 < 18446744073709551616 ∧ (F + a + s * 36028797018963968) / 36028797018963968 % 16 = s ∧ (F + a + s * 36028797018963968) / 4096 % 68719476736 * 4096 = a ∧
      (F + a + s * 36028797018963968) % 4096 = F) := by
    intro F hF; refine ⟨by omega, by omega, by omega, by omega⟩
  have hF := flags_lt (decide (k ≠ 2)) r wr x
  have hK := key _ hF
  generalize hW : 1 + flagN (decide (k ≠ 2)) 1 + flagN r 6 + flagN wr 7 + flagN x 8 + a + s * 36028797018963968 = W at *
  obtain ⟨h1, h2, h3, h4⟩ := hK
  have low : ∀ i : Nat, i = 1 ∨ i = 6 ∨ i = 7 ∨ i = 8 → W / 2 ^ i % 2 = W % 4096 / 2 ^ i % 2 := by
    intro i hi; rcases hi with rfl | rfl | rfl | rfl <;> simp only [Nat.reducePow] <;> omega
  refine ⟨h1, ?_, ?_, ?_, ?_, ?_, h2, h3⟩
  · have : W % 2 = W % 4096 % 2 := by omega
    rw [this, h4]; cases decide (k ≠ 2) <;> cases r <;> cases wr <;> cases x <;> decide
  · rw [low 1 (.inl rfl), h4]; cases decide (k ≠ 2) <;> cases r <;> cases wr <;> cases x <;> decide
  · rw [low 6 (.inr (.inl rfl)), h4]; cases decide (k ≠ 2) <;> cases r <;> cases wr <;> cases x <;> decide
  · rw [low 7 (.inr (.inr (.inl rfl))), h4]; cases decide (k ≠ 2) <;> cases r <;> cases wr <;> cases x <;> decide
  · rw [low 8 (.inr (.inr (.inr rfl))), h4]; cases decide (k ≠ 2) <;> cases r <;> cases wr <;> cases x <;> decide
/-- What Check = 0 says of a descriptor that is not none. -/
theorem check_zero {st lv k : Int} {a : Nat} {r wr x : Bool} {s : Int} (hk : k ≠ 0) : checkC st lv k a r wr x s = 0 ↔
    Place st lv ∧ 1 ≤ k ∧ k ≤ 3 ∧ 0 ≤ s ∧ s ≤ 15 ∧ (k = 1 → lv ≠ 3) ∧ (k = 2 → lv ≠ 0 ∧ lv ≠ 3) ∧ (k = 3 → lv = 3) ∧ (k = 1 → r = false ∧ wr = false ∧ x = false) ∧ (wr = true → r = true) ∧ a < topN st ∧ a % 4096 = 0 ∧ (k = 2 → a % spanN lv.toNat = 0) := by
  unfold checkC
  constructor
  · intro h
    split at h
    · cases h
    split at h
    · cases h
    split at h
    · cases h
    split at h
    · cases h
    split at h
    · cases h
    rename_i h1 h2 h3 h4 h5
    have hP : Place st lv := Classical.byContradiction fun e => h1 (.inl e)
    have h3a : ¬ (k ≤ 1 ∧ (r || wr || x) = true) := fun e => h3 (.inl e)
    have h3b : ¬ (wr && !r) = true := fun e => h3 (.inr (.inl e))
    refine ⟨hP, by omega, by omega, by omega, by omega, by omega, by omega, by omega, ?_, ?_, by omega, by omega, by omega⟩
    · intro e
      have : ¬ (r || wr || x) = true := fun g => h3a ⟨by omega, g⟩
      revert this; cases r <;> cases wr <;> cases x <;> simp
    · revert h3b; cases r <;> cases wr <;> simp
  · rintro ⟨hP, h1, h2, h3, h4, h5, h6, h7, h8, h9, h10, h11, h12⟩
    have n1 : ¬ (¬ Place st lv ∨ k < 0 ∨ 3 < k ∨ s < 0 ∨ 15 < s) := by
      intro e
      rcases e with e | e
      · exact e hP
      · omega
    rw [if_neg n1, if_neg (by omega), if_neg, if_neg (by omega), if_neg (by omega)]
    rintro (⟨e, g⟩ | e | e)
    · obtain ⟨rfl, rfl, rfl⟩ := h8 (by omega); cases g
    · revert h9 e; cases r <;> cases wr <;> simp
    · omega
/-- What Decode answers: its error. -/
def decE (st lv : Int) (w : Nat) : Int :=
  if ¬ Place st lv then 1
  else if w % 2 = 0 then 0
  else if ¬ (checkC st lv (decK lv w) 0 (bitB w 6) (bitB w 7) (bitB w 8) (decS w : Nat) = 0 ∧ wordN (decK lv w) 0 (bitB w 6) (bitB w 7) (bitB w 8) (decS w) + decA w = w) then 4
  else if topN st ≤ decA w then 2
  else if checkC st lv (decK lv w) (decA w) (bitB w 6) (bitB w 7) (bitB w 8) (decS w : Nat) ≠ 0 then 4
  else 0
/-- The document's way. -/
def refE (st lv : Int) (w : Nat) : Int :=
  if ¬ Place st lv then 1
  else if w % 2 = 0 then 0
  else if checkC st lv (decK lv w) (decA w) (bitB w 6) (bitB w 7) (bitB w 8) (decS w : Nat) = 0 ∧ wordN (decK lv w) (decA w) (bitB w 6) (bitB w 7) (bitB w 8) (decS w) = w then 0
  else if (checkC st lv (decK lv w) 0 (bitB w 6) (bitB w 7) (bitB w 8) (decS w : Nat) = 0 ∧ wordN (decK lv w) 0 (bitB w 6) (bitB w 7) (bitB w 8) (decS w) = w - decA w) ∧ topN st ≤ decA w then 2
  else 4
theorem zero_mod_span (n : Nat) : 0 % spanN n = 0 := Nat.zero_mod _
theorem decA_le_self (w : Nat) : decA w ≤ w := by unfold decA; omega
theorem check_base {st lv k : Int} {a : Nat} {r wr x : Bool} {s : Int} (hk : k ≠ 0) (h : checkC st lv k a r wr x s = 0) : checkC st lv k 0 r wr x s = 0 := by
  rw [check_zero hk] at h ⊢
  obtain ⟨h0, h1, h2, h3, h4, h5, h6, h7, h8, h9, h10, h11, h12⟩ := h
  exact ⟨h0, h1, h2, h3, h4, h5, h6, h7, h8, h9, by omega, rfl, fun _ => zero_mod_span _⟩
theorem dec_ref (st lv : Int) (w : Nat) : decE st lv w = refE st lv w := by
  unfold decE refE
  have hk : decK lv w ≠ 0 := by have := decK_range lv w; omega
  have hwd := wordN_add (decK lv w) (decA w) (bitB w 6) (bitB w 7) (bitB w 8) (decS w)
  have hle := decA_le_self w
  have hb := @check_base st lv (decK lv w) (decA w) (bitB w 6) (bitB w 7) (bitB w 8) (decS w : Nat) hk
  have hz := @check_zero st lv (decK lv w) (decA w) (bitB w 6) (bitB w 7) (bitB w 8) (decS w : Nat) hk
  generalize wordN (decK lv w) (decA w) (bitB w 6) (bitB w 7) (bitB w 8) (decS w) = X at *
  generalize wordN (decK lv w) 0 (bitB w 6) (bitB w 7) (bitB w 8) (decS w) = Y at *
  have ht : checkC st lv (decK lv w) (decA w) (bitB w 6) (bitB w 7) (bitB w 8) (decS w : Nat) = 0 → decA w < topN st := fun e => (hz.1 e).2.2.2.2.2.2.2.2.2.2.1
  clear hz
  generalize checkC st lv (decK lv w) (decA w) (bitB w 6) (bitB w 7) (bitB w 8) (decS w : Nat) = C at *
  generalize checkC st lv (decK lv w) 0 (bitB w 6) (bitB w 7) (bitB w 8) (decS w : Nat) = D at *
  generalize decA w = A at *
  by_cases p1 : ¬ Place st lv
  · rw [if_pos p1, if_pos p1]
  rw [if_neg p1, if_neg p1]
  by_cases p2 : w % 2 = 0
  · rw [if_pos p2, if_pos p2]
  rw [if_neg p2, if_neg p2]
  by_cases c0 : C = 0
  · have d0 := hb c0
    have t0 := ht c0
    subst c0
    rw [d0]
    by_cases q : Y + A = w
    · rw [if_neg (by simp [q]), if_neg (by omega), if_neg (by simp), if_pos ⟨rfl, by omega⟩]
    · rw [if_pos (by simp [q]), if_neg (by omega), if_neg (by omega)]
  · by_cases d0 : D = 0
    · by_cases q : Y + A = w
      · by_cases t : topN st ≤ A
        · rw [if_neg (by simp [d0, q]), if_pos t, if_neg (by omega), if_pos ⟨⟨d0, by omega⟩, t⟩]
        · rw [if_neg (by simp [d0, q]), if_neg t, if_pos c0, if_neg (by omega), if_neg (by omega)]
      · rw [if_pos (by simp [q]), if_neg (by omega), if_neg (by omega)]
    · rw [if_pos (by simp [d0]), if_neg (by omega), if_neg (by omega)]
/-- A descriptor's word is read as the descriptor. -/
theorem dec_word {st lv k : Int} {a : Nat} {r wr x : Bool} {s : Nat} (hk : k ≠ 0) (h : checkC st lv k a r wr x (s : Nat) = 0) :
    decE st lv (wordN k a r wr x s) = 0 ∧ wordN k a r wr x s < 18446744073709551616 ∧ wordN k a r wr x s % 2 = 1 ∧ decK lv (wordN k a r wr x s) = k ∧ decA (wordN k a r wr x s) = a ∧ bitB (wordN k a r wr x s) 6 = r ∧ bitB (wordN k a r wr x s) 7 = wr ∧ bitB (wordN k a r wr x s) 8 = x ∧ decS (wordN k a r wr x s) = s := by
  have hz := (check_zero hk).1 h
  obtain ⟨h0, h1, h2, h3, h4, h5, h6, h7, h8, h9, h10, h11, h12⟩ := hz
  have htop := topN_le st
  obtain ⟨p1, p2, p3, p4, p5, p6, p7, p8⟩ := @word_parts k a r wr x s h11 (by omega) (by omega)
  have pk : decK lv (wordN k a r wr x s) = k := by
    unfold decK; rw [p3]
    by_cases e : k = 2
    · subst e; rfl
    · rw [decide_eq_true (show k ≠ 2 from e), cond_true]
      split <;> omega
  refine ⟨?_, p1, p2, pk, p8, p4, p5, p6, p7⟩
  unfold decE
  rw [pk, p8, p4, p5, p6, p7]
  rw [if_neg (by simpa using h0), if_neg (by omega), if_neg, if_neg (by omega), if_neg (by simpa using h)]
  rw [Classical.not_not]
  exact ⟨check_base hk h, (wordN_add k a r wr x s).symm⟩
/-! The word as the program makes it. -/
theorem or_flags (b r wr x : Bool) : bits .or .u64 (bits .or .u64 (bits .or .u64 (bits .or .u64 1 (flagN b 1 : Nat)) (flagN r 6 : Nat)) (flagN wr 7 : Nat)) (flagN x 8 : Nat) = ((1 + flagN b 1 + flagN r 6 + flagN wr 7 + flagN x 8 : Nat) : Int) := by
  cases b <;> cases r <;> cases wr <;> cases x <;> rfl
theorem or_low {i : Nat} (q b : Nat) (h : b < 2 ^ i) : b ||| 2 ^ i * q = b + 2 ^ i * q := by
  rw [Nat.or_comm, ← Nat.two_pow_add_eq_or_of_lt h, Nat.add_comm]
theorem ne_two (k : Int) : (k != 2) = decide (k ≠ 2) := by
  by_cases h : k = 2
  · subst h; rfl
  · rw [decide_eq_true h, bne_iff_ne.2 h]
theorem word_or {k : Int} {a : Nat} {r wr x : Bool} {s : Int} (ha : a % 4096 = 0) (hl : a < 281474976710656) (hs : 0 ≤ s) (hs2 : s ≤ 15) :
    bits .or .u64 (bits .or .u64 (bits .or .u64 (bits .or .u64 (bits .or .u64 (bits .or .u64 1 (flagN (k != 2) 1 : Nat)) (flagN r 6 : Nat)) (flagN wr 7 : Nat)) (flagN x 8 : Nat)) (a : Int))
      (IntKind.u64.wrap (IntKind.u64.wrap s * 36028797018963968)) = ((wordN k a r wr x s.toNat : Nat) : Int) := by
  rw [ne_two, or_flags]
  have hF := flags_lt (decide (k ≠ 2)) r wr x
  have hw : IntKind.u64.wrap (IntKind.u64.wrap s * 36028797018963968) = ((2 ^ 55 * s.toNat : Nat) : Int) := by
    rw [show IntKind.u64.wrap s = s by rw [IntKind.wrap_u64]; omega]
    rw [IntKind.wrap_u64]; omega
  rw [hw]
  unfold wordN
  generalize 1 + flagN (decide (k ≠ 2)) 1 + flagN r 6 + flagN wr 7 + flagN x 8 = F at *
  rw [bits_or_u64_nat _ _ (by omega) (by omega)]
  have h1 : F ||| a = F + a := by
    have := or_low (i := 12) (a / 4096) F hF
    rw [show 2 ^ 12 * (a / 4096) = a by omega] at this
    exact this
  rw [h1, bits_or_u64_nat _ _ (by omega) (by omega), or_low _ _ (by omega)]
  congr 1
  omega
theorem word_add {k : Int} {a : Nat} {r wr x : Bool} {s : Int} (ha : a % 4096 = 0) (hl : a < 281474976710656) (hs : 0 ≤ s) (hs2 : s ≤ 15) :
    IntKind.u64.wrap (IntKind.u64.wrap (IntKind.u64.wrap (IntKind.u64.wrap (IntKind.u64.wrap (IntKind.u64.wrap (1 + (flagN (k != 2) 1 : Nat)) + (flagN r 6 : Nat)) + (flagN wr 7 : Nat)) + (flagN x 8 : Nat)) + (a : Int)) +
      IntKind.u64.wrap (IntKind.u64.wrap s * 36028797018963968)) = ((wordN k a r wr x s.toNat : Nat) : Int) := by
  rw [ne_two]
  have hF := flags_lt (decide (k ≠ 2)) r wr x
  rw [show IntKind.u64.wrap s = s by rw [IntKind.wrap_u64]; omega]
  unfold wordN
  generalize flagN (decide (k ≠ 2)) 1 = F1 at *
  generalize flagN r 6 = F2 at *
  generalize flagN wr 7 = F3 at *
  generalize flagN x 8 = F4 at *
  simp only [IntKind.wrap_u64]
  omega
end Go.Proofs.Ytlbehhbicmmdoaa
namespace Go.Proofs.Ytlbehhbicmmdoaa
set_option linter.unusedVariables false
set_option linter.unusedSimpArgs false
open Go.RowKit
def encW (st lv k : Int) (a : Nat) (r wr x : Bool) (s : Int) : Nat := if checkC st lv k a r wr x s = 0 ∧ k ≠ 0 then wordN k a r wr x s.toNat else 0
abbrev descV (k : Int) (a : Nat) (r wr x : Bool) (s : Int) : Value := .agg #[.int .i64 k, .int .u64 (a : Nat), .bool r, .bool wr, .bool x, .int .i64 s]
abbrev EncL (w : World) (k : Int) (a : Nat) (r wr x : Bool) (s : Int) : List (Nat × Array Value × TypeId) := [(w.heap.size, #[.int .i64 k, .int .u64 (a : Nat), .bool r, .bool wr, .bool x, .int .i64 s], 48)]
set_option maxHeartbeats 2000000 in
set_option maxRecDepth 100000 in
theorem encode_calls (st lv k : Int) (a : Nat) (r wr x : Bool) (s : Int) (w : World) :
    Calls Try.prog 73 #[.int .i64 st, .int .i64 lv, descV k a r wr x s] w (RetB w (.tuple #[.int .u64 (encW st lv k a r wr x s : Nat), .int .i64 (checkC st lv k a r wr x s)])) := by
  have hck := descCheck_calls st lv k a r wr x s
  by_cases hE : checkC st lv k a r wr x s = 0
  · by_cases hk : k = 0
    · have h0 : encW st lv k a r wr x s = 0 := by unfold encW; rw [if_neg (by simp [hk])]
      rw [h0, hE]
      rw [hE] at hck
      subst hk
      clear h0 hE
      go_enter Try.func73, Try.ntmps73
      go_upto_region 1 with (fail)
      have hH := holds_new #[.int .i64 0, .int .u64 (a : Nat), .bool r, .bool wr, .bool x, .int .i64 s] 48 (holds_nil w)
      generalize w.alloc (.cells #[.int .i64 0, .int .u64 (a : Nat), .bool r, .bool wr, .bool x, .int .i64 s] 48) = W at *
      obtain ⟨s0, s1, _⟩ := id hH
      obtain ⟨k1, f1, z1⟩ := of_block s1
      go_wp2_with ((go_at_call 74; (with_reducible refine (hck _).mono ?_); rintro e w9 ⟨rfl, hb9⟩; have hH := holds_old hH hb9; obtain ⟨_, s1, _⟩ := id hH; obtain ⟨k1, f1, z1⟩ := of_block s1))
      go_ret2
      exact ⟨rfl, hH.1⟩
    · have h0 : encW st lv k a r wr x s = wordN k a r wr x s.toNat := by unfold encW; rw [if_pos ⟨hE, hk⟩]
      have HZ := Lib.hid ((check_zero hk).1 hE)
      rw [h0, hE]
      rw [hE] at hck
      clear h0 hE
      go_enter Try.func73, Try.ntmps73
      go_upto_region 1 with (fail)
      have hH := holds_new #[.int .i64 k, .int .u64 (a : Nat), .bool r, .bool wr, .bool x, .int .i64 s] 48 (holds_nil w)
      generalize w.alloc (.cells #[.int .i64 k, .int .u64 (a : Nat), .bool r, .bool wr, .bool x, .int .i64 s] 48) = W at *
      obtain ⟨s0, s1, _⟩ := id hH
      obtain ⟨k1, f1, z1⟩ := of_block s1
      go_wp2_with ((go_at_call 74; (with_reducible refine (hck _).mono ?_); rintro e w9 ⟨rfl, hb9⟩; have hH := holds_old hH hb9; obtain ⟨_, s1, _⟩ := id hH; obtain ⟨k1, f1, z1⟩ := of_block s1))
      refine wp_region_walked (S := Holds w (EncL w k a r wr x s)) (by kernel_rfl) (by kernel_rfl) (holds_drew hH) ?_
      repeat (apply walked_cons; (first | exact gives_and rfl rfl rfl rfl | exact gives_or rfl rfl rfl rfl | (focus (intro wS hS; obtain ⟨s0, s1, _⟩ := id hS; obtain ⟨k1, f1, z1⟩ := of_block s1; go_wp2_with (((go_at_call 80); (first | (with_reducible refine (flag_calls _ 1 1 rfl (.inl rfl) _).mono ?_) | (with_reducible refine (flag_calls _ 6 6 rfl (.inr (.inl rfl)) _).mono ?_) | (with_reducible refine (flag_calls _ 7 7 rfl (.inr (.inr (.inl rfl))) _).mono ?_) | (with_reducible refine (flag_calls _ 8 8 rfl (.inr (.inr (.inr rfl))) _).mono ?_)); rintro e w9 ⟨rfl, hb9⟩)); (first | exact ⟨rfl, rfl, hS⟩ | exact ⟨rfl, rfl, holds_old hS hb9⟩); done)) | (focus (apply gives_guard; (focus (first | exact wanted_yes rfl rfl rfl | exact wanted_no rfl rfl rfl | exact wanted_yes2 rfl rfl rfl | exact wanted_no2 rfl rfl rfl)); (focus (intro hx9; (try simp only [Bool.not_eq_true', Bool.and_eq_true, Bool.not_not] at hx9); (try obtain ⟨hx9, hy9⟩ := hx9); (try subst hy9); (try subst hx9); (first | exact gives_and rfl rfl rfl rfl | exact gives_or rfl rfl rfl rfl | (intro wS hS; obtain ⟨s0, s1, _⟩ := id hS; obtain ⟨k1, f1, z1⟩ := of_block s1; go_wp2_with (((go_at_call 80); (first | (with_reducible refine (flag_calls _ 1 1 rfl (.inl rfl) _).mono ?_) | (with_reducible refine (flag_calls _ 6 6 rfl (.inr (.inl rfl)) _).mono ?_) | (with_reducible refine (flag_calls _ 7 7 rfl (.inr (.inr (.inl rfl))) _).mono ?_) | (with_reducible refine (flag_calls _ 8 8 rfl (.inr (.inr (.inr rfl))) _).mono ?_)); rintro e w9 ⟨rfl, hb9⟩)); (first | exact ⟨rfl, rfl, hS⟩ | exact ⟨rfl, rfl, holds_old hS hb9⟩); done))))))); rfl; (try simp only [Act.put, List.setIfInBounds_toArray, List.set_cons_succ, List.set_cons_zero]))
      apply walked_nil
      intro wS hH
      obtain ⟨s0, s1, _⟩ := id hH
      obtain ⟨k1, f1, z1⟩ := of_block s1
      go_wp2
      obtain ⟨hp, q1, q2, q3, q4, _, _, _, _, _, q5, q6, _⟩ := HZ.out
      have htop := topN_le st
      have hW := @word_or k a r wr x s q6 (by omega) q3 q4
      rw [hW]
      go_ret2
      exact ⟨rfl, hH.1⟩
  · have h0 : encW st lv k a r wr x s = 0 := by unfold encW; rw [if_neg (by simp [hE])]
    rw [h0]
    generalize checkC st lv k a r wr x s = e at *
    have hne : (e != 0) = true := bne_iff_ne.2 hE
    clear h0 hE
    go_enter Try.func73, Try.ntmps73
    go_upto_region 1 with (fail)
    have hH := holds_new #[.int .i64 k, .int .u64 (a : Nat), .bool r, .bool wr, .bool x, .int .i64 s] 48 (holds_nil w)
    generalize w.alloc (.cells #[.int .i64 k, .int .u64 (a : Nat), .bool r, .bool wr, .bool x, .int .i64 s] 48) = W at *
    obtain ⟨s0, s1, _⟩ := id hH
    obtain ⟨k1, f1, z1⟩ := of_block s1
    go_wp2_with ((go_at_call 74; (with_reducible refine (hck _).mono ?_); rintro e w9 ⟨rfl, hb9⟩; have hH := holds_old hH hb9; obtain ⟨_, s1, _⟩ := id hH; obtain ⟨k1, f1, z1⟩ := of_block s1))
    go_ret2
    exact ⟨rfl, hH.1⟩
set_option maxHeartbeats 2000000 in
set_option maxRecDepth 100000 in
theorem refEncode_calls (st lv k : Int) (a : Nat) (r wr x : Bool) (s : Int) (w : World) :
    Calls Try.prog 44 #[.int .i64 st, .int .i64 lv, descV k a r wr x s] w (RetB w (.tuple #[.int .u64 (encW st lv k a r wr x s : Nat), .int .i64 (checkC st lv k a r wr x s)])) := by
  have hck := descRefCheck_calls st lv k a r wr x s
  by_cases hE : checkC st lv k a r wr x s = 0
  · by_cases hk : k = 0
    · have h0 : encW st lv k a r wr x s = 0 := by unfold encW; rw [if_neg (by simp [hk])]
      rw [h0, hE]
      rw [hE] at hck
      subst hk
      clear h0 hE
      go_enter Try.func44, Try.ntmps44
      go_upto_region 1 with (fail)
      have hH := holds_new #[.int .i64 0, .int .u64 (a : Nat), .bool r, .bool wr, .bool x, .int .i64 s] 48 (holds_nil w)
      generalize w.alloc (.cells #[.int .i64 0, .int .u64 (a : Nat), .bool r, .bool wr, .bool x, .int .i64 s] 48) = W at *
      obtain ⟨s0, s1, _⟩ := id hH
      obtain ⟨k1, f1, z1⟩ := of_block s1
      go_wp2_with ((go_at_call 68; (with_reducible refine (hck _).mono ?_); rintro e w9 ⟨rfl, hb9⟩; have hH := holds_old hH hb9; obtain ⟨_, s1, _⟩ := id hH; obtain ⟨k1, f1, z1⟩ := of_block s1))
      go_ret2
      exact ⟨rfl, hH.1⟩
    · have h0 : encW st lv k a r wr x s = wordN k a r wr x s.toNat := by unfold encW; rw [if_pos ⟨hE, hk⟩]
      have HZ := Lib.hid ((check_zero hk).1 hE)
      rw [h0, hE]
      rw [hE] at hck
      clear h0 hE
      go_enter Try.func44, Try.ntmps44
      go_upto_region 1 with (fail)
      have hH := holds_new #[.int .i64 k, .int .u64 (a : Nat), .bool r, .bool wr, .bool x, .int .i64 s] 48 (holds_nil w)
      generalize w.alloc (.cells #[.int .i64 k, .int .u64 (a : Nat), .bool r, .bool wr, .bool x, .int .i64 s] 48) = W at *
      obtain ⟨s0, s1, _⟩ := id hH
      obtain ⟨k1, f1, z1⟩ := of_block s1
      go_wp2_with ((go_at_call 68; (with_reducible refine (hck _).mono ?_); rintro e w9 ⟨rfl, hb9⟩; have hH := holds_old hH hb9; obtain ⟨_, s1, _⟩ := id hH; obtain ⟨k1, f1, z1⟩ := of_block s1))
      refine wp_region_walked (S := Holds w (EncL w k a r wr x s)) (by kernel_rfl) (by kernel_rfl) (holds_drew hH) ?_
      repeat (apply walked_cons; (first | exact gives_and rfl rfl rfl rfl | exact gives_or rfl rfl rfl rfl | (focus (intro wS hS; obtain ⟨s0, s1, _⟩ := id hS; obtain ⟨k1, f1, z1⟩ := of_block s1; go_wp2_with (((go_at_call 69); (first | (with_reducible refine (refBit_calls _ 1 1 rfl (.inl rfl) _).mono ?_) | (with_reducible refine (refBit_calls _ 6 6 rfl (.inr (.inl rfl)) _).mono ?_) | (with_reducible refine (refBit_calls _ 7 7 rfl (.inr (.inr (.inl rfl))) _).mono ?_) | (with_reducible refine (refBit_calls _ 8 8 rfl (.inr (.inr (.inr rfl))) _).mono ?_)); rintro e w9 ⟨rfl, hb9⟩)); (first | exact ⟨rfl, rfl, hS⟩ | exact ⟨rfl, rfl, holds_old hS hb9⟩); done)) | (focus (apply gives_guard; (focus (first | exact wanted_yes rfl rfl rfl | exact wanted_no rfl rfl rfl | exact wanted_yes2 rfl rfl rfl | exact wanted_no2 rfl rfl rfl)); (focus (intro hx9; (try simp only [Bool.not_eq_true', Bool.and_eq_true, Bool.not_not] at hx9); (try obtain ⟨hx9, hy9⟩ := hx9); (try subst hy9); (try subst hx9); (first | exact gives_and rfl rfl rfl rfl | exact gives_or rfl rfl rfl rfl | (intro wS hS; obtain ⟨s0, s1, _⟩ := id hS; obtain ⟨k1, f1, z1⟩ := of_block s1; go_wp2_with (((go_at_call 69); (first | (with_reducible refine (refBit_calls _ 1 1 rfl (.inl rfl) _).mono ?_) | (with_reducible refine (refBit_calls _ 6 6 rfl (.inr (.inl rfl)) _).mono ?_) | (with_reducible refine (refBit_calls _ 7 7 rfl (.inr (.inr (.inl rfl))) _).mono ?_) | (with_reducible refine (refBit_calls _ 8 8 rfl (.inr (.inr (.inr rfl))) _).mono ?_)); rintro e w9 ⟨rfl, hb9⟩)); (first | exact ⟨rfl, rfl, hS⟩ | exact ⟨rfl, rfl, holds_old hS hb9⟩); done))))))); rfl; (try simp only [Act.put, List.setIfInBounds_toArray, List.set_cons_succ, List.set_cons_zero]))
      apply walked_nil
      intro wS hH
      obtain ⟨s0, s1, _⟩ := id hH
      obtain ⟨k1, f1, z1⟩ := of_block s1
      go_wp2
      obtain ⟨hp, q1, q2, q3, q4, _, _, _, _, _, q5, q6, _⟩ := HZ.out
      have htop := topN_le st
      have hW := @word_add k a r wr x s q6 (by omega) q3 q4
      rw [hW]
      go_ret2
      exact ⟨rfl, hH.1⟩
  · have h0 : encW st lv k a r wr x s = 0 := by unfold encW; rw [if_neg (by simp [hE])]
    rw [h0]
    generalize checkC st lv k a r wr x s = e at *
    have hne : (e != 0) = true := bne_iff_ne.2 hE
    clear h0 hE
    go_enter Try.func44, Try.ntmps44
    go_upto_region 1 with (fail)
    have hH := holds_new #[.int .i64 k, .int .u64 (a : Nat), .bool r, .bool wr, .bool x, .int .i64 s] 48 (holds_nil w)
    generalize w.alloc (.cells #[.int .i64 k, .int .u64 (a : Nat), .bool r, .bool wr, .bool x, .int .i64 s] 48) = W at *
    obtain ⟨s0, s1, _⟩ := id hH
    obtain ⟨k1, f1, z1⟩ := of_block s1
    go_wp2_with ((go_at_call 68; (with_reducible refine (hck _).mono ?_); rintro e w9 ⟨rfl, hb9⟩; have hH := holds_old hH hb9; obtain ⟨_, s1, _⟩ := id hH; obtain ⟨k1, f1, z1⟩ := of_block s1))
    go_ret2
    exact ⟨rfl, hH.1⟩
end Go.Proofs.Ytlbehhbicmmdoaa
namespace Go.Proofs.Ytlbehhbicmmdoaa
set_option linter.unusedVariables false
set_option linter.unusedSimpArgs false
open Go.RowKit
/-- A call that returns v and turns nothing. -/
def RetX (w : World) (v : Value) (e : Ending) (w' : World) : Prop := e = .returned v ∧ w = w'
set_option maxHeartbeats 1000000 in
theorem mask_x (li ni : Int) (low n : Nat) (hl : li = low) (hn : ni = n) (w : World) (h1 : 1 ≤ n) (h2 : low + n ≤ 64) : Calls Try.prog 79 #[.int .i64 li, .int .i64 ni] w (RetX w (.int .u64 (maskN low n : Nat))) := by
  subst hl hn
  go_enter Try.func79, Try.ntmps79
  go_wp2
  go_ret
  refine ⟨?_, rfl⟩
  rw [← mask_value low n h1 h2]
  rfl
set_option maxHeartbeats 1000000 in
theorem field_x (xi li ni : Int) (x low n : Nat) (hx : xi = x) (hl : li = low) (hn : ni = n) (w : World) (hxl : x < 18446744073709551616) (h1 : 1 ≤ n) (h2 : low + n ≤ 64) :
    Calls Try.prog 70 #[.int .u64 xi, .int .i64 li, .int .i64 ni] w (RetX w (.int .u64 (fieldN x low n : Nat))) := by
  subst hx hl hn
  have hand := bits_and_u64_nat x (maskN low n) hxl (maskN_lt low n h2)
  have hm := maskN_pos low n h1
  have hmb : (((maskN low n : Nat) : Int) != 0) = true := by rw [bne_iff_ne]; omega
  have hv : ((x &&& maskN low n : Nat) : Int) / 2 ^ low = ((fieldN x low n : Nat) : Int) := by rw [← fieldN_and]; push_cast; rfl
  go_enter Try.func70, Try.ntmps70
  go_wp2_with fail
  (with_reducible refine (mask_x low n low n rfl rfl _ h1 h2).mono ?_)
  rintro e w1 ⟨rfl, rfl⟩
  generalize hmm : maskN low n = m at *
  go_wp2
  go_ret
  refine ⟨?_, rfl⟩
  rw [← hv]
  rfl
theorem bit_field (x i : Nat) : (((fieldN x i 1 : Nat) : Int) == 1) = bitB x i := by
  unfold fieldN bitB
  have : x / 2 ^ i % 2 ^ 1 = x / 2 ^ i % 2 := rfl
  rw [this]
  by_cases h : x / 2 ^ i % 2 = 1
  · rw [decide_eq_true h, h]; rfl
  · rw [decide_eq_false h, beq_eq_false_iff_ne]; omega
set_option maxHeartbeats 1000000 in
theorem on_x (x b i : Nat) (ii : Int) (hii : ii = i) (hi : i ≤ 63) (w : World) (hx : x < 18446744073709551616) (hc : w.cell? ⟨b, 0, none⟩ = some (.int .u64 (x : Nat))) :
    Calls Try.prog 72 #[.int .i64 ii, .pointer (some ⟨b, 0, none⟩)] w (RetX w (.bool (bitB x i))) := by
  subst hii
  have hf := fun w => field_x x i 1 x i 1 rfl rfl rfl w hx (by omega) (by omega)
  rw [← bit_field]
  go_enter Try.func72, Try.ntmps72
  go_wp2_with fail
  (with_reducible refine (hf _).mono ?_)
  rintro e w1 ⟨rfl, rfl⟩
  go_wp2
  go_ret
  exact ⟨rfl, rfl⟩
theorem refTop_x (st : Int) (w : World) : Calls Try.prog 51 #[.int .i64 st] w (RetX w (.int .u64 (topN st : Nat))) := by
  by_cases h1 : st = 1
  · subst h1
    go_enter Try.func51, Try.ntmps51
    go_wp2
    go_ret
    exact ⟨rfl, rfl⟩
  by_cases h2 : st = 2
  · subst h2
    go_enter Try.func51, Try.ntmps51
    go_wp2
    go_ret
    exact ⟨rfl, rfl⟩
  have ht : topN st = 0 := by unfold topN; rw [if_neg h1, if_neg h2]
  rw [ht]
  go_enter Try.func51, Try.ntmps51
  go_wp2
  go_ret
  exact ⟨rfl, rfl⟩
theorem top_x (st : Int) (w : World) : Calls Try.prog 45 #[.int .i64 st] w (RetX w (.int .u64 (topN st : Nat))) := by
  by_cases h1 : st = 1
  · subst h1
    go_enter Try.func45, Try.ntmps45
    go_wp2
    go_ret
    exact ⟨rfl, rfl⟩
  by_cases h2 : st = 2
  · subst h2
    go_enter Try.func45, Try.ntmps45
    go_wp2
    go_ret
    exact ⟨rfl, rfl⟩
  have ht : topN st = 0 := by unfold topN; rw [if_neg h1, if_neg h2]
  rw [ht]
  go_enter Try.func45, Try.ntmps45
  go_wp2
  go_ret
  exact ⟨rfl, rfl⟩
theorem place_yes (st lv : Int) (hp : Place st lv) (w : World) : Calls Try.prog 71 #[.int .i64 st, .int .i64 lv] w (RetX w (.bool true)) := by
  have ht := top_x st
  have hn : (((topN st : Nat) : Int) != 0) = true := bne_iff_ne.2 (by
    unfold topN
    obtain ⟨rfl | rfl, _⟩ := hp <;> simp)
  have h0 : (0 : Int) ≤ lv := hp.2.1
  have h3 : lv ≤ 3 := hp.2.2
  generalize ((topN st : Nat) : Int) = T at *
  clear hp
  go_enter Try.func71, Try.ntmps71
  go_wp2_with fail
  refine (ht _).mono ?_
  rintro e w1 ⟨rfl, rfl⟩
  go_wp2
  go_ret
  exact ⟨rfl, rfl⟩
end Go.Proofs.Ytlbehhbicmmdoaa
namespace Go.Proofs.Ytlbehhbicmmdoaa
set_option linter.unusedVariables false
set_option linter.unusedSimpArgs false
open Go.RowKit
section
variable {P : Program} {ops : Array Oper} {S : Array Bool → World → Prop} {Q : Exit → Act → World → Prop}
/-- Operation number j (of n) comes to the frame a', wherever it comes up. -/
def GivesS (P : Program) (ops : Array Oper) (S : Array Bool → World → Prop) (n j : Nat) (o : Oper) (a a' : Act) : Prop :=
  ∀ (l : Array Bool) (w : World), l.size = n → l.getD j false = false → S l w → wpList P ops (Fin (S (l.setIfInBounds j true)) a') [o] a w
/-- The operations one by one, in the order of the text. -/
def WalkedS (P : Program) (ops : Array Oper) (S : Array Bool → World → Prop) (n : Nat) (Q : Act → Prop) : List Oper → Nat → Act → Prop
  | [], _, a => Q a
  | o :: r, j, a => ∃ a', GivesS P ops S n j o a a' ∧ a'.defers = a.defers ∧ WalkedS P ops S n Q r (j + 1) a'
/-- What an operation gives at one frame it gives at every frame that agrees on what it looks at. -/
theorem gives_vals {n j : Nat} {o : Oper} {a a' : Act} (h : GivesS P ops S n j o a a') (hd : a'.defers = a.defers) (hs : ∀ cs c, o.op ≠ .select cs c) {l0 : Array Bool} {w0 : World} (z0 : l0.size = n) (n0 : l0.getD j false = false) (h0 : S l0 w0) :
    ∃ v, a' = a.put o.dst v ∧ (∃ w1, S (l0.setIfInBounds j true) w1) ∧ ∀ (l : Array Bool) (b : Act) (w : World) (K : Act → World → Prop) (Q : Exit → Act → World → Prop), Agree ops o a b → l.size = n → l.getD j false = false → S l w → (∀ w', S (l.setIfInBounds j true) w' → K (b.put o.dst v) w') →
      (if Region.wanted o (yielded ops b.tmps) then o.wp P b w K Q ∨ (o.asks P b w ∧ LetsOut Q) else K (b.put o.dst undef) w) := by
  by_cases hw : Region.wanted o (yielded ops a.tmps) = true
  · -- what it comes to in a world of S
    have key : ∀ l w, l.size = n → l.getD j false = false → S l w → o.wp P a w (fun a'' w' => a'' = a' ∧ S (l.setIfInBounds j true) w') (fun _ _ _ => False) := by
      intro l w hz hn hS
      have h1 := h l w hz hn hS
      unfold wpList at h1
      rw [if_pos hw] at h1
      rcases h1 with h1 | ⟨_, a1, w1, h1, _⟩
      · unfold Oper.wp at h1 ⊢
        generalize (execOp a.eval o).run P w = r at h1 ⊢
        cases r with
        | ok n w' =>
          cases n with
          | value v => exact h1.2
          | skip => exact h1.2
          | defer d => exact h1.2
          | enter f args =>
            simp only [Oper.upon] at h1 ⊢
            refine Calls.mono h1 fun e w'' he => ?_
            cases e with
            | returned v => exact he.2
            | panicked c => exact absurd he.1 (by simp)
            | outgrown => obtain ⟨_, _, h2, _⟩ := he; exact absurd h2 (by simp)
          | row row args =>
            simp only [Oper.upon] at h1 ⊢
            exact Rows.mono h1 fun v w'' he => he.2
          | _ => exact (h1 : False).elim
        | halt x w' =>
          cases x <;> simp only [Oper.upon] at h1 ⊢ <;> first | exact h1 | exact absurd h1.1 (by simp)
      · exact absurd h1 (by simp)
    have nodefer : ∀ d, ({ a with defers := d :: a.defers } : Act).put o.dst undef ≠ a' := by
      intro d e
      have h1 := congrArg Act.defers e
      rw [hd] at h1
      have h2 : (({ a with defers := d :: a.defers } : Act).put o.dst undef).defers = d :: a.defers := by cases o.dst <;> rfl
      rw [h2] at h1
      have := congrArg List.length h1
      simp at this
    -- the value
    have hv : ∃ v, a' = a.put o.dst v ∧ ∃ w1, S (l0.setIfInBounds j true) w1 := by
      have k0 := key l0 w0 z0 n0 h0
      unfold Oper.wp at k0
      generalize (execOp a.eval o).run P w0 = r at k0
      cases r with
      | ok n w' =>
        cases n with
        | value v => exact ⟨v, k0.1.symm, _, k0.2⟩
        | skip => exact ⟨undef, k0.1.symm, _, k0.2⟩
        | defer d => exact absurd k0.1 (nodefer d)
        | enter f args =>
          simp only [Oper.upon] at k0
          obtain ⟨e, w'', fr, hr, _⟩ := k0 []
          cases e with
          | returned v => exact ⟨v, hr.1.symm, _, hr.2⟩
          | panicked c => exact hr.elim
          | outgrown => obtain ⟨_, _, h2⟩ := hr; exact h2.elim
        | row row args =>
          simp only [Oper.upon] at k0
          obtain ⟨v, w'', hr, _⟩ := k0 default []
          exact ⟨v, hr.1.symm, _, hr.2⟩
        | _ => exact (k0 : False).elim
      | halt x w' => cases x <;> simp only [Oper.upon] at k0
    obtain ⟨v, hv, hw1⟩ := hv
    refine ⟨v, hv, hw1, fun l b w K Q hab hz hn hS hK => ?_⟩
    rw [agree_wanted hab, if_pos hw]
    refine .inl ?_
    have k := key l w hz hn hS
    unfold Oper.wp at k ⊢
    rw [agree_eval hab hs]
    have same : ∀ u, a.put o.dst u = a' → b.put o.dst u = b.put o.dst v := fun u hu => put_same hab.1 (hu.trans hv)
    generalize (execOp a.eval o).run P w = r at k ⊢
    cases r with
    | ok n w' =>
      cases n with
      | value u => show K _ _; rw [same u k.1]; exact hK _ k.2
      | skip => show K _ _; rw [same undef k.1]; exact hK _ k.2
      | defer d => exact absurd k.1 (nodefer d)
      | enter f args =>
        simp only [Oper.upon] at k ⊢
        refine Calls.mono k fun e w'' he => ?_
        cases e with
        | returned u => show K _ _; rw [same u he.1]; exact hK _ he.2
        | panicked c => exact he.elim
        | outgrown => obtain ⟨_, _, h2⟩ := he; exact h2.elim
      | row row args =>
        simp only [Oper.upon] at k ⊢
        refine Rows.mono k fun u w'' he => ?_
        rw [same u he.1]; exact hK _ he.2
      | _ => exact (k : False).elim
    | halt x w' => cases x <;> simp only [Oper.upon] at k
  · have hw' : Region.wanted o (yielded ops a.tmps) = false := by simpa using hw
    refine ⟨undef, ?_, ?_, fun l b w K Q hab hz hn hS hK => ?_⟩
    · have h1 := h l0 w0 z0 n0 h0
      unfold wpList at h1
      rw [if_neg hw] at h1
      exact h1.2.1.symm
    · have h1 := h l0 w0 z0 n0 h0
      unfold wpList at h1
      rw [if_neg hw] at h1
      exact ⟨_, h1.2.2⟩
    · rw [agree_wanted hab, if_neg hw]
      have h1 := h l w hz hn hS
      unfold wpList at h1
      rw [if_neg hw] at h1
      exact hK w h1.2.2
theorem walkedS_chain {n : Nat} {Qf : Act → Prop} : ∀ {L : List Oper} (_ : ∀ (j : Nat) (o : Oper), L[j]? = some o → ∀ cs c, o.op ≠ .select cs c) (a : Act) (l0 : Array Bool) (w0 : World) {j0 : Nat}, l0.size = n → (∀ i, j0 ≤ i → l0.getD i false = false) → S l0 w0 →
    WalkedS P ops S n Qf L j0 a →
    ∃ A : Nat → Act, A 0 = a ∧ (∀ k o, L[k]? = some o → ∃ v, A (k + 1) = (A k).put o.dst v ∧ ∀ (l : Array Bool) (b : Act) (w : World) (K : Act → World → Prop) (Q : Exit → Act → World → Prop), Agree ops o (A k) b → l.size = n → l.getD (j0 + k) false = false → S l w →
      (∀ w', S (l.setIfInBounds (j0 + k) true) w' → K (b.put o.dst v) w') → (if Region.wanted o (yielded ops b.tmps) then o.wp P b w K Q ∨ (o.asks P b w ∧ LetsOut Q) else K (b.put o.dst undef) w)) ∧ Qf (A L.length) := by
  intro L
  induction L with
  | nil => intro _ a l0 w0 j0 _ _ _ h; exact ⟨fun _ => a, rfl, fun k o hk => by simp at hk, h⟩
  | cons o L ih =>
    intro hs a l0 w0 j0 hz hn h0 h
    obtain ⟨a', hg, hd, hr⟩ := h
    obtain ⟨v, hv, ⟨w1, h1⟩, step⟩ := gives_vals hg hd (hs 0 o rfl) hz (hn j0 (Nat.le_refl _)) h0
    obtain ⟨A, hA0, hA1, hA2⟩ := ih (fun j o' ho' => hs (j + 1) o' (by simpa using ho')) a' (l0.setIfInBounds j0 true) w1 (j0 := j0 + 1) (by rw [Array.size_setIfInBounds, hz]) (fun i hi => by
      rw [getD_set_ne false (by omega)]; exact hn i (by omega)) h1 hr
    refine ⟨fun k => match k with | 0 => a | k + 1 => A k, rfl, fun k o' hk => ?_, hA2⟩
    cases k with
    | zero =>
      simp at hk
      subst hk
      exact ⟨v, by show A 0 = a.put o.dst v; rw [hA0]; exact hv, step⟩
    | succ k =>
      have := hA1 k o' (by simpa using hk)
      rw [show j0 + 1 + k = j0 + (k + 1) by omega] at this
      exact this
/-- **A statement whose order is open, and which ends in operations that wait for all ahead of them (a store, an append): one walk, in the order of the text, is enough.** -/
theorem wp_region_staged (m : Nat) {id : Nat} {a : Act} {w : World} (hm : P.follows .mixedOrders = true) (hok : seqOk ops = true) (ht : tailOk ops m = true) (hms : m ≤ ops.size) (hS : S (Array.replicate ops.size false) w.drew)
    (h : WalkedS P ops S ops.size (fun a' => ∀ l w', l.size = ops.size → (∀ k, k < m → l.getD k false = true) → S l w' → wpList P ops Q (ops.toList.drop m) a' w') (ops.toList.take m) 0 a) : (Code.region id ops true).wp P Q a w := by
  obtain ⟨A, hA0, hA, hQ⟩ := walkedS_chain (fun j o ho => (seqOk_spec (j := j) hok (by rw [List.getElem?_take] at ho; split at ho; (· simpa using ho); (· cases ho))).1) _ _ _ (by simp) (fun i _ => by simp [Array.getElem?_replicate]; split <;> rfl) hS h
  have hA' : ∀ k o, k < m → ops[k]? = some o → ∃ v, A (k + 1) = (A k).put o.dst v ∧ ∀ (l : Array Bool) (b : Act) (w : World) (K : Act → World → Prop) (Q : Exit → Act → World → Prop), Agree ops o (A k) b → l.size = ops.size → l.getD k false = false → S l w →
      (∀ w', S (l.setIfInBounds k true) w' → K (b.put o.dst v) w') → (if Region.wanted o (yielded ops b.tmps) then o.wp P b w K Q ∨ (o.asks P b w ∧ LetsOut Q) else K (b.put o.dst undef) w) := fun k o hk ho => by
    simpa using hA k o (by rw [List.getElem?_take, if_pos hk]; simpa using ho)
  have hlen : (ops.toList.take m).length = m := by simp [Nat.min_eq_left hms]
  rw [hlen] at hQ
  have asz : ∀ k, k ≤ m → (A k).tmps.size = a.tmps.size ∧ (A k).defers = a.defers := by
    intro k
    induction k with
    | zero => intro _; rw [hA0]; exact ⟨rfl, rfl⟩
    | succ k ih =>
      intro hk
      obtain ⟨v, hv, _⟩ := hA' k _ (by omega) (Array.getElem?_eq_getElem (show k < ops.size by omega))
      obtain ⟨i1, i2⟩ := ih (by omega)
      rw [hv, put_size, put_defs]; exact ⟨i1, i2⟩
  have far : ∀ k t n, k ≤ n → n ≤ m → (∀ i o, k ≤ i → i < n → ops[i]? = some o → o.dst ≠ some t) → (A n).tmps[t]? = (A k).tmps[t]? := by
    intro k t n
    induction n with
    | zero => intro h1 _ _; rw [show k = 0 by omega]
    | succ n ih =>
      intro h1 h2 hno
      by_cases hkm : k = n + 1
      · rw [hkm]
      · obtain ⟨v, hv, _⟩ := hA' n _ (by omega) (Array.getElem?_eq_getElem (show n < ops.size by omega))
        rw [hv, put_ne (hno n _ (by omega) (by omega) (Array.getElem?_eq_getElem (show n < ops.size by omega)))]
        exact ih (by omega) (by omega) (fun i o hi hi' ho => hno i o hi (by omega) ho)
  have unlike : ∀ (i j : Nat) (oi oj : Oper) (t : Tmp), ops[i]? = some oi → ops[j]? = some oj → oi.dst = some t → oj.dst = some t → i = j := by
    intro i j oi oj t hi hj ti tj
    by_cases e : i = j
    · exact e
    · exact absurd tj (((seqOk_spec hok hj).2.2 i oi hi e t ti).1)
  have main : ∀ (fuel : Nat) (listed : Array Bool) (b : Act) (w : World), ((List.range m).filter (fun k => !listed.getD k true)).length + (ops.size - m) ≤ fuel →
      Midway ops a (A m) listed b → (∀ k, listed.getD k false = true → k < m) → S listed w → wpAny P .any ops Q fuel listed b w := by
    intro fuel
    induction fuel with
    | zero =>
      intro listed b w hf hM hin hw
      have hall : ∀ k, k < m → listed.getD k false = true := by
        intro k hk
        have hnil : (List.range m).filter (fun k => !listed.getD k true) = [] := List.length_eq_zero_iff.1 (by omega)
        have := (List.filter_eq_nil_iff.1 hnil) k (List.mem_range.2 hk)
        have hkl : k < listed.size := by rw [hM.len]; omega
        simpa [hkl] using this
      have hfin : b = A m := by
        refine act_ext (Array.ext_getElem? fun t => ?_) (by rw [hM.defers, (asz _ (Nat.le_refl _)).2])
        by_cases hx : ∃ (k : Nat) (o : Oper), k < m ∧ ops[k]? = some o ∧ o.dst = some t
        · obtain ⟨k, o, hk, ho, ht⟩ := hx
          exact hM.done k o t ho (hall k hk) ht
        · rw [hM.left t (fun k o ho hl ht => hx ⟨k, o, hin k hl, ho, ht⟩), far 0 t m (by omega) (Nat.le_refl _) (fun i o _ hi ho ht => hx ⟨i, o, hi, ho, ht⟩), hA0]
      rw [hfin]
      exact forced hok ht (ops.size - m) m 0 listed _ w rfl (by omega) (Nat.le_refl _) hms ⟨hM.len, fun i _ => ⟨fun e => hin i e, fun e => hall i e⟩⟩ hM.closed (hQ listed w hM.len hall hw)
    | succ fuel ih =>
      intro listed b w hf hM hin hw
      by_cases hall : ∀ k, k < m → listed.getD k false = true
      · have hfin : b = A m := by
          refine act_ext (Array.ext_getElem? fun t => ?_) (by rw [hM.defers, (asz _ (Nat.le_refl _)).2])
          by_cases hx : ∃ (k : Nat) (o : Oper), k < m ∧ ops[k]? = some o ∧ o.dst = some t
          · obtain ⟨k, o, hk, ho, ht⟩ := hx
            exact hM.done k o t ho (hall k hk) ht
          · rw [hM.left t (fun k o ho hl ht => hx ⟨k, o, hin k hl, ho, ht⟩), far 0 t m (by omega) (Nat.le_refl _) (fun i o _ hi ho ht => hx ⟨i, o, hi, ho, ht⟩), hA0]
        rw [hfin]
        exact forced hok ht (ops.size - m) m (fuel + 1) listed _ w rfl (by omega) (Nat.le_refl _) hms ⟨hM.len, fun i _ => ⟨fun e => hin i e, fun e => hall i e⟩⟩ hM.closed (hQ listed w hM.len hall hw)
      · refine ⟨fun hnil => absurd ?_ hall, fun j hj => ?_⟩
        · -- nothing may come up: then all has
          have hall' : ∀ n k, k < n → k < m → listed.getD k false = true := by
            intro n
            induction n with
            | zero => intro k hk; omega
            | succ n ihn =>
              intro k hk hs
              by_cases hl : listed.getD k false = true
              · exact hl
              · exfalso
                have hks : k < ops.size := by omega
                have hkl : k < listed.size := by rw [hM.len]; exact hks
                have hmem : k ∈ Region.ready .any ops listed := mem_ready.2 ⟨by simpa [hkl] using hl, _, Array.getElem?_eq_getElem hks, fun e he hb => by
                  have hlt := (seqOk_spec hok (Array.getElem?_eq_getElem hks)).2.1 e he hb
                  exact ihn e.on (by omega) (by omega)⟩
                rw [hnil] at hmem
                cases hmem
          exact fun k hk => hall' _ k (Nat.lt_succ_self k) hk
        · obtain ⟨hjun, o, ho, hedges⟩ := mem_ready.1 hj
          have hjs : j < ops.size := (Array.getElem?_eq_some_iff.1 ho).1
          have hjl : j < listed.size := by rw [hM.len]; exact hjs
          have hjun' : listed.getD j false = false := by simpa [hjl] using hjun
          have hmet : AllMet ops listed j := fun o' ho' e he hb => by
            rw [ho] at ho'
            cases ho'
            exact hedges e he hb
          have hjm : j < m := by
            refine Nat.lt_of_not_le fun hle => hall fun k hk => ?_
            exact met_bit hM.closed k (j + 1) j (by omega) hjs hmet (tailOk_spec ht hjs hle (by omega))
          obtain ⟨v, hv, step⟩ := hA' j o hjm ho
          have hag : Agree ops o (A j) b := by
            refine ⟨by rw [hM.size, (asz j (by omega)).1], fun t ht => ?_⟩
            by_cases hx : ∃ (i : Nat) (oi : Oper), ops[i]? = some oi ∧ oi.dst = some t
            · obtain ⟨i, oi, hi, hti⟩ := hx
              by_cases hij : i = j
              · rw [hM.left t (fun k ok hk hlk htk => by
                  have : k = i := unlike k i ok oi t hk hi htk hti
                  rw [this, hij, hjun'] at hlk
                  cases hlk), far 0 t j (by omega) (by omega) (fun k ok _ hk hok' htk => by
                  have : k = i := unlike k i ok oi t hok' hi htk hti
                  omega), hA0]
              · rcases ((seqOk_spec hok ho).2.2 i oi hi hij t hti).2 ht with ⟨hlt, hbit⟩ | ⟨hlt, hbit⟩
                · have hli := met_bit hM.closed i (j + 1) j (by omega) hjs hmet hbit
                  rw [hM.done i oi t hi hli hti]
                  exact far j t m (by omega) (Nat.le_refl _) (fun k ok hk _ hok' htk => by
                    have : k = i := unlike k i ok oi t hok' hi htk hti
                    omega)
                · have hun : listed.getD i false ≠ true := fun hli => by
                    have his : i < ops.size := (Array.getElem?_eq_some_iff.1 hi).1
                    have := met_bit hM.closed j (i + 1) i (by omega) his (hM.closed i hli) hbit
                    rw [hjun'] at this
                    cases this
                  rw [hM.left t (fun k ok hk hlk htk => by
                    have : k = i := unlike k i ok oi t hk hi htk hti
                    rw [this] at hlk
                    exact hun hlk), far 0 t j (by omega) (by omega) (fun k ok _ hk hok' htk => by
                    have : k = i := unlike k i ok oi t hok' hi htk hti
                    omega), hA0]
            · rw [hM.left t (fun k ok hk _ htk => hx ⟨k, ok, hk, htk⟩), far 0 t j (by omega) (by omega) (fun k ok _ _ hk htk => hx ⟨k, ok, hk, htk⟩), hA0]
          have hM' : Midway ops a (A m) (listed.setIfInBounds j true) (b.put o.dst v) := by
            refine ⟨by rw [put_size, hM.size], by rw [put_defs, hM.defers], by rw [Array.size_setIfInBounds, hM.len], fun y hy => ?_, fun k ok t hk hlk htk => ?_, fun t hno => ?_⟩
            · intro oy hoy e he hb
              by_cases hyj : j = y
              · subst hyj
                exact getD_set_true (hmet oy hoy e he hb)
              · rw [getD_set_ne false hyj] at hy
                exact getD_set_true (hM.closed y hy oy hoy e he hb)
            · by_cases hkj : j = k
              · subst hkj
                rw [ho] at hk
                cases hk
                rw [htk, put_at (b := A j) (by rw [hM.size, (asz j (by omega)).1]), ← htk, ← hv]
                exact (far (j + 1) t m (by omega) (Nat.le_refl _) (fun i oi hi _ hoi hti => by
                  have : i = j := unlike i j oi o t hoi ho hti htk
                  omega)).symm
              · rw [getD_set_ne false hkj] at hlk
                rw [put_ne (fun e => hkj (unlike j k o ok t ho hk e htk))]
                exact hM.done k ok t hk hlk htk
            · have hjt : o.dst ≠ some t := hno j o ho (by simp [hjl])
              rw [put_ne hjt]
              refine hM.left t (fun k ok hk hlk => hno k ok hk ?_)
              exact getD_set_true hlk
          unfold wpOp
          simp only [ho]
          refine step listed b w _ Q hag hM.len hjun' hw (fun w' hw' => ih _ _ w' ?_ hM' (fun k hk => ?_) hw')
          · have := count_lt (p := fun k => !listed.getD k true) (q := fun k => !(listed.setIfInBounds j true).getD k true) (fun k hk => by
              by_cases hkj : j = k
              · subst hkj; simp [hjun]
              · rw [getD_set_ne true hkj] at hk; exact hk) (j := j) (by simp [hjun]) (by simp [hjl]) (List.mem_range.2 hjm)
            omega
          · by_cases hkj : j = k
            · omega
            · rw [getD_set_ne false hkj] at hk
              exact hin k hk
  refine wp_region_any hm (main ops.size _ a w.drew ?_ ?_ ?_ hS)
  · have := List.length_filter_le (fun k => !(Array.replicate ops.size false).getD k true) (List.range m)
    simp only [List.length_range] at this
    omega
  · refine ⟨rfl, rfl, by simp, fun y hy => ?_, fun k o t ho hk _ => ?_, fun t _ => rfl⟩
    · simp [Array.getElem?_replicate] at hy
      split at hy <;> simp at hy
    · simp [Array.getElem?_replicate] at hk
      split at hk <;> simp at hk
  · intro k hk
    simp [Array.getElem?_replicate] at hk
    split at hk <;> simp at hk
theorem walkedS_cons {n j : Nat} {Qf : Act → Prop} {o : Oper} {r : List Oper} {a a' : Act} (hg : GivesS P ops S n j o a a') (hd : a'.defers = a.defers) (hr : WalkedS P ops S n Qf r (j + 1) a') : WalkedS P ops S n Qf (o :: r) j a := ⟨a', hg, hd, hr⟩
theorem walkedS_nil {n j : Nat} {Qf : Act → Prop} {a : Act} (h : Qf a) : WalkedS P ops S n Qf [] j a := h
end
end Go.Proofs.Ytlbehhbicmmdoaa
namespace Go.Proofs.Ytlbehhbicmmdoaa
set_option linter.unusedVariables false
set_option linter.unusedSimpArgs false
open Go.RowKit
/-- World A until operation J has come, then world B. -/
def StageS (J : Nat) (A B : World) (l : Array Bool) (x : World) : Prop := x = bif l.getD J false then B else A
section
variable {J : Nat} {A B x : World} {l : Array Bool}
theorem stage_other (j : Nat) (hj : j ≠ J) (h : StageS J A B l x) : StageS J A B (l.setIfInBounds j true) x := by
  unfold StageS at h ⊢
  rw [getD_set_ne false hj]; exact h
theorem stage_cell {a : Addr} {v : Option Value} (h : StageS J A B l x) (hA : A.cell? a = v) (hB : B.cell? a = v) : x.cell? a = v := by
  unfold StageS at h
  rw [h]
  cases l.getD J false
  · exact hA
  · exact hB
theorem stage_before (hn : l.getD J false = false) (h : StageS J A B l x) : x = A := by
  unfold StageS at h
  rw [hn] at h; exact h
theorem stage_after (hn : l.getD J false = true) (h : StageS J A B l x) : x = B := by
  unfold StageS at h
  rw [hn] at h; exact h
theorem stage_done {n : Nat} (hz : l.size = n) (hJ : J < n) : StageS J A B (l.setIfInBounds J true) B := by
  have e : (l.setIfInBounds J true).getD J false = true := by simp [hz, hJ]
  unfold StageS
  rw [e]; rfl
end
end Go.Proofs.Ytlbehhbicmmdoaa
namespace Go.Proofs.Ytlbehhbicmmdoaa
set_option linter.unusedVariables false
set_option linter.unusedSimpArgs false
open Go.ChangeShapes Go.WideShapes Go.Deep Go.RowKit Go.Joins
theorem array6 {α : Type} {cs : Array α} (h : cs.size = 6) : ∃ c0 c1 c2 c3 c4 c5, cs = #[c0, c1, c2, c3, c4, c5] := by
  obtain ⟨l⟩ := cs
  match l, h with
  | [c0, c1, c2, c3, c4, c5], _ => exact ⟨c0, c1, c2, c3, c4, c5, rfl⟩
section
variable {H : Type} {enc : TypeId × Value → H} {P : Program} {w : World}
end
end Go.Proofs.Ytlbehhbicmmdoaa
