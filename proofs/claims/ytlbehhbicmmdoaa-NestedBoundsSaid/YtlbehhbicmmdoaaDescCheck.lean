/- The contract of desc.Check. -/
import Derived.Test.YtlbehhbicmmdoaaDescC
import Derived.Test.YtlbehhbicmmdoaaSeq
import Derived.Test.YtlbehhbicmmdoaaGoto
namespace Go.Proofs.Ytlbehhbicmmdoaa
set_option linter.unusedVariables false
set_option linter.unusedSimpArgs false
open Go.RowKit

/-- A permission that is none. -/
theorem eq_permD (x0 x1 x2 y0 y1 y2 : Bool) (w : World) :
    (Op.equalIn 10000 46 (.agg #[.bool x0, .bool x1, .bool x2]) (.agg #[.bool y0, .bool y1, .bool y2])).run Try.prog w = .ok (x0 == y0 && (x1 == y1 && (x2 == y2 && true))) w := by
  refine same_struct (d := 9999) Try.underlying46 (by kernel_rfl) ?_
  refine same_cons (by rfl) (by go_simp; rfl) (by go_simp; rfl) (by go_simp) ?_
  refine same_cons (by rfl) (by go_simp; rfl) (by go_simp; rfl) (by go_simp) ?_
  refine same_cons (by rfl) (by go_simp; rfl) (by go_simp; rfl) (by go_simp) ?_
  exact same_nil
theorem eq_none (r wr x : Bool) (w : World) :
    (Op.equalIn 10000 46 (.agg #[.bool r, .bool wr, .bool x]) (.agg #[.bool false, .bool false, .bool false])).run Try.prog w = .ok (!(r || wr || x)) w := by
  rw [eq_permD]
  cases r <;> cases wr <;> cases x <;> rfl

/-- The frame at the label. -/
def CheckFrame (v : Int) (a : Act) : Prop := ∀ Q : Act → Prop, (∀ u0 u1 u2 u3 u4 u5 u7 u8 u9 u10 u11 u12 u13 u14 u15 u16 u17 u18 u19 u20 u21 u22 u23 u24 u25 u26 u27 u28 u29 u30 u31 u32 u33 u34 u35 u36 u37 u38 u39 u40 u41 u42 u43 u44 u45 u46 u47 u48 u49 u50 u51 u52 u53 u54 u55 u56 u57 u58 u59 u60 u61 u62 u63 u64 u65 u66 u67 u68 u69 u70 u71 u72 u73 u74 u75 u76 u77 u78 u79 u80 u81 u82 u83 u84 u85 u86 u87 u88 u89 u90 u91 u92 u93 u94 u95 u96 u97 u98 u99 u100 u101 u102 u103 u104 u105 u106 u107 u108 u109 u110 u111 u112 u113 u114 u115 u116 u117 : Value, Q { tmps := #[u0, u1, u2, u3, u4, u5, .int .i64 v, u7, u8, u9, u10, u11, u12, u13, u14, u15, u16, u17, u18, u19, u20, u21, u22, u23, u24, u25, u26, u27, u28, u29, u30, u31, u32, u33, u34, u35, u36, u37, u38, u39, u40, u41, u42, u43, u44, u45, u46, u47, u48, u49, u50, u51, u52, u53, u54, u55, u56, u57, u58, u59, u60, u61, u62, u63, u64, u65, u66, u67, u68, u69, u70, u71, u72, u73, u74, u75, u76, u77, u78, u79, u80, u81, u82, u83, u84, u85, u86, u87, u88, u89, u90, u91, u92, u93, u94, u95, u96, u97, u98, u99, u100, u101, u102, u103, u104, u105, u106, u107, u108, u109, u110, u111, u112, u113, u114, u115, u116, u117], defers := [] }) → Q a

abbrev DescL (w : World) (k : Int) (a : Nat) (r wr x : Bool) (s : Int) : List (Nat × Array Value × TypeId) := [(w.heap.size + 1, #[.bool r, .bool wr, .bool x], 46), (w.heap.size, #[.int .i64 k, .int .u64 (a : Nat), .bool r, .bool wr, .bool x, .int .i64 s], 48)]

def argB (P : Bool) (k s : Int) : Bool := !P || decide (k < 0) || decide (3 < k) || decide (s < 0) || decide (15 < s)
def kindB (lv k : Int) : Bool := decide (k = 1) && decide (lv = 3) || decide (k = 2) && (decide (lv = 0) || decide (lv = 3)) || decide (k = 3) && !decide (lv = 3)
def formB (k : Int) (a : Nat) (r wr x : Bool) (s : Int) : Bool := decide (k ≤ 1) && (r || wr || x) || wr && !r || decide (k = 0) && (!decide (a = 0) || !decide (s = 0))
theorem argB_eq {st lv k s : Int} {P : Bool} (h : decide (Place st lv) = P) : decide (¬ Place st lv ∨ k < 0 ∨ 3 < k ∨ s < 0 ∨ 15 < s) = argB P k s := by
  subst h; simp [argB, Bool.or_assoc]
theorem kindB_eq (lv k : Int) : decide ((k = 1 ∧ lv = 3) ∨ (k = 2 ∧ (lv = 0 ∨ lv = 3)) ∨ (k = 3 ∧ lv ≠ 3)) = kindB lv k := by
  simp [kindB, Bool.or_assoc]
theorem formB_eq (k : Int) (a : Nat) (r wr x : Bool) (s : Int) : decide ((k ≤ 1 ∧ (r || wr || x) = true) ∨ (wr && !r) = true ∨ (k = 0 ∧ (a ≠ 0 ∨ s ≠ 0))) = formB k a r wr x s := by
  unfold formB; simp only [Bool.decide_or, Bool.decide_and, Bool.decide_eq_true, ne_eq, decide_not, Bool.or_assoc]

set_option maxHeartbeats 8000000 in
set_option maxRecDepth 100000 in
theorem descCheck_calls (st lv k : Int) (a : Nat) (r wr x : Bool) (s : Int) (w : World) :
    Calls Try.prog 74 #[.int .i64 st, .int .i64 lv, .agg #[.int .i64 k, .int .u64 (a : Nat), .bool r, .bool wr, .bool x, .int .i64 s]] w (RetB w (.int .i64 (checkC st lv k a r wr x s))) := by
  generalize hv : checkC st lv k a r wr x s = v
  have HV := Lib.hid hv
  clear hv
  obtain ⟨P, hP⟩ : ∃ P, decide (Place st lv) = P := ⟨_, rfl⟩
  have hpl := place_calls st lv P hP
  go_enter Try.func74, Try.ntmps74
  go_wp2
  refine wp_scope_labels (fun lb k a x => lb = 0 ∧ k = 0 ∧ Old w x ∧ CheckFrame v a) ?_ ?_
  · go_upto_region 3 with (fail)
    have hH := holds_new #[.bool r, .bool wr, .bool x] 46 (holds_new #[.int .i64 k, .int .u64 (a : Nat), .bool r, .bool wr, .bool x, .int .i64 s] 48 (holds_nil w))
    simp only [World.size_alloc] at hH
    generalize (w.alloc (.cells #[.int .i64 k, .int .u64 (a : Nat), .bool r, .bool wr, .bool x, .int .i64 s] 48)).alloc (.cells #[.bool r, .bool wr, .bool x] 46) = W at *
    go_cut [33] (fun s33 wx => s33 = .bool (argB P k s) ∧ Holds w (DescL w k a r wr x s) wx)
    case first =>
      go_wp2_with fail
      refine (hpl _).mono ?_
      rintro e w1 ⟨rfl, hb1⟩
      have hH := holds_old hH hb1
      obtain ⟨s0, s1, s2, _⟩ := id hH
      obtain ⟨k1, f1, z1⟩ := of_block s1
      obtain ⟨k2, f2, z2⟩ := of_block s2
      cases P
      · go_wp2
        go_meet
        case rel => exact ⟨rfl, hH⟩
      · go_wp2
        all_goals go_meet
        all_goals exact ⟨by simp_all [argB], hH⟩
    case rest =>
    obtain ⟨rfl, hH⟩ := hcut
    have hAe := argB_eq (k := k) (s := s) hP
    cases hA : argB P k s
    case true =>
      obtain rfl : v = 1 := by rw [← HV.out]; exact checkC_arg (by rw [hA] at hAe; exact of_decide_eq_true hAe)
      go_wp2_with fail
      go_step3
      exact ⟨0, rfl, rfl, hH.1, fun _ hq => hq _ _ _ _ _ _ _ _ _ _ _ _ _ _ _ _ _ _ _ _ _ _ _ _ _ _ _ _ _ _ _ _ _ _ _ _ _ _ _ _ _ _ _ _ _ _ _ _ _ _ _ _ _ _ _ _ _ _ _ _ _ _ _ _ _ _ _ _ _ _ _ _ _ _ _ _ _ _ _ _ _ _ _ _ _ _ _ _ _ _ _ _ _ _ _ _ _ _ _ _ _ _ _ _ _ _ _ _ _ _ _ _ _ _ _ _ _⟩
    case false =>
    rw [hA] at hAe
    have hA := of_decide_eq_false hAe
    clear hAe hpl
    go_upto_region 5 with (fail)
    go_cut [62] (fun s62 wx => s62 = .bool (kindB lv k) ∧ Holds w (DescL w k a r wr x s) wx)
    case first =>
      obtain ⟨s0, s1, s2, _⟩ := id hH
      obtain ⟨k1, f1, z1⟩ := of_block s1
      obtain ⟨k2, f2, z2⟩ := of_block s2
      have HA := Lib.hid hA
      clear hA hP
      go_wp2
      all_goals subst_vars
      all_goals go_meet
      all_goals exact ⟨by simp_all [kindB] <;> rfl, hH⟩
    case rest =>
    obtain ⟨rfl, hH⟩ := hcut
    have hBe := kindB_eq lv k
    cases hB : kindB lv k
    case true =>
      obtain rfl : v = 4 := by rw [← HV.out]; exact checkC_kind hA (by rw [hB] at hBe; exact of_decide_eq_true hBe)
      go_wp2_with fail
      go_step3
      exact ⟨0, rfl, rfl, hH.1, fun _ hq => hq _ _ _ _ _ _ _ _ _ _ _ _ _ _ _ _ _ _ _ _ _ _ _ _ _ _ _ _ _ _ _ _ _ _ _ _ _ _ _ _ _ _ _ _ _ _ _ _ _ _ _ _ _ _ _ _ _ _ _ _ _ _ _ _ _ _ _ _ _ _ _ _ _ _ _ _ _ _ _ _ _ _ _ _ _ _ _ _ _ _ _ _ _ _ _ _ _ _ _ _ _ _ _ _ _ _ _ _ _ _ _ _ _ _ _ _ _⟩
    case false =>
    rw [hB] at hBe
    have hB := of_decide_eq_false hBe
    clear hBe
    go_upto_region 6 with (fail)
    go_cut [2, 94] (fun s2 s94 wx => s94 = .bool (formB k a r wr x s) ∧ Holds w (DescL w k a r wr x s) wx)
    case first =>
      obtain ⟨s0, s1, s2, _⟩ := id hH
      obtain ⟨k1, f1, z1⟩ := of_block s1
      obtain ⟨k2, f2, z2⟩ := of_block s2
      have HA := Lib.hid hA
      have HB := Lib.hid hB
      clear hA hB hP
      have hN := eq_none r wr x
      have hF : formB k a r wr x s = (decide (k ≤ 1) && (r || wr || x) || wr && !r || decide (k = 0) && (!decide (a = 0) || !decide (s = 0))) := rfl
      generalize (r || wr || x) = E at *
      have HF := Lib.hid hF
      clear hF
      cases E
      · go_wp2
        all_goals subst_vars
        all_goals go_meet
        all_goals exact ⟨by rw [HF.out]; simp_all <;> rfl, hH⟩
      · go_wp2
        all_goals subst_vars
        all_goals go_meet
        all_goals exact ⟨by rw [HF.out]; simp_all <;> rfl, hH⟩
    case rest =>
    obtain ⟨rfl, hH⟩ := hcut
    have hCe := formB_eq k a r wr x s
    cases hC : formB k a r wr x s
    case true =>
      obtain rfl : v = 4 := by rw [← HV.out]; exact checkC_form hA hB (by rw [hC] at hCe; exact of_decide_eq_true hCe)
      go_wp2_with fail
      go_step3
      exact ⟨0, rfl, rfl, hH.1, fun _ hq => hq _ _ _ _ _ _ _ _ _ _ _ _ _ _ _ _ _ _ _ _ _ _ _ _ _ _ _ _ _ _ _ _ _ _ _ _ _ _ _ _ _ _ _ _ _ _ _ _ _ _ _ _ _ _ _ _ _ _ _ _ _ _ _ _ _ _ _ _ _ _ _ _ _ _ _ _ _ _ _ _ _ _ _ _ _ _ _ _ _ _ _ _ _ _ _ _ _ _ _ _ _ _ _ _ _ _ _ _ _ _ _ _ _ _ _ _ _⟩
    case false =>
    rw [hC] at hCe
    have hC := of_decide_eq_false hCe
    clear hCe
    go_upto_region 8 with (fail)
    have hTop := top_calls st
    have hl3 : lv = ((lv.toNat : Nat) : Int) ∧ lv.toNat ≤ 3 := by
      by_cases hp : Place st lv
      · obtain ⟨_, h1, h2⟩ := hp
        omega
      · exact absurd (.inl hp) hA
    have hSp := fun x => span_yes lv lv.toNat hl3.1 x hl3.2
    have hs0 : (((spanN lv.toNat : Nat) : Int) == 0) = false := by
      have : 0 < spanN lv.toNat := by rw [spanN_pow _ hl3.2]; exact Nat.two_pow_pos _
      rw [beq_eq_false_iff_ne]; omega
    generalize hsp : ((spanN lv.toNat : Nat) : Int) = SP at hSp hs0
    have HSP := Lib.hid hsp
    have hsn : ¬ SP = 0 := by simpa using hs0
    clear hsp hs0
    have HA := Lib.hid hA
    have HB := Lib.hid hB
    have HC := Lib.hid hC
    have HL := Lib.hid hl3
    clear hA hB hC hP hl3
    refine wp_region_walked (S := Holds w (DescL w k a r wr x s)) (by kernel_rfl) (by kernel_rfl) (holds_drew hH) ?_
    repeat (apply walked_cons; (first | exact gives_and rfl rfl rfl rfl | exact gives_or rfl rfl rfl rfl | (focus (intro wS hS; obtain ⟨s0, s1, s2, _⟩ := id hS; obtain ⟨k1, f1, z1⟩ := of_block s1; obtain ⟨k2, f2, z2⟩ := of_block s2; go_wp2_with ((go_at_call 45; (with_reducible refine (hTop _).mono ?_); rintro e w9 ⟨rfl, hb9⟩)); (first | exact ⟨rfl, rfl, hS⟩ | exact ⟨rfl, rfl, holds_old hS hb9⟩); done)) | (focus (apply gives_guard; (focus (first | exact wanted_yes rfl rfl rfl | exact wanted_no rfl rfl rfl | exact wanted_yes2 rfl rfl rfl | exact wanted_no2 rfl rfl rfl)); (focus (intro hx9; (try simp only [Bool.not_eq_true', Bool.and_eq_true, Bool.not_not] at hx9); (try obtain ⟨hx9, hy9⟩ := hx9); (try subst hy9); (try subst hx9); (first | exact gives_and rfl rfl rfl rfl | exact gives_or rfl rfl rfl rfl | (intro wS hS; obtain ⟨s0, s1, s2, _⟩ := id hS; obtain ⟨k1, f1, z1⟩ := of_block s1; obtain ⟨k2, f2, z2⟩ := of_block s2; go_wp2_with ((go_at_call 45; (with_reducible refine (hTop _).mono ?_); rintro e w9 ⟨rfl, hb9⟩)); (first | exact ⟨rfl, rfl, hS⟩ | exact ⟨rfl, rfl, holds_old hS hb9⟩); done))))))); rfl; (try simp only [Act.put, List.setIfInBounds_toArray, List.set_cons_succ, List.set_cons_zero]))
    apply walked_nil
    intro wS hH
    obtain ⟨s0, s1, s2, _⟩ := id hH
    obtain ⟨k1, f1, z1⟩ := of_block s1
    obtain ⟨k2, f2, z2⟩ := of_block s2
    go_wp2
    · have hD : topN st ≤ a := by assumption
      obtain rfl : v = 2 := by rw [← HV.out]; exact checkC_range HA.out HB.out HC.out hD
      go_step3
      exact ⟨0, rfl, rfl, hH.1, fun _ hq => hq _ _ _ _ _ _ _ _ _ _ _ _ _ _ _ _ _ _ _ _ _ _ _ _ _ _ _ _ _ _ _ _ _ _ _ _ _ _ _ _ _ _ _ _ _ _ _ _ _ _ _ _ _ _ _ _ _ _ _ _ _ _ _ _ _ _ _ _ _ _ _ _ _ _ _ _ _ _ _ _ _ _ _ _ _ _ _ _ _ _ _ _ _ _ _ _ _ _ _ _ _ _ _ _ _ _ _ _ _ _ _ _ _ _ _ _ _⟩
    have hD : ¬ topN st ≤ a := by assumption
    refine wp_region_walked (S := Holds w (DescL w k a r wr x s)) (by kernel_rfl) (by kernel_rfl) (holds_drew hH) ?_
    iterate 5 (apply walked_cons; (first | exact gives_and rfl rfl rfl rfl | exact gives_or rfl rfl rfl rfl | (focus (intro wS hS; obtain ⟨s0, s1, s2, _⟩ := id hS; obtain ⟨k1, f1, z1⟩ := of_block s1; obtain ⟨k2, f2, z2⟩ := of_block s2; go_wp2_with (fail); (first | exact ⟨rfl, rfl, hS⟩ | exact ⟨rfl, rfl, holds_old hS hb9⟩); done)) | (focus (apply gives_guard; (focus (first | exact wanted_yes rfl rfl rfl | exact wanted_no rfl rfl rfl | exact wanted_yes2 rfl rfl rfl | exact wanted_no2 rfl rfl rfl)); (focus (intro hx9; (try simp only [Bool.not_eq_true', Bool.and_eq_true, Bool.not_not] at hx9); (try obtain ⟨hx9, hy9⟩ := hx9); (try subst hy9); (try subst hx9); (first | exact gives_and rfl rfl rfl rfl | exact gives_or rfl rfl rfl rfl | (intro wS hS; obtain ⟨s0, s1, s2, _⟩ := id hS; obtain ⟨k1, f1, z1⟩ := of_block s1; obtain ⟨k2, f2, z2⟩ := of_block s2; go_wp2_with (fail); (first | exact ⟨rfl, rfl, hS⟩ | exact ⟨rfl, rfl, holds_old hS hb9⟩); done))))))); rfl; (try simp only [Act.put, List.setIfInBounds_toArray, List.set_cons_succ, List.set_cons_zero]))
    generalize hB1 : ((a : Int) % 4096 != 0) = B1
    cases B1
    case true =>
      have hE : a % 4096 ≠ 0 := by
        have := bne_iff_ne.1 hB1
        omega
      have HE := Lib.hid hE
      clear hB1 hE
      repeat (apply walked_cons; (first | exact gives_and rfl rfl rfl rfl | exact gives_or rfl rfl rfl rfl | (focus (intro wS hS; obtain ⟨s0, s1, s2, _⟩ := id hS; obtain ⟨k1, f1, z1⟩ := of_block s1; obtain ⟨k2, f2, z2⟩ := of_block s2; go_wp2_with (fail); (first | exact ⟨rfl, rfl, hS⟩ | exact ⟨rfl, rfl, holds_old hS hb9⟩); done)) | (focus (apply gives_guard; (focus (first | exact wanted_yes rfl rfl rfl | exact wanted_no rfl rfl rfl | exact wanted_yes2 rfl rfl rfl | exact wanted_no2 rfl rfl rfl)); (focus (intro hx9; (try simp only [Bool.not_eq_true', Bool.and_eq_true, Bool.not_not] at hx9); (try obtain ⟨hx9, hy9⟩ := hx9); (try subst hy9); (try subst hx9); (first | exact gives_and rfl rfl rfl rfl | exact gives_or rfl rfl rfl rfl | (intro wS hS; obtain ⟨s0, s1, s2, _⟩ := id hS; obtain ⟨k1, f1, z1⟩ := of_block s1; obtain ⟨k2, f2, z2⟩ := of_block s2; go_wp2_with (fail); (first | exact ⟨rfl, rfl, hS⟩ | exact ⟨rfl, rfl, holds_old hS hb9⟩); done))))))); rfl; (try simp only [Act.put, List.setIfInBounds_toArray, List.set_cons_succ, List.set_cons_zero]))
      apply walked_nil
      intro wS hH
      obtain ⟨s0, s1, s2, _⟩ := id hH
      obtain ⟨k1, f1, z1⟩ := of_block s1
      obtain ⟨k2, f2, z2⟩ := of_block s2
      obtain rfl : v = 3 := by rw [← HV.out]; exact checkC_align HA.out HB.out HC.out hD (.inl HE.out)
      go_wp2_with fail
      go_step3
      exact ⟨0, rfl, rfl, hH.1, fun _ hq => hq _ _ _ _ _ _ _ _ _ _ _ _ _ _ _ _ _ _ _ _ _ _ _ _ _ _ _ _ _ _ _ _ _ _ _ _ _ _ _ _ _ _ _ _ _ _ _ _ _ _ _ _ _ _ _ _ _ _ _ _ _ _ _ _ _ _ _ _ _ _ _ _ _ _ _ _ _ _ _ _ _ _ _ _ _ _ _ _ _ _ _ _ _ _ _ _ _ _ _ _ _ _ _ _ _ _ _ _ _ _ _ _ _ _ _ _ _⟩
    case false =>
      have hE : a % 4096 = 0 := by
        have : (a : Int) % 4096 = 0 := by simpa using hB1
        omega
      have HE := Lib.hid hE
      clear hB1 hE
      iterate 4 (apply walked_cons; (first | exact gives_and rfl rfl rfl rfl | exact gives_or rfl rfl rfl rfl | (focus (intro wS hS; obtain ⟨s0, s1, s2, _⟩ := id hS; obtain ⟨k1, f1, z1⟩ := of_block s1; obtain ⟨k2, f2, z2⟩ := of_block s2; go_wp2_with (fail); (first | exact ⟨rfl, rfl, hS⟩ | exact ⟨rfl, rfl, holds_old hS hb9⟩); done)) | (focus (apply gives_guard; (focus (first | exact wanted_yes rfl rfl rfl | exact wanted_no rfl rfl rfl | exact wanted_yes2 rfl rfl rfl | exact wanted_no2 rfl rfl rfl)); (focus (intro hx9; (try simp only [Bool.not_eq_true', Bool.and_eq_true, Bool.not_not] at hx9); (try obtain ⟨hx9, hy9⟩ := hx9); (try subst hy9); (try subst hx9); (first | exact gives_and rfl rfl rfl rfl | exact gives_or rfl rfl rfl rfl | (intro wS hS; obtain ⟨s0, s1, s2, _⟩ := id hS; obtain ⟨k1, f1, z1⟩ := of_block s1; obtain ⟨k2, f2, z2⟩ := of_block s2; go_wp2_with (fail); (first | exact ⟨rfl, rfl, hS⟩ | exact ⟨rfl, rfl, holds_old hS hb9⟩); done))))))); rfl; (try simp only [Act.put, List.setIfInBounds_toArray, List.set_cons_succ, List.set_cons_zero]))
      generalize hB2 : decide (k = 2) = B2
      cases B2
      case false =>
        have HK := Lib.hid (of_decide_eq_false hB2)
        clear hB2
        repeat (apply walked_cons; (first | exact gives_and rfl rfl rfl rfl | exact gives_or rfl rfl rfl rfl | (focus (intro wS hS; obtain ⟨s0, s1, s2, _⟩ := id hS; obtain ⟨k1, f1, z1⟩ := of_block s1; obtain ⟨k2, f2, z2⟩ := of_block s2; go_wp2_with (fail); (first | exact ⟨rfl, rfl, hS⟩ | exact ⟨rfl, rfl, holds_old hS hb9⟩); done)) | (focus (apply gives_guard; (focus (first | exact wanted_yes rfl rfl rfl | exact wanted_no rfl rfl rfl | exact wanted_yes2 rfl rfl rfl | exact wanted_no2 rfl rfl rfl)); (focus (intro hx9; (try simp only [Bool.not_eq_true', Bool.and_eq_true, Bool.not_not] at hx9); (try obtain ⟨hx9, hy9⟩ := hx9); (try subst hy9); (try subst hx9); (first | exact gives_and rfl rfl rfl rfl | exact gives_or rfl rfl rfl rfl | (intro wS hS; obtain ⟨s0, s1, s2, _⟩ := id hS; obtain ⟨k1, f1, z1⟩ := of_block s1; obtain ⟨k2, f2, z2⟩ := of_block s2; go_wp2_with (fail); (first | exact ⟨rfl, rfl, hS⟩ | exact ⟨rfl, rfl, holds_old hS hb9⟩); done))))))); rfl; (try simp only [Act.put, List.setIfInBounds_toArray, List.set_cons_succ, List.set_cons_zero]))
        apply walked_nil
        intro wS hH
        obtain ⟨s0, s1, s2, _⟩ := id hH
        obtain ⟨k1, f1, z1⟩ := of_block s1
        obtain ⟨k2, f2, z2⟩ := of_block s2
        obtain rfl : v = 0 := by rw [← HV.out]; exact checkC_ok HA.out HB.out HC.out hD (by have := HK.out; have := HE.out; omega)
        go_wp2_with fail
        go_step3
        go_wp2
        simp only [toLabel]
        go_ret
        exact ⟨rfl, hH.1⟩
      case true =>
        have HK := Lib.hid (of_decide_eq_true hB2)
        clear hB2
        iterate 6 (apply walked_cons; (first | exact gives_and rfl rfl rfl rfl | exact gives_or rfl rfl rfl rfl | (focus (intro wS hS; obtain ⟨s0, s1, s2, _⟩ := id hS; obtain ⟨k1, f1, z1⟩ := of_block s1; obtain ⟨k2, f2, z2⟩ := of_block s2; go_wp2_with ((go_at_call 53; (with_reducible refine (hSp _).mono ?_); rintro e w9 ⟨rfl, hb9⟩)); (first | exact ⟨rfl, rfl, hS⟩ | exact ⟨rfl, rfl, holds_old hS hb9⟩); done)) | (focus (apply gives_guard; (focus (first | exact wanted_yes rfl rfl rfl | exact wanted_no rfl rfl rfl | exact wanted_yes2 rfl rfl rfl | exact wanted_no2 rfl rfl rfl)); (focus (intro hx9; (try simp only [Bool.not_eq_true', Bool.and_eq_true, Bool.not_not] at hx9); (try obtain ⟨hx9, hy9⟩ := hx9); (try subst hy9); (try subst hx9); (first | exact gives_and rfl rfl rfl rfl | exact gives_or rfl rfl rfl rfl | (intro wS hS; obtain ⟨s0, s1, s2, _⟩ := id hS; obtain ⟨k1, f1, z1⟩ := of_block s1; obtain ⟨k2, f2, z2⟩ := of_block s2; go_wp2_with ((go_at_call 53; (with_reducible refine (hSp _).mono ?_); rintro e w9 ⟨rfl, hb9⟩)); (first | exact ⟨rfl, rfl, hS⟩ | exact ⟨rfl, rfl, holds_old hS hb9⟩); done))))))); rfl; (try simp only [Act.put, List.setIfInBounds_toArray, List.set_cons_succ, List.set_cons_zero]))
        generalize hB3 : ((a : Int) % SP != 0) = B3
        cases B3
        case true =>
          have HF := Lib.hid (bne_iff_ne.1 hB3)
          clear hB3
          repeat (apply walked_cons; (first | exact gives_and rfl rfl rfl rfl | exact gives_or rfl rfl rfl rfl | (focus (intro wS hS; obtain ⟨s0, s1, s2, _⟩ := id hS; obtain ⟨k1, f1, z1⟩ := of_block s1; obtain ⟨k2, f2, z2⟩ := of_block s2; go_wp2_with (fail); (first | exact ⟨rfl, rfl, hS⟩ | exact ⟨rfl, rfl, holds_old hS hb9⟩); done)) | (focus (apply gives_guard; (focus (first | exact wanted_yes rfl rfl rfl | exact wanted_no rfl rfl rfl | exact wanted_yes2 rfl rfl rfl | exact wanted_no2 rfl rfl rfl)); (focus (intro hx9; (try simp only [Bool.not_eq_true', Bool.and_eq_true, Bool.not_not] at hx9); (try obtain ⟨hx9, hy9⟩ := hx9); (try subst hy9); (try subst hx9); (first | exact gives_and rfl rfl rfl rfl | exact gives_or rfl rfl rfl rfl | (intro wS hS; obtain ⟨s0, s1, s2, _⟩ := id hS; obtain ⟨k1, f1, z1⟩ := of_block s1; obtain ⟨k2, f2, z2⟩ := of_block s2; go_wp2_with (fail); (first | exact ⟨rfl, rfl, hS⟩ | exact ⟨rfl, rfl, holds_old hS hb9⟩); done))))))); rfl; (try simp only [Act.put, List.setIfInBounds_toArray, List.set_cons_succ, List.set_cons_zero]))
          apply walked_nil
          intro wS hH
          obtain ⟨s0, s1, s2, _⟩ := id hH
          obtain ⟨k1, f1, z1⟩ := of_block s1
          obtain ⟨k2, f2, z2⟩ := of_block s2
          obtain rfl : v = 3 := by
            rw [← HV.out]
            refine checkC_align HA.out HB.out HC.out hD (.inr ⟨HK.out, ?_⟩)
            have h1 := HF.out
            rw [← HSP.out] at h1
            omega
          go_wp2_with fail
          go_step3
          exact ⟨0, rfl, rfl, hH.1, fun _ hq => hq _ _ _ _ _ _ _ _ _ _ _ _ _ _ _ _ _ _ _ _ _ _ _ _ _ _ _ _ _ _ _ _ _ _ _ _ _ _ _ _ _ _ _ _ _ _ _ _ _ _ _ _ _ _ _ _ _ _ _ _ _ _ _ _ _ _ _ _ _ _ _ _ _ _ _ _ _ _ _ _ _ _ _ _ _ _ _ _ _ _ _ _ _ _ _ _ _ _ _ _ _ _ _ _ _ _ _ _ _ _ _ _ _ _ _ _ _⟩
        case false =>
          have HF := Lib.hid (show (a : Int) % SP = 0 by simpa using hB3)
          clear hB3
          repeat (apply walked_cons; (first | exact gives_and rfl rfl rfl rfl | exact gives_or rfl rfl rfl rfl | (focus (intro wS hS; obtain ⟨s0, s1, s2, _⟩ := id hS; obtain ⟨k1, f1, z1⟩ := of_block s1; obtain ⟨k2, f2, z2⟩ := of_block s2; go_wp2_with (fail); (first | exact ⟨rfl, rfl, hS⟩ | exact ⟨rfl, rfl, holds_old hS hb9⟩); done)) | (focus (apply gives_guard; (focus (first | exact wanted_yes rfl rfl rfl | exact wanted_no rfl rfl rfl | exact wanted_yes2 rfl rfl rfl | exact wanted_no2 rfl rfl rfl)); (focus (intro hx9; (try simp only [Bool.not_eq_true', Bool.and_eq_true, Bool.not_not] at hx9); (try obtain ⟨hx9, hy9⟩ := hx9); (try subst hy9); (try subst hx9); (first | exact gives_and rfl rfl rfl rfl | exact gives_or rfl rfl rfl rfl | (intro wS hS; obtain ⟨s0, s1, s2, _⟩ := id hS; obtain ⟨k1, f1, z1⟩ := of_block s1; obtain ⟨k2, f2, z2⟩ := of_block s2; go_wp2_with (fail); (first | exact ⟨rfl, rfl, hS⟩ | exact ⟨rfl, rfl, holds_old hS hb9⟩); done))))))); rfl; (try simp only [Act.put, List.setIfInBounds_toArray, List.set_cons_succ, List.set_cons_zero]))
          apply walked_nil
          intro wS hH
          obtain ⟨s0, s1, s2, _⟩ := id hH
          obtain ⟨k1, f1, z1⟩ := of_block s1
          obtain ⟨k2, f2, z2⟩ := of_block s2
          obtain rfl : v = 0 := by
            rw [← HV.out]
            refine checkC_ok HA.out HB.out HC.out hD ?_
            have h1 := HF.out
            rw [← HSP.out] at h1
            have := HE.out
            rintro (h | ⟨_, h⟩)
            · exact h this
            · omega
          go_wp2_with fail
          go_step3
          go_wp2
          simp only [toLabel]
          go_ret
          exact ⟨rfl, hH.1⟩
  · rintro l9 k9 b9 x9 ⟨rfl, rfl, hO, hfr⟩
    refine ⟨_, rfl, ?_⟩
    clear hpl HV hP
    refine hfr (fun b => Code.wp _ _ _ b x9) ?_
    intro u0 u1 u2 u3 u4 u5 u7 u8 u9 u10 u11 u12 u13 u14 u15 u16 u17 u18 u19 u20 u21 u22 u23 u24 u25 u26 u27 u28 u29 u30 u31 u32 u33 u34 u35 u36 u37 u38 u39 u40 u41 u42 u43 u44 u45 u46 u47 u48 u49 u50 u51 u52 u53 u54 u55 u56 u57 u58 u59 u60 u61 u62 u63 u64 u65 u66 u67 u68 u69 u70 u71 u72 u73 u74 u75 u76 u77 u78 u79 u80 u81 u82 u83 u84 u85 u86 u87 u88 u89 u90 u91 u92 u93 u94 u95 u96 u97 u98 u99 u100 u101 u102 u103 u104 u105 u106 u107 u108 u109 u110 u111 u112 u113 u114 u115 u116 u117
    go_wp2
    simp only [toLabel]
    go_ret
    exact ⟨rfl, hO⟩
end Go.Proofs.Ytlbehhbicmmdoaa
