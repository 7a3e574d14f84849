/- Texts on the way to the statement NestedWalks, several in one file: each part says what it is. -/
import Derived.Test.YtlbehhbicmmdoaaKWA
import Derived.Test.YtlbehhbicmmdoaaKWC
import Derived.Laws.Rows
import Derived.Laws.Tables
/- What a walk's steps are like: plain. No function of the program stands here. -/
namespace Go.Proofs.Ytlbehhbicmmdoaa
set_option linter.unusedVariables false
set_option linter.unusedSimpArgs false
open Go.RowKit
/-- Each step's word stands in the table that the one ahead told. -/
def Way (addr : Nat) : Nat → Nat → List St → Prop
  | _, _, [] => True
  | lv, root, s :: l => s.lv = lv ∧ s.at_ = atN root addr lv ∧ (l ≠ [] → s.d.k = 1) ∧ s.d.a < 18446744073709551616 ∧ Way addr (lv + 1) s.d.a l
/-- The table of a step. -/
def tabN (root : Nat) (l : List St) (i : Nat) : Nat := match i with | 0 => root | i + 1 => match l[i]? with | some s => s.d.a | none => 0
theorem way_at {addr : Nat} : ∀ {l : List St} {lv root i : Nat} {s : St}, Way addr lv root l → l[i]? = some s →
    s.lv = lv + i ∧ s.at_ = atN (tabN root l i) addr (lv + i) ∧ (i + 1 < l.length → s.d.k = 1) ∧ s.d.a < 18446744073709551616
  | [], lv, root, i, s, _, h => by simp at h
  | t :: l, lv, root, 0, s, hw, h => by
    simp at h; subst h
    obtain ⟨h1, h2, h3, h4, _⟩ := hw
    refine ⟨h1, h2, fun hl => h3 ?_, h4⟩
    rintro rfl
    simp at hl
  | t :: l, lv, root, i + 1, s, hw, h => by
    obtain ⟨h1, h2, h3, h4, h5⟩ := hw
    have h' : l[i]? = some s := by simpa using h
    obtain ⟨g1, g2, g3, g4⟩ := way_at h5 h'
    refine ⟨by omega, ?_, fun hl => g3 (by simp at hl; omega), g4⟩
    rw [g2, show lv + 1 + i = lv + (i + 1) by omega]
    congr 1
    cases i with
    | zero => rfl
    | succ i => rfl
theorem decD_bad {st lv : Int} {x : Nat} (h : decE st lv x ≠ 0) : (decD st lv x).k = 0 := by
  unfold decD; rw [if_neg (by simp [h])]
/-- What is so of every walk from level lv on. -/
structure WalkOk (addr n lv root : Nat) (r : List St × Int) : Prop where
  way : Way addr lv root r.1
  len : r.1.length ≤ n
  stop : r.2 = -1 → r.1.length + 1 ≤ n
  some_ : r.2 ≠ -1 → 1 ≤ r.1.length
  leaf : ∀ s, r.1.getLast? = some s → (r.2 = 0 ↔ s.d.k = 2 ∨ s.d.k = 3)
theorem walkOk_one {addr n lv root : Nat} {s : St} {kd : Int} (hn : 1 ≤ n) (h1 : s.lv = lv) (h2 : s.at_ = atN root addr lv) (h3 : s.d.a < 18446744073709551616) (h4 : kd ≠ -1) (h5 : kd = 0 ↔ s.d.k = 2 ∨ s.d.k = 3) : WalkOk addr n lv root ([s], kd) :=
  { way := ⟨h1, h2, fun h => absurd rfl h, h3, trivial⟩
    len := hn
    stop := fun h => absurd h h4
    some_ := fun _ => Nat.le_refl _
    leaf := fun s' hs => by simp at hs; subst hs; exact h5 }
theorem walk_ok (raw : Nat → Nat) (ok : Nat → Bool) (st : Int) (addr : Nat) : ∀ (n lv root : Nat), n + lv = 4 → 1 ≤ n → WalkOk addr n lv root (walkN raw ok st addr n lv root) := by
  intro n
  induction n with
  | zero => intro lv root _ h; omega
  | succ n ih =>
    intro lv root hl _
    have ha := decD_a st lv (raw (atN root addr lv))
    cases hok : ok (atN root addr lv) with
    | false =>
      rw [walkN_no hok]
      exact { way := trivial, len := Nat.zero_le _, stop := fun _ => by simp, some_ := fun h => absurd rfl h, leaf := fun s h => by simp at h }
    | true =>
      by_cases h2 : decE st lv (raw (atN root addr lv)) = 2
      · rw [walkN_range hok h2]
        have hb := decD_bad (x := raw (atN root addr lv)) (st := st) (lv := lv) (by rw [h2]; decide)
        exact walkOk_one (by omega) rfl rfl ha (by decide) (by simp [hb])
      by_cases h0 : decE st lv (raw (atN root addr lv)) = 0
      case neg =>
        rw [walkN_form hok h2 h0]
        have hb := decD_bad (x := raw (atN root addr lv)) (st := st) (lv := lv) h0
        exact walkOk_one (by omega) rfl rfl ha (by decide) (by simp [hb])
      case pos =>
      by_cases k0 : (decD st lv (raw (atN root addr lv))).k = 0
      · rw [walkN_none hok h0 k0]
        exact walkOk_one (by omega) rfl rfl ha (by decide) (by simp [k0])
      by_cases k1 : (decD st lv (raw (atN root addr lv))).k = 1
      case neg =>
        rw [walkN_leaf hok h0 k0 k1]
        have hk := decD_kind st lv (raw (atN root addr lv))
        refine walkOk_one (by omega) rfl rfl ha (by decide) ⟨fun _ => ?_, fun _ => rfl⟩
        show (decD st lv (raw (atN root addr lv))).k = 2 ∨ (decD st lv (raw (atN root addr lv))).k = 3
        omega
      case pos =>
      have hn : 1 ≤ n := by
        by_cases h3 : lv = 3
        · exact absurd k1 (by rw [h3]; exact decD_last st _)
        · omega
      have hi := ih (lv + 1) (decD st lv (raw (atN root addr lv))).a (by omega) hn
      rw [walkN_table hok h0 k1]
      generalize walkN raw ok st addr n (lv + 1) (decD st lv (raw (atN root addr lv))).a = r at *
      obtain ⟨L, kd⟩ := r
      obtain ⟨i1, i2, i3, i4, i5⟩ := hi
      simp only at i1 i2 i3 i4 i5
      refine { way := ⟨rfl, rfl, fun _ => k1, ha, i1⟩, len := by simp only [List.length_cons]; omega, stop := fun h => by simp only [List.length_cons]; have := i3 h; omega, some_ := fun _ => by simp, leaf := fun s hs => ?_ }
      cases L with
      | nil =>
        simp at hs
        subst hs
        have : kd = -1 := Classical.byContradiction fun h => by have := i4 h; simp at this
        simp only [this, k1]
        decide
      | cons t L => exact i5 s (by rw [List.getLast?_cons_cons] at hs; exact hs)
end Go.Proofs.Ytlbehhbicmmdoaa
/- The contracts of walk.Out and of the document's Out. -/
namespace Go.Proofs.Ytlbehhbicmmdoaa
set_option linter.unusedVariables false
set_option linter.unusedSimpArgs false
open Go.RowKit
def spanO (lv : Int) : Nat := if 0 ≤ lv ∧ lv ≤ 3 then spanN lv.toNat else 1
/-- Where an address comes to by a step. -/
def outN (addr : Nat) (lv k : Int) (a : Nat) : Nat := if k = 2 ∨ k = 3 then (a + addr % spanO lv) % 18446744073709551616 else 0
theorem spanO_pos (lv : Int) : 1 ≤ spanO lv ∧ spanO lv ≤ 549755813888 := by
  unfold spanO
  split
  · unfold spanN
    repeat' split
    all_goals omega
  · omega
theorem span_any (lv : Int) (w : World) : Calls Try.prog 53 #[.int .i64 lv] w (RetB w (.int .u64 (if 0 ≤ lv ∧ lv ≤ 3 then (spanO lv : Nat) else 0 : Nat))) := by
  by_cases h : 0 ≤ lv ∧ lv ≤ 3
  · rw [if_pos h]
    unfold spanO
    rw [if_pos h]
    exact span_yes lv lv.toNat (by omega) w (by omega)
  · rw [if_neg h]
    exact span_no lv w h
theorem refSpan_any (lv : Int) (w : World) : Calls Try.prog 52 #[.int .i64 lv] w (RetB w (.int .u64 (if 0 ≤ lv ∧ lv ≤ 3 then (spanO lv : Nat) else 0 : Nat))) := by
  by_cases h : 0 ≤ lv ∧ lv ≤ 3
  · rw [if_pos h]
    unfold spanO
    rw [if_pos h]
    exact refSpan_yes lv lv.toNat (by omega) w (by omega)
  · rw [if_neg h]
    exact refSpan_no lv w h
theorem out_wrap (a addr s : Nat) : IntKind.u64.wrap ((a : Int) + (addr : Int) % (s : Int)) = (((a + addr % s) % 18446744073709551616 : Nat) : Int) := by
  rw [IntKind.wrap_u64, ← Int.natCast_emod]; generalize addr % s = m; omega
set_option maxHeartbeats 2000000 in
theorem out_calls (addr : Nat) (haddr : addr < 18446744073709551616) (lv : Int) (at_ raw : Int) (k : Int) (a : Nat) (ha : a < 18446744073709551616) (r wr x : Bool) (s : Int) (w : World) :
    Calls Try.prog 24 #[.int .u64 (addr : Nat), .agg #[.int .i64 lv, .int .u64 at_, .int .u64 raw, .int .i64 k, .int .u64 (a : Nat), .bool r, .bool wr, .bool x, .int .i64 s]] w (RetB w (.int .u64 (outN addr lv k a : Nat))) := by
  have hO := old_alloc (old_refl w) (.cells #[.int .i64 lv, .int .u64 at_, .int .u64 raw, .int .i64 k, .int .u64 (a : Nat), .bool r, .bool wr, .bool x, .int .i64 s] 52)
  have hb := new_block w (.cells #[.int .i64 lv, .int .u64 at_, .int .u64 raw, .int .i64 k, .int .u64 (a : Nat), .bool r, .bool wr, .bool x, .int .i64 s] 52)
  by_cases hk : k = 2 ∨ k = 3
  case neg =>
    have e : outN addr lv k a = 0 := if_neg hk
    rw [e]
    have b2 : (k != 2) = true := by rw [bne_iff_ne]; omega
    have b3 : (k != 3) = true := by rw [bne_iff_ne]; omega
    clear e hk
    go_enter Try.func24, Try.ntmps24
    go_upto_region 1 with (fail)
    generalize w.alloc (.cells #[.int .i64 lv, .int .u64 at_, .int .u64 raw, .int .i64 k, .int .u64 (a : Nat), .bool r, .bool wr, .bool x, .int .i64 s] 52) = W at *
    generalize w.heap.size = b at *
    obtain ⟨q1, q2, q3⟩ := of_block hb
    have HO := Lib.hid hO
    clear hO hb
    go_wp2
    go_ret
    exact ⟨rfl, HO.out⟩
  case pos =>
  have e : outN addr lv k a = (a + addr % spanO lv) % 18446744073709551616 := if_pos hk
  rw [e, ← out_wrap]
  obtain ⟨hs1, hs2⟩ := spanO_pos lv
  have hsp := fun x => span_any lv x
  obtain ⟨T, hT⟩ : ∃ T : Nat, (if 0 ≤ lv ∧ lv ≤ 3 then (spanO lv : Nat) else 0 : Nat) = T := ⟨_, rfl⟩
  rw [hT] at hsp
  have hTs : (1 ≤ T ∧ T = spanO lv) ∨ (T = 0 ∧ spanO lv = 1) := by
    by_cases h : 0 ≤ lv ∧ lv ≤ 3
    · rw [if_pos h] at hT; exact .inl ⟨by omega, hT.symm⟩
    · rw [if_neg h] at hT; exact .inr ⟨hT.symm, by unfold spanO; rw [if_neg h]⟩
  generalize spanO lv = SP at *
  have HT := Lib.hid hTs
  have hk' : (k != 2) = false ∨ ((k != 2) = true ∧ (k != 3) = false) := by
    rcases hk with h | h
    · exact .inl (by simp [h])
    · exact .inr (by simp [h])
  have HK := Lib.hid hk'
  have HSP := Lib.hid hs1
  clear e hT hTs hk hk' hs1 hs2
  go_enter Try.func24, Try.ntmps24
  go_upto_region 1 with (fail)
  generalize w.alloc (.cells #[.int .i64 lv, .int .u64 at_, .int .u64 raw, .int .i64 k, .int .u64 (a : Nat), .bool r, .bool wr, .bool x, .int .i64 s] 52) = W at *
  generalize w.heap.size = b at *
  obtain ⟨q1, q2, q3⟩ := of_block hb
  have HO := Lib.hid hO
  have HB := Lib.hid hb
  clear hO hb
  rcases HK.out with b2 | ⟨b2, b3⟩
  all_goals
    go_wp2_with fail
    refine (hsp _).mono ?_
    rintro e w1 ⟨rfl, hb1⟩
    have HO2 := Lib.hid (old_then HO.out hb1)
    obtain ⟨q1, q2, q3⟩ := of_block (keep_old hb1 HB.out)
    rcases HT.out with ⟨h1, rfl⟩ | ⟨rfl, h1⟩
    · by_cases h9 : T = 1
      · subst h9
        go_wp2_with fail
        refine wp_region_walked (S := Is w1.drew) (by kernel_rfl) (by kernel_rfl) rfl ?_
        repeat (apply walked_cons; (first | exact gives_and rfl rfl rfl rfl | exact gives_or rfl rfl rfl rfl | (focus (intro wS hS; cases hS; go_wp2; exact ⟨rfl, rfl, rfl⟩; done)) | (focus (apply gives_guard; (focus (first | exact wanted_yes rfl rfl rfl | exact wanted_no rfl rfl rfl | exact wanted_yes2 rfl rfl rfl | exact wanted_no2 rfl rfl rfl)); (focus (intro hx9; (try simp only [Bool.not_eq_true', Bool.and_eq_true, Bool.not_not] at hx9); (try obtain ⟨hx9, hy9⟩ := hx9); (try subst hy9); (try subst hx9); (first | exact gives_and rfl rfl rfl rfl | exact gives_or rfl rfl rfl rfl | (intro wS hS; cases hS; go_wp2; exact ⟨rfl, rfl, rfl⟩; done))))))); rfl; (try simp only [Act.put, List.setIfInBounds_toArray, List.set_cons_succ, List.set_cons_zero]))
        apply walked_nil
        intro wS hS
        cases hS
        go_wp2
        go_ret
        exact ⟨by simp [IntWalk.u64_in (a : Int) (by omega)], old_drew HO2.out⟩
      have i1 : (1 : Int) < (T : Int) := by omega
      have i2 : ¬ (T : Int) = 0 := by omega
      clear h1 h9
      go_wp2_with fail
      refine wp_region_walked (S := Is w1.drew) (by kernel_rfl) (by kernel_rfl) rfl ?_
      repeat (apply walked_cons; (first | exact gives_and rfl rfl rfl rfl | exact gives_or rfl rfl rfl rfl | (focus (intro wS hS; cases hS; go_wp2; exact ⟨rfl, rfl, rfl⟩; done)) | (focus (apply gives_guard; (focus (first | exact wanted_yes rfl rfl rfl | exact wanted_no rfl rfl rfl | exact wanted_yes2 rfl rfl rfl | exact wanted_no2 rfl rfl rfl)); (focus (intro hx9; (try simp only [Bool.not_eq_true', Bool.and_eq_true, Bool.not_not] at hx9); (try obtain ⟨hx9, hy9⟩ := hx9); (try subst hy9); (try subst hx9); (first | exact gives_and rfl rfl rfl rfl | exact gives_or rfl rfl rfl rfl | (intro wS hS; cases hS; go_wp2; exact ⟨rfl, rfl, rfl⟩; done))))))); rfl; (try simp only [Act.put, List.setIfInBounds_toArray, List.set_cons_succ, List.set_cons_zero]))
      apply walked_nil
      intro wS hS
      cases hS
      go_wp2
      go_ret
      exact ⟨rfl, old_drew HO2.out⟩
    · subst h1
      go_wp2_with fail
      refine wp_region_walked (S := Is w1.drew) (by kernel_rfl) (by kernel_rfl) rfl ?_
      repeat (apply walked_cons; (first | exact gives_and rfl rfl rfl rfl | exact gives_or rfl rfl rfl rfl | (focus (intro wS hS; cases hS; go_wp2; exact ⟨rfl, rfl, rfl⟩; done)) | (focus (apply gives_guard; (focus (first | exact wanted_yes rfl rfl rfl | exact wanted_no rfl rfl rfl | exact wanted_yes2 rfl rfl rfl | exact wanted_no2 rfl rfl rfl)); (focus (intro hx9; (try simp only [Bool.not_eq_true', Bool.and_eq_true, Bool.not_not] at hx9); (try obtain ⟨hx9, hy9⟩ := hx9); (try subst hy9); (try subst hx9); (first | exact gives_and rfl rfl rfl rfl | exact gives_or rfl rfl rfl rfl | (intro wS hS; cases hS; go_wp2; exact ⟨rfl, rfl, rfl⟩; done))))))); rfl; (try simp only [Act.put, List.setIfInBounds_toArray, List.set_cons_succ, List.set_cons_zero]))
      apply walked_nil
      intro wS hS
      cases hS
      go_wp2
      go_ret
      exact ⟨by simp [IntWalk.u64_in (a : Int) (by omega)], old_drew HO2.out⟩
set_option maxHeartbeats 2000000 in
theorem refOut_calls (addr : Nat) (haddr : addr < 18446744073709551616) (lv : Int) (at_ raw : Int) (k : Int) (a : Nat) (ha : a < 18446744073709551616) (r wr x : Bool) (s : Int) (w : World) :
    Calls Try.prog 25 #[.int .u64 (addr : Nat), .agg #[.int .i64 lv, .int .u64 at_, .int .u64 raw, .int .i64 k, .int .u64 (a : Nat), .bool r, .bool wr, .bool x, .int .i64 s]] w (RetB w (.int .u64 (outN addr lv k a : Nat))) := by
  have hO := old_alloc (old_refl w) (.cells #[.int .i64 lv, .int .u64 at_, .int .u64 raw, .int .i64 k, .int .u64 (a : Nat), .bool r, .bool wr, .bool x, .int .i64 s] 54)
  have hb := new_block w (.cells #[.int .i64 lv, .int .u64 at_, .int .u64 raw, .int .i64 k, .int .u64 (a : Nat), .bool r, .bool wr, .bool x, .int .i64 s] 54)
  by_cases hk : k = 2 ∨ k = 3
  case neg =>
    have e : outN addr lv k a = 0 := if_neg hk
    rw [e]
    have b2 : (k != 2) = true := by rw [bne_iff_ne]; omega
    have b3 : (k != 3) = true := by rw [bne_iff_ne]; omega
    clear e hk
    go_enter Try.func25, Try.ntmps25
    go_upto_region 1 with (fail)
    generalize w.alloc (.cells #[.int .i64 lv, .int .u64 at_, .int .u64 raw, .int .i64 k, .int .u64 (a : Nat), .bool r, .bool wr, .bool x, .int .i64 s] 54) = W at *
    generalize w.heap.size = b at *
    obtain ⟨q1, q2, q3⟩ := of_block hb
    have HO := Lib.hid hO
    clear hO hb
    go_wp2
    go_ret
    exact ⟨rfl, HO.out⟩
  case pos =>
  have e : outN addr lv k a = (a + addr % spanO lv) % 18446744073709551616 := if_pos hk
  rw [e]
  obtain ⟨hs1, hs2⟩ := spanO_pos lv
  have hsp := fun x => refSpan_any lv x
  obtain ⟨T, hT⟩ : ∃ T : Nat, (if 0 ≤ lv ∧ lv ≤ 3 then (spanO lv : Nat) else 0 : Nat) = T := ⟨_, rfl⟩
  rw [hT] at hsp
  have hTs : (1 ≤ T ∧ T = spanO lv) ∨ (T = 0 ∧ spanO lv = 1) := by
    by_cases h : 0 ≤ lv ∧ lv ≤ 3
    · rw [if_pos h] at hT; exact .inl ⟨by omega, hT.symm⟩
    · rw [if_neg h] at hT; exact .inr ⟨hT.symm, by unfold spanO; rw [if_neg h]⟩
  generalize spanO lv = SP at *
  have HT := Lib.hid hTs
  have hk' : (k != 2) = false ∨ ((k != 2) = true ∧ (k != 3) = false) := by
    rcases hk with h | h
    · exact .inl (by simp [h])
    · exact .inr (by simp [h])
  have HK := Lib.hid hk'
  have HSP := Lib.hid hs1
  clear e hT hTs hk hk' hs1 hs2
  go_enter Try.func25, Try.ntmps25
  go_upto_region 1 with (fail)
  generalize w.alloc (.cells #[.int .i64 lv, .int .u64 at_, .int .u64 raw, .int .i64 k, .int .u64 (a : Nat), .bool r, .bool wr, .bool x, .int .i64 s] 54) = W at *
  generalize w.heap.size = b at *
  obtain ⟨q1, q2, q3⟩ := of_block hb
  have HO := Lib.hid hO
  have HB := Lib.hid hb
  clear hO hb
  rcases HK.out with b2 | ⟨b2, b3⟩
  all_goals
    go_wp2_with fail
    refine (hsp _).mono ?_
    rintro e w1 ⟨rfl, hb1⟩
    have HO2 := Lib.hid (old_then HO.out hb1)
    obtain ⟨q1, q2, q3⟩ := of_block (keep_old hb1 HB.out)
    rcases HT.out with ⟨h1, rfl⟩ | ⟨rfl, h1⟩
    · have i1 : ((T : Int) == 0) = false := by rw [beq_eq_false_iff_ne]; omega
      have i2 : ¬ (T : Int) = 0 := by omega
      clear h1
      go_wp2_with fail
      refine wp_region_walked (S := Is w1.drew) (by kernel_rfl) (by kernel_rfl) rfl ?_
      repeat (apply walked_cons; (first | exact gives_and rfl rfl rfl rfl | exact gives_or rfl rfl rfl rfl | (focus (intro wS hS; cases hS; go_wp2; exact ⟨rfl, rfl, rfl⟩; done)) | (focus (apply gives_guard; (focus (first | exact wanted_yes rfl rfl rfl | exact wanted_no rfl rfl rfl | exact wanted_yes2 rfl rfl rfl | exact wanted_no2 rfl rfl rfl)); (focus (intro hx9; (try simp only [Bool.not_eq_true', Bool.and_eq_true, Bool.not_not] at hx9); (try obtain ⟨hx9, hy9⟩ := hx9); (try subst hy9); (try subst hx9); (first | exact gives_and rfl rfl rfl rfl | exact gives_or rfl rfl rfl rfl | (intro wS hS; cases hS; go_wp2; exact ⟨rfl, rfl, rfl⟩; done))))))); rfl; (try simp only [Act.put, List.setIfInBounds_toArray, List.set_cons_succ, List.set_cons_zero]))
      apply walked_nil
      intro wS hS
      cases hS
      go_wp2
      go_ret
      exact ⟨by rw [← out_wrap]; rfl, old_drew HO2.out⟩
    · subst h1
      go_wp2
      go_ret
      exact ⟨by rw [Nat.mod_one, Nat.add_zero, Nat.mod_eq_of_lt ha]; rfl, HO2.out⟩
end Go.Proofs.Ytlbehhbicmmdoaa
/- Contracts of the package perm: what each of its functions returns. -/
namespace Go.Proofs.Ytlbehhbicmmdoaa
set_option linter.unusedVariables false
set_option linter.unusedSimpArgs false
open Go.RowKit
attribute [local go_sem] cell_mark_at frozen_mark_at setCell_mark_at
/-- What a permission allows. -/
def allowsB (a0 a1 a2 : Bool) (k : Int) : Bool := if k = 1 then a0 else if k = 2 then a1 else if k = 3 then a2 else false
set_option maxHeartbeats 400000 in
theorem allows_calls (a0 a1 a2 : Bool) (k : Int) (w : World) :
    Calls Try.prog 58 #[.agg #[.bool a0, .bool a1, .bool a2], .int .i64 k] w (RetB w (.bool (allowsB a0 a1 a2 k))) := by
  by_cases h1 : k = 1
  · subst h1
    go_enter Try.func58, Try.ntmps58
    go_wp2
    go_returns
    exact ⟨by simp [allowsB], by go_grown⟩
  by_cases h2 : k = 2
  · subst h2
    go_enter Try.func58, Try.ntmps58
    go_wp2
    go_returns
    exact ⟨by simp [allowsB], by go_grown⟩
  by_cases h3 : k = 3
  · subst h3
    go_enter Try.func58, Try.ntmps58
    go_wp2
    go_returns
    exact ⟨by simp [allowsB], by go_grown⟩
  have e1 : (k == 1) = false := beq_eq_false_iff_ne.2 h1
  have e2 : (k == 2) = false := beq_eq_false_iff_ne.2 h2
  have e3 : (k == 3) = false := beq_eq_false_iff_ne.2 h3
  have H1 := Lib.hid h1; have H2 := Lib.hid h2; have H3 := Lib.hid h3
  clear h1 h2 h3
  go_enter Try.func58, Try.ntmps58
  go_wp2
  go_returns
  exact ⟨by unfold allowsB; rw [if_neg H1.out, if_neg H2.out, if_neg H3.out]; rfl, by go_grown⟩
end Go.Proofs.Ytlbehhbicmmdoaa
/- The contract of walk.Walk: any function that tells words, and minds which. -/
namespace Go.Proofs.Ytlbehhbicmmdoaa
set_option linter.unusedVariables false
set_option linter.unusedSimpArgs false
open Go.RowKit
/-- The addresses that a walk asks for, from a table of level lv on. -/
def askN (raw : Nat → Nat) (ok : Nat → Bool) (st : Int) (addr : Nat) : Nat → Nat → Nat → List Nat
  | 0, _, _ => []
  | n + 1, lv, root =>
    let at_ := atN root addr lv
    if ok at_ = true ∧ decE st lv (raw at_) = 0 ∧ (decD st lv (raw at_)).k = 1 then at_ :: askN raw ok st addr n (lv + 1) (decD st lv (raw at_)).a else [at_]
section
variable {raw : Nat → Nat} {ok : Nat → Bool} {st : Int} {addr n lv root : Nat}
theorem askN_end (h : ¬ (ok (atN root addr lv) = true ∧ decE st lv (raw (atN root addr lv)) = 0 ∧ (decD st lv (raw (atN root addr lv))).k = 1)) : askN raw ok st addr (n + 1) lv root = [atN root addr lv] := by
  unfold askN; exact if_neg h
theorem askN_on (h : ok (atN root addr lv) = true) (h0 : decE st lv (raw (atN root addr lv)) = 0) (h1 : (decD st lv (raw (atN root addr lv))).k = 1) : askN raw ok st addr (n + 1) lv root = atN root addr lv :: askN raw ok st addr n (lv + 1) (decD st lv (raw (atN root addr lv))).a := by
  conv => lhs; unfold askN
  exact if_pos ⟨h, h0, h1⟩
end
/-- What a function that is handed to Walk tells: it turns its own blocks G alone; S l: it was asked for l. -/
structure ReaderA (f : FuncId) (caps : Array Value) (G : Nat → Prop) (S : List Nat → World → Prop) (raw : Nat → Nat) (ok : Nat → Bool) (B : Nat) : Prop where
  own : ∀ b, G b → b < B
  fn : ∀ args x, (callFunc f args).run Try.prog x = .ok (.enter f args) x
  word : ∀ a, raw a < 18446744073709551616
  keep : ∀ k x y, S k x → Only (fun b => B ≤ b) x y → S k y
  call : ∀ (k : List Nat) (a : Nat) (x : World), k.length < 4 → (∀ b ∈ k, ok b = true) → a < 18446744073709551616 → S k x → Calls Try.prog f (#[.int .u64 (a : Nat)] ++ caps) x (fun e y => e = .returned (.tuple #[.int .u64 (raw a : Nat), .bool (ok a)]) ∧ S (k ++ [a]) y ∧ Only G x y)
def RetWalkA (w0 : World) (G : Nat → Prop) (S : List Nat → World → Prop) (r : List St × Int) (Z : List Nat) (e : Ending) (w : World) : Prop :=
  ∃ v, e = .returned (.tuple #[v, .int .i64 r.2]) ∧ w.ownsRow w0.heap.size 52 9 v r.1.length (stCells r.1) ∧ S Z w ∧ Only G w0 w
/-- What holds at the label, with k more passes to come behind this one. -/
def WalkJA (w0 : World) (st : Int) (addr : Nat) (f : FuncId) (caps : Array Value) (G : Nat → Prop) (S : List Nat → World → Prop) (raw : Nat → Nat) (ok : Nat → Bool) (r : List St × Int) (Z : List Nat) (k : Nat) (a : Act) (w : World) : Prop :=
  ∃ (lv root : Nat) (v : Value) (l : List St) (al : List Nat), k + lv = 3 ∧ root < 18446744073709551616 ∧ (S al w ∧ al.length = lv ∧ (∀ b ∈ al, ok b = true) ∧ Z = al ++ askN raw ok st addr (k + 1) lv root) ∧ w.ownsRow w0.heap.size 52 9 v lv (stCells l) ∧ l.length = lv ∧ Only G w0 w ∧
    r = (l ++ (walkN raw ok st addr (k + 1) lv root).1, (walkN raw ok st addr (k + 1) lv root).2) ∧ WalkFrame st root addr f caps v lv a
theorem ret_walkA {w0 w : World} {G : Nat → Prop} {S : List Nat → World → Prop} {r : List St × Int} {L : List St} {kd : Int} {n : Nat} {m Z : List Nat} {v : Value} (hr : r = (L, kd)) (hn : n = L.length) (hm : Z = m) (ho : w.ownsRow w0.heap.size 52 9 v n (stCells L)) (hS : S m w) (hO : Only G w0 w) :
    RetWalkA w0 G S r Z (.returned (.tuple #[v, .int .i64 kd])) w := by
  subst hr hn hm
  exact ⟨v, rfl, ho, hS, hO⟩
set_option maxHeartbeats 8000000 in
set_option maxRecDepth 100000 in
theorem walkA_calls (st : Int) (hst : st = 1 ∨ st = 2) (root addr : Nat) (hroot : root < 18446744073709551616) (haddr : addr < 18446744073709551616) (f : FuncId) (caps : Array Value) (G : Nat → Prop) (S : List Nat → World → Prop) (raw : Nat → Nat) (ok : Nat → Bool) (w : World)
    (hR : ReaderA f caps G S raw ok w.heap.size) (h0 : S [] w) :
    Calls Try.prog 15 #[.int .i64 st, .int .u64 (root : Nat), .int .u64 (addr : Nat), .func (.func f) #[] caps] w (RetWalkA w G S (walkN raw ok st addr 4 0 root) (askN raw ok st addr 4 0 root)) := by
  have ht := top_x st
  have ht0 : ((topN st : Nat) : Int) ≠ 0 := by unfold topN; rcases hst with h | h <;> subst h <;> decide
  generalize ((topN st : Nat) : Int) = T at *
  have hb : (T == 0) = false := by simp [ht0]
  have hn := func_nil f caps
  have HST := Lib.hid hst
  have HR := Lib.hid hR
  have HG := Lib.hid hR.own
  obtain ⟨i0, hi, hz0, hz1, hz2⟩ := info_parts step_info
  generalize hr : walkN raw ok st addr 4 0 root = r
  generalize hz : askN raw ok st addr 4 0 root = Z
  have HZ := Lib.hid hz
  have HH := Lib.hid hr
  have HS0 := Lib.hid h0
  clear hst ht0 hR hr h0 hz
  go_enter Try.func15, Try.ntmps15
  go_wp2
  refine wp_scope_once 0 (WalkJA w st addr f caps G S raw ok r Z) _ rfl ?pass ?first
  case first =>
    intro hp
    go_wp2_with fail
    refine (ht _).mono ?_
    rintro e w1 ⟨rfl, rfl⟩
    clear ht
    go_wp2
    go_step3
    rename_i K9 hK9
    exact hK9 _ _ (hp 3 _ _ ⟨0, root, _, [], [], rfl, hroot, ⟨HS0.out, rfl, (fun b hb => by simp at hb), HZ.out.symm⟩, own_nil, rfl, Only.refl _ _, HH.out.symm, fun _ hq => hq _ _ _ _ _ _ _ _ _ _ _ _ _ _ _ _ _ _ _ _ _ _ _ _ _ _ _ _ _ _ _ _ _ _ _ _ _ _ _ _ _ _ _ _ _ _ _ _ _ _ _ _ _ _ _ _ _ _ _ _ _ _ _ _ _ _ _ _⟩)
  case pass =>
    rintro k a x ⟨lv, rt, v, l, al, hk, hrt, ⟨hS, hasl, haso, hzz⟩, hown, hl, hO, hr, hfr⟩
    refine hfr (fun a => Code.wp _ _ _ a _) ?_
    intro u4 u5 u6 u7 u9 u11 u12 u13 u14 u15 u16 u17 u18 u19 u20 u21 u22 u23 u24 u25 u26 u27 u28 u29 u30 u31 u32 u33 u34 u35 u36 u37 u38 u39 u40 u41 u42 u43 u44 u45 u46 u47 u48 u49 u50 u51 u52 u53 u54 u55 u56 u57 u58 u59 u60 u61 u62 u63 u64 u65 u66 u67 u68 u69 u70 u71 u72 u73
    have hid := index_yes addr lv addr lv rfl rfl
    have hrd := HR.out.call
    have hlv : lv ≤ 3 := by omega
    have hat := atN_wrap rt addr lv
    have hat64 := atN_lt rt addr lv
    have hixl := indexN_lt addr lv
    have hwv : ∀ (n m : Nat), walkN raw ok st addr (k + 1) lv rt = walkN raw ok st addr (k + 1) lv rt := fun _ _ => rfl
    clear hwv
    generalize hA : atN rt addr lv = A at *
    generalize hix : indexN addr lv = ix at *
    have hi1 : IntKind.u64.wrap (ix : Int) = ix := IntWalk.u64_in _ (by omega)
    have hi2 : IntKind.u64.wrap (8 * (ix : Int)) = 8 * ix := IntWalk.u64_in _ (by omega)
    have HA := Lib.hid hA
    have HIX := Lib.hid hix
    have HO := Lib.hid hO
    have HOwn := Lib.hid hown
    have HRk := Lib.hid hr
    have HAS := Lib.hid (And.intro hasl (And.intro haso hzz))
    have HL := Lib.hid hl
    have HSk := Lib.hid hS
    have HI := Lib.hid hid
    have HRD := Lib.hid hrd
    clear hA hix hO hown hr hl hS hfr hid hrd hasl haso hzz
    go_wp2_with fail
    refine (HI.out _ haddr hlv).mono ?_
    rintro e w1 ⟨rfl, hO1⟩
    have hS1 := HR.out.keep _ _ _ HSk.out ((Only.of_below hO1).mono fun b _ f => f.elim)
    have hown1 := own_old HOwn.out hO1
    have hOn1 := HO.out.trans ((Only.of_below hO1).mono fun b _ f => f.elim)
    have H1 := Lib.hid (And.intro hS1 (And.intro hown1 hOn1))
    clear hS1 hown1 hOn1 hO1
    have hfn := HR.out.fn
    go_wp2_with fail
    refine (HRD.out al A _ (by have := HAS.out.1; omega) HAS.out.2.1 hat64 H1.out.1).mono ?_
    rintro e w2 ⟨rfl, hS2, hG2⟩
    have hown2 := own_only H1.out.2.1 hG2 (fun b hb f => by have := HG.out b f; omega)
    have hO2 := H1.out.2.2.trans hG2
    have H2 := Lib.hid (And.intro hS2 (And.intro hown2 hO2))
    have hraw := HR.out.word A
    generalize hX : raw A = X at *
    have HX := Lib.hid hX
    clear hS2 hG2 hown2 hO2 H1 hfn hX hi1 hi2 hat hat64 hixl
    cases hok : ok A
    case false =>
      have HF : Hid (r = (l, -1)) := Lib.hid (by rw [HRk.out, walkN_no (by rw [HA.out]; exact hok), List.append_nil])
      have HZ0 : Hid (Z = al ++ [A]) := Lib.hid (by rw [HAS.out.2.2, askN_end (by rw [HA.out, hok]; simp), HA.out])
      clear hok
      go_wp2
      simp only [toLabel]
      go_ret2
      exact ret_walkA HF.out HL.out.symm HZ0.out H2.out.2.1 H2.out.1 H2.out.2.2
    case true =>
    have hok' : ok (atN rt addr lv) = true := by rw [HA.out]; exact hok
    have hdec := decode_calls st lv X w2 hraw
    rw [decD_v] at hdec
    have hda := decD_a st lv X
    have hdl := decD_last st X
    generalize hd : decD st lv X = d at *
    generalize hE : decE st lv X = E at *
    obtain ⟨dk, da, dr, dw, dx, ds⟩ := d
    change Calls _ _ _ _ (RetB w2 (.tuple #[.agg #[.int .i64 dk, .int .u64 (da : Nat), .bool dr, .bool dw, .bool dx, .int .i64 ds], .int .i64 E])) at hdec
    have e1 : decD st lv (raw (atN rt addr lv)) = ⟨dk, da, dr, dw, dx, ds⟩ := by rw [HA.out, HX.out]; exact hd
    have e2 : decE st lv (raw (atN rt addr lv)) = E := by rw [HA.out, HX.out]; exact hE
    have e3 : raw (atN rt addr lv) = X := by rw [HA.out]; exact HX.out
    have HD3 : Hid (lv = 3 → dk ≠ 1) := Lib.hid (by
      intro e
      rw [e] at hd
      have := hdl
      rw [show ((3 : Nat) : Int) = 3 from rfl] at hd
      rw [hd] at this
      exact this)
    have P0 : Hid (E = 2 → r = (l ++ [⟨lv, A, X, ⟨dk, da, dr, dw, dx, ds⟩⟩], 3)) := Lib.hid fun h => by rw [HRk.out, walkN_range hok' (by rw [e2]; exact h), e1, e3, HA.out]
    have P1 : Hid (E ≠ 2 → E ≠ 0 → r = (l ++ [⟨lv, A, X, ⟨dk, da, dr, dw, dx, ds⟩⟩], 4)) := Lib.hid fun h h' => by rw [HRk.out, walkN_form hok' (by rw [e2]; exact h) (by rw [e2]; exact h'), e1, e3, HA.out]
    have P2 : Hid (E = 0 → dk = 0 → r = (l ++ [⟨lv, A, X, ⟨dk, da, dr, dw, dx, ds⟩⟩], 1)) := Lib.hid fun h h' => by rw [HRk.out, walkN_none hok' (by rw [e2]; exact h) (by rw [e1]; exact h'), e1, e3, HA.out]
    have P3 : Hid (E = 0 → dk ≠ 0 → dk ≠ 1 → r = (l ++ [⟨lv, A, X, ⟨dk, da, dr, dw, dx, ds⟩⟩], 0)) := Lib.hid fun h h' h'' => by rw [HRk.out, walkN_leaf hok' (by rw [e2]; exact h) (by rw [e1]; exact h') (by rw [e1]; exact h''), e1, e3, HA.out]
    have P4 : Hid (E = 0 → dk = 1 → r = ((l ++ [⟨lv, A, X, ⟨dk, da, dr, dw, dx, ds⟩⟩]) ++ (walkN raw ok st addr k (lv + 1) da).1, (walkN raw ok st addr k (lv + 1) da).2)) := Lib.hid fun h h' => by rw [HRk.out, walkN_table hok' (by rw [e2]; exact h) (by rw [e1]; exact h'), e1, e3, HA.out]; simp
    have Z0 : Hid (¬ (E = 0 ∧ dk = 1) → Z = al ++ [A]) := Lib.hid fun h => by rw [HAS.out.2.2, askN_end (by rw [e1, e2]; exact fun h' => h h'.2), HA.out]
    have Z1 : Hid (E = 0 → dk = 1 → Z = (al ++ [A]) ++ askN raw ok st addr k (lv + 1) da) := Lib.hid fun h h' => by rw [HAS.out.2.2, askN_on hok' (by rw [e2]; exact h) (by rw [e1]; exact h'), e1, HA.out]; simp
    have Z2 : Hid ((al ++ [A]).length = lv + 1 ∧ ∀ b ∈ al ++ [A], ok b = true) := Lib.hid ⟨by rw [List.length_append, HAS.out.1]; rfl, fun b hb => by
      rcases List.mem_append.1 hb with h | h
      · exact HAS.out.2.1 b h
      · rw [List.mem_singleton.1 h]; exact hok⟩
    have HDA := Lib.hid hda
    clear hok hok' hd hE hda hdl e1 e2 e3 hraw HX HRk HA HIX
    go_wp2_with fail
    refine hdec.mono ?_
    rintro e w3 ⟨rfl, hO3⟩
    have hS3 := HR.out.keep _ _ _ H2.out.1 ((Only.of_below hO3).mono fun b _ f => f.elim)
    have hown3 := own_old H2.out.2.1 hO3
    have hOn3 := H2.out.2.2.trans ((Only.of_below hO3).mono fun b _ f => f.elim)
    obtain ⟨v', w5, hrun, hown5, hS5, hO5, hb5⟩ := walk_append w w3 _ G (fun _ y => S (al ++ [A]) y) v lv (lv + 1) l ⟨lv, A, X, ⟨dk, da, dr, dw, dx, ds⟩⟩ w3.heap.size (.cells #[.int .i64 dk, .int .u64 (da : Nat), .bool dr, .bool dw, .bool dx, .int .i64 ds] 48) hlv HL.out (fun _ => HR.out.keep (al ++ [A])) hown3 hS3 hOn3 HR.out.own rfl rfl
    clear hO3 hS3 hown3 hOn3 hdec H2
    have h4 := new_block w3 (.cells #[.int .i64 dk, .int .u64 (da : Nat), .bool dr, .bool dw, .bool dx, .int .i64 ds] 48)
    go_upto_region 11 with (fail)
    generalize w3.alloc (.cells #[.int .i64 dk, .int .u64 (da : Nat), .bool dr, .bool dw, .bool dx, .int .i64 ds] 48) = W4 at *
    generalize w3.heap.size = bd at *
    obtain ⟨q1, q2, q3⟩ := of_block h4
    obtain ⟨p1, p2, p3⟩ := of_block hb5
    have H5 := Lib.hid (And.intro hown5 (And.intro hS5 hO5))
    have HLS : Hid (lv + 1 = (l ++ [(⟨lv, A, X, ⟨dk, da, dr, dw, dx, ds⟩⟩ : St)]).length) := Lib.hid (by rw [List.length_append, HL.out]; rfl)
    clear h4 hb5 hown5 hS5 hO5
    go_upto_region 12 with (at_builtin; refine wpList_append_run rfl _ _ 29 rfl _ _ rfl rfl _ _ hrun ?_; clear hrun)
    clear q1 q2 q3
    by_cases hE2 : E = 2
    · have HF := Lib.hid (P0.out hE2)
      have HZ0 := Lib.hid (Z0.out (by omega))
      subst hE2
      clear P0 P1 P2 P3 P4 Z0 Z1
      go_wp2
      simp only [toLabel]
      go_ret2
      exact ret_walkA HF.out HLS.out HZ0.out H5.out.1 H5.out.2.1 H5.out.2.2
    have b2 : (E == 2) = false := by simp [hE2]
    by_cases hE0 : E = 0
    case neg =>
      have b0 : (E != 0) = true := by simp [hE0]
      have HF := Lib.hid (P1.out hE2 hE0)
      have HZ0 := Lib.hid (Z0.out (by omega))
      clear P0 P1 P2 P3 P4 Z0 Z1 hE2 hE0
      go_wp2
      simp only [toLabel]
      go_ret2
      exact ret_walkA HF.out HLS.out HZ0.out H5.out.1 H5.out.2.1 H5.out.2.2
    case pos =>
    clear hE2 b2
    by_cases hk0 : dk = 0
    · have HF := Lib.hid (P2.out hE0 hk0)
      have HZ0 := Lib.hid (Z0.out (by omega))
      have b0 : (dk == 0) = true := by simp [hk0]
      subst hE0
      clear P0 P1 P2 P3 P4 Z0 Z1 hk0
      go_wp2
      simp only [toLabel]
      go_ret2
      exact ret_walkA HF.out HLS.out HZ0.out H5.out.1 H5.out.2.1 H5.out.2.2
    have b0 : (dk == 0) = false := by simp [hk0]
    by_cases hk1 : dk = 1
    · have HF := Lib.hid (P4.out hE0 hk1)
      have HZ0 := Lib.hid (Z1.out hE0 hk1)
      have HN : Hid (¬ lv = 3) := Lib.hid (fun e => HD3.out e hk1)
      have b1 : (dk == 1) = true := by simp [hk1]
      subst hE0
      clear P0 P1 P2 P3 P4 Z0 Z1 hk0 hk1
      go_wp2
      go_step3
      have hlt : lv < 3 := by
        have := HN.out
        omega
      refine ⟨rfl, k - 1, by omega, lv + 1, da, v', _, al ++ [A], by omega, HDA.out, ⟨H5.out.2.1, Z2.out.1, Z2.out.2, by rw [show k - 1 + 1 = k by omega]; exact HZ0.out⟩, H5.out.1, HLS.out.symm, H5.out.2.2, ?_, fun _ hq => hq _ _ _ _ _ _ _ _ _ _ _ _ _ _ _ _ _ _ _ _ _ _ _ _ _ _ _ _ _ _ _ _ _ _ _ _ _ _ _ _ _ _ _ _ _ _ _ _ _ _ _ _ _ _ _ _ _ _ _ _ _ _ _ _ _ _ _ _⟩
      rw [show k - 1 + 1 = k by omega]
      exact HF.out
    · have HF := Lib.hid (P3.out hE0 hk0 hk1)
      have HZ0 := Lib.hid (Z0.out (by omega))
      have b1 : (dk == 1) = false := by simp [hk1]
      subst hE0
      clear P0 P1 P2 P3 P4 Z0 Z1 hk0 hk1
      go_wp2
      simp only [toLabel]
      go_ret2
      exact ret_walkA HF.out HLS.out HZ0.out H5.out.1 H5.out.2.1 H5.out.2.2
end Go.Proofs.Ytlbehhbicmmdoaa
/- The contract of walk.Walk: any function that tells words, and minds which. -/
namespace Go.Proofs.Ytlbehhbicmmdoaa
set_option linter.unusedVariables false
set_option linter.unusedSimpArgs false
open Go.RowKit
/-- The frame at the label. -/
def WalkFrameB (st : Int) (root addr : Nat) (f : FuncId) (bnd : Value) (v : Value) (lv : Nat) (a : Act) : Prop := ∀ Q : Act → Prop, (∀ u4 u5 u6 u7 u9 u11 u12 u13 u14 u15 u16 u17 u18 u19 u20 u21 u22 u23 u24 u25 u26 u27 u28 u29 u30 u31 u32 u33 u34 u35 u36 u37 u38 u39 u40 u41 u42 u43 u44 u45 u46 u47 u48 u49 u50 u51 u52 u53 u54 u55 u56 u57 u58 u59 u60 u61 u62 u63 u64 u65 u66 u67 u68 u69 u70 u71 u72 u73 : Value, Q { tmps := #[.int .i64 st, .int .u64 (root : Nat), .int .u64 (addr : Nat), .func (.func f) #[bnd] #[], u4, u5, u6, u7, v, u9, .int .i64 (lv : Nat), u11, u12, u13, u14, u15, u16, u17, u18, u19, u20, u21, u22, u23, u24, u25, u26, u27, u28, u29, u30, u31, u32, u33, u34, u35, u36, u37, u38, u39, u40, u41, u42, u43, u44, u45, u46, u47, u48, u49, u50, u51, u52, u53, u54, u55, u56, u57, u58, u59, u60, u61, u62, u63, u64, u65, u66, u67, u68, u69, u70, u71, u72, u73], defers := [] }) → Q a
theorem func_nilB (f : FuncId) (bnd : Value) (w : World) : (binOp .eql 34 (.func (.func f) #[bnd] #[]) .nilFunc).run Try.prog w = .ok (.bool false) w := by kernel_rfl
/-- What a function that is handed to Walk tells: it turns its own blocks G alone; S l: it was asked for l. -/
structure ReaderB (f : FuncId) (bnd : Value) (G : Nat → Prop) (S : List Nat → World → Prop) (raw : Nat → Nat) (ok : Nat → Bool) (B : Nat) : Prop where
  own : ∀ b, G b → b < B
  fn : ∀ args x, (callFunc f args).run Try.prog x = .ok (.enter f args) x
  word : ∀ a, raw a < 18446744073709551616
  keep : ∀ k x y, S k x → Only (fun b => B ≤ b) x y → S k y
  call : ∀ (k : List Nat) (a : Nat) (x : World), k.length < 4 → (∀ b ∈ k, ok b = true) → a < 18446744073709551616 → S k x → Calls Try.prog f (#[bnd, .int .u64 (a : Nat)]) x (fun e y => e = .returned (.tuple #[.int .u64 (raw a : Nat), .bool (ok a)]) ∧ S (k ++ [a]) y ∧ Only G x y)
/-- What holds at the label, with k more passes to come behind this one. -/
def WalkJB (w0 : World) (st : Int) (addr : Nat) (f : FuncId) (bnd : Value) (G : Nat → Prop) (S : List Nat → World → Prop) (raw : Nat → Nat) (ok : Nat → Bool) (r : List St × Int) (Z : List Nat) (k : Nat) (a : Act) (w : World) : Prop :=
  ∃ (lv root : Nat) (v : Value) (l : List St) (al : List Nat), k + lv = 3 ∧ root < 18446744073709551616 ∧ (S al w ∧ al.length = lv ∧ (∀ b ∈ al, ok b = true) ∧ Z = al ++ askN raw ok st addr (k + 1) lv root) ∧ w.ownsRow w0.heap.size 52 9 v lv (stCells l) ∧ l.length = lv ∧ Only G w0 w ∧
    r = (l ++ (walkN raw ok st addr (k + 1) lv root).1, (walkN raw ok st addr (k + 1) lv root).2) ∧ WalkFrameB st root addr f bnd v lv a
set_option maxHeartbeats 8000000 in
set_option maxRecDepth 100000 in
theorem walkB_calls (st : Int) (hst : st = 1 ∨ st = 2) (root addr : Nat) (hroot : root < 18446744073709551616) (haddr : addr < 18446744073709551616) (f : FuncId) (bnd : Value) (G : Nat → Prop) (S : List Nat → World → Prop) (raw : Nat → Nat) (ok : Nat → Bool) (w : World)
    (hR : ReaderB f bnd G S raw ok w.heap.size) (h0 : S [] w) :
    Calls Try.prog 15 #[.int .i64 st, .int .u64 (root : Nat), .int .u64 (addr : Nat), .func (.func f) #[bnd] #[]] w (RetWalkA w G S (walkN raw ok st addr 4 0 root) (askN raw ok st addr 4 0 root)) := by
  have ht := top_x st
  have ht0 : ((topN st : Nat) : Int) ≠ 0 := by unfold topN; rcases hst with h | h <;> subst h <;> decide
  generalize ((topN st : Nat) : Int) = T at *
  have hb : (T == 0) = false := by simp [ht0]
  have hn := func_nilB f bnd
  have HST := Lib.hid hst
  have HR := Lib.hid hR
  have HG := Lib.hid hR.own
  obtain ⟨i0, hi, hz0, hz1, hz2⟩ := info_parts step_info
  generalize hr : walkN raw ok st addr 4 0 root = r
  generalize hz : askN raw ok st addr 4 0 root = Z
  have HZ := Lib.hid hz
  have HH := Lib.hid hr
  have HS0 := Lib.hid h0
  clear hst ht0 hR hr h0 hz
  go_enter Try.func15, Try.ntmps15
  go_wp2
  refine wp_scope_once 0 (WalkJB w st addr f bnd G S raw ok r Z) _ rfl ?pass ?first
  case first =>
    intro hp
    go_wp2_with fail
    refine (ht _).mono ?_
    rintro e w1 ⟨rfl, rfl⟩
    clear ht
    go_wp2
    go_step3
    rename_i K9 hK9
    exact hK9 _ _ (hp 3 _ _ ⟨0, root, _, [], [], rfl, hroot, ⟨HS0.out, rfl, (fun b hb => by simp at hb), HZ.out.symm⟩, own_nil, rfl, Only.refl _ _, HH.out.symm, fun _ hq => hq _ _ _ _ _ _ _ _ _ _ _ _ _ _ _ _ _ _ _ _ _ _ _ _ _ _ _ _ _ _ _ _ _ _ _ _ _ _ _ _ _ _ _ _ _ _ _ _ _ _ _ _ _ _ _ _ _ _ _ _ _ _ _ _ _ _ _ _⟩)
  case pass =>
    rintro k a x ⟨lv, rt, v, l, al, hk, hrt, ⟨hS, hasl, haso, hzz⟩, hown, hl, hO, hr, hfr⟩
    refine hfr (fun a => Code.wp _ _ _ a _) ?_
    intro u4 u5 u6 u7 u9 u11 u12 u13 u14 u15 u16 u17 u18 u19 u20 u21 u22 u23 u24 u25 u26 u27 u28 u29 u30 u31 u32 u33 u34 u35 u36 u37 u38 u39 u40 u41 u42 u43 u44 u45 u46 u47 u48 u49 u50 u51 u52 u53 u54 u55 u56 u57 u58 u59 u60 u61 u62 u63 u64 u65 u66 u67 u68 u69 u70 u71 u72 u73
    have hid := index_yes addr lv addr lv rfl rfl
    have hrd := HR.out.call
    have hlv : lv ≤ 3 := by omega
    have hat := atN_wrap rt addr lv
    have hat64 := atN_lt rt addr lv
    have hixl := indexN_lt addr lv
    have hwv : ∀ (n m : Nat), walkN raw ok st addr (k + 1) lv rt = walkN raw ok st addr (k + 1) lv rt := fun _ _ => rfl
    clear hwv
    generalize hA : atN rt addr lv = A at *
    generalize hix : indexN addr lv = ix at *
    have hi1 : IntKind.u64.wrap (ix : Int) = ix := IntWalk.u64_in _ (by omega)
    have hi2 : IntKind.u64.wrap (8 * (ix : Int)) = 8 * ix := IntWalk.u64_in _ (by omega)
    have HA := Lib.hid hA
    have HIX := Lib.hid hix
    have HO := Lib.hid hO
    have HOwn := Lib.hid hown
    have HRk := Lib.hid hr
    have HAS := Lib.hid (And.intro hasl (And.intro haso hzz))
    have HL := Lib.hid hl
    have HSk := Lib.hid hS
    have HI := Lib.hid hid
    have HRD := Lib.hid hrd
    clear hA hix hO hown hr hl hS hfr hid hrd hasl haso hzz
    go_wp2_with fail
    refine (HI.out _ haddr hlv).mono ?_
    rintro e w1 ⟨rfl, hO1⟩
    have hS1 := HR.out.keep _ _ _ HSk.out ((Only.of_below hO1).mono fun b _ f => f.elim)
    have hown1 := own_old HOwn.out hO1
    have hOn1 := HO.out.trans ((Only.of_below hO1).mono fun b _ f => f.elim)
    have H1 := Lib.hid (And.intro hS1 (And.intro hown1 hOn1))
    clear hS1 hown1 hOn1 hO1
    have hfn := HR.out.fn
    go_wp2_with fail
    refine (HRD.out al A _ (by have := HAS.out.1; omega) HAS.out.2.1 hat64 H1.out.1).mono ?_
    rintro e w2 ⟨rfl, hS2, hG2⟩
    have hown2 := own_only H1.out.2.1 hG2 (fun b hb f => by have := HG.out b f; omega)
    have hO2 := H1.out.2.2.trans hG2
    have H2 := Lib.hid (And.intro hS2 (And.intro hown2 hO2))
    have hraw := HR.out.word A
    generalize hX : raw A = X at *
    have HX := Lib.hid hX
    clear hS2 hG2 hown2 hO2 H1 hfn hX hi1 hi2 hat hat64 hixl
    cases hok : ok A
    case false =>
      have HF : Hid (r = (l, -1)) := Lib.hid (by rw [HRk.out, walkN_no (by rw [HA.out]; exact hok), List.append_nil])
      have HZ0 : Hid (Z = al ++ [A]) := Lib.hid (by rw [HAS.out.2.2, askN_end (by rw [HA.out, hok]; simp), HA.out])
      clear hok
      go_wp2
      simp only [toLabel]
      go_ret2
      exact ret_walkA HF.out HL.out.symm HZ0.out H2.out.2.1 H2.out.1 H2.out.2.2
    case true =>
    have hok' : ok (atN rt addr lv) = true := by rw [HA.out]; exact hok
    have hdec := decode_calls st lv X w2 hraw
    rw [decD_v] at hdec
    have hda := decD_a st lv X
    have hdl := decD_last st X
    generalize hd : decD st lv X = d at *
    generalize hE : decE st lv X = E at *
    obtain ⟨dk, da, dr, dw, dx, ds⟩ := d
    change Calls _ _ _ _ (RetB w2 (.tuple #[.agg #[.int .i64 dk, .int .u64 (da : Nat), .bool dr, .bool dw, .bool dx, .int .i64 ds], .int .i64 E])) at hdec
    have e1 : decD st lv (raw (atN rt addr lv)) = ⟨dk, da, dr, dw, dx, ds⟩ := by rw [HA.out, HX.out]; exact hd
    have e2 : decE st lv (raw (atN rt addr lv)) = E := by rw [HA.out, HX.out]; exact hE
    have e3 : raw (atN rt addr lv) = X := by rw [HA.out]; exact HX.out
    have HD3 : Hid (lv = 3 → dk ≠ 1) := Lib.hid (by
      intro e
      rw [e] at hd
      have := hdl
      rw [show ((3 : Nat) : Int) = 3 from rfl] at hd
      rw [hd] at this
      exact this)
    have P0 : Hid (E = 2 → r = (l ++ [⟨lv, A, X, ⟨dk, da, dr, dw, dx, ds⟩⟩], 3)) := Lib.hid fun h => by rw [HRk.out, walkN_range hok' (by rw [e2]; exact h), e1, e3, HA.out]
    have P1 : Hid (E ≠ 2 → E ≠ 0 → r = (l ++ [⟨lv, A, X, ⟨dk, da, dr, dw, dx, ds⟩⟩], 4)) := Lib.hid fun h h' => by rw [HRk.out, walkN_form hok' (by rw [e2]; exact h) (by rw [e2]; exact h'), e1, e3, HA.out]
    have P2 : Hid (E = 0 → dk = 0 → r = (l ++ [⟨lv, A, X, ⟨dk, da, dr, dw, dx, ds⟩⟩], 1)) := Lib.hid fun h h' => by rw [HRk.out, walkN_none hok' (by rw [e2]; exact h) (by rw [e1]; exact h'), e1, e3, HA.out]
    have P3 : Hid (E = 0 → dk ≠ 0 → dk ≠ 1 → r = (l ++ [⟨lv, A, X, ⟨dk, da, dr, dw, dx, ds⟩⟩], 0)) := Lib.hid fun h h' h'' => by rw [HRk.out, walkN_leaf hok' (by rw [e2]; exact h) (by rw [e1]; exact h') (by rw [e1]; exact h''), e1, e3, HA.out]
    have P4 : Hid (E = 0 → dk = 1 → r = ((l ++ [⟨lv, A, X, ⟨dk, da, dr, dw, dx, ds⟩⟩]) ++ (walkN raw ok st addr k (lv + 1) da).1, (walkN raw ok st addr k (lv + 1) da).2)) := Lib.hid fun h h' => by rw [HRk.out, walkN_table hok' (by rw [e2]; exact h) (by rw [e1]; exact h'), e1, e3, HA.out]; simp
    have Z0 : Hid (¬ (E = 0 ∧ dk = 1) → Z = al ++ [A]) := Lib.hid fun h => by rw [HAS.out.2.2, askN_end (by rw [e1, e2]; exact fun h' => h h'.2), HA.out]
    have Z1 : Hid (E = 0 → dk = 1 → Z = (al ++ [A]) ++ askN raw ok st addr k (lv + 1) da) := Lib.hid fun h h' => by rw [HAS.out.2.2, askN_on hok' (by rw [e2]; exact h) (by rw [e1]; exact h'), e1, HA.out]; simp
    have Z2 : Hid ((al ++ [A]).length = lv + 1 ∧ ∀ b ∈ al ++ [A], ok b = true) := Lib.hid ⟨by rw [List.length_append, HAS.out.1]; rfl, fun b hb => by
      rcases List.mem_append.1 hb with h | h
      · exact HAS.out.2.1 b h
      · rw [List.mem_singleton.1 h]; exact hok⟩
    have HDA := Lib.hid hda
    clear hok hok' hd hE hda hdl e1 e2 e3 hraw HX HRk HA HIX
    go_wp2_with fail
    refine hdec.mono ?_
    rintro e w3 ⟨rfl, hO3⟩
    have hS3 := HR.out.keep _ _ _ H2.out.1 ((Only.of_below hO3).mono fun b _ f => f.elim)
    have hown3 := own_old H2.out.2.1 hO3
    have hOn3 := H2.out.2.2.trans ((Only.of_below hO3).mono fun b _ f => f.elim)
    obtain ⟨v', w5, hrun, hown5, hS5, hO5, hb5⟩ := walk_append w w3 _ G (fun _ y => S (al ++ [A]) y) v lv (lv + 1) l ⟨lv, A, X, ⟨dk, da, dr, dw, dx, ds⟩⟩ w3.heap.size (.cells #[.int .i64 dk, .int .u64 (da : Nat), .bool dr, .bool dw, .bool dx, .int .i64 ds] 48) hlv HL.out (fun _ => HR.out.keep (al ++ [A])) hown3 hS3 hOn3 HR.out.own rfl rfl
    clear hO3 hS3 hown3 hOn3 hdec H2
    have h4 := new_block w3 (.cells #[.int .i64 dk, .int .u64 (da : Nat), .bool dr, .bool dw, .bool dx, .int .i64 ds] 48)
    go_upto_region 11 with (fail)
    generalize w3.alloc (.cells #[.int .i64 dk, .int .u64 (da : Nat), .bool dr, .bool dw, .bool dx, .int .i64 ds] 48) = W4 at *
    generalize w3.heap.size = bd at *
    obtain ⟨q1, q2, q3⟩ := of_block h4
    obtain ⟨p1, p2, p3⟩ := of_block hb5
    have H5 := Lib.hid (And.intro hown5 (And.intro hS5 hO5))
    have HLS : Hid (lv + 1 = (l ++ [(⟨lv, A, X, ⟨dk, da, dr, dw, dx, ds⟩⟩ : St)]).length) := Lib.hid (by rw [List.length_append, HL.out]; rfl)
    clear h4 hb5 hown5 hS5 hO5
    go_upto_region 12 with (at_builtin; refine wpList_append_run rfl _ _ 29 rfl _ _ rfl rfl _ _ hrun ?_; clear hrun)
    clear q1 q2 q3
    by_cases hE2 : E = 2
    · have HF := Lib.hid (P0.out hE2)
      have HZ0 := Lib.hid (Z0.out (by omega))
      subst hE2
      clear P0 P1 P2 P3 P4 Z0 Z1
      go_wp2
      simp only [toLabel]
      go_ret2
      exact ret_walkA HF.out HLS.out HZ0.out H5.out.1 H5.out.2.1 H5.out.2.2
    have b2 : (E == 2) = false := by simp [hE2]
    by_cases hE0 : E = 0
    case neg =>
      have b0 : (E != 0) = true := by simp [hE0]
      have HF := Lib.hid (P1.out hE2 hE0)
      have HZ0 := Lib.hid (Z0.out (by omega))
      clear P0 P1 P2 P3 P4 Z0 Z1 hE2 hE0
      go_wp2
      simp only [toLabel]
      go_ret2
      exact ret_walkA HF.out HLS.out HZ0.out H5.out.1 H5.out.2.1 H5.out.2.2
    case pos =>
    clear hE2 b2
    by_cases hk0 : dk = 0
    · have HF := Lib.hid (P2.out hE0 hk0)
      have HZ0 := Lib.hid (Z0.out (by omega))
      have b0 : (dk == 0) = true := by simp [hk0]
      subst hE0
      clear P0 P1 P2 P3 P4 Z0 Z1 hk0
      go_wp2
      simp only [toLabel]
      go_ret2
      exact ret_walkA HF.out HLS.out HZ0.out H5.out.1 H5.out.2.1 H5.out.2.2
    have b0 : (dk == 0) = false := by simp [hk0]
    by_cases hk1 : dk = 1
    · have HF := Lib.hid (P4.out hE0 hk1)
      have HZ0 := Lib.hid (Z1.out hE0 hk1)
      have HN : Hid (¬ lv = 3) := Lib.hid (fun e => HD3.out e hk1)
      have b1 : (dk == 1) = true := by simp [hk1]
      subst hE0
      clear P0 P1 P2 P3 P4 Z0 Z1 hk0 hk1
      go_wp2
      go_step3
      have hlt : lv < 3 := by
        have := HN.out
        omega
      refine ⟨rfl, k - 1, by omega, lv + 1, da, v', _, al ++ [A], by omega, HDA.out, ⟨H5.out.2.1, Z2.out.1, Z2.out.2, by rw [show k - 1 + 1 = k by omega]; exact HZ0.out⟩, H5.out.1, HLS.out.symm, H5.out.2.2, ?_, fun _ hq => hq _ _ _ _ _ _ _ _ _ _ _ _ _ _ _ _ _ _ _ _ _ _ _ _ _ _ _ _ _ _ _ _ _ _ _ _ _ _ _ _ _ _ _ _ _ _ _ _ _ _ _ _ _ _ _ _ _ _ _ _ _ _ _ _ _ _ _ _⟩
      rw [show k - 1 + 1 = k by omega]
      exact HF.out
    · have HF := Lib.hid (P3.out hE0 hk0 hk1)
      have HZ0 := Lib.hid (Z0.out (by omega))
      have b1 : (dk == 1) = false := by simp [hk1]
      subst hE0
      clear P0 P1 P2 P3 P4 Z0 Z1 hk0 hk1
      go_wp2
      simp only [toLabel]
      go_ret2
      exact ret_walkA HF.out HLS.out HZ0.out H5.out.1 H5.out.2.1 H5.out.2.2
end Go.Proofs.Ytlbehhbicmmdoaa
/- Both stages, plain: no function of the program stands here. -/
namespace Go.Proofs.Ytlbehhbicmmdoaa
set_option linter.unusedVariables false
set_option linter.unusedSimpArgs false
open Go.RowKit
/-- Where an access comes to. -/
structure O8 where
  fr : Nat
  ip : Nat
  r1 : Bool
  w1 : Bool
  x1 : Bool
  r2 : Bool
  w2 : Bool
  x2 : Bool
def O8.cells (o : O8) : Array Value := #[.int .i64 (o.fr : Nat), .int .u64 (o.ip : Nat), .bool o.r1, .bool o.w1, .bool o.x1, .bool o.r2, .bool o.w2, .bool o.x2]
/-- A fault. -/
structure F5 where
  st : Int
  k : Int
  lv : Int
  ad : Nat
  store : Bool
def F5.cells (f : F5) : Array Value := #[.int .i64 f.st, .int .i64 f.k, .int .i64 f.lv, .int .u64 (f.ad : Nat), .bool f.store]
def O0 : O8 := ⟨0, 0, false, false, false, false, false, false⟩
def F0 : F5 := ⟨0, 0, 0, 0, false⟩
/-- The last step; a step of noughts where there is none. -/
def lastN (l : List St) : St := (l.getLast?).getD ⟨0, 0, 0, ⟨0, 0, false, false, false, 0⟩⟩
/-- The second stage alone, by a memory's words. -/
def secondN (raw : Nat → Nat) (ok : Nat → Bool) (two ipa : Nat) (access : Int) : O8 × F5 × Nat :=
  let r := walkN raw ok 2 ipa 4 0 two
  let s := lastN r.1
  if 1099511627776 ≤ ipa then (O0, ⟨2, 3, -1, ipa, decide (access = 2)⟩, 0)
  else if r.2 = -1 then (O0, ⟨2, 4, -1, ipa, decide (access = 2)⟩, r.1.length)
  else if r.2 ≠ 0 then (O0, ⟨2, r.2, -1, ipa, decide (access = 2)⟩, r.1.length)
  else if allowsB s.d.r s.d.w s.d.x access = false then (O0, ⟨2, 2, -1, ipa, decide (access = 2)⟩, r.1.length)
  else (⟨outN ipa s.lv s.d.k s.d.a / 4096, ipa / 4096, true, true, true, s.d.r, s.d.w, s.d.x⟩, F0, r.1.length)
/-- The first stage's words, through the second. -/
def ok1N (raw : Nat → Nat) (ok : Nat → Bool) (two a : Nat) : Bool := decide ((secondN raw ok two a 1).2.1.k = 0) && ok ((secondN raw ok two a 1).1.fr * 4096 + a % 4096)
def raw1N (raw : Nat → Nat) (ok : Nat → Bool) (two a : Nat) : Nat := if ok1N raw ok two a then raw ((secondN raw ok two a 1).1.fr * 4096 + a % 4096) else 0
/-- How many words it takes to read them. -/
def costN (raw : Nat → Nat) (ok : Nat → Bool) (two a : Nat) : Nat := (secondN raw ok two a 1).2.2 + if ok1N raw ok two a then 1 else 0
def costsN (raw : Nat → Nat) (ok : Nat → Bool) (two : Nat) (l : List Nat) : Nat := (l.map (costN raw ok two)).sum
/-- The fault of a word that is not read. -/
def faultN (raw : Nat → Nat) (ok : Nat → Bool) (two a : Nat) (lv : Int) (store : Bool) : F5 :=
  if (secondN raw ok two a 1).2.1.k = 0 then ⟨2, 4, lv, a, store⟩ else ⟨(secondN raw ok two a 1).2.1.st, (secondN raw ok two a 1).2.1.k, lv, (secondN raw ok two a 1).2.1.ad, store⟩
/-- What the reader keeps behind these. -/
def keptN (raw : Nat → Nat) (ok : Nat → Bool) (two : Nat) (store : Bool) (l : List Nat) : F5 :=
  match l.getLast? with
  | none => F0
  | some a => if ok1N raw ok two a then F0 else faultN raw ok two a ((l.length : Int) - 1) store
def levelN (raw : Nat → Nat) (ok : Nat → Bool) (two : Nat) (l : List Nat) : Nat := (l.filter (ok1N raw ok two)).length
/-- Both stages. -/
def nestN (raw : Nat → Nat) (ok : Nat → Bool) (two : Nat) (on : Bool) (root va : Nat) (access : Int) : O8 × F5 × Nat :=
  let r := walkN (raw1N raw ok two) (ok1N raw ok two) 1 va 4 0 root
  let l := askN (raw1N raw ok two) (ok1N raw ok two) 1 va 4 0 root
  let s := lastN r.1
  let q := secondN raw ok two (outN va s.lv s.d.k s.d.a) access
  if 281474976710656 ≤ va then (O0, ⟨1, 3, -1, va, decide (access = 2)⟩, 0)
  else if on = false then secondN raw ok two va access
  else if root % 4096 ≠ 0 ∨ 1099511627776 ≤ root then (O0, ⟨1, 4, -1, va, decide (access = 2)⟩, 0)
  else if r.2 = -1 then (O0, keptN raw ok two (decide (access = 2)) l, costsN raw ok two l)
  else if r.2 ≠ 0 then (O0, ⟨1, r.2, s.lv, va, decide (access = 2)⟩, costsN raw ok two l)
  else if allowsB s.d.r s.d.w s.d.x access = false then (O0, ⟨1, 2, s.lv, va, decide (access = 2)⟩, costsN raw ok two l)
  else (if q.2.1.k = 0 then { q.1 with r1 := s.d.r, w1 := s.d.w, x1 := s.d.x } else q.1, q.2.1, costsN raw ok two l + q.2.2)
end Go.Proofs.Ytlbehhbicmmdoaa
/- What is so of both stages, whatever the words are: plain. No function of the program stands here. -/
namespace Go.Proofs.Ytlbehhbicmmdoaa
set_option linter.unusedVariables false
set_option linter.unusedSimpArgs false
open Go.RowKit
section
variable {raw : Nat → Nat} {ok : Nat → Bool} {st : Int} {addr : Nat}
theorem ask_length : ∀ (n lv root : Nat), (askN raw ok st addr n lv root).length ≤ n := by
  intro n
  induction n with
  | zero => intro lv root; exact Nat.le_refl 0
  | succ n ih =>
    intro lv root
    by_cases h : ok (atN root addr lv) = true ∧ decE st lv (raw (atN root addr lv)) = 0 ∧ (decD st lv (raw (atN root addr lv))).k = 1
    · rw [askN_on h.1 h.2.1 h.2.2]
      have := ih (lv + 1) (decD st lv (raw (atN root addr lv))).a
      simp only [List.length_cons]
      omega
    · rw [askN_end h]; simp
/-- What a walk can come to. -/
theorem walk_kinds : ∀ (n lv root : Nat), (walkN raw ok st addr n lv root).2 = -1 ∨ (walkN raw ok st addr n lv root).2 = 0 ∨ (walkN raw ok st addr n lv root).2 = 1 ∨ (walkN raw ok st addr n lv root).2 = 3 ∨ (walkN raw ok st addr n lv root).2 = 4 := by
  intro n
  induction n with
  | zero => intro lv root; exact .inr (.inl rfl)
  | succ n ih =>
    intro lv root
    cases hok : ok (atN root addr lv) with
    | false => rw [walkN_no hok]; exact .inl rfl
    | true =>
      by_cases h2 : decE st lv (raw (atN root addr lv)) = 2
      · rw [walkN_range hok h2]; exact .inr (.inr (.inr (.inl rfl)))
      by_cases h0 : decE st lv (raw (atN root addr lv)) = 0
      case neg => rw [walkN_form hok h2 h0]; exact .inr (.inr (.inr (.inr rfl)))
      by_cases k0 : (decD st lv (raw (atN root addr lv))).k = 0
      · rw [walkN_none hok h0 k0]; exact .inr (.inr (.inl rfl))
      by_cases k1 : (decD st lv (raw (atN root addr lv))).k = 1
      case neg => rw [walkN_leaf hok h0 k0 k1]; exact .inr (.inl rfl)
      rw [walkN_table hok h0 k1]
      exact ih _ _
end
section
variable {raw : Nat → Nat} {ok : Nat → Bool} {two : Nat}
/-- A fault, or none. -/
structure SecondOk (q : O8 × F5 × Nat) (two ipa : Nat) (access : Int) : Prop where
  n4 : q.2.2 ≤ 4
  yes : q.2.1.k = 0 → q.2.1 = F0 ∧ allowsB q.1.r2 q.1.w2 q.1.x2 access = true ∧ q.1.r1 = true ∧ q.1.w1 = true ∧ q.1.x1 = true
  no : q.2.1.k ≠ 0 → q.1 = O0 ∧ q.2.1.st = 2 ∧ q.2.1.lv = -1 ∧ q.2.1.ad = ipa ∧ q.2.1.store = decide (access = 2)
theorem second_ok (two ipa : Nat) (access : Int) : SecondOk (secondN raw ok two ipa access) two ipa access := by
  have hw := walk_ok raw ok 2 ipa 4 0 two rfl (by decide)
  have hk := walk_kinds (raw := raw) (ok := ok) (st := 2) (addr := ipa) 4 0 two
  unfold secondN
  generalize walkN raw ok 2 ipa 4 0 two = r at *
  dsimp only
  have hl := hw.len
  generalize lastN r.1 = s
  split
  · exact ⟨by simp, fun h => absurd h (by simp [F0]), fun _ => ⟨rfl, rfl, rfl, rfl, rfl⟩⟩
  split
  · exact ⟨hl, fun h => absurd h (by simp [F0]), fun _ => ⟨rfl, rfl, rfl, rfl, rfl⟩⟩
  split
  · rename_i _ _ h; exact ⟨hl, fun h' => absurd h' h, fun _ => ⟨rfl, rfl, rfl, rfl, rfl⟩⟩
  split
  · exact ⟨hl, fun h => absurd h (by simp [F0]), fun _ => ⟨rfl, rfl, rfl, rfl, rfl⟩⟩
  · rename_i h; exact ⟨hl, fun _ => ⟨rfl, by simpa using h, rfl, rfl, rfl⟩, fun h' => absurd rfl h'⟩
theorem cost_le (a : Nat) : costN raw ok two a ≤ 5 := by
  unfold costN
  have := (second_ok (raw := raw) (ok := ok) two a 1).n4
  split <;> omega
theorem costs_le (l : List Nat) : costsN raw ok two l ≤ 5 * l.length := by
  unfold costsN
  induction l with
  | nil => simp
  | cons a l ih =>
    have := cost_le (raw := raw) (ok := ok) (two := two) a
    simp only [List.map_cons, List.sum_cons, List.length_cons]
    omega
theorem last_mem {l : List St} (h : 1 ≤ l.length) : ∃ s, l.getLast? = some s ∧ lastN l = s ∧ l[l.length - 1]? = some s := by
  cases l with
  | nil => simp at h
  | cons a l =>
    refine ⟨(a :: l).getLast (by simp), List.getLast?_eq_some_getLast _, ?_, ?_⟩
    · unfold lastN; rw [List.getLast?_eq_some_getLast (by simp)]; rfl
    · rw [← List.getLast?_eq_getElem?, List.getLast?_eq_some_getLast]
end
end Go.Proofs.Ytlbehhbicmmdoaa
/- What one access is told says what another is told: plain. No function of the program stands here. -/
namespace Go.Proofs.Ytlbehhbicmmdoaa
set_option linter.unusedVariables false
set_option linter.unusedSimpArgs false
open Go.RowKit
section
variable {raw : Nat → Nat} {ok : Nat → Bool} {two : Nat}
end
end Go.Proofs.Ytlbehhbicmmdoaa
/- Layer 14: Allows of the document. -/
namespace Go.Proofs.Ytlbehhbicmmdoaa
set_option linter.unusedVariables false
set_option linter.unusedSimpArgs false
open Go.RowKit
set_option maxHeartbeats 4000000 in
theorem allows14_calls (a0 a1 a2 : Bool) (k : Int) (w : World) :
    Calls Try.prog 31 #[.agg #[.bool a0, .bool a1, .bool a2], .int .i64 k] w (RetB w (.bool (allowsB a0 a1 a2 k))) := by
  have hO := old_alloc (old_refl w) (.cells #[.bool a0, .bool a1, .bool a2] 46)
  have hb := new_block w (.cells #[.bool a0, .bool a1, .bool a2] 46)
  obtain ⟨k9, q9, z9⟩ := of_block hb
  have HO := Lib.hid hO
  clear hO hb
  by_cases h1 : k = 1
  · subst h1
    have e : allowsB a0 a1 a2 1 = a0 := rfl
    rw [e]
    cases a0 <;> (go_enter Try.func31, Try.ntmps31; go_wp2; go_ret; exact ⟨rfl, HO.out⟩)
  by_cases h2 : k = 2
  · subst h2
    have e : allowsB a0 a1 a2 2 = a1 := rfl
    rw [e]
    cases a1 <;> (go_enter Try.func31, Try.ntmps31; go_wp2; go_ret; exact ⟨rfl, HO.out⟩)
  by_cases h3 : k = 3
  · subst h3
    have e : allowsB a0 a1 a2 3 = a2 := rfl
    rw [e]
    cases a2 <;> (go_enter Try.func31, Try.ntmps31; go_wp2; go_ret; exact ⟨rfl, HO.out⟩)
  have e1 : (k == 1) = false := beq_eq_false_iff_ne.2 h1
  have e2 : (k == 2) = false := beq_eq_false_iff_ne.2 h2
  have e3 : (k == 3) = false := beq_eq_false_iff_ne.2 h3
  have e : allowsB a0 a1 a2 k = false := by unfold allowsB; rw [if_neg h1, if_neg h2, if_neg h3]
  rw [e]
  clear h1 h2 h3 e
  go_enter Try.func31, Try.ntmps31
  go_wp2
  go_ret
  exact ⟨rfl, HO.out⟩
end Go.Proofs.Ytlbehhbicmmdoaa
/- The second stage's reader: a memory's words, counted. -/
namespace Go.Proofs.Ytlbehhbicmmdoaa
set_option linter.unusedVariables false
set_option linter.unusedSimpArgs false
open Go.RowKit
/-- A memory, the variable that names it, and how many words were there. -/
def SecS (X : Nat → Prop) (mb wb p frames : Nat) (wd : Nat → Nat) (N B : Nat) (l : List Nat) (x : World) : Prop :=
  IsMemW x X p frames wd (N + l.length) ∧ x.heap[mb]? = some (.cells #[.pointer (some ⟨p, 0, none⟩)] 61) ∧ x.heap[wb]? = some (.cells #[.int .i64 ((l.filter (okM frames)).length : Nat)] 3) ∧ X mb ∧ X wb ∧ mb ≠ wb ∧ mb < B ∧ wb < B ∧ ∀ b, ¬ X b → b < B
section
variable {X : Nat → Prop} {mb wb p frames N B : Nat} {wd : Nat → Nat} {l : List Nat} {x y : World}
theorem secS_only (h : SecS X mb wb p frames wd N B l x) (ho : Only (fun b => B ≤ b) x y) : SecS X mb wb p frames wd N B l y := by
  obtain ⟨h1, h2, h3, h4, h5, h6, h7, h8, h9⟩ := h
  exact ⟨memW_only h1 ho (fun b hb e => by have := h9 b hb; omega), keep_only ho (fun e => by omega) h2, keep_only ho (fun e => by omega) h3, h4, h5, h6, h7, h8, h9⟩
theorem filter_snoc_yes {f : Nat → Bool} {a : Nat} (h : f a = true) : ((l ++ [a]).filter f).length = (l.filter f).length + 1 := by
  rw [List.filter_append, List.length_append]; simp [h]
theorem filter_snoc_no {f : Nat → Bool} {a : Nat} (h : f a = false) : ((l ++ [a]).filter f).length = (l.filter f).length := by
  rw [List.filter_append, List.length_append]; simp [h]
set_option maxHeartbeats 4000000 in
set_option maxRecDepth 100000 in
theorem sec1_calls (a : Nat) (hl : l.length < 4) (hN : N < 3999999990) (ha : a < 18446744073709551616) (hS : SecS X mb wb p frames wd N B l x) :
    Calls Try.prog 59 (#[.int .u64 (a : Nat)] ++ #[.pointer (some ⟨mb, 0, none⟩), .pointer (some ⟨wb, 0, none⟩)]) x (fun e y => e = .returned (.tuple #[.int .u64 (rawM frames wd a : Nat), .bool (okM frames a)]) ∧ SecS X mb wb p frames wd N B (l ++ [a]) y ∧ Only (fun b => ¬ X b ∨ b = wb) x y) := by
  show Calls _ _ #[.int .u64 (a : Nat), .pointer (some ⟨mb, 0, none⟩), .pointer (some ⟨wb, 0, none⟩)] x _
  obtain ⟨h1, h2, h3, h4, h5, h6, h7, h8, h9⟩ := hS
  cases hok : okM frames a with
  | true =>
    have hr := memW_read h1 (by omega) a ha hok
    have hv : rawM frames wd a = wd a := rawM_yes hok
    rw [hv]
    have hflt := filter_snoc_yes (l := l) hok
    have hll : (l ++ [a]).length = l.length + 1 := by rw [List.length_append]; rfl
    have hle := List.length_filter_le (okM frames) l
    generalize (l.filter (okM frames)).length = j at *
    generalize wd a = V at *
    have j4 : (j : Int) < 4 := by omega
    obtain ⟨k1, q1, z1⟩ := of_block h2
    have H := Lib.hid (And.intro h2 (And.intro h3 (And.intro h4 (And.intro h5 (And.intro h6 (And.intro h7 (And.intro h8 h9)))))))
    have HF := Lib.hid (And.intro hflt hll)
    clear h1 h2 h3 h4 h5 h6 h7 h8 h9 hok hv hflt hll hle hl hN ha
    go_enter Try.func59, Try.ntmps59
    go_wp2_with fail
    (with_reducible refine hr.mono ?_)
    rintro e y1 ⟨rfl, hm, ho⟩
    obtain ⟨h2, h3, h4, h5, h6, h7, h8, h9⟩ := H.out
    have h2' := keep_only ho (fun f => f h4) h2
    have h3' := keep_only ho (fun f => f h5) h3
    obtain ⟨k2, q2, z2⟩ := of_block h3'
    have hset : y1.setCell ⟨wb, 0, none⟩ (.int .i64 ((j : Int) + 1)) = putB y1 wb (.cells #[.int .i64 ((j + 1 : Nat) : Int)] 3) := by rw [set_of h3']; rfl
    have ho2 : Only (fun b => b = wb) y1 (putB y1 wb (.cells #[.int .i64 ((j + 1 : Nat) : Int)] 3)) := (Only.refl _ _).putB _ (fun _ => rfl)
    have h3'' := putB_same (.cells #[.int .i64 ((j + 1 : Nat) : Int)] 3) (lt_of_block h3')
    have h2'' := keep_only ho2 (fun e => h6 e) h2'
    have hm2 := memW_only hm ho2 (fun b hb e => by subst e; exact hb h5)
    have ho3 : Only (fun b => ¬ X b ∨ b = wb) x (putB y1 wb (.cells #[.int .i64 ((j + 1 : Nat) : Int)] 3)) := (ho.mono fun b _ f => .inl f).trans (ho2.mono fun b _ f => .inr f)
    generalize putB y1 wb (.cells #[.int .i64 ((j + 1 : Nat) : Int)] 3) = Y at *
    have HE := Lib.hid (And.intro hm2 (And.intro h2'' (And.intro h3'' ho3)))
    clear hr hm ho h2 h3 h4 h5 h6 h7 h8 h9 h2' h3' h2'' h3'' hm2 ho2 ho3 k1 q1 z1
    go_wp2
    go_ret2
    obtain ⟨h2, h3, h4, h5, h6, h7, h8, h9⟩ := H.out
    obtain ⟨a1, a2, a3, a4⟩ := HE.out
    refine ⟨rfl, ⟨?_, a2, ?_, h4, h5, h6, h7, h8, h9⟩, a4⟩
    · rw [HF.out.2]; exact memW_le a1 (by omega)
    · rw [HF.out.1]; exact a3
  | false =>
    obtain ⟨E, hE, hr⟩ := memW_readE h1 a ha hok
    have hv : rawM frames wd a = 0 := if_neg (by rw [hok]; simp)
    rw [hv]
    have hb : (E != 0) = true := by simp [hE]
    have hflt := filter_snoc_no (l := l) hok
    have hll : (l ++ [a]).length = l.length + 1 := by rw [List.length_append]; rfl
    obtain ⟨k1, q1, z1⟩ := of_block h2
    have H := Lib.hid (And.intro h1 (And.intro h2 (And.intro h3 (And.intro h4 (And.intro h5 (And.intro h6 (And.intro h7 (And.intro h8 h9))))))))
    have HF := Lib.hid (And.intro hflt hll)
    clear h1 h2 h3 h4 h5 h6 h7 h8 h9 hok hv hflt hll hl hN ha hE
    go_enter Try.func59, Try.ntmps59
    go_wp2_with fail
    (with_reducible refine hr.mono ?_)
    rintro e y1 ⟨rfl, ho⟩
    have HO := Lib.hid ho
    clear hr ho k1 q1 z1
    go_wp2
    go_ret2
    obtain ⟨h1, h2, h3, h4, h5, h6, h7, h8, h9⟩ := H.out
    refine ⟨rfl, ⟨?_, keep_old HO.out h2, ?_, h4, h5, h6, h7, h8, h9⟩, (Only.of_below HO.out).mono fun b _ f => f.elim⟩
    · rw [HF.out.2]; exact memW_le (memW_old h1 HO.out) (by omega)
    · rw [HF.out.1]; exact keep_old HO.out h3
theorem fn_sec (args : Array Value) (x : World) : (callFunc 59 args).run Try.prog x = .ok (.enter 59 args) x := by kernel_rfl
theorem sec_reader (hN : N < 3999999990) (h0 : SecS X mb wb p frames wd N B [] x) (hraw : ∀ a, rawM frames wd a < 18446744073709551616) : ReaderA 59 #[.pointer (some ⟨mb, 0, none⟩), .pointer (some ⟨wb, 0, none⟩)] (fun b => ¬ X b ∨ b = wb) (SecS X mb wb p frames wd N B) (rawM frames wd) (okM frames) B :=
  { own := fun b h => by
      obtain ⟨_, _, _, _, _, _, _, h8, h9⟩ := h0
      rcases h with h | h
      · exact h9 b h
      · rw [h]; exact h8
    fn := fn_sec
    word := hraw
    keep := fun k x y h ho => secS_only h ho
    call := fun k a x hk _ ha hS => sec1_calls a hk hN ha hS }
end
/-- The words that were there. -/
theorem ask_filter {raw : Nat → Nat} {ok : Nat → Bool} {st : Int} {addr : Nat} : ∀ (n lv root : Nat), ((askN raw ok st addr n lv root).filter ok).length = (walkN raw ok st addr n lv root).1.length := by
  intro n
  induction n with
  | zero => intro lv root; rfl
  | succ n ih =>
    intro lv root
    cases hok : ok (atN root addr lv) with
    | false => rw [askN_end (by rw [hok]; simp), walkN_no hok]; simp [hok]
    | true =>
      by_cases h2 : decE st lv (raw (atN root addr lv)) = 2
      · rw [askN_end (by rw [h2]; simp), walkN_range hok h2]; simp [hok]
      by_cases h0 : decE st lv (raw (atN root addr lv)) = 0
      case neg => rw [askN_end (by simp [h0]), walkN_form hok h2 h0]; simp [hok]
      by_cases k0 : (decD st lv (raw (atN root addr lv))).k = 0
      · rw [askN_end (by simp [k0]), walkN_none hok h0 k0]; simp [hok]
      by_cases k1 : (decD st lv (raw (atN root addr lv))).k = 1
      case neg => rw [askN_end (by simp [k1]), walkN_leaf hok h0 k0 k1]; simp [hok]
      rw [askN_on hok h0 k1, walkN_table hok h0 k1, List.filter_cons_of_pos hok, List.length_cons, ih]
      rfl
end Go.Proofs.Ytlbehhbicmmdoaa
namespace Go.Proofs.Ytlbehhbicmmdoaa
set_option linter.unusedVariables false
set_option linter.unusedSimpArgs false
open Go.RowKit
/-- Block dm holds the document's memory: n frames of 4,096 bytes. -/
def DocM (x : World) (dm n : Nat) (pgs : Nat → List Nat) : Prop :=
  ∃ g c, x.heap[dm]? = some (.cells #[.slice (some ⟨g, 0, none⟩) n c] 116) ∧ g < x.heap.size ∧ n ≤ c ∧ c ≤ maxLen ∧ ∀ i, i < n → ∃ gi ci, x.cell? ⟨g, i, none⟩ = some (.slice (some ⟨gi, 0, none⟩) 4096 ci) ∧ Bytes x (some ⟨gi, 0, none⟩) ci (pgs i) ∧ (pgs i).length = 4096
theorem docM_old {x y : World} {dm n : Nat} {pgs : Nat → List Nat} (h : DocM x dm n pgs) (ho : Old x y) : DocM y dm n pgs := by
  obtain ⟨g, c, h1, h2, h3, h4, h5⟩ := h
  refine ⟨g, c, keep_old ho h1, Nat.lt_of_lt_of_le h2 ho.size, h3, h4, fun i hi => ?_⟩
  obtain ⟨gi, ci, a, b, d⟩ := h5 i hi
  exact ⟨gi, ci, by rw [ho.cell h2]; exact a, bytes_old b ho, d⟩
set_option maxHeartbeats 8000000 in
set_option maxRecDepth 100000 in
theorem word_calls {x : World} {dm : Nat} {pgs : Nat → List Nat} {wd : Nat → Nat} (h : DocM x dm 40 pgs) (hw : ∀ a, okM 40 a = true → getN (pgs (a / 4096)) (a % 4096) 8 = wd a) (a : Nat) (ha : a < 18446744073709551616) :
    Calls Try.prog 61 #[.pointer (some ⟨dm, 0, none⟩), .int .u64 (a : Nat)] x (RetB x (.tuple #[.int .u64 (rawM 40 wd a : Nat), .bool (okM 40 a)])) := by
  obtain ⟨g, c, h1, h2, h3, h4, h5⟩ := h
  obtain ⟨k1, q1, z1⟩ := of_block h1
  by_cases h8 : a % 8 = 0
  case neg =>
    have hok : okM 40 a = false := decide_eq_false (fun e => h8 e.1)
    have hr : rawM 40 wd a = 0 := if_neg (by rw [hok]; simp)
    rw [hok, hr]
    have d1 : ((a : Int) % 8 != 0) = true := by simp; omega
    clear h1 h2 h3 h4 h5 hw hok hr h8 ha
    go_enter Try.func61, Try.ntmps61
    go_wp2
    go_ret2
    exact ⟨rfl, old_refl _⟩
  have d1 : ((a : Int) % 8 != 0) = false := by simp; omega
  obtain ⟨F, hF⟩ : ∃ F, a / 4096 = F := ⟨_, rfl⟩
  obtain ⟨R, hR⟩ : ∃ R, a % 4096 = R := ⟨_, rfl⟩
  have c1 : (a : Int) / 4096 = (F : Int) := by omega
  have c2 : (a : Int) % 4096 = (R : Int) := by omega
  have c3 : IntKind.u64.wrap (F : Int) = (F : Int) := IntWalk.u64_in _ (by omega)
  by_cases hf : F < 40
  · have hok : okM 40 a = true := decide_eq_true ⟨h8, by omega⟩
    have hr : rawM 40 wd a = wd a := if_pos hok
    have hg := hw a hok
    rw [hF, hR] at hg
    rw [hok, hr, ← hg]
    obtain ⟨gi, ci, hc, hB, hl⟩ := h5 F hf
    have hget := fun y (hy : Old x y) => refGet_ok (some ⟨gi, 0, none⟩) (pgs F) ci (R : Int) 8 R 8 rfl rfl y (bytes_old hB hy) (by rw [hl]; exact checkN_ok (.inr (.inr (.inr rfl))) (by omega) (by omega)) (by rw [hl]; omega) (by decide) (by decide)
    rw [hl] at hget
    have hget0 := hget x (old_refl x)
    obtain ⟨V, hV⟩ : ∃ V, getN (pgs F) R 8 = V := ⟨_, rfl⟩
    rw [hV] at hget0 ⊢
    have d2 : decide ((40 : Int) ≤ (F : Int)) = false := decide_eq_false (by omega)
    have f40 : (F : Int) < 40 := by omega
    have r40 : (R : Int) ≤ 4095 := by omega
    have f40n : F < 40 := hf
    clear h1 h2 h3 h4 h5 hw hok hr hg hB hl hget hV hF hR h8 ha hf
    go_enter Try.func61, Try.ntmps61
    go_wp2_with fail
    (with_reducible refine hget0.mono ?_)
    rintro e y ⟨rfl, hO⟩
    clear k1 q1 z1 hc hget0
    go_wp2
    go_ret2
    exact ⟨rfl, hO⟩
  · have hok : okM 40 a = false := decide_eq_false (fun e => hf (by omega))
    have hr : rawM 40 wd a = 0 := if_neg (by rw [hok]; simp)
    rw [hok, hr]
    have d2 : (40 : Int) ≤ (F : Int) := by omega
    clear h1 h2 h3 h4 h5 hw hok hr h8 ha hF hR hf
    go_enter Try.func61, Try.ntmps61
    go_wp2
    go_ret2
    exact ⟨rfl, old_refl _⟩
end Go.Proofs.Ytlbehhbicmmdoaa
namespace Go.Proofs.Ytlbehhbicmmdoaa
set_option linter.unusedVariables false
set_option linter.unusedSimpArgs false
open Go.RowKit
section
variable {X : Nat → Prop} {p frames ops : Nat} {pg : Int → Option (List Nat)} {w : World}
theorem get_page2 (h : IsMem w X p frames pg ops) (k : Int) (hk : hasB frames k = true) : Calls Try.prog 39 #[.pointer (some ⟨p, 0, none⟩), .int .i64 k] w
    (fun e w' => ∃ g c, e = .returned (.tuple #[.slice (some ⟨g, 0, none⟩) 4096 c, .int .i64 0]) ∧ Row w' w.heap.size g c (pageOf pg k) ∧ Old w w') := by
  have hh := has_calls h k
  rw [hk] at hh
  have H := Lib.hid h
  have hl := pageOf_length h k
  have HL := Lib.hid hl
  clear h hk hl
  go_enter Try.func39, Try.ntmps39
  go_wp2_with fail
  (with_reducible refine hh.mono ?_)
  rintro e w1 ⟨rfl, hb1⟩
  have hpg := page_calls (mem_old H.out hb1) k
  have HO := Lib.hid hb1
  clear hh hb1
  go_wp2_with fail
  (with_reducible refine hpg.mono ?_)
  rintro e w2 ⟨g, c, rfl, hrow, hO2⟩
  have hcl := clone_calls ⟨g, 0, none⟩ (pageOf pg k) c w2 (row_bytes hrow) (by rw [HL.out]; decide) (by rw [HL.out]; decide)
  rw [HL.out] at hcl
  have HO2 := Lib.hid (old_then HO.out hO2)
  clear hpg hrow hO2
  go_wp2_with fail
  (with_reducible refine hcl.mono ?_)
  rintro e w3 ⟨g2, c2, rfl, hrow2, hO3⟩
  have HF := Lib.hid (And.intro hrow2 (old_then HO2.out hO3))
  clear hcl hrow2 hO3
  go_wp2
  go_ret2
  refine ⟨_, _, rfl, ?_, HF.out.2⟩
  have hsz := HO2.out.size
  refine ⟨⟨HF.out.1.1.1, ?_⟩, HF.out.1.2⟩
  rcases HF.out.1.1.2 with h' | ⟨g', cap', cur, h', hb, rest⟩
  · exact .inl h'
  · exact .inr ⟨g', cap', cur, h', by omega, rest⟩
end
end Go.Proofs.Ytlbehhbicmmdoaa
namespace Go.Proofs.Ytlbehhbicmmdoaa
set_option linter.unusedVariables false
set_option linter.unusedSimpArgs false
open Go.RowKit
section
variable {P : Program} {w : World}
theorem run_storeVar_at (g o : Nat) (t ty : TypeId) (old : Array Value) (cells : List Value) (hg : w.heap[g]? = some (.cells old t)) (hi : (P.info? ty).map (·.size) = some cells.length)
    (ho : o + cells.length ≤ old.size) (h1 : ∀ v ∈ cells, v.oneCell' = true) :
    (storeVar ty ⟨g, o, none⟩ (.agg cells.toArray)).run P w = .ok () (putB w g (.cells (old.toList.take o ++ cells ++ old.toList.drop (o + cells.length)).toArray t)) := by
  have := run_storeCells_at (P := P) g o t cells 0 old w hg (by omega) h1
  rw [Nat.add_zero] at this
  have hp : w.setRow g (old.toList.take o ++ cells ++ old.toList.drop (o + cells.length)).toArray = putB w g (.cells (old.toList.take o ++ cells ++ old.toList.drop (o + cells.length)).toArray t) := by
    unfold World.setRow putB
    rw [modify_eq_set _ _ _ _ hg]
  rw [hp] at this
  cases hq : P.info? ty with
  | none => simp [hq] at hi
  | some i =>
    have hs : cells.length = i.size := by simp [hq] at hi; omega
    simp [storeVar, sizeOf, typeInfo, hq, Value.cells, hs] at this ⊢
    exact this
theorem wpList_store_at {ops : Array Oper} {rest : List Oper} {o : Oper} {a : Act} {Q : Exit → Act → World → Prop} (hgd : o.guard = none) (ty : TypeId) (x y : Operand) (ho : o.op = .store ty x y)
    (g off : Nat) (cells : List Value) (hx : a.eval x = .pointer (some ⟨g, off, none⟩)) (hy : a.eval y = .agg cells.toArray)
    (t : TypeId) (old : Array Value) (hg : w.heap[g]? = some (.cells old t)) (hi : (P.info? ty).map (·.size) = some cells.length)
    (hold : off + cells.length ≤ old.size) (h1 : ∀ v ∈ cells, v.oneCell' = true)
    (h : wpList P ops Q rest (a.put o.dst undef) (putB w g (.cells (old.toList.take off ++ cells ++ old.toList.drop (off + cells.length)).toArray t))) : wpList P ops Q (o :: rest) a w := by
  refine wpList_plain hgd fun K hK => ?_
  unfold Oper.wp execOp
  simp only [ho, hx, hy, Instr.storeAt, Instr.sureAddr, Sem.run_bind, Sem.run_pure, Result.andThen_ok, run_storeVar_at g off t ty old cells hg hi hold h1]
  exact hK _ _ h
theorem run_loadVar_at (g o : Nat) (ty : TypeId) (cells : List Value) (d : TypeDesc) (hc : ∀ (c : Nat) (v : Value), cells[c]? = some v → w.cell? ⟨g, o + c, none⟩ = some v)
    (hu : P.underlying ty = some d) (hd : (match d with | .struct _ | .array _ _ => true | _ => false) = true) (hi : (P.info? ty).map (·.size) = some cells.length) :
    (loadVar ty ⟨g, o, none⟩).run P w = .ok (.agg cells.toArray) w := by
  have hl : (loadCells ⟨g, o, none⟩ cells.length).run P w = .ok cells.toArray w :=
    run_loadCells_list (P := P) w ⟨g, o, none⟩ cells (fun j v hv => by
      rw [add_eq _ _ rfl]
      exact hc j v hv)
  cases hq : P.info? ty with
  | none => simp [hq] at hi
  | some i =>
    have hs : i.size = cells.length := by simpa [hq] using hi
    have hagg : (isAgg ty).run P w = .ok true w := by
      unfold isAgg
      rw [Sem.run_bind, run_underlying hu w]
      cases d <;> simp_all
    simp [loadVar, Sem.run_bind, hagg, sizeOf, typeInfo, hq, hs, hl]
theorem wpList_load_at {ops : Array Oper} {rest : List Oper} {o : Oper} {a : Act} {Q : Exit → Act → World → Prop} (hgd : o.guard = none) (ty : TypeId) (x : Operand) (ho : o.op = .load ty x)
    (g off : Nat) (hx : a.eval x = .pointer (some ⟨g, off, none⟩)) (cells : List Value) (d : TypeDesc) (hc : ∀ (c : Nat) (v : Value), cells[c]? = some v → w.cell? ⟨g, off + c, none⟩ = some v)
    (hu : P.underlying ty = some d) (hd : (match d with | .struct _ | .array _ _ => true | _ => false) = true) (hi : (P.info? ty).map (·.size) = some cells.length)
    (h : wpList P ops Q rest (a.put o.dst (.agg cells.toArray)) w) : wpList P ops Q (o :: rest) a w := by
  refine wpList_plain hgd fun K hK => ?_
  unfold Oper.wp execOp
  simp only [ho, hx, Instr.loadAt, Instr.sureAddr, Sem.run_bind, Sem.run_pure, Result.andThen_ok, run_loadVar_at g off ty cells d hc hu hd hi]
  exact hK _ _ h
end
section
variable {α : Type} {f : α → List Value} {k : Nat}
end
end Go.Proofs.Ytlbehhbicmmdoaa
