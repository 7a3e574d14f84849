/- The statement DiskPlays: its walk (under way). -/
import Derived.Test.YtfiofjalpaeohaaDPlays3
import Derived.Test.YtfiofjalpaeohaaOpsArg
import Derived.Test.YtfiofjalpaeohaaTwoCalls
import Derived.Test.YtfiofjalpaeohaaDPlaysS
import Derived.Test.YtfiofjalpaeohaaDPlaysM
namespace Go.Proofs.Ytfiofjalpaeohaa
set_option linter.unusedVariables false
set_option linter.unusedSimpArgs false
open Go.RowKit

theorem both_new {n p q : Nat} {w x y : World} (hx : Old w x) (hd : ∀ X : Nat → Prop, (∀ b, X b → b < w.heap.size) → IsDisk x X p n (fun _ => none) []) (hq : IsRef y (fun b => x.heap.size ≤ b) q n (fun _ => none) []) (hO : Old x y) :
    Both n p q w (fun b => b < w.heap.size ∨ (x.heap.size ≤ b ∧ b < y.heap.size)) (fun b => x.heap.size ≤ b ∧ b < y.heap.size) (fun b => b < w.heap.size) (fun _ => none) [] (fun _ => none) [] y :=
  { hd := disk_old (disk_more (hd (fun b => b < w.heap.size) fun b hb => hb) fun b hb => hb.imp id fun e => e.1) hO
    hr := ref_clip hq
    tx := fun b hb => by
      rcases hb with hb | hb
      · exact Nat.lt_of_lt_of_le hb (Nat.le_trans hx.size hO.size)
      · exact hb.2
    rt := fun b hb => ⟨.inr hb, Nat.le_trans hx.size hb.1⟩
    kt := fun b hb => ⟨.inl hb, fun f => by have := hx.size; omega⟩
    wt := fun b hb => hb
    ho := old_then hx hO }

/-- What the last statement of a round reads. -/
def BothS (n p q : Nat) (w : World) (K : Nat → Prop) (pg : Int → Option (List Nat)) (F : List Bool) (ad : Option Addr) (c : Nat) (x : World) : Prop :=
  (∃ T R, Both n p q w T R K pg F pg F x) ∧ x.cell? ⟨q, 2, none⟩ = some (.slice ad F.length c)
theorem bothS_of {n p q : Nat} {w : World} {T R K : Nat → Prop} {pg : Int → Option (List Nat)} {F : List Bool} {x : World} (h : Both n p q w T R K pg F pg F x) : ∃ ad c, BothS n p q w K pg F ad c x := by
  obtain ⟨ob, gb, on, vs, fv, h2⟩ := h.hr
  obtain ⟨ad, c, rfl, _⟩ := h2.hF
  exact ⟨ad, c, ⟨T, R, h⟩, by rw [cell_of h2.hq]; rfl⟩
theorem bothS_old {n p q : Nat} {w : World} {K : Nat → Prop} {pg : Int → Option (List Nat)} {F : List Bool} {ad : Option Addr} {c : Nat} {x y : World} (h : BothS n p q w K pg F ad c x) (ho : Old x y) : BothS n p q w K pg F ad c y := by
  obtain ⟨⟨T, R, h⟩, hc⟩ := h
  refine ⟨⟨T, R, both_disk h (disk_old h.hd ho) ((Only.of_below ho).mono fun b _ f => f.elim)⟩, ?_⟩
  obtain ⟨ob, gb, on, vs, fv, h2⟩ := h.hr
  rw [ho.cell (p := ⟨q, 2, none⟩) (lt_of_block h2.hq)]; exact hc
theorem both_old {n p q : Nat} {w : World} {T R K : Nat → Prop} {pg pg' : Int → Option (List Nat)} {F F' : List Bool} {x y : World} (h : Both n p q w T R K pg F pg' F' x) (ho : Old x y) : Both n p q w T R K pg F pg' F' y :=
  both_disk h (disk_old h.hd ho) ((Only.of_below ho).mono fun b _ f => f.elim)
theorem readV_only {G : Nat → Prop} {x y : World} {B : Nat} {v : Value} {o : Option (List Nat)} (h : ReadV x B v o) (ho : Only G x y) (hG : ∀ b, B ≤ b → b < x.heap.size → ¬ G b) : ReadV y B v o := by
  cases o with
  | none => exact h
  | some l =>
    obtain ⟨g, c, rfl, hl, hr⟩ := h
    have hp := row_parts hr
    exact ⟨g, c, rfl, hl, row_only hr ho (hG g hp.1 hp.2.1)⟩
theorem kind7 (x : Int) : ∃ κ : Nat, (wrap64 (x.tmod 7 + 7)).tmod 7 = (κ : Int) ∧ κ < 7 := by
  have h1 := Int.tmod_lt_of_pos x (show (0 : Int) < 7 by decide)
  have h2 : -7 < x.tmod 7 := by
    by_cases h : 0 ≤ x
    · rw [Int.tmod_eq_emod_of_nonneg h]; omega
    · have e : x.tmod 7 = -((-x).tmod 7) := by rw [Int.neg_tmod, Int.neg_neg]
      rw [e, Int.tmod_eq_emod_of_nonneg (by omega)]; omega
  refine ⟨((x.tmod 7 + 7).tmod 7).toNat, ?_, ?_⟩
  · rw [IntWalk.wrap64_in _ (by omega), Int.tmod_eq_emod_of_nonneg (by omega)]; omega
  · rw [Int.tmod_eq_emod_of_nonneg (by omega)]; omega

set_option maxHeartbeats 80000000 in
set_option maxRecDepth 100000 in
theorem diskPlays_walk (s : Int) (_ : (Lit.int .i64 s).wf = true) (ad : Option Addr) (l : List DOp) (cap : Nat) (w : World) (hl : l.length ≤ maxLen) (hD : DOps w ad l) :
    Calls Try.prog 3 #[.int .i64 s, .slice ad l.length cap] w (RetB w (.bool true)) := by
  have hl63 : l.length ≤ 9223372036854775807 := hl
  by_cases hs : 0 ≤ s ∧ s ≤ 4096
  case neg =>
    have h1 := fun w => diskNew_none s w hs
    have h2 := fun w => refNew_none s w hs
    have HD := Lib.hid hD
    clear hD hs
    go_enter Try.func3, Try.ntmps3
    go_upto_region 5 with (first | (go_at_call 12; (with_reducible refine (h1 _).mono ?_); rintro e w9 ⟨rfl, hb9⟩) | (go_at_call 13; (with_reducible refine (h2 _).mono ?_); rintro e w9 ⟨rfl, hb9⟩))
    obtain ⟨x, hx⟩ : ∃ x : World, x = w := ⟨w, rfl⟩
    clear h1 h2 hx
    have hO : Old w w9 := by
      repeat (first | assumption | exact old_then (by assumption) (by assumption))
    generalize w9 = W9 at *
    go_wp2
    go_loopw [9, 10, 11, 12, 13, 14, 15, 16, 17, 18, 19, 20, 21, 22, 23, 24, 25, 26, 27, 28] (fun i _ _ _ _ _ _ _ _ _ _ _ _ _ _ _ _ _ _ _ wr => i = .int .i64 0 ∧ Old w wr) (fun _ _ _ _ _ _ _ _ _ _ _ _ _ _ _ _ _ _ _ _ _ => 0)
    case atStart => exact ⟨rfl, hO⟩
    case round =>
    clear hO
    obtain ⟨rfl, hO⟩ := hrel
    by_cases h0 : l.length = 0
    · rw [h0]
      go_wp2_with ((go_at_call 28; (with_reducible refine (diskTold_calls _).mono ?_); rintro e w9 ⟨rfl, hb9⟩))
      go_ret
      exact ⟨rfl, old_then hO hb9⟩
    · have h1 : 0 < l.length := by omega
      go_wp2_with ((go_at_call 28; (with_reducible refine (diskTold_calls _).mono ?_); rintro e w9 ⟨rfl, hb9⟩))
      go_ret
      exact ⟨rfl, old_then hO hb9⟩
  case pos =>
  obtain ⟨n, rfl⟩ : ∃ n : Nat, s = n := ⟨s.toNat, by omega⟩
  have hn : n ≤ 4096 := by omega
  have h1 := fun w => diskNew_calls n w hn
  have h2 := fun w => refNew_calls n w hn
  have HD := Lib.hid hD
  clear hD hs
  go_enter Try.func3, Try.ntmps3
  go_wp2_with fail
  (with_reducible refine (h1 _).mono ?_)
  rintro e x ⟨rfl, hO1, -, hd⟩
  go_wp2_with fail
  (with_reducible refine (h2 _).mono ?_)
  rintro e y ⟨q, rfl, hO2, hr⟩
  have HB := Lib.hid (both_new hO1 hd hr hO2)
  clear hO1 hd hr hO2 h1 h2
  go_wp2_with fail
  generalize w.heap.size + 1 = p at *
  generalize y = Y0 at *
  go_loopw [9, 10, 11, 12, 13, 14, 15, 16, 17, 18, 19, 20, 21, 22, 23, 24, 25, 26, 27, 28] (fun i _ _ _ _ _ _ _ _ _ _ _ _ _ _ _ _ _ _ _ wr => ∃ (k : Nat) (pg : Int → Option (List Nat)) (F : List Bool) (T R : Nat → Prop), i = .int .i64 k ∧ k ≤ l.length ∧ k ≤ 60 ∧ Both n p q w T R (fun b => b < w.heap.size) pg F pg F wr) (fun i _ _ _ _ _ _ _ _ _ _ _ _ _ _ _ _ _ _ _ _ => (61 - intOf i).toNat)
  case atStart => exact ⟨0, _, _, _, _, rfl, by omega, by omega, HB.out⟩
  case round =>
  clear HB
  obtain ⟨k, pg, F, T, R, rfl, hk, hk60, hB⟩ := hrel
  by_cases hkl : k < l.length ∧ k < 60
  case neg =>
    have HBk := Lib.hid hB.ho
    clear hB
    by_cases a1 : k < l.length
    · have a2 : k = 60 := by omega
      have a3 : ¬ ((k : Int) < 60) := by omega
      clear hkl a2
      go_wp2_with ((go_at_call 28; (with_reducible refine (diskTold_calls _).mono ?_); rintro e w9 ⟨rfl, hb9⟩))
      go_ret
      exact ⟨rfl, old_then HBk.out hb9⟩
    · clear hkl
      go_wp2_with ((go_at_call 28; (with_reducible refine (diskTold_calls _).mono ?_); rintro e w9 ⟨rfl, hb9⟩))
      go_ret
      exact ⟨rfl, old_then HBk.out hb9⟩
  case pos =>
  obtain ⟨a1, a2⟩ := hkl
  obtain ⟨o, hol⟩ : ∃ o, l[k]? = some o := ⟨_, List.getElem?_eq_getElem a1⟩
  have HKW := Lib.hid ((HD.out k o hol).1)
  obtain ⟨hok, b, off, rfl, hbl, hc⟩ := dops_old HD.out hB.ho k o hol
  have c0 : wr.cell? ⟨b, off + k * 6, none⟩ = some (.int .i64 o.kind) := hc 0 _ rfl
  have c1 : wr.cell? ⟨b, off + k * 6 + 1, none⟩ = some (.int .i64 o.slot) := hc 1 _ rfl
  have c2 : wr.cell? ⟨b, off + k * 6 + 2, none⟩ = some (.slice o.aad o.at_.length o.aca) := hc 2 _ rfl
  have c3 : wr.cell? ⟨b, off + k * 6 + 3, none⟩ = some (.slice o.bad o.bs.length o.bca) := hc 3 _ rfl
  have c4 : wr.cell? ⟨b, off + k * 6 + 4, none⟩ = some (.slice o.fad o.fs.length o.fca) := hc 4 _ rfl
  have c5 : wr.cell? ⟨b, off + k * 6 + 5, none⟩ = some (.bool o.other) := hc 5 _ rfl
  have HK := Lib.hid hok
  have HB := Lib.hid hB
  clear hc hok hB hol hbl
  go_upto_region 10 with (fail)
  have hB := both_grow HB.out (old_alloc (old_refl wr) (.cells #[.int .i64 o.kind, .int .i64 o.slot, .slice o.aad o.at_.length o.aca, .slice o.bad o.bs.length o.bca, .slice o.fad o.fs.length o.fca, .bool o.other] 34))
  have h10 : (wr.alloc (.cells #[.int .i64 o.kind, .int .i64 o.slot, .slice o.aad o.at_.length o.aca, .slice o.bad o.bs.length o.bca, .slice o.fad o.fs.length o.fca, .bool o.other] 34)).heap[wr.heap.size]? = some (.cells #[.int .i64 o.kind, .int .i64 o.slot, .slice o.aad o.at_.length o.aca, .slice o.bad o.bs.length o.bca, .slice o.fad o.fs.length o.fca, .bool o.other] 34) := new_block _ _
  generalize wr.alloc (.cells #[.int .i64 o.kind, .int .i64 o.slot, .slice o.aad o.at_.length o.aca, .slice o.bad o.bs.length o.bca, .slice o.fad o.fs.length o.fca, .bool o.other] 34) = x at *
  generalize hK2 : (fun b => b < w.heap.size ∨ (wr.heap.size ≤ b ∧ b < x.heap.size)) = K at *
  have hKw : ∀ b, b < w.heap.size → K b := fun b hb => by rw [← hK2]; exact .inl hb
  have hK10 : K wr.heap.size := by rw [← hK2]; exact .inr ⟨Nat.le_refl _, lt_of_block h10⟩
  generalize (fun b => T b ∨ (wr.heap.size ≤ b ∧ b < x.heap.size)) = T2 at *
  generalize wr.heap.size = b10 at *
  clear c0 c1 c2 c3 c4 c5 hK2 HB
  obtain ⟨kd, hkd, hkd7⟩ := kind7 o.kind
  obtain ⟨q1, q2, q3⟩ := of_block h10
  have HKw := Lib.hid hKw
  have HK10 := Lib.hid hK10
  have H10 := Lib.hid h10
  clear hKw hK10 h10
  obtain rfl | rfl | rfl | rfl | rfl | rfl | rfl : kd = 0 ∨ kd = 1 ∨ kd = 2 ∨ kd = 3 ∨ kd = 4 ∨ kd = 5 ∨ kd = 6 := by omega
  · as_aux_lemma =>
    clear hkd7
    obtain ⟨ra, rb, pg1, hP, hR⟩ := step_take n p q w pg F
    have hP := hP _ _ _ _ _ _ hB
    clear hB
    go_wp2_with fail
    (with_reducible refine hP.mono ?_)
    rintro e y ⟨rfl, hB, hO⟩
    have hR := hR _ _ _ _ _ _ hB
    clear hP hB
    go_wp2_with fail
    (with_reducible refine hR.mono ?_)
    rintro e z ⟨rfl, ⟨T3, R3, hB⟩, hO2⟩
    clear hR
    obtain ⟨fa, fc, hS⟩ := bothS_of hB
    clear hB
    have HS := Lib.hid hS
    clear hS
    go_wp2_with fail
    refine wp_region_walked (S := BothS n p q w K pg1 F fa fc) (by kernel_rfl) (by kernel_rfl) (bothS_old HS.out (old_drew (old_refl _))) ?_
    repeat (apply walked_cons; (first | exact gives_and rfl rfl rfl rfl | exact gives_or rfl rfl rfl rfl | (focus (intro wS hS; obtain ⟨⟨T9, R9, hB9⟩, cq⟩ := id hS; go_wp2_with ((first | ((go_at_call 25); (with_reducible refine (free_calls _ p n pg1 F _ hB9.hd).mono ?_); rintro e w9 ⟨rfl, hb9⟩) | ((go_at_call 26); (with_reducible refine (refFree_calls _ q n pg1 F _ hB9.hr).mono ?_); rintro e w9 ⟨rfl, hb9⟩) | ((go_at_call 27); (with_reducible refine (left_calls _ p n pg1 F _ hB9.hd).mono ?_); rintro e w9 ⟨rfl, hb9⟩))); ((first | exact ⟨rfl, rfl, hS⟩ | exact ⟨rfl, rfl, bothS_old hS hb9⟩)); done)) | (focus (apply gives_guard; (focus (first | exact wanted_yes rfl rfl rfl | exact wanted_no rfl rfl rfl | exact wanted_yes2 rfl rfl rfl | exact wanted_no2 rfl rfl rfl)); (focus (intro hx9; (try simp only [Bool.not_eq_true', Bool.and_eq_true, Bool.not_not] at hx9); (try obtain ⟨hx9, hy9⟩ := hx9); (try subst hy9); (try subst hx9); (first | exact gives_and rfl rfl rfl rfl | exact gives_or rfl rfl rfl rfl | (intro wS hS; obtain ⟨⟨T9, R9, hB9⟩, cq⟩ := id hS; go_wp2_with ((first | ((go_at_call 25); (with_reducible refine (free_calls _ p n pg1 F _ hB9.hd).mono ?_); rintro e w9 ⟨rfl, hb9⟩) | ((go_at_call 26); (with_reducible refine (refFree_calls _ q n pg1 F _ hB9.hr).mono ?_); rintro e w9 ⟨rfl, hb9⟩) | ((go_at_call 27); (with_reducible refine (left_calls _ p n pg1 F _ hB9.hd).mono ?_); rintro e w9 ⟨rfl, hb9⟩))); ((first | exact ⟨rfl, rfl, hS⟩ | exact ⟨rfl, rfl, bothS_old hS hb9⟩)); done))))))); rfl; (try simp only [Act.put, List.setIfInBounds_toArray, List.set_cons_succ, List.set_cons_zero]))
    apply walked_nil
    intro wS hS
    obtain ⟨⟨T9, R9, hB9⟩, cq⟩ := hS
    have HB9 := Lib.hid hB9
    clear hB9 cq
    go_wp2_with fail
    go_roundw
    case rel => exact ⟨k + 1, _, _, _, _, by go_num, by omega, by omega, both_less HB9.out HKw.out (fun b hb => hb)⟩
    case measure => (simp [intOf]) <;> omega
  · as_aux_lemma =>
    clear hkd7
    obtain ⟨ra, pg1, hP, hR⟩ := step_give n p q w pg F o.slot
    have HBx := Lib.hid hB
    clear hB
    go_wp2_with fail
    refine wp_region_met (S := TwoCalls 3 7 (fun x => (∃ T R, Both n p q w T R K pg F pg F x) ∧ x.heap[b10]? = some (.cells #[.int .i64 o.kind, .int .i64 o.slot, .slice o.aad o.at_.length o.aca, .slice o.bad o.bs.length o.bca, .slice o.fad o.fs.length o.fca, .bool o.other] 34)) (fun x => (∃ T R, Both n p q w T R K pg1 F pg F x) ∧ x.heap[b10]? = some (.cells #[.int .i64 o.kind, .int .i64 o.slot, .slice o.aad o.at_.length o.aca, .slice o.bad o.bs.length o.bca, .slice o.fad o.fs.length o.fca, .bool o.other] 34)) (fun x => (∃ T R, Both n p q w T R K pg1 F pg1 F x) ∧ x.heap[b10]? = some (.cells #[.int .i64 o.kind, .int .i64 o.slot, .slice o.aad o.at_.length o.aca, .slice o.bad o.bs.length o.bca, .slice o.fad o.fs.length o.fca, .bool o.other] 34))) 8 (by kernel_rfl) (by kernel_rfl) (by kernel_rfl) (by decide) (two_start _ ⟨⟨_, _, both_old HBx.out (old_drew (old_refl _))⟩, H10.out⟩) ?_
    (apply walkedM_cons; (focus (intro l9 wS hz hn hm hS; have hS9 := two_other 0 (by decide) (by decide) hS; have h10 := two_any (P := fun x => x.heap[b10]? = some (.cells #[.int .i64 o.kind, .int .i64 o.slot, .slice o.aad o.at_.length o.aca, .slice o.bad o.bs.length o.bca, .slice o.fad o.fs.length o.fca, .bool o.other] 34)) hS (fun h => h.2) (fun h => h.2) (fun h => h.2); obtain ⟨q1, q2, q3⟩ := of_block h10; clear hS h10; go_wp2; exact ⟨rfl, rfl, hS9⟩)); rfl; (try simp only [Act.put, List.setIfInBounds_toArray, List.set_cons_succ, List.set_cons_zero]))
    (apply walkedM_cons; (focus (intro l9 wS hz hn hm hS; have hS9 := two_other 1 (by decide) (by decide) hS; have h10 := two_any (P := fun x => x.heap[b10]? = some (.cells #[.int .i64 o.kind, .int .i64 o.slot, .slice o.aad o.at_.length o.aca, .slice o.bad o.bs.length o.bca, .slice o.fad o.fs.length o.fca, .bool o.other] 34)) hS (fun h => h.2) (fun h => h.2) (fun h => h.2); obtain ⟨q1, q2, q3⟩ := of_block h10; clear hS h10; go_wp2; exact ⟨rfl, rfl, hS9⟩)); rfl; (try simp only [Act.put, List.setIfInBounds_toArray, List.set_cons_succ, List.set_cons_zero]))
    (apply walkedM_cons; (focus (intro l9 wS hz hn hm hS; have hS9 := two_other 2 (by decide) (by decide) hS; have h10 := two_any (P := fun x => x.heap[b10]? = some (.cells #[.int .i64 o.kind, .int .i64 o.slot, .slice o.aad o.at_.length o.aca, .slice o.bad o.bs.length o.bca, .slice o.fad o.fs.length o.fca, .bool o.other] 34)) hS (fun h => h.2) (fun h => h.2) (fun h => h.2); obtain ⟨q1, q2, q3⟩ := of_block h10; clear hS h10; go_wp2; exact ⟨rfl, rfl, hS9⟩)); rfl; (try simp only [Act.put, List.setIfInBounds_toArray, List.set_cons_succ, List.set_cons_zero]))
    apply walkedM_cons
    · intro l9 wS hz hn hm hS
      obtain ⟨⟨⟨T9, R9, hA⟩, h10⟩, hnext⟩ := two_first (by decide) (by rw [hz]; decide) hn hS
      have hP := hP _ _ _ _ _ _ hA
      clear hS hA
      go_wp2_with ((go_at_call 16); (with_reducible refine hP.mono ?_); rintro e y ⟨rfl, hB', hO'⟩)
      exact ⟨rfl, rfl, hnext _ ⟨⟨_, _, hB'⟩, keep_only hO' (fun f => f HK10.out) h10⟩⟩
    · rfl
    try simp only [Act.put, List.setIfInBounds_toArray, List.set_cons_succ, List.set_cons_zero]
    (apply walkedM_cons; (focus (intro l9 wS hz hn hm hS; have hS9 := two_other 4 (by decide) (by decide) hS; have h10 := two_any (P := fun x => x.heap[b10]? = some (.cells #[.int .i64 o.kind, .int .i64 o.slot, .slice o.aad o.at_.length o.aca, .slice o.bad o.bs.length o.bca, .slice o.fad o.fs.length o.fca, .bool o.other] 34)) hS (fun h => h.2) (fun h => h.2) (fun h => h.2); obtain ⟨q1, q2, q3⟩ := of_block h10; clear hS h10; go_wp2; exact ⟨rfl, rfl, hS9⟩)); rfl; (try simp only [Act.put, List.setIfInBounds_toArray, List.set_cons_succ, List.set_cons_zero]))
    (apply walkedM_cons; (focus (intro l9 wS hz hn hm hS; have hS9 := two_other 5 (by decide) (by decide) hS; have h10 := two_any (P := fun x => x.heap[b10]? = some (.cells #[.int .i64 o.kind, .int .i64 o.slot, .slice o.aad o.at_.length o.aca, .slice o.bad o.bs.length o.bca, .slice o.fad o.fs.length o.fca, .bool o.other] 34)) hS (fun h => h.2) (fun h => h.2) (fun h => h.2); obtain ⟨q1, q2, q3⟩ := of_block h10; clear hS h10; go_wp2; exact ⟨rfl, rfl, hS9⟩)); rfl; (try simp only [Act.put, List.setIfInBounds_toArray, List.set_cons_succ, List.set_cons_zero]))
    (apply walkedM_cons; (focus (intro l9 wS hz hn hm hS; have hS9 := two_other 6 (by decide) (by decide) hS; have h10 := two_any (P := fun x => x.heap[b10]? = some (.cells #[.int .i64 o.kind, .int .i64 o.slot, .slice o.aad o.at_.length o.aca, .slice o.bad o.bs.length o.bca, .slice o.fad o.fs.length o.fca, .bool o.other] 34)) hS (fun h => h.2) (fun h => h.2) (fun h => h.2); obtain ⟨q1, q2, q3⟩ := of_block h10; clear hS h10; go_wp2; exact ⟨rfl, rfl, hS9⟩)); rfl; (try simp only [Act.put, List.setIfInBounds_toArray, List.set_cons_succ, List.set_cons_zero]))
    apply walkedM_cons
    · intro l9 wS hz hn hm hS
      obtain ⟨⟨⟨T9, R9, hA⟩, h10⟩, hnext⟩ := two_second (by decide) (by rw [hz]; decide) (hm _ rfl ⟨3, .chain⟩ (by simp) rfl) hn hS
      have hR := hR _ _ _ _ _ _ hA
      clear hS hA
      go_wp2_with ((go_at_call 17); (with_reducible refine hR.mono ?_); rintro e y ⟨rfl, hB', hO'⟩)
      exact ⟨rfl, rfl, hnext _ ⟨hB', keep_only hO' (fun f => f HK10.out) h10⟩⟩
    · rfl
    try simp only [Act.put, List.setIfInBounds_toArray, List.set_cons_succ, List.set_cons_zero]
    apply walkedM_nil
    intro l9 z hz hall hS
    obtain ⟨⟨T3, R3, hB⟩, h10⟩ := two_end (hall 7 (by decide)) hS
    clear hS h10 hP hR
    show wpList _ _ _ [_, _] _ _
    obtain ⟨fa, fc, hS⟩ := bothS_of hB
    clear hB
    have HS := Lib.hid hS
    clear hS
    go_wp2_with fail
    refine wp_region_walked (S := BothS n p q w K pg1 F fa fc) (by kernel_rfl) (by kernel_rfl) (bothS_old HS.out (old_drew (old_refl _))) ?_
    repeat (apply walked_cons; (first | exact gives_and rfl rfl rfl rfl | exact gives_or rfl rfl rfl rfl | (focus (intro wS hS; obtain ⟨⟨T9, R9, hB9⟩, cq⟩ := id hS; go_wp2_with ((first | ((go_at_call 25); (with_reducible refine (free_calls _ p n pg1 F _ hB9.hd).mono ?_); rintro e w9 ⟨rfl, hb9⟩) | ((go_at_call 26); (with_reducible refine (refFree_calls _ q n pg1 F _ hB9.hr).mono ?_); rintro e w9 ⟨rfl, hb9⟩) | ((go_at_call 27); (with_reducible refine (left_calls _ p n pg1 F _ hB9.hd).mono ?_); rintro e w9 ⟨rfl, hb9⟩))); ((first | exact ⟨rfl, rfl, hS⟩ | exact ⟨rfl, rfl, bothS_old hS hb9⟩)); done)) | (focus (apply gives_guard; (focus (first | exact wanted_yes rfl rfl rfl | exact wanted_no rfl rfl rfl | exact wanted_yes2 rfl rfl rfl | exact wanted_no2 rfl rfl rfl)); (focus (intro hx9; (try simp only [Bool.not_eq_true', Bool.and_eq_true, Bool.not_not] at hx9); (try obtain ⟨hx9, hy9⟩ := hx9); (try subst hy9); (try subst hx9); (first | exact gives_and rfl rfl rfl rfl | exact gives_or rfl rfl rfl rfl | (intro wS hS; obtain ⟨⟨T9, R9, hB9⟩, cq⟩ := id hS; go_wp2_with ((first | ((go_at_call 25); (with_reducible refine (free_calls _ p n pg1 F _ hB9.hd).mono ?_); rintro e w9 ⟨rfl, hb9⟩) | ((go_at_call 26); (with_reducible refine (refFree_calls _ q n pg1 F _ hB9.hr).mono ?_); rintro e w9 ⟨rfl, hb9⟩) | ((go_at_call 27); (with_reducible refine (left_calls _ p n pg1 F _ hB9.hd).mono ?_); rintro e w9 ⟨rfl, hb9⟩))); ((first | exact ⟨rfl, rfl, hS⟩ | exact ⟨rfl, rfl, bothS_old hS hb9⟩)); done))))))); rfl; (try simp only [Act.put, List.setIfInBounds_toArray, List.set_cons_succ, List.set_cons_zero]))
    apply walked_nil
    intro wS hS
    obtain ⟨⟨T9, R9, hB9⟩, cq⟩ := hS
    have HB9 := Lib.hid hB9
    clear hB9 cq
    go_wp2_with fail
    go_roundw
    case rel => exact ⟨k + 1, _, _, _, _, by go_num, by omega, by omega, both_less HB9.out HKw.out (fun b hb => hb)⟩
    case measure => (simp [intOf]) <;> omega
  · as_aux_lemma =>
    clear hkd7
    have hxw := Lib.hid hB.ho.size
    have hokx : o.ok x := dop_old HKW.out hB.ho
    have hBw := hokx.2.2.2.1
    have hPg := page3_calls o.aad o.at_ o.aca o.bad o.bs o.bca x hokx.2.2.1 hokx.2.2.2.1
    have HBx := Lib.hid hB
    have hbw : ∀ bb off, o.bs ≠ [] → o.bad = some ⟨bb, off, none⟩ → bb < w.heap.size := by
      intro bb off hne e
      obtain ⟨a, ha⟩ : ∃ a, o.bs[0]? = some a := by
        cases hh : o.bs with
        | nil => exact absurd hh hne
        | cons a l => exact ⟨a, rfl⟩
      obtain ⟨_, b2, o2, e2, hlt, _⟩ := HKW.out.2.2.2.1.2.2.2 0 a ha
      rw [e] at e2
      cases e2
      exact hlt
    have HBW := Lib.hid hbw
    have HOX := Lib.hid hokx
    clear hB hokx hBw hbw
    go_wp2_with fail
    (with_reducible refine hPg.mono ?_)
    rintro e y ⟨gp, cp, rfl, hrow, hO⟩
    have hB := both_grow HBx.out hO
    have h10 := keep_old hO H10.out
    generalize hK3 : (fun b => K b ∨ (x.heap.size ≤ b ∧ b < y.heap.size)) = K3 at *
    have hKK : ∀ b, K b → K3 b := by intro b hb; rw [← hK3]; exact .inl hb
    have hgp : K3 gp ∧ gp < y.heap.size := by
      have hp := row_parts hrow
      exact ⟨by rw [← hK3]; exact .inr ⟨hp.1, hp.2.1⟩, hp.2.1⟩
    have hxy := Lib.hid hO.size
    have hOY := Lib.hid hO
    have HKK := Lib.hid hKK
    have HB := Lib.hid hB
    have HR0 := Lib.hid hrow
    have HGP := Lib.hid hgp
    have HL0 := Lib.hid (pageN_length o.at_ o.bs (fewN o.at_ o.bs))
    generalize (fun b => T2 b ∨ (x.heap.size ≤ b ∧ b < y.heap.size)) = T3 at *
    generalize pageN o.at_ o.bs (fewN o.at_ o.bs) = L0 at *
    clear hPg hK3 hKK hgp hB hO hrow HBx q1 q2 q3
    have HC0 : Hid (∃ (ad2 : Option Addr) (c2 : Nat) (L : List Nat), Bytes y ad2 c2 L ∧ L.length ≤ 4096 ∧ (∀ bb off, ad2 = some ⟨bb, off, none⟩ → L ≠ [] → K3 bb ∧ bb < y.heap.size) ∧ Value.slice (some ⟨gp, 0, none⟩) 4096 cp = .slice ad2 L.length c2) :=
      Lib.hid ⟨_, _, L0, row_bytes HR0.out, Nat.le_of_eq HL0.out, fun bb off e _ => by cases e; exact HGP.out, by rw [HL0.out]⟩
    have HC1 : Hid (∀ n0, n0 ≤ o.bs.length → n0 ≤ 100 → ∃ (ad2 : Option Addr) (c2 : Nat) (L : List Nat), Bytes y ad2 c2 L ∧ L.length ≤ 4096 ∧ (∀ bb off, ad2 = some ⟨bb, off, none⟩ → L ≠ [] → K3 bb ∧ bb < y.heap.size) ∧ Value.slice o.bad n0 o.bca = .slice ad2 L.length c2) := by
      refine Lib.hid (fun n0 h1 h2 => ⟨_, _, o.bs.take n0, bytes_cut (bytes_old HOX.out.2.2.2.1 hOY.out) n0, by rw [List.length_take]; omega, fun bb off e hne => ?_, by rw [List.length_take, Nat.min_eq_left h1]⟩)
      have hlt := HBW.out bb off (fun e => hne (by rw [e]; simp)) e
      exact ⟨HKK.out _ (HKw.out _ hlt), by have := hxw.out; have := hxy.out; omega⟩
    have hb63 : o.bs.length ≤ 9223372036854775807 := Nat.le_trans HOX.out.2.2.2.1.1 HOX.out.2.2.2.1.2.1
    have hbc : o.bs.length ≤ o.bca := HOX.out.2.2.2.1.1
    have H10y := Lib.hid h10
    obtain ⟨oth, hoth⟩ : ∃ b, o.other = b := ⟨_, rfl⟩
    rw [hoth] at h10
    obtain ⟨q1, q2, q3⟩ := of_block h10
    have HOT := Lib.hid hoth
    clear h10 hoth
    go_upto_if 136 with (fail)
    go_cut [19] (fun s19 wx => (∃ (ad2 : Option Addr) (c2 : Nat) (L : List Nat), Bytes y ad2 c2 L ∧ L.length ≤ 4096 ∧ (∀ bb off, ad2 = some ⟨bb, off, none⟩ → L ≠ [] → K3 bb ∧ bb < y.heap.size) ∧ s19 = .slice ad2 L.length c2) ∧ wx = y)
    case first =>
      cases oth with
      | false =>
        go_wp2
        go_meet
        case rel => exact ⟨HC0.out, rfl⟩
      | true =>
        by_cases h100 : o.bs.length ≤ 100
        · have hI : (o.bs.length : Int) ≤ 100 := by omega
          have hsl := slice_cut_any y o.bad o.bs.length o.bca o.bs.length hbc
          have HC2 := Lib.hid (HC1.out o.bs.length (Nat.le_refl _) h100)
          go_wp2
          go_meet
          case rel => exact ⟨HC2.out, rfl⟩
        · have hI : (100 : Int) < o.bs.length := by omega
          have hsl : (Instr.slice 31 (.slice o.bad o.bs.length o.bca) none (some (.int .i64 100)) none).run Try.prog y = .ok (.slice o.bad 100 o.bca) y := slice_cut_any y o.bad 100 o.bca o.bs.length (by omega)
          have HC2 := Lib.hid (HC1.out 100 (by omega) (Nat.le_refl _))
          go_wp2
          go_meet
          case rel => exact ⟨HC2.out, rfl⟩
    case rest =>
    obtain ⟨⟨ad2, c2, L, hBL, hL, hadr, rfl⟩, rfl⟩ := hcut
    clear HC0 HC1 HBW HR0 HGP HL0 hb63 hbc q1 q2 q3
    obtain ⟨v1, w2, hrun1, hown1, hO1, hs1⟩ := copy_run 31 wc ad2 c2 L hBL (by omega)
    obtain ⟨g2, cap2, w3, hrun2, hrow2, hO2, hc2, hm2⟩ := mark_run 31 hown1 rfl hO1 hs1 (by omega) (bytes_lt hBL)
    have hsl := slice_cut w3 g2 L.length cap2 (L.length + 1) (by omega)
    have hB := both_grow HB.out hO2
    have h10 := keep_old hO2 H10y.out
    have hp2 := row_parts hrow2
    generalize hK4 : (fun b => K3 b ∨ (wc.heap.size ≤ b ∧ b < w3.heap.size)) = K4 at *
    have hKK4 : ∀ b, K3 b → K4 b := by intro b hb; rw [← hK4]; exact .inl hb
    have hg2 : K4 g2 := by rw [← hK4]; exact .inr ⟨hp2.1, hp2.2.1⟩
    have hB3 := bytes_old hBL hO2
    have hBi : Bytes w3 (some ⟨g2, 0, none⟩) cap2 L := by
      have := bytes_cut (row_bytes hrow2) L.length
      rwa [List.take_left] at this
    obtain ⟨ra, pg1, F1, hP, hR⟩ := step_write n p q w pg F o.slot L (by unfold maxLen; omega)
    generalize (fun b => T3 b ∨ (wc.heap.size ≤ b ∧ b < w3.heap.size)) = T4 at *
    have hL63 : L.length ≤ 9223372036854775807 := by omega
    have hcap63 : cap2 ≤ 9223372036854775807 := hm2
    have HA := Lib.hid hadr
    have HRow := Lib.hid hrow2
    have HKK4 := Lib.hid hKK4
    have HG2 := Lib.hid hg2
    have HP2 := Lib.hid hp2
    have H3 := Lib.hid (And.intro hB (And.intro hB3 hBi))
    have H10z := Lib.hid h10
    have HwP := Lib.hid hP
    have HwR := Lib.hid hR
    clear hadr hrow2 hKK4 hg2 hp2 hB hB3 hBi h10 hP hR hK4 hown1 hO1 hs1 hO2 hBL
    go_wp2_with (first | (at_builtin; refine wpList_append_run rfl _ _ 31 rfl _ _ rfl rfl _ _ hrun1 ?_; clear hrun1) | (at_builtin; refine wpList_append_run rfl _ _ 31 rfl _ _ rfl rfl _ _ hrun2 ?_; clear hrun2))
    clear hsl
    have HB2 : Hid (∀ (z : World), Bytes w3 ad2 c2 L → Only (fun b => ¬ K4 b) w3 z → Bytes z ad2 c2 L) := Lib.hid (fun z hb ho => by
      by_cases hne : L = []
      · subst hne; exact bytes_nil_addr hb
      · exact bytes_only hb ho (fun bb off e f => f (HKK4.out _ (HA.out bb off e hne).1)))
    have hW0 : Hid (WrS n p q w K4 b10 #[.int .i64 o.kind, .int .i64 o.slot, .slice o.aad o.at_.length o.aca, .slice o.bad o.bs.length o.bca, .slice o.fad o.fs.length o.fca, .bool o.other] wc.heap.size g2 cap2 ad2 c2 L pg F pg F w3) := Lib.hid ⟨⟨_, _, H3.out.1⟩, H10z.out, H3.out.2.1, HRow.out⟩
    have HcP : Hid (∀ z pg' F', WrS n p q w K4 b10 #[.int .i64 o.kind, .int .i64 o.slot, .slice o.aad o.at_.length o.aca, .slice o.bad o.bs.length o.bca, .slice o.fad o.fs.length o.fca, .bool o.other] wc.heap.size g2 cap2 ad2 c2 L pg F pg' F' z → Calls Try.prog 19 #[.pointer (some ⟨p, 0, none⟩), .int .i64 o.slot, .slice (some ⟨g2, 0, none⟩) L.length cap2] z (fun e y => e = .returned (.int .i64 ra) ∧ WrS n p q w K4 b10 #[.int .i64 o.kind, .int .i64 o.slot, .slice o.aad o.at_.length o.aca, .slice o.bad o.bs.length o.bca, .slice o.fad o.fs.length o.fca, .bool o.other] wc.heap.size g2 cap2 ad2 c2 L pg1 F1 pg' F' y)) :=
      Lib.hid (fun z pg' F' h => wrs_P HwP.out h (HKK4.out _ (HKK.out _ HK10.out)) HG2.out (fun bb off e hne => HKK4.out _ (HA.out bb off e hne).1))
    have HcR : Hid (∀ z pg0 F0, WrS n p q w K4 b10 #[.int .i64 o.kind, .int .i64 o.slot, .slice o.aad o.at_.length o.aca, .slice o.bad o.bs.length o.bca, .slice o.fad o.fs.length o.fca, .bool o.other] wc.heap.size g2 cap2 ad2 c2 L pg0 F0 pg F z → Calls Try.prog 20 #[.pointer (some ⟨q, 0, none⟩), .int .i64 o.slot, .slice ad2 L.length c2] z (fun e y => e = .returned (.int .i64 ra) ∧ WrS n p q w K4 b10 #[.int .i64 o.kind, .int .i64 o.slot, .slice o.aad o.at_.length o.aca, .slice o.bad o.bs.length o.bca, .slice o.fad o.fs.length o.fca, .bool o.other] wc.heap.size g2 cap2 ad2 c2 L pg0 F0 pg1 F1 y)) :=
      Lib.hid (fun z pg0 F0 h => wrs_R HwR.out h (HKK4.out _ (HKK.out _ HK10.out)) HG2.out (fun bb off e hne => HKK4.out _ (HA.out bb off e hne).1))
    clear HwP HwR H3 H10z HRow HB2
    refine wp_region_met (S := TwoCalls 4 9 (WrS n p q w K4 b10 #[.int .i64 o.kind, .int .i64 o.slot, .slice o.aad o.at_.length o.aca, .slice o.bad o.bs.length o.bca, .slice o.fad o.fs.length o.fca, .bool o.other] wc.heap.size g2 cap2 ad2 c2 L pg F pg F) (WrS n p q w K4 b10 #[.int .i64 o.kind, .int .i64 o.slot, .slice o.aad o.at_.length o.aca, .slice o.bad o.bs.length o.bca, .slice o.fad o.fs.length o.fca, .bool o.other] wc.heap.size g2 cap2 ad2 c2 L pg1 F1 pg F) (WrS n p q w K4 b10 #[.int .i64 o.kind, .int .i64 o.slot, .slice o.aad o.at_.length o.aca, .slice o.bad o.bs.length o.bca, .slice o.fad o.fs.length o.fca, .bool o.other] wc.heap.size g2 cap2 ad2 c2 L pg1 F1 pg1 F1)) 10 (by kernel_rfl) (by kernel_rfl) (by kernel_rfl) (by decide) (two_start _ (wrs_old hW0.out (old_drew (old_refl _)))) ?_
    (apply walkedM_cons; (focus (intro l9 wS hz hn hm hS; have hS9 := two_other 0 (by decide) (by decide) hS; have h10 := two_any (P := fun x => x.heap[b10]? = some (.cells #[.int .i64 o.kind, .int .i64 o.slot, .slice o.aad o.at_.length o.aca, .slice o.bad o.bs.length o.bca, .slice o.fad o.fs.length o.fca, .bool o.other] 34)) hS (fun h => h.2.1) (fun h => h.2.1) (fun h => h.2.1); obtain ⟨q1, q2, q3⟩ := of_block h10; clear hS h10; go_wp2; exact ⟨rfl, rfl, hS9⟩)); rfl; (try simp only [Act.put, List.setIfInBounds_toArray, List.set_cons_succ, List.set_cons_zero]))
    (apply walkedM_cons; (focus (intro l9 wS hz hn hm hS; have hS9 := two_other 1 (by decide) (by decide) hS; have h10 := two_any (P := fun x => x.heap[b10]? = some (.cells #[.int .i64 o.kind, .int .i64 o.slot, .slice o.aad o.at_.length o.aca, .slice o.bad o.bs.length o.bca, .slice o.fad o.fs.length o.fca, .bool o.other] 34)) hS (fun h => h.2.1) (fun h => h.2.1) (fun h => h.2.1); obtain ⟨q1, q2, q3⟩ := of_block h10; clear hS h10; go_wp2; exact ⟨rfl, rfl, hS9⟩)); rfl; (try simp only [Act.put, List.setIfInBounds_toArray, List.set_cons_succ, List.set_cons_zero]))
    (apply walkedM_cons; (focus (intro l9 wS hz hn hm hS; have hS9 := two_other 2 (by decide) (by decide) hS; have h10 := two_any (P := fun x => x.heap[b10]? = some (.cells #[.int .i64 o.kind, .int .i64 o.slot, .slice o.aad o.at_.length o.aca, .slice o.bad o.bs.length o.bca, .slice o.fad o.fs.length o.fca, .bool o.other] 34)) hS (fun h => h.2.1) (fun h => h.2.1) (fun h => h.2.1); obtain ⟨q1, q2, q3⟩ := of_block h10; clear hS h10; go_wp2; exact ⟨rfl, rfl, hS9⟩)); rfl; (try simp only [Act.put, List.setIfInBounds_toArray, List.set_cons_succ, List.set_cons_zero]))
    (apply walkedM_cons; (focus (intro l9 wS hz hn hm hS; have hS9 := two_other 3 (by decide) (by decide) hS; have h10 := two_any (P := fun x => x.heap[b10]? = some (.cells #[.int .i64 o.kind, .int .i64 o.slot, .slice o.aad o.at_.length o.aca, .slice o.bad o.bs.length o.bca, .slice o.fad o.fs.length o.fca, .bool o.other] 34)) hS (fun h => h.2.1) (fun h => h.2.1) (fun h => h.2.1); obtain ⟨q1, q2, q3⟩ := of_block h10; clear hS h10; go_wp2; exact ⟨rfl, rfl, hS9⟩)); rfl; (try simp only [Act.put, List.setIfInBounds_toArray, List.set_cons_succ, List.set_cons_zero]))
    apply walkedM_cons
    · intro l9 wS hz hn hm hS
      obtain ⟨hA, hnext⟩ := two_first (by decide) (by rw [hz]; decide) hn hS
      have hc := HcP.out _ _ _ hA
      clear hS hA
      go_wp2_with ((go_at_call 19); (with_reducible refine hc.mono ?_); rintro e y ⟨rfl, hB'⟩)
      exact ⟨rfl, rfl, hnext _ hB'⟩
    · rfl
    try simp only [Act.put, List.setIfInBounds_toArray, List.set_cons_succ, List.set_cons_zero]
    (apply walkedM_cons; (focus (intro l9 wS hz hn hm hS; have hS9 := two_other 5 (by decide) (by decide) hS; have h10 := two_any (P := fun x => x.heap[b10]? = some (.cells #[.int .i64 o.kind, .int .i64 o.slot, .slice o.aad o.at_.length o.aca, .slice o.bad o.bs.length o.bca, .slice o.fad o.fs.length o.fca, .bool o.other] 34)) hS (fun h => h.2.1) (fun h => h.2.1) (fun h => h.2.1); obtain ⟨q1, q2, q3⟩ := of_block h10; clear hS h10; go_wp2; exact ⟨rfl, rfl, hS9⟩)); rfl; (try simp only [Act.put, List.setIfInBounds_toArray, List.set_cons_succ, List.set_cons_zero]))
    (apply walkedM_cons; (focus (intro l9 wS hz hn hm hS; have hS9 := two_other 6 (by decide) (by decide) hS; have h10 := two_any (P := fun x => x.heap[b10]? = some (.cells #[.int .i64 o.kind, .int .i64 o.slot, .slice o.aad o.at_.length o.aca, .slice o.bad o.bs.length o.bca, .slice o.fad o.fs.length o.fca, .bool o.other] 34)) hS (fun h => h.2.1) (fun h => h.2.1) (fun h => h.2.1); obtain ⟨q1, q2, q3⟩ := of_block h10; clear hS h10; go_wp2; exact ⟨rfl, rfl, hS9⟩)); rfl; (try simp only [Act.put, List.setIfInBounds_toArray, List.set_cons_succ, List.set_cons_zero]))
    (apply walkedM_cons; (focus (intro l9 wS hz hn hm hS; have hS9 := two_other 7 (by decide) (by decide) hS; have h10 := two_any (P := fun x => x.heap[b10]? = some (.cells #[.int .i64 o.kind, .int .i64 o.slot, .slice o.aad o.at_.length o.aca, .slice o.bad o.bs.length o.bca, .slice o.fad o.fs.length o.fca, .bool o.other] 34)) hS (fun h => h.2.1) (fun h => h.2.1) (fun h => h.2.1); obtain ⟨q1, q2, q3⟩ := of_block h10; clear hS h10; go_wp2; exact ⟨rfl, rfl, hS9⟩)); rfl; (try simp only [Act.put, List.setIfInBounds_toArray, List.set_cons_succ, List.set_cons_zero]))
    (apply walkedM_cons; (focus (intro l9 wS hz hn hm hS; have hS9 := two_other 8 (by decide) (by decide) hS; have h10 := two_any (P := fun x => x.heap[b10]? = some (.cells #[.int .i64 o.kind, .int .i64 o.slot, .slice o.aad o.at_.length o.aca, .slice o.bad o.bs.length o.bca, .slice o.fad o.fs.length o.fca, .bool o.other] 34)) hS (fun h => h.2.1) (fun h => h.2.1) (fun h => h.2.1); obtain ⟨q1, q2, q3⟩ := of_block h10; clear hS h10; go_wp2; exact ⟨rfl, rfl, hS9⟩)); rfl; (try simp only [Act.put, List.setIfInBounds_toArray, List.set_cons_succ, List.set_cons_zero]))
    apply walkedM_cons
    · intro l9 wS hz hn hm hS
      obtain ⟨hA, hnext⟩ := two_second (by decide) (by rw [hz]; decide) (hm _ rfl ⟨4, .chain⟩ (by simp) rfl) hn hS
      have hc := HcR.out _ _ _ hA
      clear hS hA
      go_wp2_with ((go_at_call 20); (with_reducible refine hc.mono ?_); rintro e y ⟨rfl, hB'⟩)
      exact ⟨rfl, rfl, hnext _ hB'⟩
    · rfl
    try simp only [Act.put, List.setIfInBounds_toArray, List.set_cons_succ, List.set_cons_zero]
    apply walkedM_nil
    intro l9 z hz hall hS
    have HZ := Lib.hid (two_end (hall 9 (by decide)) hS)
    clear hS HcP HcR hW0 hall hz
    show wpList _ _ _ [_, _] _ _
    go_wp2
    go_loopw [21] (fun i wr => ∃ (m : Nat) (M : List Nat), i = .int .i64 m ∧ m ≤ L.length ∧ WrM n p q w K4 wc.heap.size g2 cap2 ad2 c2 L pg1 F1 m M wr) (fun i _ => (L.length + 1 - intOf i).toNat)
    case atStart => exact ⟨0, _, rfl, by omega, wrm_of HZ.out⟩
    case round =>
    clear HZ
    obtain ⟨m, M, rfl, hm, hW⟩ := hrel
    by_cases hml : m < L.length
    · obtain ⟨u, bb, off, hu, hu256, rfl, hbb, cB⟩ := bytes_at hW.2.1 m hml
      have cM : wr.cell? ⟨g2, m, none⟩ = some (.int .u8 u) := row_cell hW.2.2.1 ((hW.2.2.2.2 m (Nat.le_refl _) hml).trans hu)
      have fM := row_frozen hW.2.2.1 m
      have hnext := wrm_step hW hml HG2.out (Nat.le_trans hxw.out (Nat.le_trans hxy.out HP2.out.1)) (fun bb off e => by
        have hlt := (HA.out bb off e (by rintro rfl; simp at hml)).2
        have := HP2.out.1
        omega)
      have HN := Lib.hid hnext
      have hbne : ((u : Int) != (u : Int)) = false := by simp
      clear hnext hW hu hbb
      go_wp2_with fail
      refine wp_region_walked (S := Is wr.drew) (by kernel_rfl) (by kernel_rfl) rfl ?_
      repeat (apply walked_cons; (first | exact gives_and rfl rfl rfl rfl | exact gives_or rfl rfl rfl rfl | (focus (intro wS hS; cases hS; go_wp2; exact ⟨rfl, rfl, rfl⟩; done)) | (focus (apply gives_guard; (focus (first | exact wanted_yes rfl rfl rfl | exact wanted_no rfl rfl rfl | exact wanted_yes2 rfl rfl rfl | exact wanted_no2 rfl rfl rfl)); (focus (intro hx9; (try simp only [Bool.not_eq_true', Bool.and_eq_true, Bool.not_not] at hx9); (try obtain ⟨hx9, hy9⟩ := hx9); (try subst hy9); (try subst hx9); (first | exact gives_and rfl rfl rfl rfl | exact gives_or rfl rfl rfl rfl | (intro wS hS; cases hS; go_wp2; exact ⟨rfl, rfl, rfl⟩; done))))))); rfl; (try simp only [Act.put, List.setIfInBounds_toArray, List.set_cons_succ, List.set_cons_zero]))
      apply walked_nil
      intro wS hS
      cases hS
      go_wp2
      go_roundw
      case rel => exact ⟨m + 1, _, by go_num, by omega, wrm_drew HN.out⟩
      case measure => (simp [intOf]) <;> omega
    · obtain rfl : m = L.length := by omega
      obtain ⟨T9, R9, hBk⟩ := hW.1
      have HBk := Lib.hid hBk
      clear hW hBk
      obtain ⟨fa, fc, hS⟩ := bothS_of HBk.out
      have HS := Lib.hid hS
      clear hS
      go_wp2_with fail
      refine wp_region_walked (S := BothS n p q w K4 pg1 F1 fa fc) (by kernel_rfl) (by kernel_rfl) (bothS_old HS.out (old_drew (old_refl _))) ?_
      repeat (apply walked_cons; (first | exact gives_and rfl rfl rfl rfl | exact gives_or rfl rfl rfl rfl | (focus (intro wS hS; obtain ⟨⟨T9, R9, hB9⟩, cq⟩ := id hS; go_wp2_with ((first | ((go_at_call 25); (with_reducible refine (free_calls _ p n pg1 F1 _ hB9.hd).mono ?_); rintro e w9 ⟨rfl, hb9⟩) | ((go_at_call 26); (with_reducible refine (refFree_calls _ q n pg1 F1 _ hB9.hr).mono ?_); rintro e w9 ⟨rfl, hb9⟩) | ((go_at_call 27); (with_reducible refine (left_calls _ p n pg1 F1 _ hB9.hd).mono ?_); rintro e w9 ⟨rfl, hb9⟩))); ((first | exact ⟨rfl, rfl, hS⟩ | exact ⟨rfl, rfl, bothS_old hS hb9⟩)); done)) | (focus (apply gives_guard; (focus (first | exact wanted_yes rfl rfl rfl | exact wanted_no rfl rfl rfl | exact wanted_yes2 rfl rfl rfl | exact wanted_no2 rfl rfl rfl)); (focus (intro hx9; (try simp only [Bool.not_eq_true', Bool.and_eq_true, Bool.not_not] at hx9); (try obtain ⟨hx9, hy9⟩ := hx9); (try subst hy9); (try subst hx9); (first | exact gives_and rfl rfl rfl rfl | exact gives_or rfl rfl rfl rfl | (intro wS hS; obtain ⟨⟨T9, R9, hB9⟩, cq⟩ := id hS; go_wp2_with ((first | ((go_at_call 25); (with_reducible refine (free_calls _ p n pg1 F1 _ hB9.hd).mono ?_); rintro e w9 ⟨rfl, hb9⟩) | ((go_at_call 26); (with_reducible refine (refFree_calls _ q n pg1 F1 _ hB9.hr).mono ?_); rintro e w9 ⟨rfl, hb9⟩) | ((go_at_call 27); (with_reducible refine (left_calls _ p n pg1 F1 _ hB9.hd).mono ?_); rintro e w9 ⟨rfl, hb9⟩))); ((first | exact ⟨rfl, rfl, hS⟩ | exact ⟨rfl, rfl, bothS_old hS hb9⟩)); done))))))); rfl; (try simp only [Act.put, List.setIfInBounds_toArray, List.set_cons_succ, List.set_cons_zero]))
      apply walked_nil
      intro wS hS
      obtain ⟨⟨T9, R9, hB9⟩, cq⟩ := hS
      have HB9 := Lib.hid hB9
      clear hB9 cq
      go_wp2_with fail
      go_roundw
      case rel => exact ⟨k + 1, _, _, _, _, by go_num, by omega, by omega, both_less HB9.out (fun b hb => HKK4.out b (HKK.out b (HKw.out b hb))) (fun b hb => hb)⟩
      case measure => (simp [intOf]) <;> omega
  · as_aux_lemma =>
    clear hkd7
    have hxw := Lib.hid hB.ho.size
    have hokx : o.ok x := dop_old HKW.out hB.ho
    have hBw := hokx.2.2.2.1
    have hPg := page3_calls o.aad o.at_ o.aca o.bad o.bs o.bca x hokx.2.2.1 hokx.2.2.2.1
    have HBx := Lib.hid hB
    have hbw : ∀ bb off, o.bs ≠ [] → o.bad = some ⟨bb, off, none⟩ → bb < w.heap.size := by
      intro bb off hne e
      obtain ⟨a, ha⟩ : ∃ a, o.bs[0]? = some a := by
        cases hh : o.bs with
        | nil => exact absurd hh hne
        | cons a l => exact ⟨a, rfl⟩
      obtain ⟨_, b2, o2, e2, hlt, _⟩ := HKW.out.2.2.2.1.2.2.2 0 a ha
      rw [e] at e2
      cases e2
      exact hlt
    have HBW := Lib.hid hbw
    have HOX := Lib.hid hokx
    clear hB hokx hBw hbw
    go_wp2_with fail
    (with_reducible refine hPg.mono ?_)
    rintro e y ⟨gp, cp, rfl, hrow, hO⟩
    have hB := both_grow HBx.out hO
    have h10 := keep_old hO H10.out
    generalize hK3 : (fun b => K b ∨ (x.heap.size ≤ b ∧ b < y.heap.size)) = K3 at *
    have hKK : ∀ b, K b → K3 b := by intro b hb; rw [← hK3]; exact .inl hb
    have hgp : K3 gp ∧ gp < y.heap.size := by
      have hp := row_parts hrow
      exact ⟨by rw [← hK3]; exact .inr ⟨hp.1, hp.2.1⟩, hp.2.1⟩
    have hxy := Lib.hid hO.size
    have hOY := Lib.hid hO
    have HKK := Lib.hid hKK
    have HB := Lib.hid hB
    have HR0 := Lib.hid hrow
    have HGP := Lib.hid hgp
    have HL0 := Lib.hid (pageN_length o.at_ o.bs (fewN o.at_ o.bs))
    generalize (fun b => T2 b ∨ (x.heap.size ≤ b ∧ b < y.heap.size)) = T3 at *
    generalize pageN o.at_ o.bs (fewN o.at_ o.bs) = L0 at *
    clear hPg hK3 hKK hgp hB hO hrow HBx q1 q2 q3
    have HC0 : Hid (∃ (ad2 : Option Addr) (c2 : Nat) (L : List Nat), Bytes y ad2 c2 L ∧ L.length ≤ 4096 ∧ (∀ bb off, ad2 = some ⟨bb, off, none⟩ → L ≠ [] → K3 bb ∧ bb < y.heap.size) ∧ Value.slice (some ⟨gp, 0, none⟩) 4096 cp = .slice ad2 L.length c2) :=
      Lib.hid ⟨_, _, L0, row_bytes HR0.out, Nat.le_of_eq HL0.out, fun bb off e _ => by cases e; exact HGP.out, by rw [HL0.out]⟩
    have HC1 : Hid (∀ n0, n0 ≤ o.bs.length → n0 ≤ 100 → ∃ (ad2 : Option Addr) (c2 : Nat) (L : List Nat), Bytes y ad2 c2 L ∧ L.length ≤ 4096 ∧ (∀ bb off, ad2 = some ⟨bb, off, none⟩ → L ≠ [] → K3 bb ∧ bb < y.heap.size) ∧ Value.slice o.bad n0 o.bca = .slice ad2 L.length c2) := by
      refine Lib.hid (fun n0 h1 h2 => ⟨_, _, o.bs.take n0, bytes_cut (bytes_old HOX.out.2.2.2.1 hOY.out) n0, by rw [List.length_take]; omega, fun bb off e hne => ?_, by rw [List.length_take, Nat.min_eq_left h1]⟩)
      have hlt := HBW.out bb off (fun e => hne (by rw [e]; simp)) e
      exact ⟨HKK.out _ (HKw.out _ hlt), by have := hxw.out; have := hxy.out; omega⟩
    have hb63 : o.bs.length ≤ 9223372036854775807 := Nat.le_trans HOX.out.2.2.2.1.1 HOX.out.2.2.2.1.2.1
    have hbc : o.bs.length ≤ o.bca := HOX.out.2.2.2.1.1
    have H10y := Lib.hid h10
    obtain ⟨oth, hoth⟩ : ∃ b, o.other = b := ⟨_, rfl⟩
    rw [hoth] at h10
    obtain ⟨q1, q2, q3⟩ := of_block h10
    have HOT := Lib.hid hoth
    clear h10 hoth
    go_upto_if 136 with (fail)
    go_cut [19] (fun s19 wx => (∃ (ad2 : Option Addr) (c2 : Nat) (L : List Nat), Bytes y ad2 c2 L ∧ L.length ≤ 4096 ∧ (∀ bb off, ad2 = some ⟨bb, off, none⟩ → L ≠ [] → K3 bb ∧ bb < y.heap.size) ∧ s19 = .slice ad2 L.length c2) ∧ wx = y)
    case first =>
      cases oth with
      | false =>
        go_wp2
        go_meet
        case rel => exact ⟨HC0.out, rfl⟩
      | true =>
        by_cases h100 : o.bs.length ≤ 100
        · have hI : (o.bs.length : Int) ≤ 100 := by omega
          have hsl := slice_cut_any y o.bad o.bs.length o.bca o.bs.length hbc
          have HC2 := Lib.hid (HC1.out o.bs.length (Nat.le_refl _) h100)
          go_wp2
          go_meet
          case rel => exact ⟨HC2.out, rfl⟩
        · have hI : (100 : Int) < o.bs.length := by omega
          have hsl : (Instr.slice 31 (.slice o.bad o.bs.length o.bca) none (some (.int .i64 100)) none).run Try.prog y = .ok (.slice o.bad 100 o.bca) y := slice_cut_any y o.bad 100 o.bca o.bs.length (by omega)
          have HC2 := Lib.hid (HC1.out 100 (by omega) (Nat.le_refl _))
          go_wp2
          go_meet
          case rel => exact ⟨HC2.out, rfl⟩
    case rest =>
    obtain ⟨⟨ad2, c2, L, hBL, hL, hadr, rfl⟩, rfl⟩ := hcut
    clear HC0 HC1 HBW HR0 HGP HL0 hb63 hbc q1 q2 q3
    obtain ⟨v1, w2, hrun1, hown1, hO1, hs1⟩ := copy_run 31 wc ad2 c2 L hBL (by omega)
    obtain ⟨g2, cap2, w3, hrun2, hrow2, hO2, hc2, hm2⟩ := mark_run 31 hown1 rfl hO1 hs1 (by omega) (bytes_lt hBL)
    have hsl := slice_cut w3 g2 L.length cap2 (L.length + 1) (by omega)
    have hB := both_grow HB.out hO2
    have h10 := keep_old hO2 H10y.out
    have hp2 := row_parts hrow2
    generalize hK4 : (fun b => K3 b ∨ (wc.heap.size ≤ b ∧ b < w3.heap.size)) = K4 at *
    have hKK4 : ∀ b, K3 b → K4 b := by intro b hb; rw [← hK4]; exact .inl hb
    have hg2 : K4 g2 := by rw [← hK4]; exact .inr ⟨hp2.1, hp2.2.1⟩
    have hB3 := bytes_old hBL hO2
    have hBi : Bytes w3 (some ⟨g2, 0, none⟩) cap2 L := by
      have := bytes_cut (row_bytes hrow2) L.length
      rwa [List.take_left] at this
    obtain ⟨ra, pg1, F1, hP, hR⟩ := step_write n p q w pg F o.slot L (by unfold maxLen; omega)
    generalize (fun b => T3 b ∨ (wc.heap.size ≤ b ∧ b < w3.heap.size)) = T4 at *
    have hL63 : L.length ≤ 9223372036854775807 := by omega
    have hcap63 : cap2 ≤ 9223372036854775807 := hm2
    have HA := Lib.hid hadr
    have HRow := Lib.hid hrow2
    have HKK4 := Lib.hid hKK4
    have HG2 := Lib.hid hg2
    have HP2 := Lib.hid hp2
    have H3 := Lib.hid (And.intro hB (And.intro hB3 hBi))
    have H10z := Lib.hid h10
    have HwP := Lib.hid hP
    have HwR := Lib.hid hR
    clear hadr hrow2 hKK4 hg2 hp2 hB hB3 hBi h10 hP hR hK4 hown1 hO1 hs1 hO2 hBL
    go_wp2_with (first | (at_builtin; refine wpList_append_run rfl _ _ 31 rfl _ _ rfl rfl _ _ hrun1 ?_; clear hrun1) | (at_builtin; refine wpList_append_run rfl _ _ 31 rfl _ _ rfl rfl _ _ hrun2 ?_; clear hrun2))
    clear hsl
    have HB2 : Hid (∀ (z : World), Bytes w3 ad2 c2 L → Only (fun b => ¬ K4 b) w3 z → Bytes z ad2 c2 L) := Lib.hid (fun z hb ho => by
      by_cases hne : L = []
      · subst hne; exact bytes_nil_addr hb
      · exact bytes_only hb ho (fun bb off e f => f (HKK4.out _ (HA.out bb off e hne).1)))
    have hW0 : Hid (WrS n p q w K4 b10 #[.int .i64 o.kind, .int .i64 o.slot, .slice o.aad o.at_.length o.aca, .slice o.bad o.bs.length o.bca, .slice o.fad o.fs.length o.fca, .bool o.other] wc.heap.size g2 cap2 ad2 c2 L pg F pg F w3) := Lib.hid ⟨⟨_, _, H3.out.1⟩, H10z.out, H3.out.2.1, HRow.out⟩
    have HcP : Hid (∀ z pg' F', WrS n p q w K4 b10 #[.int .i64 o.kind, .int .i64 o.slot, .slice o.aad o.at_.length o.aca, .slice o.bad o.bs.length o.bca, .slice o.fad o.fs.length o.fca, .bool o.other] wc.heap.size g2 cap2 ad2 c2 L pg F pg' F' z → Calls Try.prog 19 #[.pointer (some ⟨p, 0, none⟩), .int .i64 o.slot, .slice (some ⟨g2, 0, none⟩) L.length cap2] z (fun e y => e = .returned (.int .i64 ra) ∧ WrS n p q w K4 b10 #[.int .i64 o.kind, .int .i64 o.slot, .slice o.aad o.at_.length o.aca, .slice o.bad o.bs.length o.bca, .slice o.fad o.fs.length o.fca, .bool o.other] wc.heap.size g2 cap2 ad2 c2 L pg1 F1 pg' F' y)) :=
      Lib.hid (fun z pg' F' h => wrs_P HwP.out h (HKK4.out _ (HKK.out _ HK10.out)) HG2.out (fun bb off e hne => HKK4.out _ (HA.out bb off e hne).1))
    have HcR : Hid (∀ z pg0 F0, WrS n p q w K4 b10 #[.int .i64 o.kind, .int .i64 o.slot, .slice o.aad o.at_.length o.aca, .slice o.bad o.bs.length o.bca, .slice o.fad o.fs.length o.fca, .bool o.other] wc.heap.size g2 cap2 ad2 c2 L pg0 F0 pg F z → Calls Try.prog 20 #[.pointer (some ⟨q, 0, none⟩), .int .i64 o.slot, .slice ad2 L.length c2] z (fun e y => e = .returned (.int .i64 ra) ∧ WrS n p q w K4 b10 #[.int .i64 o.kind, .int .i64 o.slot, .slice o.aad o.at_.length o.aca, .slice o.bad o.bs.length o.bca, .slice o.fad o.fs.length o.fca, .bool o.other] wc.heap.size g2 cap2 ad2 c2 L pg0 F0 pg1 F1 y)) :=
      Lib.hid (fun z pg0 F0 h => wrs_R HwR.out h (HKK4.out _ (HKK.out _ HK10.out)) HG2.out (fun bb off e hne => HKK4.out _ (HA.out bb off e hne).1))
    clear HwP HwR H3 H10z HRow HB2
    refine wp_region_met (S := TwoCalls 4 9 (WrS n p q w K4 b10 #[.int .i64 o.kind, .int .i64 o.slot, .slice o.aad o.at_.length o.aca, .slice o.bad o.bs.length o.bca, .slice o.fad o.fs.length o.fca, .bool o.other] wc.heap.size g2 cap2 ad2 c2 L pg F pg F) (WrS n p q w K4 b10 #[.int .i64 o.kind, .int .i64 o.slot, .slice o.aad o.at_.length o.aca, .slice o.bad o.bs.length o.bca, .slice o.fad o.fs.length o.fca, .bool o.other] wc.heap.size g2 cap2 ad2 c2 L pg1 F1 pg F) (WrS n p q w K4 b10 #[.int .i64 o.kind, .int .i64 o.slot, .slice o.aad o.at_.length o.aca, .slice o.bad o.bs.length o.bca, .slice o.fad o.fs.length o.fca, .bool o.other] wc.heap.size g2 cap2 ad2 c2 L pg1 F1 pg1 F1)) 10 (by kernel_rfl) (by kernel_rfl) (by kernel_rfl) (by decide) (two_start _ (wrs_old hW0.out (old_drew (old_refl _)))) ?_
    (apply walkedM_cons; (focus (intro l9 wS hz hn hm hS; have hS9 := two_other 0 (by decide) (by decide) hS; have h10 := two_any (P := fun x => x.heap[b10]? = some (.cells #[.int .i64 o.kind, .int .i64 o.slot, .slice o.aad o.at_.length o.aca, .slice o.bad o.bs.length o.bca, .slice o.fad o.fs.length o.fca, .bool o.other] 34)) hS (fun h => h.2.1) (fun h => h.2.1) (fun h => h.2.1); obtain ⟨q1, q2, q3⟩ := of_block h10; clear hS h10; go_wp2; exact ⟨rfl, rfl, hS9⟩)); rfl; (try simp only [Act.put, List.setIfInBounds_toArray, List.set_cons_succ, List.set_cons_zero]))
    (apply walkedM_cons; (focus (intro l9 wS hz hn hm hS; have hS9 := two_other 1 (by decide) (by decide) hS; have h10 := two_any (P := fun x => x.heap[b10]? = some (.cells #[.int .i64 o.kind, .int .i64 o.slot, .slice o.aad o.at_.length o.aca, .slice o.bad o.bs.length o.bca, .slice o.fad o.fs.length o.fca, .bool o.other] 34)) hS (fun h => h.2.1) (fun h => h.2.1) (fun h => h.2.1); obtain ⟨q1, q2, q3⟩ := of_block h10; clear hS h10; go_wp2; exact ⟨rfl, rfl, hS9⟩)); rfl; (try simp only [Act.put, List.setIfInBounds_toArray, List.set_cons_succ, List.set_cons_zero]))
    (apply walkedM_cons; (focus (intro l9 wS hz hn hm hS; have hS9 := two_other 2 (by decide) (by decide) hS; have h10 := two_any (P := fun x => x.heap[b10]? = some (.cells #[.int .i64 o.kind, .int .i64 o.slot, .slice o.aad o.at_.length o.aca, .slice o.bad o.bs.length o.bca, .slice o.fad o.fs.length o.fca, .bool o.other] 34)) hS (fun h => h.2.1) (fun h => h.2.1) (fun h => h.2.1); obtain ⟨q1, q2, q3⟩ := of_block h10; clear hS h10; go_wp2; exact ⟨rfl, rfl, hS9⟩)); rfl; (try simp only [Act.put, List.setIfInBounds_toArray, List.set_cons_succ, List.set_cons_zero]))
    (apply walkedM_cons; (focus (intro l9 wS hz hn hm hS; have hS9 := two_other 3 (by decide) (by decide) hS; have h10 := two_any (P := fun x => x.heap[b10]? = some (.cells #[.int .i64 o.kind, .int .i64 o.slot, .slice o.aad o.at_.length o.aca, .slice o.bad o.bs.length o.bca, .slice o.fad o.fs.length o.fca, .bool o.other] 34)) hS (fun h => h.2.1) (fun h => h.2.1) (fun h => h.2.1); obtain ⟨q1, q2, q3⟩ := of_block h10; clear hS h10; go_wp2; exact ⟨rfl, rfl, hS9⟩)); rfl; (try simp only [Act.put, List.setIfInBounds_toArray, List.set_cons_succ, List.set_cons_zero]))
    apply walkedM_cons
    · intro l9 wS hz hn hm hS
      obtain ⟨hA, hnext⟩ := two_first (by decide) (by rw [hz]; decide) hn hS
      have hc := HcP.out _ _ _ hA
      clear hS hA
      go_wp2_with ((go_at_call 19); (with_reducible refine hc.mono ?_); rintro e y ⟨rfl, hB'⟩)
      exact ⟨rfl, rfl, hnext _ hB'⟩
    · rfl
    try simp only [Act.put, List.setIfInBounds_toArray, List.set_cons_succ, List.set_cons_zero]
    (apply walkedM_cons; (focus (intro l9 wS hz hn hm hS; have hS9 := two_other 5 (by decide) (by decide) hS; have h10 := two_any (P := fun x => x.heap[b10]? = some (.cells #[.int .i64 o.kind, .int .i64 o.slot, .slice o.aad o.at_.length o.aca, .slice o.bad o.bs.length o.bca, .slice o.fad o.fs.length o.fca, .bool o.other] 34)) hS (fun h => h.2.1) (fun h => h.2.1) (fun h => h.2.1); obtain ⟨q1, q2, q3⟩ := of_block h10; clear hS h10; go_wp2; exact ⟨rfl, rfl, hS9⟩)); rfl; (try simp only [Act.put, List.setIfInBounds_toArray, List.set_cons_succ, List.set_cons_zero]))
    (apply walkedM_cons; (focus (intro l9 wS hz hn hm hS; have hS9 := two_other 6 (by decide) (by decide) hS; have h10 := two_any (P := fun x => x.heap[b10]? = some (.cells #[.int .i64 o.kind, .int .i64 o.slot, .slice o.aad o.at_.length o.aca, .slice o.bad o.bs.length o.bca, .slice o.fad o.fs.length o.fca, .bool o.other] 34)) hS (fun h => h.2.1) (fun h => h.2.1) (fun h => h.2.1); obtain ⟨q1, q2, q3⟩ := of_block h10; clear hS h10; go_wp2; exact ⟨rfl, rfl, hS9⟩)); rfl; (try simp only [Act.put, List.setIfInBounds_toArray, List.set_cons_succ, List.set_cons_zero]))
    (apply walkedM_cons; (focus (intro l9 wS hz hn hm hS; have hS9 := two_other 7 (by decide) (by decide) hS; have h10 := two_any (P := fun x => x.heap[b10]? = some (.cells #[.int .i64 o.kind, .int .i64 o.slot, .slice o.aad o.at_.length o.aca, .slice o.bad o.bs.length o.bca, .slice o.fad o.fs.length o.fca, .bool o.other] 34)) hS (fun h => h.2.1) (fun h => h.2.1) (fun h => h.2.1); obtain ⟨q1, q2, q3⟩ := of_block h10; clear hS h10; go_wp2; exact ⟨rfl, rfl, hS9⟩)); rfl; (try simp only [Act.put, List.setIfInBounds_toArray, List.set_cons_succ, List.set_cons_zero]))
    (apply walkedM_cons; (focus (intro l9 wS hz hn hm hS; have hS9 := two_other 8 (by decide) (by decide) hS; have h10 := two_any (P := fun x => x.heap[b10]? = some (.cells #[.int .i64 o.kind, .int .i64 o.slot, .slice o.aad o.at_.length o.aca, .slice o.bad o.bs.length o.bca, .slice o.fad o.fs.length o.fca, .bool o.other] 34)) hS (fun h => h.2.1) (fun h => h.2.1) (fun h => h.2.1); obtain ⟨q1, q2, q3⟩ := of_block h10; clear hS h10; go_wp2; exact ⟨rfl, rfl, hS9⟩)); rfl; (try simp only [Act.put, List.setIfInBounds_toArray, List.set_cons_succ, List.set_cons_zero]))
    apply walkedM_cons
    · intro l9 wS hz hn hm hS
      obtain ⟨hA, hnext⟩ := two_second (by decide) (by rw [hz]; decide) (hm _ rfl ⟨4, .chain⟩ (by simp) rfl) hn hS
      have hc := HcR.out _ _ _ hA
      clear hS hA
      go_wp2_with ((go_at_call 20); (with_reducible refine hc.mono ?_); rintro e y ⟨rfl, hB'⟩)
      exact ⟨rfl, rfl, hnext _ hB'⟩
    · rfl
    try simp only [Act.put, List.setIfInBounds_toArray, List.set_cons_succ, List.set_cons_zero]
    apply walkedM_nil
    intro l9 z hz hall hS
    have HZ := Lib.hid (two_end (hall 9 (by decide)) hS)
    clear hS HcP HcR hW0 hall hz
    show wpList _ _ _ [_, _] _ _
    go_wp2
    go_loopw [21] (fun i wr => ∃ (m : Nat) (M : List Nat), i = .int .i64 m ∧ m ≤ L.length ∧ WrM n p q w K4 wc.heap.size g2 cap2 ad2 c2 L pg1 F1 m M wr) (fun i _ => (L.length + 1 - intOf i).toNat)
    case atStart => exact ⟨0, _, rfl, by omega, wrm_of HZ.out⟩
    case round =>
    clear HZ
    obtain ⟨m, M, rfl, hm, hW⟩ := hrel
    by_cases hml : m < L.length
    · obtain ⟨u, bb, off, hu, hu256, rfl, hbb, cB⟩ := bytes_at hW.2.1 m hml
      have cM : wr.cell? ⟨g2, m, none⟩ = some (.int .u8 u) := row_cell hW.2.2.1 ((hW.2.2.2.2 m (Nat.le_refl _) hml).trans hu)
      have fM := row_frozen hW.2.2.1 m
      have hnext := wrm_step hW hml HG2.out (Nat.le_trans hxw.out (Nat.le_trans hxy.out HP2.out.1)) (fun bb off e => by
        have hlt := (HA.out bb off e (by rintro rfl; simp at hml)).2
        have := HP2.out.1
        omega)
      have HN := Lib.hid hnext
      have hbne : ((u : Int) != (u : Int)) = false := by simp
      clear hnext hW hu hbb
      go_wp2_with fail
      refine wp_region_walked (S := Is wr.drew) (by kernel_rfl) (by kernel_rfl) rfl ?_
      repeat (apply walked_cons; (first | exact gives_and rfl rfl rfl rfl | exact gives_or rfl rfl rfl rfl | (focus (intro wS hS; cases hS; go_wp2; exact ⟨rfl, rfl, rfl⟩; done)) | (focus (apply gives_guard; (focus (first | exact wanted_yes rfl rfl rfl | exact wanted_no rfl rfl rfl | exact wanted_yes2 rfl rfl rfl | exact wanted_no2 rfl rfl rfl)); (focus (intro hx9; (try simp only [Bool.not_eq_true', Bool.and_eq_true, Bool.not_not] at hx9); (try obtain ⟨hx9, hy9⟩ := hx9); (try subst hy9); (try subst hx9); (first | exact gives_and rfl rfl rfl rfl | exact gives_or rfl rfl rfl rfl | (intro wS hS; cases hS; go_wp2; exact ⟨rfl, rfl, rfl⟩; done))))))); rfl; (try simp only [Act.put, List.setIfInBounds_toArray, List.set_cons_succ, List.set_cons_zero]))
      apply walked_nil
      intro wS hS
      cases hS
      go_wp2
      go_roundw
      case rel => exact ⟨m + 1, _, by go_num, by omega, wrm_drew HN.out⟩
      case measure => (simp [intOf]) <;> omega
    · obtain rfl : m = L.length := by omega
      obtain ⟨T9, R9, hBk⟩ := hW.1
      have HBk := Lib.hid hBk
      clear hW hBk
      obtain ⟨fa, fc, hS⟩ := bothS_of HBk.out
      have HS := Lib.hid hS
      clear hS
      go_wp2_with fail
      refine wp_region_walked (S := BothS n p q w K4 pg1 F1 fa fc) (by kernel_rfl) (by kernel_rfl) (bothS_old HS.out (old_drew (old_refl _))) ?_
      repeat (apply walked_cons; (first | exact gives_and rfl rfl rfl rfl | exact gives_or rfl rfl rfl rfl | (focus (intro wS hS; obtain ⟨⟨T9, R9, hB9⟩, cq⟩ := id hS; go_wp2_with ((first | ((go_at_call 25); (with_reducible refine (free_calls _ p n pg1 F1 _ hB9.hd).mono ?_); rintro e w9 ⟨rfl, hb9⟩) | ((go_at_call 26); (with_reducible refine (refFree_calls _ q n pg1 F1 _ hB9.hr).mono ?_); rintro e w9 ⟨rfl, hb9⟩) | ((go_at_call 27); (with_reducible refine (left_calls _ p n pg1 F1 _ hB9.hd).mono ?_); rintro e w9 ⟨rfl, hb9⟩))); ((first | exact ⟨rfl, rfl, hS⟩ | exact ⟨rfl, rfl, bothS_old hS hb9⟩)); done)) | (focus (apply gives_guard; (focus (first | exact wanted_yes rfl rfl rfl | exact wanted_no rfl rfl rfl | exact wanted_yes2 rfl rfl rfl | exact wanted_no2 rfl rfl rfl)); (focus (intro hx9; (try simp only [Bool.not_eq_true', Bool.and_eq_true, Bool.not_not] at hx9); (try obtain ⟨hx9, hy9⟩ := hx9); (try subst hy9); (try subst hx9); (first | exact gives_and rfl rfl rfl rfl | exact gives_or rfl rfl rfl rfl | (intro wS hS; obtain ⟨⟨T9, R9, hB9⟩, cq⟩ := id hS; go_wp2_with ((first | ((go_at_call 25); (with_reducible refine (free_calls _ p n pg1 F1 _ hB9.hd).mono ?_); rintro e w9 ⟨rfl, hb9⟩) | ((go_at_call 26); (with_reducible refine (refFree_calls _ q n pg1 F1 _ hB9.hr).mono ?_); rintro e w9 ⟨rfl, hb9⟩) | ((go_at_call 27); (with_reducible refine (left_calls _ p n pg1 F1 _ hB9.hd).mono ?_); rintro e w9 ⟨rfl, hb9⟩))); ((first | exact ⟨rfl, rfl, hS⟩ | exact ⟨rfl, rfl, bothS_old hS hb9⟩)); done))))))); rfl; (try simp only [Act.put, List.setIfInBounds_toArray, List.set_cons_succ, List.set_cons_zero]))
      apply walked_nil
      intro wS hS
      obtain ⟨⟨T9, R9, hB9⟩, cq⟩ := hS
      have HB9 := Lib.hid hB9
      clear hB9 cq
      go_wp2_with fail
      go_roundw
      case rel => exact ⟨k + 1, _, _, _, _, by go_num, by omega, by omega, both_less HB9.out (fun b hb => HKK4.out b (HKK.out b (HKw.out b hb))) (fun b hb => hb)⟩
      case measure => (simp [intOf]) <;> omega
  · as_aux_lemma =>
    clear hkd7
    obtain ⟨ra, ro, F1, hP, hR⟩ := step_read n p q w pg F o.slot
    have hxw := Lib.hid hB.ho.size
    have hP := hP _ _ _ _ _ _ hB
    clear hB
    go_wp2_with fail
    (with_reducible refine hP.mono ?_)
    rintro e y ⟨v, rfl, hv, hB, hO⟩
    have h10 := keep_only hO (fun f => f HK10.out) H10.out
    generalize hK3 : (fun b => K b ∨ (x.heap.size ≤ b ∧ b < y.heap.size)) = K3 at *
    have hKK : ∀ b, K b → K3 b := by intro b hb; rw [← hK3]; exact .inl hb
    have hKn : ∀ b, x.heap.size ≤ b → b < y.heap.size → K3 b := by intro b h1 h2; rw [← hK3]; exact .inr ⟨h1, h2⟩
    have hR := hR _ _ _ _ _ _ hB
    obtain ⟨q1, q2, q3⟩ := of_block h10
    have HV := Lib.hid hv
    have HKK := Lib.hid hKK
    have HKn := Lib.hid hKn
    clear hP hB hK3 h10 hv hKK hKn hO
    go_wp2_with fail
    (with_reducible refine hR.mono ?_)
    rintro e z ⟨v2, rfl, hv2, ⟨T3, R3, hB⟩, hO2⟩
    clear hR
    have hv' := readV_only HV.out hO2 (fun b h1 h2 f => f (HKn.out b h1 h2))
    have t1 := readV_text hv'
    have t2 := readV_text hv2
    have HV2 := Lib.hid hv'
    have HB := Lib.hid hB
    clear hv' hv2 hB hO2
    go_upto_region 43 with (fail)
    cases ro with
    | none =>
      obtain rfl : v = .slice none 0 0 := HV2.out
      clear t1 t2
      go_wp2
      go_loopw [26] (fun i wr => i = .int .i64 0 ∧ wr = z) (fun _ _ => 0)
      case atStart => exact ⟨rfl, rfl⟩
      case round =>
      obtain ⟨rfl, rfl⟩ := hrel
      obtain ⟨fa, fc, hS⟩ := bothS_of HB.out
      have HS := Lib.hid hS
      clear hS
      go_wp2_with fail
      refine wp_region_walked (S := BothS n p q w K3 pg F1 fa fc) (by kernel_rfl) (by kernel_rfl) (bothS_old HS.out (old_drew (old_refl _))) ?_
      repeat (apply walked_cons; (first | exact gives_and rfl rfl rfl rfl | exact gives_or rfl rfl rfl rfl | (focus (intro wS hS; obtain ⟨⟨T9, R9, hB9⟩, cq⟩ := id hS; go_wp2_with ((first | ((go_at_call 25); (with_reducible refine (free_calls _ p n pg F1 _ hB9.hd).mono ?_); rintro e w9 ⟨rfl, hb9⟩) | ((go_at_call 26); (with_reducible refine (refFree_calls _ q n pg F1 _ hB9.hr).mono ?_); rintro e w9 ⟨rfl, hb9⟩) | ((go_at_call 27); (with_reducible refine (left_calls _ p n pg F1 _ hB9.hd).mono ?_); rintro e w9 ⟨rfl, hb9⟩))); ((first | exact ⟨rfl, rfl, hS⟩ | exact ⟨rfl, rfl, bothS_old hS hb9⟩)); done)) | (focus (apply gives_guard; (focus (first | exact wanted_yes rfl rfl rfl | exact wanted_no rfl rfl rfl | exact wanted_yes2 rfl rfl rfl | exact wanted_no2 rfl rfl rfl)); (focus (intro hx9; (try simp only [Bool.not_eq_true', Bool.and_eq_true, Bool.not_not] at hx9); (try obtain ⟨hx9, hy9⟩ := hx9); (try subst hy9); (try subst hx9); (first | exact gives_and rfl rfl rfl rfl | exact gives_or rfl rfl rfl rfl | (intro wS hS; obtain ⟨⟨T9, R9, hB9⟩, cq⟩ := id hS; go_wp2_with ((first | ((go_at_call 25); (with_reducible refine (free_calls _ p n pg F1 _ hB9.hd).mono ?_); rintro e w9 ⟨rfl, hb9⟩) | ((go_at_call 26); (with_reducible refine (refFree_calls _ q n pg F1 _ hB9.hr).mono ?_); rintro e w9 ⟨rfl, hb9⟩) | ((go_at_call 27); (with_reducible refine (left_calls _ p n pg F1 _ hB9.hd).mono ?_); rintro e w9 ⟨rfl, hb9⟩))); ((first | exact ⟨rfl, rfl, hS⟩ | exact ⟨rfl, rfl, bothS_old hS hb9⟩)); done))))))); rfl; (try simp only [Act.put, List.setIfInBounds_toArray, List.set_cons_succ, List.set_cons_zero]))
      apply walked_nil
      intro wS hS
      obtain ⟨⟨T9, R9, hB9⟩, cq⟩ := hS
      have HB9 := Lib.hid hB9
      clear hB9 cq
      go_wp2_with fail
      go_roundw
      case rel => exact ⟨k + 1, _, _, _, _, by go_num, by omega, by omega, both_less HB9.out (fun b hb => HKK.out b (HKw.out b hb)) (fun b hb => hb)⟩
      case measure => (simp [intOf]) <;> omega
    | some l9 =>
      obtain ⟨g, c, hvv, _, hry⟩ := HV.out
      obtain ⟨g9, c9, rfl, hl9, hr⟩ := HV2.out
      cases hvv
      have hgp := row_parts hry
      have hgK : K3 g := HKn.out g hgp.1 hgp.2.1
      have hgw : w.heap.size ≤ g := Nat.le_trans hxw.out hgp.1
      have HG := Lib.hid (And.intro hgK hgw)
      have HR0 := Lib.hid hr
      clear t1 t2 hry hgp hgK hgw hr
      go_wp2
      go_loopw [26] (fun i wr => ∃ (k : Nat) (T R : Nat → Prop) (L : List Nat), i = .int .i64 k ∧ k ≤ 4096 ∧ L.length = 4096 ∧ Row wr x.heap.size g c L ∧ Both n p q w T R K3 pg F1 pg F1 wr) (fun i _ => (4097 - intOf i).toNat)
      case atStart => exact ⟨0, _, _, l9, rfl, by omega, hl9, HR0.out, HB.out⟩
      case round =>
      clear HB HR0
      obtain ⟨m, T5, R5, L, rfl, hm, hL, hrow, hB5⟩ := hrel
      have HBk := Lib.hid hB5
      by_cases hm9 : m < 4096
      · obtain ⟨u, hu⟩ : ∃ u, L[m]? = some u := ⟨_, List.getElem?_eq_getElem (by omega)⟩
        have cm := row_cell hrow hu
        have fm := row_frozen hrow m
        have hset := row_set hrow m 221 (by decide)
        have hown := both_own hB5 (row_set_only wr g m (.int .u8 221)) (fun b e => by rw [e]; exact HG.out)
        have HS := Lib.hid (And.intro hset hown)
        clear hset hown hrow hB5 hu
        go_wp2
        go_roundw
        case rel => exact ⟨m + 1, _, _, _, by go_num, by omega, by rw [List.length_set]; exact hL, HS.out.1, HS.out.2⟩
        case measure => (simp [intOf]) <;> omega
      · clear hrow hB5
        obtain rfl : m = 4096 := by omega
        obtain ⟨fa, fc, hS⟩ := bothS_of HBk.out
        have HS := Lib.hid hS
        clear hS
        go_wp2_with fail
        refine wp_region_walked (S := BothS n p q w K3 pg F1 fa fc) (by kernel_rfl) (by kernel_rfl) (bothS_old HS.out (old_drew (old_refl _))) ?_
        repeat (apply walked_cons; (first | exact gives_and rfl rfl rfl rfl | exact gives_or rfl rfl rfl rfl | (focus (intro wS hS; obtain ⟨⟨T9, R9, hB9⟩, cq⟩ := id hS; go_wp2_with ((first | ((go_at_call 25); (with_reducible refine (free_calls _ p n pg F1 _ hB9.hd).mono ?_); rintro e w9 ⟨rfl, hb9⟩) | ((go_at_call 26); (with_reducible refine (refFree_calls _ q n pg F1 _ hB9.hr).mono ?_); rintro e w9 ⟨rfl, hb9⟩) | ((go_at_call 27); (with_reducible refine (left_calls _ p n pg F1 _ hB9.hd).mono ?_); rintro e w9 ⟨rfl, hb9⟩))); ((first | exact ⟨rfl, rfl, hS⟩ | exact ⟨rfl, rfl, bothS_old hS hb9⟩)); done)) | (focus (apply gives_guard; (focus (first | exact wanted_yes rfl rfl rfl | exact wanted_no rfl rfl rfl | exact wanted_yes2 rfl rfl rfl | exact wanted_no2 rfl rfl rfl)); (focus (intro hx9; (try simp only [Bool.not_eq_true', Bool.and_eq_true, Bool.not_not] at hx9); (try obtain ⟨hx9, hy9⟩ := hx9); (try subst hy9); (try subst hx9); (first | exact gives_and rfl rfl rfl rfl | exact gives_or rfl rfl rfl rfl | (intro wS hS; obtain ⟨⟨T9, R9, hB9⟩, cq⟩ := id hS; go_wp2_with ((first | ((go_at_call 25); (with_reducible refine (free_calls _ p n pg F1 _ hB9.hd).mono ?_); rintro e w9 ⟨rfl, hb9⟩) | ((go_at_call 26); (with_reducible refine (refFree_calls _ q n pg F1 _ hB9.hr).mono ?_); rintro e w9 ⟨rfl, hb9⟩) | ((go_at_call 27); (with_reducible refine (left_calls _ p n pg F1 _ hB9.hd).mono ?_); rintro e w9 ⟨rfl, hb9⟩))); ((first | exact ⟨rfl, rfl, hS⟩ | exact ⟨rfl, rfl, bothS_old hS hb9⟩)); done))))))); rfl; (try simp only [Act.put, List.setIfInBounds_toArray, List.set_cons_succ, List.set_cons_zero]))
        apply walked_nil
        intro wS hS
        obtain ⟨⟨T9, R9, hB9⟩, cq⟩ := hS
        have HB9 := Lib.hid hB9
        clear hB9 cq
        go_wp2_with fail
        go_roundw
        case rel => exact ⟨k + 1, _, _, _, _, by go_num, by omega, by omega, both_less HB9.out (fun b hb => HKK.out b (HKw.out b hb)) (fun b hb => hb)⟩
        case measure => (simp [intOf]) <;> omega
  · as_aux_lemma =>
    clear hkd7
    obtain ⟨ra, ro, F1, hP, hR⟩ := step_read n p q w pg F o.slot
    have hxw := Lib.hid hB.ho.size
    have hP := hP _ _ _ _ _ _ hB
    clear hB
    go_wp2_with fail
    (with_reducible refine hP.mono ?_)
    rintro e y ⟨v, rfl, hv, hB, hO⟩
    have h10 := keep_only hO (fun f => f HK10.out) H10.out
    generalize hK3 : (fun b => K b ∨ (x.heap.size ≤ b ∧ b < y.heap.size)) = K3 at *
    have hKK : ∀ b, K b → K3 b := by intro b hb; rw [← hK3]; exact .inl hb
    have hKn : ∀ b, x.heap.size ≤ b → b < y.heap.size → K3 b := by intro b h1 h2; rw [← hK3]; exact .inr ⟨h1, h2⟩
    have hR := hR _ _ _ _ _ _ hB
    obtain ⟨q1, q2, q3⟩ := of_block h10
    have HV := Lib.hid hv
    have HKK := Lib.hid hKK
    have HKn := Lib.hid hKn
    clear hP hB hK3 h10 hv hKK hKn hO
    go_wp2_with fail
    (with_reducible refine hR.mono ?_)
    rintro e z ⟨v2, rfl, hv2, ⟨T3, R3, hB⟩, hO2⟩
    clear hR
    have hv' := readV_only HV.out hO2 (fun b h1 h2 f => f (HKn.out b h1 h2))
    have t1 := readV_text hv'
    have t2 := readV_text hv2
    have HV2 := Lib.hid hv'
    have HB := Lib.hid hB
    clear hv' hv2 hB hO2
    go_upto_region 43 with (fail)
    cases ro with
    | none =>
      obtain rfl : v = .slice none 0 0 := HV2.out
      clear t1 t2
      go_wp2
      go_loopw [26] (fun i wr => i = .int .i64 0 ∧ wr = z) (fun _ _ => 0)
      case atStart => exact ⟨rfl, rfl⟩
      case round =>
      obtain ⟨rfl, rfl⟩ := hrel
      obtain ⟨fa, fc, hS⟩ := bothS_of HB.out
      have HS := Lib.hid hS
      clear hS
      go_wp2_with fail
      refine wp_region_walked (S := BothS n p q w K3 pg F1 fa fc) (by kernel_rfl) (by kernel_rfl) (bothS_old HS.out (old_drew (old_refl _))) ?_
      repeat (apply walked_cons; (first | exact gives_and rfl rfl rfl rfl | exact gives_or rfl rfl rfl rfl | (focus (intro wS hS; obtain ⟨⟨T9, R9, hB9⟩, cq⟩ := id hS; go_wp2_with ((first | ((go_at_call 25); (with_reducible refine (free_calls _ p n pg F1 _ hB9.hd).mono ?_); rintro e w9 ⟨rfl, hb9⟩) | ((go_at_call 26); (with_reducible refine (refFree_calls _ q n pg F1 _ hB9.hr).mono ?_); rintro e w9 ⟨rfl, hb9⟩) | ((go_at_call 27); (with_reducible refine (left_calls _ p n pg F1 _ hB9.hd).mono ?_); rintro e w9 ⟨rfl, hb9⟩))); ((first | exact ⟨rfl, rfl, hS⟩ | exact ⟨rfl, rfl, bothS_old hS hb9⟩)); done)) | (focus (apply gives_guard; (focus (first | exact wanted_yes rfl rfl rfl | exact wanted_no rfl rfl rfl | exact wanted_yes2 rfl rfl rfl | exact wanted_no2 rfl rfl rfl)); (focus (intro hx9; (try simp only [Bool.not_eq_true', Bool.and_eq_true, Bool.not_not] at hx9); (try obtain ⟨hx9, hy9⟩ := hx9); (try subst hy9); (try subst hx9); (first | exact gives_and rfl rfl rfl rfl | exact gives_or rfl rfl rfl rfl | (intro wS hS; obtain ⟨⟨T9, R9, hB9⟩, cq⟩ := id hS; go_wp2_with ((first | ((go_at_call 25); (with_reducible refine (free_calls _ p n pg F1 _ hB9.hd).mono ?_); rintro e w9 ⟨rfl, hb9⟩) | ((go_at_call 26); (with_reducible refine (refFree_calls _ q n pg F1 _ hB9.hr).mono ?_); rintro e w9 ⟨rfl, hb9⟩) | ((go_at_call 27); (with_reducible refine (left_calls _ p n pg F1 _ hB9.hd).mono ?_); rintro e w9 ⟨rfl, hb9⟩))); ((first | exact ⟨rfl, rfl, hS⟩ | exact ⟨rfl, rfl, bothS_old hS hb9⟩)); done))))))); rfl; (try simp only [Act.put, List.setIfInBounds_toArray, List.set_cons_succ, List.set_cons_zero]))
      apply walked_nil
      intro wS hS
      obtain ⟨⟨T9, R9, hB9⟩, cq⟩ := hS
      have HB9 := Lib.hid hB9
      clear hB9 cq
      go_wp2_with fail
      go_roundw
      case rel => exact ⟨k + 1, _, _, _, _, by go_num, by omega, by omega, both_less HB9.out (fun b hb => HKK.out b (HKw.out b hb)) (fun b hb => hb)⟩
      case measure => (simp [intOf]) <;> omega
    | some l9 =>
      obtain ⟨g, c, hvv, _, hry⟩ := HV.out
      obtain ⟨g9, c9, rfl, hl9, hr⟩ := HV2.out
      cases hvv
      have hgp := row_parts hry
      have hgK : K3 g := HKn.out g hgp.1 hgp.2.1
      have hgw : w.heap.size ≤ g := Nat.le_trans hxw.out hgp.1
      have HG := Lib.hid (And.intro hgK hgw)
      have HR0 := Lib.hid hr
      clear t1 t2 hry hgp hgK hgw hr
      go_wp2
      go_loopw [26] (fun i wr => ∃ (k : Nat) (T R : Nat → Prop) (L : List Nat), i = .int .i64 k ∧ k ≤ 4096 ∧ L.length = 4096 ∧ Row wr x.heap.size g c L ∧ Both n p q w T R K3 pg F1 pg F1 wr) (fun i _ => (4097 - intOf i).toNat)
      case atStart => exact ⟨0, _, _, l9, rfl, by omega, hl9, HR0.out, HB.out⟩
      case round =>
      clear HB HR0
      obtain ⟨m, T5, R5, L, rfl, hm, hL, hrow, hB5⟩ := hrel
      have HBk := Lib.hid hB5
      by_cases hm9 : m < 4096
      · obtain ⟨u, hu⟩ : ∃ u, L[m]? = some u := ⟨_, List.getElem?_eq_getElem (by omega)⟩
        have cm := row_cell hrow hu
        have fm := row_frozen hrow m
        have hset := row_set hrow m 221 (by decide)
        have hown := both_own hB5 (row_set_only wr g m (.int .u8 221)) (fun b e => by rw [e]; exact HG.out)
        have HS := Lib.hid (And.intro hset hown)
        clear hset hown hrow hB5 hu
        go_wp2
        go_roundw
        case rel => exact ⟨m + 1, _, _, _, by go_num, by omega, by rw [List.length_set]; exact hL, HS.out.1, HS.out.2⟩
        case measure => (simp [intOf]) <;> omega
      · clear hrow hB5
        obtain rfl : m = 4096 := by omega
        obtain ⟨fa, fc, hS⟩ := bothS_of HBk.out
        have HS := Lib.hid hS
        clear hS
        go_wp2_with fail
        refine wp_region_walked (S := BothS n p q w K3 pg F1 fa fc) (by kernel_rfl) (by kernel_rfl) (bothS_old HS.out (old_drew (old_refl _))) ?_
        repeat (apply walked_cons; (first | exact gives_and rfl rfl rfl rfl | exact gives_or rfl rfl rfl rfl | (focus (intro wS hS; obtain ⟨⟨T9, R9, hB9⟩, cq⟩ := id hS; go_wp2_with ((first | ((go_at_call 25); (with_reducible refine (free_calls _ p n pg F1 _ hB9.hd).mono ?_); rintro e w9 ⟨rfl, hb9⟩) | ((go_at_call 26); (with_reducible refine (refFree_calls _ q n pg F1 _ hB9.hr).mono ?_); rintro e w9 ⟨rfl, hb9⟩) | ((go_at_call 27); (with_reducible refine (left_calls _ p n pg F1 _ hB9.hd).mono ?_); rintro e w9 ⟨rfl, hb9⟩))); ((first | exact ⟨rfl, rfl, hS⟩ | exact ⟨rfl, rfl, bothS_old hS hb9⟩)); done)) | (focus (apply gives_guard; (focus (first | exact wanted_yes rfl rfl rfl | exact wanted_no rfl rfl rfl | exact wanted_yes2 rfl rfl rfl | exact wanted_no2 rfl rfl rfl)); (focus (intro hx9; (try simp only [Bool.not_eq_true', Bool.and_eq_true, Bool.not_not] at hx9); (try obtain ⟨hx9, hy9⟩ := hx9); (try subst hy9); (try subst hx9); (first | exact gives_and rfl rfl rfl rfl | exact gives_or rfl rfl rfl rfl | (intro wS hS; obtain ⟨⟨T9, R9, hB9⟩, cq⟩ := id hS; go_wp2_with ((first | ((go_at_call 25); (with_reducible refine (free_calls _ p n pg F1 _ hB9.hd).mono ?_); rintro e w9 ⟨rfl, hb9⟩) | ((go_at_call 26); (with_reducible refine (refFree_calls _ q n pg F1 _ hB9.hr).mono ?_); rintro e w9 ⟨rfl, hb9⟩) | ((go_at_call 27); (with_reducible refine (left_calls _ p n pg F1 _ hB9.hd).mono ?_); rintro e w9 ⟨rfl, hb9⟩))); ((first | exact ⟨rfl, rfl, hS⟩ | exact ⟨rfl, rfl, bothS_old hS hb9⟩)); done))))))); rfl; (try simp only [Act.put, List.setIfInBounds_toArray, List.set_cons_succ, List.set_cons_zero]))
        apply walked_nil
        intro wS hS
        obtain ⟨⟨T9, R9, hB9⟩, cq⟩ := hS
        have HB9 := Lib.hid hB9
        clear hB9 cq
        go_wp2_with fail
        go_roundw
        case rel => exact ⟨k + 1, _, _, _, _, by go_num, by omega, by omega, both_less HB9.out (fun b hb => HKK.out b (HKw.out b hb)) (fun b hb => hb)⟩
        case measure => (simp [intOf]) <;> omega
  · as_aux_lemma =>
    clear hkd7
    have hokx : o.ok x := dop_old HKW.out hB.ho
    have hxw := Lib.hid hB.ho.size
    obtain ⟨fl, hfl⟩ : ∃ fl, o.fs.take 30 = fl := ⟨_, rfl⟩
    have hB2 := bools_cut hokx.2.2.2.2 30
    have hfn : fl.length = min 30 o.fs.length := by rw [← hfl, List.length_take]
    rw [hfl] at hB2
    have hf63 : o.fs.length ≤ 9223372036854775807 := Nat.le_trans hokx.2.2.2.2.1 hokx.2.2.2.2.2.1
    have hfc : fl.length ≤ o.fca := hB2.1
    obtain ⟨gf, cf, w2, hrun, hrow, hO⟩ := copy_bools 32 x o.fad o.fca fl hB2 (by omega)
    have hBy := both_grow hB hO
    have h10 := keep_old hO H10.out
    have hp := rowT_parts hrow
    generalize hK3 : (fun b => K b ∨ (x.heap.size ≤ b ∧ b < w2.heap.size)) = K3 at *
    have hKK : ∀ b, K b → K3 b := by intro b hb; rw [← hK3]; exact .inl hb
    have hgf : K3 gf ∧ w.heap.size ≤ gf := ⟨by rw [← hK3]; exact .inr ⟨hp.1, hp.2.1⟩, Nat.le_trans hxw.out hp.1⟩
    obtain ⟨hP, hR⟩ := step_fail n p q w pg F fl (by omega) (some ⟨gf, 0, none⟩) cf
    generalize (fun b => T2 b ∨ (x.heap.size ≤ b ∧ b < w2.heap.size)) = T3 at *
    have HKK := Lib.hid hKK
    have HGF := Lib.hid hgf
    have hcf : fl.length ≤ cf := hp.2.2.1
    have hcf63 : cf ≤ 9223372036854775807 := hp.2.2.2
    have HB := Lib.hid (And.intro hBy hrow)
    have HP := Lib.hid hP
    have HR := Lib.hid hR
    clear hfl
    clear hK3 hKK hgf hP hR hp hBy hrow hO hB hokx hB2 h10
    go_upto_region 11 with (fail)
    go_cut [27] (fun s27 wx => s27 = .slice (some ⟨gf, 0, none⟩) fl.length cf ∧ wx = w2)
    case first =>
      by_cases h30 : o.fs.length ≤ 30
      · have e : fl.length = o.fs.length := by omega
        have h30' : (o.fs.length : Int) ≤ 30 := by omega
        have hsl := slice_cut_bools x o.fad o.fs.length o.fca o.fs.length (by omega)
        rw [e] at hrun
        clear hfn
        go_wp2_with (at_builtin; refine wpList_append_run rfl _ _ 32 rfl _ _ rfl rfl _ _ hrun ?_; clear hrun)
        go_meet
        case rel => exact ⟨by rw [e], rfl⟩
      · have e : fl.length = 30 := by omega
        have h30' : (30 : Int) < o.fs.length := by omega
        have hsl : (Instr.slice 32 (.slice o.fad o.fs.length o.fca) none (some (.int .i64 30)) none).run Try.prog x = .ok (.slice o.fad 30 o.fca) x := slice_cut_bools x o.fad 30 o.fca o.fs.length (by omega)
        rw [e] at hrun
        clear hfn
        go_wp2_with (at_builtin; refine wpList_append_run rfl _ _ 32 rfl _ _ rfl rfl _ _ hrun ?_; clear hrun)
        go_meet
        case rel => exact ⟨by rw [e], rfl⟩
    case rest =>
    obtain ⟨rfl, rfl⟩ := hcut
    clear hrun q1 q2 q3
    have hf30 : fl.length ≤ 30 := by omega
    have hf9 : fl.length ≤ 9223372036854775807 := by omega
    clear hfn
    have hc := HP.out _ _ _ _ _ _ HB.out.1 (rowT_bools HB.out.2)
    go_wp2_with fail
    (with_reducible refine hc.mono ?_)
    rintro e y ⟨rfl, hB, hO⟩
    have hrow := rowT_only HB.out.2 hO (fun f => f HGF.out.1)
    have hc2 := HR.out _ _ _ _ _ _ hB (rowT_bools hrow)
    have HRw := Lib.hid hrow
    clear hc hB hO hrow
    go_wp2_with fail
    (with_reducible refine hc2.mono ?_)
    rintro e z ⟨rfl, ⟨T5, R5, hB⟩, hO⟩
    have HZ := Lib.hid (And.intro (rowT_only HRw.out hO (fun f => f HGF.out.1)) hB)
    clear hc2 hB hO HRw HB
    go_wp2
    go_loopw [28] (fun i wr => ∃ (m : Nat) (T R : Nat → Prop) (M : List Bool), i = .int .i64 m ∧ m ≤ fl.length ∧ M.length = fl.length ∧ RowT wr x.heap.size gf cf M ∧ Both n p q w T R K3 pg fl pg fl wr) (fun i _ => (fl.length + 1 - intOf i).toNat)
    case atStart => exact ⟨0, _, _, _, rfl, by omega, rfl, HZ.out.1, HZ.out.2⟩
    case round =>
    clear HZ
    obtain ⟨m, T6, R6, M, rfl, hm, hM, hrow, hB⟩ := hrel
    by_cases hml : m < fl.length
    · obtain ⟨u, hu⟩ : ∃ u, M[m]? = some u := ⟨_, List.getElem?_eq_getElem (by omega)⟩
      have cm := rowT_cell hrow hu
      have fm := rowT_frozen hrow m
      have hown := both_own hB (rowT_set_only wr gf m (.bool (!u))) (fun b e => by rw [e]; exact HGF.out)
      have HN := Lib.hid (And.intro (rowT_set hrow m (!u)) hown)
      clear hown hrow hB hu
      go_wp2
      go_roundw
      case rel => exact ⟨m + 1, _, _, _, by go_num, by omega, by rw [List.length_set]; exact hM, HN.out.1, HN.out.2⟩
      case measure => (simp [intOf]) <;> omega
    · obtain rfl : m = fl.length := by omega
      have HBk := Lib.hid hB
      clear hrow hB
      obtain ⟨fa, fc, hS⟩ := bothS_of HBk.out
      have HS := Lib.hid hS
      clear hS
      go_wp2_with fail
      refine wp_region_walked (S := BothS n p q w K3 pg fl fa fc) (by kernel_rfl) (by kernel_rfl) (bothS_old HS.out (old_drew (old_refl _))) ?_
      repeat (apply walked_cons; (first | exact gives_and rfl rfl rfl rfl | exact gives_or rfl rfl rfl rfl | (focus (intro wS hS; obtain ⟨⟨T9, R9, hB9⟩, cq⟩ := id hS; go_wp2_with ((first | ((go_at_call 25); (with_reducible refine (free_calls _ p n pg fl _ hB9.hd).mono ?_); rintro e w9 ⟨rfl, hb9⟩) | ((go_at_call 26); (with_reducible refine (refFree_calls _ q n pg fl _ hB9.hr).mono ?_); rintro e w9 ⟨rfl, hb9⟩) | ((go_at_call 27); (with_reducible refine (left_calls _ p n pg fl _ hB9.hd).mono ?_); rintro e w9 ⟨rfl, hb9⟩))); ((first | exact ⟨rfl, rfl, hS⟩ | exact ⟨rfl, rfl, bothS_old hS hb9⟩)); done)) | (focus (apply gives_guard; (focus (first | exact wanted_yes rfl rfl rfl | exact wanted_no rfl rfl rfl | exact wanted_yes2 rfl rfl rfl | exact wanted_no2 rfl rfl rfl)); (focus (intro hx9; (try simp only [Bool.not_eq_true', Bool.and_eq_true, Bool.not_not] at hx9); (try obtain ⟨hx9, hy9⟩ := hx9); (try subst hy9); (try subst hx9); (first | exact gives_and rfl rfl rfl rfl | exact gives_or rfl rfl rfl rfl | (intro wS hS; obtain ⟨⟨T9, R9, hB9⟩, cq⟩ := id hS; go_wp2_with ((first | ((go_at_call 25); (with_reducible refine (free_calls _ p n pg fl _ hB9.hd).mono ?_); rintro e w9 ⟨rfl, hb9⟩) | ((go_at_call 26); (with_reducible refine (refFree_calls _ q n pg fl _ hB9.hr).mono ?_); rintro e w9 ⟨rfl, hb9⟩) | ((go_at_call 27); (with_reducible refine (left_calls _ p n pg fl _ hB9.hd).mono ?_); rintro e w9 ⟨rfl, hb9⟩))); ((first | exact ⟨rfl, rfl, hS⟩ | exact ⟨rfl, rfl, bothS_old hS hb9⟩)); done))))))); rfl; (try simp only [Act.put, List.setIfInBounds_toArray, List.set_cons_succ, List.set_cons_zero]))
      apply walked_nil
      intro wS hS
      obtain ⟨⟨T9, R9, hB9⟩, cq⟩ := hS
      have HB9 := Lib.hid hB9
      clear hB9 cq
      go_wp2_with fail
      go_roundw
      case rel => exact ⟨k + 1, _, _, _, _, by go_num, by omega, by omega, both_less HB9.out (fun b hb => HKK.out b (HKw.out b hb)) (fun b hb => hb)⟩
      case measure => (simp [intOf]) <;> omega

end Go.Proofs.Ytfiofjalpaeohaa
