/- The statement VmidPlays: its walk. -/
import Derived.Test.YtbnbchclbblbkaaPlaysNone
namespace Go.Proofs.Ytbnbchclbblbkaa
set_option linter.unusedVariables false
set_option linter.unusedSimpArgs false
open Go.RowKit

def PlayInv (n p r : Nat) (w : World) (k : Nat) (x : World) : Prop :=
  ∃ (a q : Nat) (t : Int) (of own : List Int), PlayAt n p r a w q t of q t own x ∧ Same n q of own ∧ Small own ∧ 0 ≤ t ∧ t ≤ k

/-- In a round: the step's copy lies in block ob. -/
def StepAt (n p r a : Nat) (w : World) (ob : Nat) (y : Int × Int) (q : Nat) (t : Int) (of : List Int) (q2 : Nat) (t2 : Int) (own : List Int) (x : World) : Prop :=
  PlayAt n p r a w q t of q2 t2 own x ∧ x.heap[ob]? = some (.cells #[.int .i64 y.1, .int .i64 y.2] 46) ∧ ob ≠ p ∧ ob ≠ r ∧ ob ≠ a

section
variable {n p r a ob : Nat} {w x z : World} {y : Int × Int} {q : Nat} {t : Int} {of : List Int} {q2 : Nat} {t2 : Int} {own : List Int}
theorem step_old (h : StepAt n p r a w ob y q t of q2 t2 own x) (ho : Old x z) : StepAt n p r a w ob y q t of q2 t2 own z := ⟨play_old h.1 ho, keep_old ho h.2.1, h.2.2⟩
theorem step_drew (h : StepAt n p r a w ob y q t of q2 t2 own x) : StepAt n p r a w ob y q t of q2 t2 own x.drew := step_old h (old_drew (old_refl _))
theorem step_ids {q' : Nat} {t' : Int} {of' : List Int} {v : Value} {e : Ending} (h : StepAt n p r a w ob y q t of q2 t2 own x) (hR : RetIDs x p v n q' t' of' e z) : StepAt n p r a w ob y q' t' of' q2 t2 own z :=
  ⟨play_ids h.1 hR, keep_only hR.2.2 (fun e => h.2.2.1 e) h.2.1, h.2.2⟩
theorem step_ref {a' q' : Nat} {t' : Int} {own' : List Int} {v : Value} {e : Ending} (h : StepAt n p r a w ob y q t of q2 t2 own x) (hR : RetRef x r a v a' n q' t' own' e z) : StepAt n p r a' w ob y q t of q' t' own' z := by
  refine ⟨play_ref h.1 hR, keep_only hR.2.2.1 (by have := h.2.2.2; omega) h.2.1, h.2.2.1, h.2.2.2.1, ?_⟩
  have h1 := lt_of_block h.2.1
  have h2 := h.2.2.2.2
  rcases hR.2.2.2 with rfl | h3
  · exact h2
  · omega
theorem step_first (h : PlayAt n p r a w q t of q2 t2 own x) : StepAt n p r a w x.heap.size y q t of q2 t2 own (x.alloc (.cells #[.int .i64 y.1, .int .i64 y.2] 46)) := by
  refine ⟨play_old h (old_alloc (old_refl _) _), new_block _ _, ?_, ?_, ?_⟩
  · exact Nat.ne_of_gt (lt_of_block h.1.1)
  · exact Nat.ne_of_gt (lt_of_block h.2.1.1)
  · exact Nat.ne_of_gt (lt_of_block h.2.1.2.1)
theorem step_cell0 (h : StepAt n p r a w ob y q t of q2 t2 own x) : x.cell? ⟨ob, 0, none⟩ = some (.int .i64 y.1) := by rw [cell_of h.2.1]; rfl
theorem step_cell1 (h : StepAt n p r a w ob y q t of q2 t2 own x) : x.cell? ⟨ob, 1, none⟩ = some (.int .i64 y.2) := by rw [cell_of h.2.1]; rfl
end

/-- While both Drops are under way. -/
def PlayS (n p r a : Nat) (w : World) (ob : Nat) (y : Int × Int) (q : Nat) (t : Int) (of of' own own' : List Int) (l : Array Bool) (x : World) : Prop :=
  StepAt n p r a w ob y q t (bif l.getD 3 false then of' else of) q t (bif l.getD 7 false then own' else own) x
section
variable {n p r a ob : Nat} {w x z : World} {y : Int × Int} {q : Nat} {t : Int} {of of' own own' : List Int} {l : Array Bool}
theorem playS_other (j : Nat) (h3 : j ≠ 3) (h7 : j ≠ 7) (h : PlayS n p r a w ob y q t of of' own own' l x) : PlayS n p r a w ob y q t of of' own own' (l.setIfInBounds j true) x := by
  unfold PlayS at h ⊢
  rw [getD_set_ne false h3, getD_set_ne false h7]; exact h
theorem playS_cell (h : PlayS n p r a w ob y q t of of' own own' l x) : x.cell? ⟨ob, 1, none⟩ = some (.int .i64 y.2) := step_cell1 h
theorem playS_ids (hn : l.getD 3 false = false) (h : PlayS n p r a w ob y q t of of' own own' l x) : IsIDs x p n q t of := by
  unfold PlayS at h
  rw [hn] at h; exact h.1.1
theorem playS_ref (hn : l.getD 7 false = false) (h : PlayS n p r a w ob y q t of of' own own' l x) : IsRef x r a n q t own := by
  unfold PlayS at h
  rw [hn] at h; exact h.1.2.1
theorem playS_drop (hz : l.size = 9) {v : Value} {e : Ending} (h : PlayS n p r a w ob y q t of of' own own' l x) (hR : RetIDs x p v n q t of' e z) : PlayS n p r a w ob y q t of of' own own' (l.setIfInBounds 3 true) z := by
  have e : (l.setIfInBounds 3 true).getD 3 false = true := by simp [hz]
  unfold PlayS at h ⊢
  rw [e, getD_set_ne false (by decide)]
  exact step_ids h hR
theorem playS_drop2 (hz : l.size = 9) {v : Value} {e : Ending} (h : PlayS n p r a w ob y q t of of' own own' l x) (hR : RetRef x r a v a n q t own' e z) : PlayS n p r a w ob y q t of of' own own' (l.setIfInBounds 7 true) z := by
  have e : (l.setIfInBounds 7 true).getD 7 false = true := by simp [hz]
  unfold PlayS at h ⊢
  rw [e, getD_set_ne false (by decide)]
  exact step_ref h hR
theorem playS_end (h3 : l.getD 3 false = true) (h7 : l.getD 7 false = true) (h : PlayS n p r a w ob y q t of of' own own' l x) : StepAt n p r a w ob y q t of' q t own' x := by
  unfold PlayS at h
  rw [h3, h7] at h; exact h
end

/-- Behind a step. -/
def StepInv (n p r : Nat) (w : World) (ob : Nat) (y : Int × Int) (k : Nat) (x : World) : Prop :=
  ∃ (a q : Nat) (t : Int) (of own : List Int), StepAt n p r a w ob y q t of q t own x ∧ Same n q of own ∧ Small own ∧ 0 ≤ t ∧ t ≤ k + 1

set_option maxHeartbeats 4000000 in
set_option maxRecDepth 100000 in
theorem vmidPlays_yes (n : Nat) (ad : Option Addr) (l : List (Int × Int)) (cap : Nat) (w : World) (hl : l.length ≤ maxLen) (hP : Pairs w ad l) (h1 : 1 ≤ n) (h255 : n ≤ 255) :
    Calls Try.prog 7 #[.int .i64 n, .slice ad l.length cap] w (RetB w (.bool true)) := by
  have hl63 : l.length ≤ 9223372036854775807 := hl
  go_enter Try.func7, Try.ntmps7
  go_wp2_with fail
  (with_reducible refine (vmidNew_calls n _ (by omega) (by omega)).mono ?_)
  rintro e w1 ⟨rfl, hw1⟩
  have hI := ids_new w n
  have hO : Old w (w.alloc (.cells (idsCells n 0 0 zeros256) 95)) := old_alloc (old_refl _) _
  rw [← hw1] at hI hO
  have hsz : w1.heap.size = w.heap.size + 1 := by rw [hw1]; exact Array.size_push _
  clear hw1
  go_wp2_with fail
  (with_reducible refine (refNew_calls n _ (by omega) (by omega)).mono ?_)
  rintro e w2 ⟨rfl, hI2, hO2⟩
  have hst : PlayInv n w.heap.size (w1.heap.size + 1) w 0 w2 :=
    ⟨w1.heap.size, 0, 0, zeros256, List.replicate n 0, ⟨ids_old hO2 hI, hI2, old_then hO hO2, by omega, by omega, by omega, by omega, by omega⟩, same_first n, small_zero n, by omega, by omega⟩
  clear hI hO hI2 hO2
  generalize hpp : w.heap.size = p at *
  generalize hrr : w1.heap.size + 1 = r at *
  have Hp := Lib.hid hpp
  clear hpp hrr hsz
  go_wp2
  go_loopw [9] (fun v wr => ∃ k : Nat, v = .int .i64 k ∧ k ≤ 200 ∧ PlayInv n p r w k wr) (fun v _ => (201 - intOf v).toNat)
  case atStart => exact ⟨0, rfl, by omega, hst⟩
  case round =>
    clear hst
    obtain ⟨k, rfl, hk, a, q, t, of, own, hAt, hS, hs, t0, tk⟩ := hrel
    by_cases hlt : k < l.length ∧ k < 200
    · obtain ⟨hlk, hk2⟩ := hlt
      obtain ⟨x, hx⟩ : ∃ x, l[k]? = some x := ⟨_, List.getElem?_eq_getElem hlk⟩
      obtain ⟨bb, off, rfl, hbl, d0, d1, i0, i1⟩ := hP k x hx
      have hOld := hAt.2.2.1
      have c0 : wr.cell? ⟨bb, off + k * 2, none⟩ = some (.int .i64 x.1) := by rw [(Only.of_below hOld).cell bb _ hbl (fun f => f)]; exact d0
      have c1 : wr.cell? ⟨bb, off + k * 2 + 1, none⟩ = some (.int .i64 x.2) := by rw [(Only.of_below hOld).cell bb _ hbl (fun f => f)]; exact d1
      have HA := Lib.hid hAt
      clear d0 d1 hOld hAt
      have hm3 := i64_mask3 x.1
      have hm1 := i64_mask1 k
      go_upto_region 9 with (fail)
      have hst := step_first (y := x) HA.out
      generalize wr.alloc (.cells #[.int .i64 x.1, .int .i64 x.2] 46) = W at *
      generalize wr.heap.size = ob at *
      have c0 := step_cell0 hst
      have HS := Lib.hid hst
      clear hst
      go_upto_if 62 with (fail)
      go_cut [] (fun wx => StepInv n p r w ob x k wx)
      case first =>
        have c1 := step_cell1 HS.out
        by_cases h3 : x.1 % 4 = 3
        · obtain ⟨y, of', own', hS', hs', hd1, hd2⟩ := both_drop (t := t) hS hs x.2
          have HS' := Lib.hid hS'
          have Hs' := Lib.hid hs'
          clear hS hs hS' hs' c0 c1
          go_wp2_with fail
          refine wp_region_staged (S := PlayS n p r a w ob x q t of of' own own') 9 (by kernel_rfl) (by kernel_rfl) (by kernel_rfl) (by decide) (step_drew HS.out) ?_
          (apply walkedS_cons; (focus (intro l wS hz hn hS; have hS' := playS_other 0 (by decide) (by decide) hS; have cg := playS_cell hS; clear hS; go_wp2; exact ⟨rfl, rfl, hS'⟩)); rfl; (try simp only [Act.put, List.setIfInBounds_toArray, List.set_cons_succ, List.set_cons_zero]))
          (apply walkedS_cons; (focus (intro l wS hz hn hS; have hS' := playS_other 1 (by decide) (by decide) hS; have cg := playS_cell hS; clear hS; go_wp2; exact ⟨rfl, rfl, hS'⟩)); rfl; (try simp only [Act.put, List.setIfInBounds_toArray, List.set_cons_succ, List.set_cons_zero]))
          (apply walkedS_cons; (focus (intro l wS hz hn hS; have hS' := playS_other 2 (by decide) (by decide) hS; have cg := playS_cell hS; clear hS; go_wp2; exact ⟨rfl, rfl, hS'⟩)); rfl; (try simp only [Act.put, List.setIfInBounds_toArray, List.set_cons_succ, List.set_cons_zero]))
          apply walkedS_cons
          · intro l wS hz hn hS
            have hB := playS_ids hn hS
            go_wp2_with fail
            (with_reducible refine (hd1 _ p hB).mono ?_)
            intro e w2 hR
            have hS2 := playS_drop hz hS hR
            obtain ⟨rfl, -, -⟩ := hR
            clear hS hB
            go_wp2
            exact ⟨rfl, rfl, hS2⟩
          · rfl
          (apply walkedS_cons; (focus (intro l wS hz hn hS; have hS' := playS_other 4 (by decide) (by decide) hS; have cg := playS_cell hS; clear hS; go_wp2; exact ⟨rfl, rfl, hS'⟩)); rfl; (try simp only [Act.put, List.setIfInBounds_toArray, List.set_cons_succ, List.set_cons_zero]))
          (apply walkedS_cons; (focus (intro l wS hz hn hS; have hS' := playS_other 5 (by decide) (by decide) hS; have cg := playS_cell hS; clear hS; go_wp2; exact ⟨rfl, rfl, hS'⟩)); rfl; (try simp only [Act.put, List.setIfInBounds_toArray, List.set_cons_succ, List.set_cons_zero]))
          (apply walkedS_cons; (focus (intro l wS hz hn hS; have hS' := playS_other 6 (by decide) (by decide) hS; have cg := playS_cell hS; clear hS; go_wp2; exact ⟨rfl, rfl, hS'⟩)); rfl; (try simp only [Act.put, List.setIfInBounds_toArray, List.set_cons_succ, List.set_cons_zero]))
          apply walkedS_cons
          · intro l wS hz hn hS
            have hB := playS_ref hn hS
            go_wp2_with fail
            (with_reducible refine (hd2 _ r a hB).mono ?_)
            intro e w2 hR
            have hS2 := playS_drop2 hz hS hR
            obtain ⟨rfl, -, -⟩ := hR
            clear hS hB
            go_wp2
            exact ⟨rfl, rfl, hS2⟩
          · rfl
          (apply walkedS_cons; (focus (intro l wS hz hn hS; have hS' := playS_other 8 (by decide) (by decide) hS; have cg := playS_cell hS; clear hS; go_wp2; exact ⟨rfl, rfl, hS'⟩)); rfl; (try simp only [Act.put, List.setIfInBounds_toArray, List.set_cons_succ, List.set_cons_zero]))
          apply walkedS_nil
          intro l wS hz hall hS
          have hA := Lib.hid (playS_end (hall 3 (by decide)) (hall 7 (by decide)) hS)
          clear hS
          show wpList _ _ _ [] _ _
          go_wp2
          go_meet
          case rel => exact ⟨a, q, t, of', own', hA.out, HS'.out, Hs'.out, by omega, by omega⟩
        · obtain ⟨id, y, e, q', t', of', own', hS', hs', h1t, h2t, hd1, hd2⟩ := both_get hS hs h1 h255 t0 (by omega) x.2
          have HS' := Lib.hid hS'
          have Hs' := Lib.hid hs'
          have hB := HS.out.1.1
          clear hS hs hS' hs'
          go_wp2_with fail
          (with_reducible refine (hd1 _ p hB).mono ?_)
          intro e1 w2 hR
          have hst2 := step_ids HS.out hR
          obtain ⟨rfl, -, -⟩ := hR
          have c1 := step_cell1 hst2
          have hB2 := hst2.1.2.1
          have HS2 := Lib.hid hst2
          clear hst2 hB HS
          go_wp2_with fail
          (with_reducible refine (hd2 _ r a hB2).mono ?_)
          rintro e2 w3 ⟨a', hR⟩
          have hst3 := step_ref HS2.out hR
          obtain ⟨rfl, -, -⟩ := hR
          have HS3 := Lib.hid hst3
          clear hst3 hB2 HS2 c1
          go_wp2
          go_meet
          case rel => exact ⟨a', q', t', of', own', HS3.out, HS'.out, Hs'.out, by omega, by omega⟩
      case rest =>
        obtain ⟨a', q', t', of', own', hst, hS', hs', t0', tk'⟩ := hcut
        have c1 := step_cell1 hst
        have HS2 := Lib.hid hst
        clear hst hS hs HA HS c0
        obtain ⟨id, y, hh1, hh2⟩ := both_has (t := t') hS' hs' (wrap64 (x.2 + (k : Int) % 2))
        have HV := Lib.hid hS'
        have Hv := Lib.hid hs'
        have hB := HS2.out.1.1
        clear hS' hs'
        go_wp2_with fail
        (with_reducible refine (hh1 _ p hB).mono ?_)
        rintro e w4 ⟨rfl, hb4⟩
        have hst := step_old HS2.out hb4
        have c1 := step_cell1 hst
        have hB2 := hst.1.2.1
        have HS3 := Lib.hid hst
        clear hst hB HS2 hb4
        go_wp2_with fail
        (with_reducible refine (hh2 _ r a' hB2).mono ?_)
        rintro e w5 ⟨rfl, hb5⟩
        have hst := step_old HS3.out hb5
        clear hB2 HS3 hb5 c1
        go_wp2_with fail
        refine wp_region_walked (S := StepAt n p r a' w ob x q' t' of' q' t' own') (by kernel_rfl) (by kernel_rfl) (step_drew hst) ?_
        repeat (apply walked_cons; (first | exact gives_and rfl rfl rfl rfl | exact gives_or rfl rfl rfl rfl | (focus (intro wS hS; have hI9 := hS.1.1; have hR9 := (show wS.cell? ⟨r, 2, none⟩ = some (.int .i64 t') by rw [cell_of hS.1.2.1.1]; rfl); go_wp2_with ((go_at_call 31; (with_reducible refine (turn_calls p _ _ _ _ _ hI9).mono ?_); rintro e w9 ⟨rfl, hb9⟩)); (first | exact ⟨rfl, rfl, hS⟩ | exact ⟨rfl, rfl, step_old hS hb9⟩); done)) | (focus (apply gives_guard; (focus (first | exact wanted_yes rfl rfl rfl | exact wanted_no rfl rfl rfl | exact wanted_yes2 rfl rfl rfl | exact wanted_no2 rfl rfl rfl)); (focus (intro hx9; (try simp only [Bool.not_eq_true', Bool.and_eq_true, Bool.not_not] at hx9); (try obtain ⟨hx9, hy9⟩ := hx9); (try subst hy9); (try subst hx9); (first | exact gives_and rfl rfl rfl rfl | exact gives_or rfl rfl rfl rfl | (intro wS hS; have hI9 := hS.1.1; have hR9 := (show wS.cell? ⟨r, 2, none⟩ = some (.int .i64 t') by rw [cell_of hS.1.2.1.1]; rfl); go_wp2_with ((go_at_call 31; (with_reducible refine (turn_calls p _ _ _ _ _ hI9).mono ?_); rintro e w9 ⟨rfl, hb9⟩)); (first | exact ⟨rfl, rfl, hS⟩ | exact ⟨rfl, rfl, step_old hS hb9⟩); done))))))); rfl; (try simp only [Act.put, List.setIfInBounds_toArray, List.set_cons_succ, List.set_cons_zero]))
        apply walked_nil
        intro wS hS
        have HF := Lib.hid hS.1
        clear hS hst
        go_wp2
        go_roundw
        case rel => exact ⟨k + 1, by go_num, by omega, a', q', t', of', own', HF.out, HV.out, Hv.out, t0', by omega⟩
        case measure => simp [intOf]; omega
    · have hcase : ¬ k < l.length ∨ (k < l.length ∧ k = 200) := by omega
      have hO := hAt.2.2.1
      clear hAt hS hs
      rcases hcase with hlk | ⟨hlk, rfl⟩
      all_goals
        clear hlt
        go_wp2_with fail
        (with_reducible refine (vmidTold_calls _).mono ?_)
        rintro e w2 ⟨rfl, hb2⟩
        have hO2 := old_then hO hb2
        go_wp2
        go_ret
        exact ⟨rfl, hO2⟩

theorem vmidPlays_calls (n : Int) (ad : Option Addr) (l : List (Int × Int)) (cap : Nat) (w : World) (hl : l.length ≤ maxLen) (hP : Pairs w ad l) :
    Calls Try.prog 7 #[.int .i64 n, .slice ad l.length cap] w (RetB w (.bool true)) := by
  by_cases hn : 1 ≤ n ∧ n ≤ 255
  · obtain ⟨k, rfl⟩ : ∃ k : Nat, n = k := ⟨n.toNat, by omega⟩
    exact vmidPlays_yes k ad l cap w hl hP (by omega) (by omega)
  · exact vmidPlays_none n ad l cap w hl hn
end Go.Proofs.Ytbnbchclbblbkaa
