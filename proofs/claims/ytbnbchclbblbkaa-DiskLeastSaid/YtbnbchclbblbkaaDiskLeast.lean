/- The statement DiskLeast: its walk. -/
import Derived.Test.YtbnbchclbblbkaaDiskLaw
import Derived.Test.YtbnbchclbblbkaaIntsArg
namespace Go.Proofs.Ytbnbchclbblbkaa
set_option linter.unusedVariables false
set_option linter.unusedSimpArgs false
open Go.RowKit

def page5 : List Nat := zeros4096.set 5 9
theorem page5_length : page5.length = 4096 := by unfold page5; rw [List.length_set]; exact zeros4096_length

theorem updP_twice (pg : Int → Option (List Nat)) (k : Int) (a b : Option (List Nat)) : updP (updP pg k a) k b = updP pg k b := by
  funext z
  unfold updP
  split
  · rfl
  · rfl

/-- While Give and the read of the list are under way. -/
def GiveS (n p gp gb : Nat) (w : World) (P : List Nat) (pg : Int → Option (List Nat)) (F on : List Bool) (k : Int) (l : Array Bool) (x : World) : Prop :=
  DAt n p gp gb w P (bif l.getD 2 false then updP pg k none else pg) F on x
section
variable {n p gp gb : Nat} {w x y : World} {P : List Nat} {pg : Int → Option (List Nat)} {F on : List Bool} {k : Int} {l : Array Bool}
theorem giveS_other (j : Nat) (hj : j ≠ 2) (h : GiveS n p gp gb w P pg F on k l x) : GiveS n p gp gb w P pg F on k (l.setIfInBounds j true) x := by
  unfold GiveS at h ⊢
  rw [getD_set_ne false hj]; exact h
theorem giveS_cell {j : Nat} {b : Bool} (h : GiveS n p gp gb w P pg F on k l x) (hb : on[j]? = some b) : x.cell? ⟨gb, j, none⟩ = some (.bool b) := by
  unfold GiveS at h
  exact dat_cell h hb
theorem giveS_before (hn : l.getD 2 false = false) (h : GiveS n p gp gb w P pg F on k l x) : DAt n p gp gb w P pg F on x := by
  unfold GiveS at h
  rw [hn] at h; exact h
theorem giveS_after (hn : l.getD 2 false = true) (h : GiveS n p gp gb w P pg F on k l x) : DAt n p gp gb w P (updP pg k none) F on x := by
  unfold GiveS at h
  rw [hn] at h; exact h
theorem giveS_done (hz : l.size = 9) (h : DAt n p gp gb w P (updP pg k none) F on y) : GiveS n p gp gb w P pg F on k (l.setIfInBounds 2 true) y := by
  have e : (l.setIfInBounds 2 true).getD 2 false = true := by simp [hz]
  unfold GiveS
  rw [e]; exact h
end

theorem count_false {n : Nat} {pg : Int → Option (List Nat)} (j : Nat) (hj : j < n) : cntOf pg (j + 1) = cntOf pg j + if (pg j).isSome then 1 else 0 := rfl

set_option maxHeartbeats 8000000 in
set_option maxRecDepth 100000 in
theorem diskLeast_calls (n0 : Int) (ad : Option Addr) (l : List Int) (c : Nat) (w : World) (hI : Ints w ad c l) :
    Calls Try.prog 12 #[.int .i64 n0, .slice ad l.length c] w (RetB w (.bool true)) := by
  have hm := i64_mask63 n0
  have b1 : 0 ≤ n0 % 64 := by omega
  have b2 : n0 % 64 < 64 := by omega
  have b5 : 0 ≤ n0 % 64 % 40 := by omega
  have b6 : n0 % 64 % 40 < 40 := by omega
  obtain ⟨n, hN⟩ : ∃ n : Nat, 1 + n0 % 64 % 40 = n := ⟨(1 + n0 % 64 % 40).toNat, by omega⟩
  have hn1 : 1 ≤ n := by omega
  have hn2 : n ≤ 40 := by omega
  have hl63 : l.length ≤ 9223372036854775807 := Nat.le_trans hI.1 hI.2.1
  go_enter Try.func12, Try.ntmps12
  go_wp2_with fail
  clear hN hm b1 b2 b5 b6
  (with_reducible refine (diskNew_calls n _ (by omega)).mono ?_)
  rintro e w1 ⟨rfl, hO, hsz, hd⟩
  replace hd := hd (Not0 w.heap.size) (fun b h => h)
  clear hsz
  obtain ⟨w2, hmk, hrow, hO2⟩ := make_page w1
  have hge := hO.size
  replace hd := disk_old (disk_more hd (Y := Not1 w.heap.size w1.heap.size) (fun b h => h.elim .inl (fun e => .inr (by rw [e]; exact Nat.le_refl _)))) hO2
  replace hO := old_then hO hO2
  have ck : w2.cell? ⟨w1.heap.size, 5, none⟩ = some (.int .u8 0) := row_cell hrow (zeros4096_get 5 (by decide))
  have fk := row_frozen hrow 5
  have hpg : w1.heap.size < w2.heap.size := (row_parts hrow).2.1
  have hrow7 : Row (w2.setCell ⟨w1.heap.size, 5, none⟩ (.int .u8 9)) w1.heap.size w1.heap.size 4096 page5 := row_set hrow 5 9 (by decide)
  have hO7 := (Only.refl (fun b => b = w1.heap.size) w2).setCell ⟨w1.heap.size, 5, none⟩ (.int .u8 9) (fun _ => rfl)
  replace hO := old_set hO hge 5 (.int .u8 9)
  replace hd := disk_only hd hO7 (fun b hb e => hb (.inr e))
  have hs3 : (w2.setCell ⟨w1.heap.size, 5, none⟩ (.int .u8 9)).heap.size = w2.heap.size := Nat.le_antisymm (by simp [World.setCell]) hO7.size
  generalize hW : w2.setCell ⟨w1.heap.size, 5, none⟩ (.int .u8 9) = W at *
  have hmb := makeBools n (by omega) W
  have hoA := old_alloc (old_refl W) (.cells (boolsC (List.replicate n false)) 4)
  have hst : DAt n (w.heap.size + 1) w1.heap.size W.heap.size w page5 (fun _ => none) [] (List.replicate n false) (W.alloc (.cells (boolsC (List.replicate n false)) 4)) :=
    ⟨disk_old (disk_more hd (fun b h => by
      rcases h with h | h | h
      · exact .inl (.inl h)
      · exact .inl (.inr h)
      · exact .inr (by omega))) hoA, row_old hrow7 hoA, new_block _ _, old_then hO hoA, by omega, hO.size, hge⟩
  have hon : OnIs n (fun _ => none) (List.replicate n false) := ⟨List.length_replicate, fun j hj => by rw [List.getElem?_replicate, if_pos hj]; rfl⟩
  have hpb : W.heap.size < (W.alloc (.cells (boolsC (List.replicate n false)) 4)).heap.size := lt_of_block hst.2.2.1
  clear hs3 hrow hrow7 hO hd hO2 hO7 hoA hge hpg hpb
  generalize hpp : w.heap.size + 1 = p at *
  go_upto_region 8 with (fail)
  clear hmk ck fk hW hmb
  generalize w1.heap.size = gp at *
  generalize W.alloc (.cells (boolsC (List.replicate n false)) 4) = W2 at *
  generalize W.heap.size = gb at *
  clear hpp
  go_wp2
  go_loopw [9, 10, 11] (fun i _ _ wr => ∃ (k : Nat) (pg : Int → Option (List Nat)) (on : List Bool), i = .int .i64 k ∧ k ≤ n ∧ DAt n p gp gb w page5 pg [] on wr ∧ OnIs n pg on ∧ ∀ j : Nat, j < n → (pg j).isSome = decide (j < k)) (fun i _ _ _ => (41 - intOf i).toNat)
  case atStart => exact ⟨0, _, _, rfl, by omega, hst, hon, fun j hj => rfl⟩
  case round =>
    clear hst hon
    obtain ⟨k, pg, on, rfl, hk, hst, hon, hpgk⟩ := hrel
    by_cases hkn : k < n
    · have hfree : pg k = none := by
        have := hpgk k hkn
        rw [decide_eq_false (by omega)] at this
        cases h : pg k with
        | none => rfl
        | some l => rw [h] at this; cases this
      have ht := dat_take hst k hkn hfree (fun j hj => by rw [hpgk j (by omega)]; exact decide_eq_true hj)
      have HI := Lib.hid hI
      clear hst
      go_wp2_with fail
      (with_reducible refine ht.mono ?_)
      rintro e w4 ⟨rfl, hst⟩
      clear ht
      have ht := dat_write hst k zeros4096 (by unfold updP; rw [if_pos rfl]) rfl page5_length
      clear hst
      go_wp2_with fail
      (with_reducible refine ht.mono ?_)
      rintro e w5 ⟨rfl, hst⟩
      clear ht
      rw [updP_twice] at hst
      obtain ⟨b, hb⟩ : ∃ b, on[k]? = some b := ⟨_, List.getElem?_eq_getElem (by rw [hon.1]; exact hkn)⟩
      have cg := dat_cell hst hb
      have fg := dat_frozen hst k
      have sg := dat_set hst k true
      have HD := Lib.hid (dat_on (on' := on.set k true) hst)
      clear hst
      go_wp2
      go_roundw
      case rel =>
        refine ⟨k + 1, _, _, by go_num, by omega, HD.out, ?_, fun j hj => ?_⟩
        · exact on_upd hon k (some page5)
        · unfold updP
          split
          · rename_i e; rw [decide_eq_true (by omega)]; rfl
          · rename_i e; rw [hpgk j hj]; exact decide_eq_decide.2 (by omega)
      case measure => (simp [intOf]) <;> omega
    · obtain rfl : k = n := by omega
      clear hpgk
      go_wp2
      go_loopw [12, 13, 14, 15, 16, 17, 18] (fun i _ _ _ _ _ _ wr => ∃ (k' : Nat) (pg : Int → Option (List Nat)) (on : List Bool), i = .int .i64 k' ∧ k' ≤ 40 ∧ DAt k p gp gb w page5 pg [] on wr ∧ OnIs k pg on) (fun i _ _ _ _ _ _ _ => (41 - intOf i).toNat)
      case atStart => exact ⟨0, _, _, rfl, by omega, hst, hon⟩
      case round =>
        clear hst hon
        obtain ⟨i, pg, on, rfl, hi, hst, hon⟩ := hrel
        by_cases hlt : i < l.length ∧ i < 40
        · obtain ⟨hil, hi40⟩ := hlt
          obtain ⟨x, hx⟩ : ∃ x, l[i]? = some x := ⟨_, List.getElem?_eq_getElem hil⟩
          obtain ⟨hx64, bb, off, rfl, hbl, hcx⟩ := hI.2.2.2 i x hx
          have c0 : wr.cell? ⟨bb, off + i, none⟩ = some (.int .i64 x) := by rw [(Only.of_below hst.2.2.2.1).cell bb _ hbl (fun f => f)]; exact hcx
          obtain ⟨j, hj, hje⟩ := slot_of x k (by omega) (by omega)
          have hbj := hon.2 j hj
          have HI := Lib.hid hI
          have HON := Lib.hid hon
          clear hcx hx hI hon
          obtain ⟨b, hb⟩ : ∃ b, (pg j).isSome = b := ⟨_, rfl⟩
          rw [hb] at hbj
          have hgive := fun (x : World) (h : DAt k p gp gb w page5 pg [] on x) => dat_give h j
          rw [hb] at hgive
          go_upto_region 19 with (fail)
          go_cut [96] (fun s96 wx => s96 = .bool false ∧ DAt k p gp gb w page5 (updP pg j none) [] on wx)
          case first =>
            clear c0
            cases b
            · simp only [show (if false = true then (0 : Int) else 23) = 23 from rfl] at hgive
              refine wp_region_staged (S := GiveS k p gp gb w page5 pg [] on j) 9 (by kernel_rfl) (by kernel_rfl) (by kernel_rfl) (by decide) (dat_drew hst) ?_
              (apply walkedS_cons; (focus (intro l9 wS hz hn hS; have hS9 := giveS_other 0 (by decide) hS; have cg := giveS_cell hS hbj; clear hS; go_wp2; exact ⟨rfl, rfl, hS9⟩)); rfl; (try simp only [Act.put, List.setIfInBounds_toArray, List.set_cons_succ, List.set_cons_zero]))
              (apply walkedS_cons; (focus (intro l9 wS hz hn hS; have hS9 := giveS_other 1 (by decide) hS; have cg := giveS_cell hS hbj; clear hS; go_wp2; exact ⟨rfl, rfl, hS9⟩)); rfl; (try simp only [Act.put, List.setIfInBounds_toArray, List.set_cons_succ, List.set_cons_zero]))
              apply walkedS_cons
              · intro l9 wS hz hn hS
                have hB := giveS_before hn hS
                go_wp2_with fail
                (with_reducible refine (hgive _ hB).mono ?_)
                rintro e w6 ⟨rfl, hst6⟩
                have hS2 := giveS_done hz hst6
                clear hS hB hst6
                go_wp2
                exact ⟨rfl, rfl, hS2⟩
              · rfl
              (apply walkedS_cons; (focus (intro l9 wS hz hn hS; have hS9 := giveS_other 3 (by decide) hS; have cg := giveS_cell hS hbj; clear hS; go_wp2; exact ⟨rfl, rfl, hS9⟩)); rfl; (try simp only [Act.put, List.setIfInBounds_toArray, List.set_cons_succ, List.set_cons_zero]))
              (apply walkedS_cons; (focus (intro l9 wS hz hn hS; have hS9 := giveS_other 4 (by decide) hS; have cg := giveS_cell hS hbj; clear hS; go_wp2; exact ⟨rfl, rfl, hS9⟩)); rfl; (try simp only [Act.put, List.setIfInBounds_toArray, List.set_cons_succ, List.set_cons_zero]))
              (apply walkedS_cons; (focus (intro l9 wS hz hn hS; have hS9 := giveS_other 5 (by decide) hS; have cg := giveS_cell hS hbj; clear hS; go_wp2; exact ⟨rfl, rfl, hS9⟩)); rfl; (try simp only [Act.put, List.setIfInBounds_toArray, List.set_cons_succ, List.set_cons_zero]))
              (apply walkedS_cons; (focus (intro l9 wS hz hn hS; have hS9 := giveS_other 6 (by decide) hS; have cg := giveS_cell hS hbj; clear hS; go_wp2; exact ⟨rfl, rfl, hS9⟩)); rfl; (try simp only [Act.put, List.setIfInBounds_toArray, List.set_cons_succ, List.set_cons_zero]))
              (apply walkedS_cons; (focus (intro l9 wS hz hn hS; have hS9 := giveS_other 7 (by decide) hS; have cg := giveS_cell hS hbj; clear hS; go_wp2; exact ⟨rfl, rfl, hS9⟩)); rfl; (try simp only [Act.put, List.setIfInBounds_toArray, List.set_cons_succ, List.set_cons_zero]))
              (apply walkedS_cons; (focus (intro l9 wS hz hn hS; have hS9 := giveS_other 8 (by decide) hS; have cg := giveS_cell hS hbj; clear hS; go_wp2; exact ⟨rfl, rfl, hS9⟩)); rfl; (try simp only [Act.put, List.setIfInBounds_toArray, List.set_cons_succ, List.set_cons_zero]))
              apply walkedS_nil
              intro l9 wS hz hall hS
              have hst7 := giveS_after (hall 2 (by decide)) hS
              show wpList _ _ _ [] _ _
              go_wp2
              go_meet
              case rel => exact ⟨rfl, hst7⟩
            · simp only [show (if true = true then (0 : Int) else 23) = 0 from rfl] at hgive
              refine wp_region_staged (S := GiveS k p gp gb w page5 pg [] on j) 9 (by kernel_rfl) (by kernel_rfl) (by kernel_rfl) (by decide) (dat_drew hst) ?_
              (apply walkedS_cons; (focus (intro l9 wS hz hn hS; have hS9 := giveS_other 0 (by decide) hS; have cg := giveS_cell hS hbj; clear hS; go_wp2; exact ⟨rfl, rfl, hS9⟩)); rfl; (try simp only [Act.put, List.setIfInBounds_toArray, List.set_cons_succ, List.set_cons_zero]))
              (apply walkedS_cons; (focus (intro l9 wS hz hn hS; have hS9 := giveS_other 1 (by decide) hS; have cg := giveS_cell hS hbj; clear hS; go_wp2; exact ⟨rfl, rfl, hS9⟩)); rfl; (try simp only [Act.put, List.setIfInBounds_toArray, List.set_cons_succ, List.set_cons_zero]))
              apply walkedS_cons
              · intro l9 wS hz hn hS
                have hB := giveS_before hn hS
                go_wp2_with fail
                (with_reducible refine (hgive _ hB).mono ?_)
                rintro e w6 ⟨rfl, hst6⟩
                have hS2 := giveS_done hz hst6
                clear hS hB hst6
                go_wp2
                exact ⟨rfl, rfl, hS2⟩
              · rfl
              (apply walkedS_cons; (focus (intro l9 wS hz hn hS; have hS9 := giveS_other 3 (by decide) hS; have cg := giveS_cell hS hbj; clear hS; go_wp2; exact ⟨rfl, rfl, hS9⟩)); rfl; (try simp only [Act.put, List.setIfInBounds_toArray, List.set_cons_succ, List.set_cons_zero]))
              (apply walkedS_cons; (focus (intro l9 wS hz hn hS; have hS9 := giveS_other 4 (by decide) hS; have cg := giveS_cell hS hbj; clear hS; go_wp2; exact ⟨rfl, rfl, hS9⟩)); rfl; (try simp only [Act.put, List.setIfInBounds_toArray, List.set_cons_succ, List.set_cons_zero]))
              (apply walkedS_cons; (focus (intro l9 wS hz hn hS; have hS9 := giveS_other 5 (by decide) hS; have cg := giveS_cell hS hbj; clear hS; go_wp2; exact ⟨rfl, rfl, hS9⟩)); rfl; (try simp only [Act.put, List.setIfInBounds_toArray, List.set_cons_succ, List.set_cons_zero]))
              (apply walkedS_cons; (focus (intro l9 wS hz hn hS; have hS9 := giveS_other 6 (by decide) hS; have cg := giveS_cell hS hbj; clear hS; go_wp2; exact ⟨rfl, rfl, hS9⟩)); rfl; (try simp only [Act.put, List.setIfInBounds_toArray, List.set_cons_succ, List.set_cons_zero]))
              (apply walkedS_cons; (focus (intro l9 wS hz hn hS; have hS9 := giveS_other 7 (by decide) hS; have cg := giveS_cell hS hbj; clear hS; go_wp2; exact ⟨rfl, rfl, hS9⟩)); rfl; (try simp only [Act.put, List.setIfInBounds_toArray, List.set_cons_succ, List.set_cons_zero]))
              (apply walkedS_cons; (focus (intro l9 wS hz hn hS; have hS9 := giveS_other 8 (by decide) hS; have cg := giveS_cell hS hbj; clear hS; go_wp2; exact ⟨rfl, rfl, hS9⟩)); rfl; (try simp only [Act.put, List.setIfInBounds_toArray, List.set_cons_succ, List.set_cons_zero]))
              apply walkedS_nil
              intro l9 wS hz hall hS
              have hst7 := giveS_after (hall 2 (by decide)) hS
              show wpList _ _ _ [] _ _
              go_wp2
              go_meet
              case rel => exact ⟨rfl, hst7⟩
          case rest =>
            obtain ⟨rfl, hst⟩ := hcut
            have cg := dat_cell hst hbj
            have fg := dat_frozen hst j
            have sg := dat_set hst j false
            have hst2 := dat_on (on' := on.set j false) hst
            have hon2 : OnIs k (updP pg j none) (on.set j false) := on_upd HON.out j none
            clear hst hgive HON hb hbj
            generalize putB wc gb (.cells (boolsC (on.set j false)) 4) = W8 at *
            obtain ⟨pg2, hpg2⟩ : ∃ pg2, updP pg j none = pg2 := ⟨_, rfl⟩
            have hpj : pg2 j = none := by rw [← hpg2]; unfold updP; rw [if_pos rfl]
            rw [hpg2] at hst2 hon2
            generalize on.set j false = on2 at *
            clear hpg2
            have HS := Lib.hid hst2
            have HO2 := Lib.hid hon2
            clear hst2 hon2
            by_cases h3 : i % 3 < 2
            · go_wp2
              go_roundw
              case rel => exact ⟨i + 1, _, _, by go_num, by omega, HS.out, HO2.out⟩
              case measure => (simp [intOf]) <;> omega
            · have hnf : cntOf pg2 k ≠ k := fun e => by
                have : ∀ m : Nat, j < m → cntOf pg2 m < m := by
                  intro m hm
                  induction m with
                  | zero => omega
                  | succ m im =>
                    unfold cntOf
                    by_cases e : j = m
                    · subst e
                      rw [hpj]
                      have := cnt_le pg2 j
                      simp
                      omega
                    · have := im (by omega)
                      split <;> omega
                have := this k hj
                omega
              obtain ⟨q, hqk, hqn, hql⟩ := least_free pg2 k hnf
              go_wp2
              go_loopw [14] (fun v wr => ∃ u : Nat, v = .int .i64 u ∧ u ≤ q ∧ wr = W8) (fun v _ => (41 - intOf v).toNat)
              case atStart => exact ⟨0, rfl, by omega, rfl⟩
              case round =>
              obtain ⟨u, rfl, hu, rfl⟩ := hrel
              by_cases huq : u < q
              · have hbu := HO2.out.2 u (by omega)
                rw [hql u huq] at hbu
                have cu := dat_cell HS.out hbu
                go_wp2
                go_roundw
                case rel => exact ⟨u + 1, by go_num, by omega, by first | rfl | trivial⟩
                case measure => (simp [intOf]) <;> omega
              · obtain rfl : u = q := by omega
                have hbu := HO2.out.2 u hqk
                rw [hqn] at hbu
                have cu : wr.cell? ⟨gb, u, none⟩ = some (.bool false) := dat_cell HS.out hbu
                have ht := dat_take HS.out u hqk hqn hql
                clear hql
                go_wp2_with fail
                (with_reducible refine ht.mono ?_)
                rintro e w9 ⟨rfl, hst9⟩
                clear ht cu HS
                have ht := dat_read hst9 u zeros4096 (by unfold updP; rw [if_pos rfl]) rfl
                clear hst9
                go_wp2_with fail
                (with_reducible refine ht.mono ?_)
                rintro e wA ⟨gr, cr, rfl, hrowr, hstA⟩
                clear ht
                have c5 : wA.cell? ⟨gr, 5, none⟩ = some (.int .u8 0) := row_cell hrowr (zeros4096_get 5 (by decide))
                have hcr := (row_parts hrowr).2.2.2
                clear hrowr
                have cu := dat_cell hstA hbu
                have fu := dat_frozen hstA u
                have su := dat_set hstA u true
                have HF := Lib.hid (dat_on (on' := on2.set u true) hstA)
                have HOF : Hid (OnIs k (updP pg2 u (some zeros4096)) (on2.set u true)) := Lib.hid (on_upd HO2.out u (some zeros4096))
                clear hstA
                go_wp2
                go_roundw
                case rel => exact ⟨i + 1, _, _, by go_num, by omega, HF.out, HOF.out⟩
                case measure => (simp [intOf]) <;> omega
        · have hcase : ¬ i < l.length ∨ (i < l.length ∧ i = 40) := by omega
          have hle : ∀ m : Nat, m ≤ k → cntOf pg m ≤ m := fun m _ => cnt_le pg m
          have HST := Lib.hid hst
          have HON := Lib.hid hon
          have HI := Lib.hid hI
          clear hst hon hI
          rcases hcase with hil | ⟨hil, rfl⟩
          all_goals
            clear hlt
            go_wp2
            go_loopw [19, 20] (fun f v x => ∃ u : Nat, v = .int .i64 u ∧ u ≤ k ∧ f = .int .i64 (u - cntOf pg u : Nat) ∧ x = wr) (fun _ v _ => (41 - intOf v).toNat)
            case atStart => exact ⟨0, rfl, by omega, rfl, rfl⟩
            case round =>
            obtain ⟨u, rfl, hu, rfl, rfl⟩ := hrel
            by_cases huk : u < k
            · have hbu := HON.out.2 u huk
              have hlu := cnt_le pg u
              have hnx : cntOf pg (u + 1) = cntOf pg u + if (pg u).isSome then 1 else 0 := rfl
              have cu := dat_cell HST.out hbu
              cases hb : (pg u).isSome
              · rw [hb] at cu hnx
                have hfr : ((u - cntOf pg u : Nat) : Int) + 1 = ((u + 1 - cntOf pg (u + 1) : Nat) : Int) := by rw [hnx]; simp; omega
                have hfl : u - cntOf pg u ≤ u := Nat.sub_le _ _
                generalize u - cntOf pg u = fr at *
                have HX := Lib.hid hfr
                clear hnx hle hfr hbu
                go_wp2
                go_roundw
                case rel => exact ⟨u + 1, by go_num, by omega, by rw [← HX.out], by first | rfl | trivial⟩
                case measure => (simp [intOf]) <;> omega
              · rw [hb] at cu hnx
                have hfr : ((u - cntOf pg u : Nat) : Int) = ((u + 1 - cntOf pg (u + 1) : Nat) : Int) := by rw [hnx]; simp
                have hfl : u - cntOf pg u ≤ u := Nat.sub_le _ _
                generalize u - cntOf pg u = fr at *
                have HX := Lib.hid hfr
                clear hnx hle hfr hbu
                go_wp2
                go_roundw
                case rel => exact ⟨u + 1, by go_num, by omega, by rw [← HX.out], by first | rfl | trivial⟩
                case measure => (simp [intOf]) <;> omega
            · obtain rfl : u = k := by omega
              have hfree := fun (x : World) (h : DAt u p gp gb w page5 pg [] on x) => dat_free h
              generalize u - cntOf pg u = fr at *
              go_wp2_with fail
              (with_reducible refine (diskTold_calls _).mono ?_)
              rintro e wB ⟨rfl, hbB⟩
              have hstB := dat_old HST.out hbB
              clear hbB
              go_wp2_with fail
              (with_reducible refine (hfree _ hstB).mono ?_)
              rintro e wC ⟨rfl, hbC⟩
              have hOC := old_then hstB.2.2.2.1 hbC
              clear hstB hfree hbC
              go_wp2
              go_ret
              exact ⟨rfl, hOC⟩
end Go.Proofs.Ytbnbchclbblbkaa
